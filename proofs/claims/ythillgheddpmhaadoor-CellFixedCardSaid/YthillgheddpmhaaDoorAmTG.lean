/-
  The machine's form of the functions, printed by program off the translation.
-/
import Derived.Test.YthillgheddpmhaaDoorAmP
namespace Go.Proofs.YthillgheddpmhaaDoor.AmGT
open Go Go.AM
set_option maxRecDepth 100000
def A6 : AFun := ⟨.seq (.region [⟨(some 0), .op (.mov (.val (.bool false))), none⟩])
  (.seq (.region [⟨(some 18), .call (.fnv 15) [(.val (.int .i64 8))], none⟩,
    ⟨(some 17), .op (.mov (.tmp 18)), none⟩,
    ⟨(some 19), .op (.extract (.tmp 17) 0), none⟩,
    ⟨(some 20), .op (.extract (.tmp 17) 1), none⟩,
    ⟨(some 1), .op (.mov (.tmp 19)), none⟩,
    ⟨(some 2), .op (.mov (.tmp 20)), none⟩])
  (.seq (.region [⟨(some 22), .call (.fnv 15) [(.val (.int .i64 0))], none⟩,
    ⟨(some 21), .op (.mov (.tmp 22)), none⟩,
    ⟨(some 23), .op (.extract (.tmp 21) 0), none⟩,
    ⟨(some 24), .op (.extract (.tmp 21) 1), none⟩,
    ⟨(some 3), .op (.mov (.tmp 23)), none⟩,
    ⟨(some 4), .op (.mov (.tmp 24)), none⟩])
  (.seq (.region [⟨(some 26), .call (.fnv 15) [(.val (.int .i64 4097))], none⟩,
    ⟨(some 25), .op (.mov (.tmp 26)), none⟩,
    ⟨(some 27), .op (.extract (.tmp 25) 0), none⟩,
    ⟨(some 28), .op (.extract (.tmp 25) 1), none⟩,
    ⟨(some 5), .op (.mov (.tmp 27)), none⟩,
    ⟨(some 6), .op (.mov (.tmp 28)), none⟩])
  (.seq (.seq (.region [⟨(some 29), .op (.mov (.tmp 1)), none⟩,
     ⟨(some 30), .op (.eql false .ptr (.tmp 29) (.val .nilp)), none⟩,
     ⟨(some 31), .op (.mov (.tmp 30)), none⟩,
     ⟨(some 32), .op (.mov (.tmp 2)), (some (31, false))⟩,
     ⟨(some 33), .op (.bin .neq (.tmp 32) (.val (.int .i64 0))), (some (31, false))⟩,
     ⟨(some 34), .op (.pick (.tmp 31) (.val (.bool true)) (.tmp 33)), none⟩,
     ⟨(some 35), .op (.mov (.tmp 34)), none⟩,
     ⟨(some 36), .op (.mov (.tmp 4)), (some (35, false))⟩,
     ⟨(some 37), .op (.bin .neq (.tmp 36) (.val (.int .i64 1))), (some (35, false))⟩,
     ⟨(some 38), .op (.pick (.tmp 35) (.val (.bool true)) (.tmp 37)), none⟩,
     ⟨(some 39), .op (.mov (.tmp 38)), none⟩,
     ⟨(some 40), .op (.mov (.tmp 6)), (some (39, false))⟩,
     ⟨(some 41), .op (.bin .neq (.tmp 40) (.val (.int .i64 1))), (some (39, false))⟩,
     ⟨(some 42), .op (.pick (.tmp 39) (.val (.bool true)) (.tmp 41)), none⟩])
   (.cond (.tmp 42) (.seq (.region [⟨(some 0), .op (.mov (.val (.bool false))), none⟩])
    (.ret))
   (.skip)))
  (.seq (.region [⟨(some 43), .op (.mov (.tmp 1)), none⟩,
    ⟨(some 44), .call (.fnv 20) [(.tmp 43), (.val (.int .i64 3))], none⟩])
  (.seq (.region [⟨(some 45), .op (.mov (.tmp 1)), none⟩,
    ⟨(some 46), .call (.fnv 20) [(.tmp 45), (.val (.int .i64 2))], none⟩])
  (.seq (.seq (.region [⟨(some 47), .op (.mov (.tmp 1)), none⟩,
     ⟨(some 48), .call (.fnv 18) [(.tmp 47), (.val (.int .i64 0)), (.val (.int .i64 3))], none⟩,
     ⟨(some 49), .op (.bin .neq (.tmp 48) (.val (.int .i64 0))), none⟩])
   (.cond (.tmp 49) (.seq (.region [⟨(some 0), .op (.mov (.val (.bool false))), none⟩])
    (.ret))
   (.skip)))
  (.seq (.region [⟨(some 51), .op (.mov (.tmp 1)), none⟩,
    ⟨(some 52), .call (.fnv 20) [(.tmp 51), (.val (.int .i64 4))], none⟩,
    ⟨(some 50), .op (.mov (.tmp 52)), none⟩,
    ⟨(some 53), .op (.extract (.tmp 50) 0), none⟩,
    ⟨(some 54), .op (.extract (.tmp 50) 1), none⟩,
    ⟨(some 7), .op (.mov (.tmp 53)), none⟩,
    ⟨(some 8), .op (.mov (.tmp 54)), none⟩])
  (.seq (.region [⟨(some 56), .op (.mov (.tmp 1)), none⟩,
    ⟨(some 57), .call (.fnv 20) [(.tmp 56), (.val (.int .i64 2))], none⟩,
    ⟨(some 55), .op (.mov (.tmp 57)), none⟩,
    ⟨(some 58), .op (.extract (.tmp 55) 0), none⟩,
    ⟨(some 59), .op (.extract (.tmp 55) 1), none⟩,
    ⟨(some 9), .op (.mov (.tmp 58)), none⟩,
    ⟨(some 10), .op (.mov (.tmp 59)), none⟩])
  (.seq (.region [⟨(some 61), .op (.mov (.tmp 1)), none⟩,
    ⟨(some 62), .call (.fnv 20) [(.tmp 61), (.val (.int .i64 0))], none⟩,
    ⟨(some 60), .op (.mov (.tmp 62)), none⟩,
    ⟨(some 63), .op (.extract (.tmp 60) 0), none⟩,
    ⟨(some 64), .op (.extract (.tmp 60) 1), none⟩,
    ⟨(some 11), .op (.mov (.tmp 63)), none⟩,
    ⟨(some 12), .op (.mov (.tmp 64)), none⟩])
  (.seq (.region [⟨(some 66), .op (.mov (.tmp 1)), none⟩,
    ⟨(some 67), .call (.fnv 27) [(.tmp 66), (.val (.int .i64 (-1)))], none⟩,
    ⟨(some 65), .op (.mov (.tmp 67)), none⟩,
    ⟨(some 68), .op (.extract (.tmp 65) 0), none⟩,
    ⟨(some 69), .op (.extract (.tmp 65) 1), none⟩,
    ⟨(some 13), .op (.mov (.tmp 68)), none⟩,
    ⟨(some 14), .op (.mov (.tmp 69)), none⟩])
  (.seq (.region [⟨(some 71), .op (.mov (.tmp 1)), none⟩,
    ⟨(some 72), .call (.fnv 21) [(.tmp 71)], none⟩,
    ⟨(some 70), .op (.mov (.tmp 72)), none⟩,
    ⟨(some 73), .op (.extract (.tmp 70) 0), none⟩,
    ⟨(some 74), .op (.extract (.tmp 70) 1), none⟩,
    ⟨(some 15), .op (.mov (.tmp 73)), none⟩,
    ⟨(some 16), .op (.mov (.tmp 74)), none⟩])
  (.seq (.region [⟨(some 75), .call (.fnv 16) [], none⟩,
    ⟨(some 76), .op (.mov (.tmp 75)), none⟩,
    ⟨(some 77), .op (.mov (.tmp 8)), (some (76, true))⟩,
    ⟨(some 78), .op (.bin .eql (.tmp 77) (.val (.int .i64 3))), (some (76, true))⟩,
    ⟨(some 79), .op (.pick (.tmp 76) (.tmp 78) (.val (.bool false))), none⟩,
    ⟨(some 80), .op (.mov (.tmp 79)), none⟩,
    ⟨(some 81), .op (.mov (.tmp 10)), (some (80, true))⟩,
    ⟨(some 82), .op (.bin .eql (.tmp 81) (.val (.int .i64 0))), (some (80, true))⟩,
    ⟨(some 83), .op (.pick (.tmp 80) (.tmp 82) (.val (.bool false))), none⟩,
    ⟨(some 84), .op (.mov (.tmp 83)), none⟩,
    ⟨(some 85), .op (.mov (.tmp 9)), (some (84, true))⟩,
    ⟨(some 86), .op (.bin .eql (.tmp 85) (.val (.int .i64 0))), (some (84, true))⟩,
    ⟨(some 87), .op (.pick (.tmp 84) (.tmp 86) (.val (.bool false))), none⟩,
    ⟨(some 88), .op (.mov (.tmp 87)), none⟩,
    ⟨(some 89), .op (.mov (.tmp 12)), (some (88, true))⟩,
    ⟨(some 90), .op (.bin .eql (.tmp 89) (.val (.int .i64 1))), (some (88, true))⟩,
    ⟨(some 91), .op (.pick (.tmp 88) (.tmp 90) (.val (.bool false))), none⟩,
    ⟨(some 92), .op (.mov (.tmp 91)), none⟩,
    ⟨(some 93), .op (.mov (.tmp 14)), (some (92, true))⟩,
    ⟨(some 94), .op (.pick (.tmp 92) (.tmp 93) (.val (.bool false))), none⟩,
    ⟨(some 95), .op (.mov (.tmp 94)), none⟩,
    ⟨(some 96), .op (.mov (.tmp 13)), (some (95, true))⟩,
    ⟨(some 97), .op (.build [(.int .i64 0), (.int .i64 0)] [(0, 1, (.val (.int .i64 2))), (1, 1, (.val (.int .i64 1)))]), (some (95, true))⟩,
    ⟨(some 98), .op (.build [(.int .i64 0), (.int .i64 0)] [(0, 1, (.val (.int .i64 5))), (1, 1, (.val (.int .i64 3)))]), (some (95, true))⟩,
    ⟨(some 99), .op (.buildSlice 2 2 [(.int .i64 0), (.int .i64 0)] [(0, (.tmp 97)), (1, (.tmp 98))]), (some (95, true))⟩,
    ⟨(some 100), .call (.fnv 28) [(.tmp 96), (.tmp 99)], (some (95, true))⟩,
    ⟨(some 101), .op (.pick (.tmp 95) (.tmp 100) (.val (.bool false))), none⟩,
    ⟨(some 102), .op (.mov (.tmp 101)), none⟩,
    ⟨(some 103), .op (.mov (.tmp 15)), (some (102, true))⟩,
    ⟨(some 104), .op (.bin .eql (.tmp 103) (.val (.int .i64 4))), (some (102, true))⟩,
    ⟨(some 105), .op (.pick (.tmp 102) (.tmp 104) (.val (.bool false))), none⟩,
    ⟨(some 106), .op (.mov (.tmp 105)), none⟩,
    ⟨(some 107), .op (.mov (.tmp 16)), (some (106, true))⟩,
    ⟨(some 108), .op (.bin .eql (.tmp 107) (.val (.int .i64 3))), (some (106, true))⟩,
    ⟨(some 109), .op (.pick (.tmp 106) (.tmp 108) (.val (.bool false))), none⟩,
    ⟨(some 110), .op (.mov (.tmp 109)), none⟩,
    ⟨(some 111), .op (.mov (.tmp 1)), (some (110, true))⟩,
    ⟨(some 112), .call (.fnv 18) [(.tmp 111), (.val (.int .i64 2)), (.val (.int .i64 1))], (some (110, true))⟩,
    ⟨(some 113), .op (.bin .eql (.tmp 112) (.val (.int .i64 5))), (some (110, true))⟩,
    ⟨(some 114), .op (.pick (.tmp 110) (.tmp 113) (.val (.bool false))), none⟩,
    ⟨(some 115), .op (.mov (.tmp 114)), none⟩,
    ⟨(some 116), .op (.mov (.tmp 1)), (some (115, true))⟩,
    ⟨(some 117), .call (.fnv 17) [(.tmp 116), (.val (.int .i64 7)), (.val (.int .i64 2))], (some (115, true))⟩,
    ⟨(some 118), .op (.bin .eql (.tmp 117) (.val (.int .i64 1))), (some (115, true))⟩,
    ⟨(some 119), .op (.pick (.tmp 115) (.tmp 118) (.val (.bool false))), none⟩,
    ⟨(some 120), .op (.mov (.tmp 119)), none⟩,
    ⟨(some 121), .op (.mov (.tmp 1)), (some (120, true))⟩,
    ⟨(some 122), .call (.fnv 19) [(.tmp 121), (.val (.int .i64 (-1)))], (some (120, true))⟩,
    ⟨(some 123), .op (.pick (.tmp 120) (.tmp 122) (.val (.bool false))), none⟩,
    ⟨(some 124), .op (.mov (.tmp 123)), none⟩,
    ⟨(some 125), .op (.mov (.tmp 1)), (some (124, true))⟩,
    ⟨(some 126), .call (.fnv 19) [(.tmp 125), (.val (.int .i64 8))], (some (124, true))⟩,
    ⟨(some 127), .op (.pick (.tmp 124) (.tmp 126) (.val (.bool false))), none⟩,
    ⟨(some 0), .op (.mov (.tmp 127)), none⟩])
  (.ret)))))))))))))),
  [.tmp 0], none, none⟩
def A7 : AFun := ⟨.seq (.region [⟨(some 0), .op (.mov (.val (.bool false))), none⟩])
  (.seq (.region [⟨(some 14), .call (.fnv 30) [(.val (.int .i64 8))], none⟩,
    ⟨(some 13), .op (.mov (.tmp 14)), none⟩,
    ⟨(some 15), .op (.extract (.tmp 13) 0), none⟩,
    ⟨(some 16), .op (.extract (.tmp 13) 1), none⟩,
    ⟨(some 1), .op (.mov (.tmp 15)), none⟩,
    ⟨(some 2), .op (.mov (.tmp 16)), none⟩])
  (.seq (.seq (.region [⟨(some 17), .op (.mov (.tmp 1)), none⟩,
     ⟨(some 18), .op (.eql false .ptr (.tmp 17) (.val .nilp)), none⟩,
     ⟨(some 19), .op (.mov (.tmp 18)), none⟩,
     ⟨(some 20), .op (.mov (.tmp 2)), (some (19, false))⟩,
     ⟨(some 21), .op (.bin .neq (.tmp 20) (.val (.int .i64 0))), (some (19, false))⟩,
     ⟨(some 22), .op (.pick (.tmp 19) (.val (.bool true)) (.tmp 21)), none⟩])
   (.cond (.tmp 22) (.seq (.region [⟨(some 0), .op (.mov (.val (.bool false))), none⟩])
    (.ret))
   (.skip)))
  (.seq (.region [⟨(some 24), .op (.mov (.tmp 1)), none⟩,
    ⟨(some 25), .call (.fnv 31) [(.tmp 24), (.val (.int .i64 3)), (.val (.int .i64 7))], none⟩,
    ⟨(some 23), .op (.mov (.tmp 25)), none⟩,
    ⟨(some 26), .op (.extract (.tmp 23) 0), none⟩,
    ⟨(some 27), .op (.extract (.tmp 23) 1), none⟩,
    ⟨(some 3), .op (.alloc [(.int .i64 0), (.int .i64 0), (.int .i64 0)]), none⟩,
    ⟨none, .op (.store 3 (.tmp 3) (.tmp 26)), none⟩,
    ⟨(some 4), .op (.mov (.tmp 27)), none⟩])
  (.seq (.region [⟨(some 29), .op (.mov (.tmp 1)), none⟩,
    ⟨(some 30), .call (.fnv 31) [(.tmp 29), (.val (.int .i64 1)), (.val (.int .i64 9))], none⟩,
    ⟨(some 28), .op (.mov (.tmp 30)), none⟩,
    ⟨(some 31), .op (.extract (.tmp 28) 0), none⟩,
    ⟨(some 32), .op (.extract (.tmp 28) 1), none⟩,
    ⟨(some 5), .op (.alloc [(.int .i64 0), (.int .i64 0), (.int .i64 0)]), none⟩,
    ⟨none, .op (.store 3 (.tmp 5) (.tmp 31)), none⟩,
    ⟨(some 6), .op (.mov (.tmp 32)), none⟩])
  (.seq (.region [⟨(some 34), .op (.mov (.tmp 1)), none⟩,
    ⟨(some 35), .call (.fnv 31) [(.tmp 34), (.val (.int .i64 5)), (.val (.int .i64 1))], none⟩,
    ⟨(some 33), .op (.mov (.tmp 35)), none⟩,
    ⟨(some 36), .op (.extract (.tmp 33) 0), none⟩,
    ⟨(some 37), .op (.extract (.tmp 33) 1), none⟩,
    ⟨(some 7), .op (.alloc [(.int .i64 0), (.int .i64 0), (.int .i64 0)]), none⟩,
    ⟨none, .op (.store 3 (.tmp 7) (.tmp 36)), none⟩,
    ⟨(some 8), .op (.mov (.tmp 37)), none⟩])
  (.seq (.region [⟨(some 39), .op (.mov (.tmp 1)), none⟩,
    ⟨(some 40), .call (.fnv 32) [(.tmp 39), (.val (.int .i64 4))], none⟩,
    ⟨(some 38), .op (.mov (.tmp 40)), none⟩,
    ⟨(some 41), .op (.extract (.tmp 38) 0), none⟩,
    ⟨(some 42), .op (.extract (.tmp 38) 1), none⟩,
    ⟨(some 9), .op (.alloc [(.int .i64 0), (.int .i64 0), (.int .i64 0)]), none⟩,
    ⟨none, .op (.store 3 (.tmp 9) (.tmp 41)), none⟩,
    ⟨(some 10), .op (.mov (.tmp 42)), none⟩])
  (.seq (.seq (.region [⟨(some 43), .op (.mov (.tmp 4)), none⟩,
     ⟨(some 44), .op (.bin .neq (.tmp 43) (.val (.int .i64 0))), none⟩,
     ⟨(some 45), .op (.mov (.tmp 44)), none⟩,
     ⟨(some 46), .op (.mov (.tmp 6)), (some (45, false))⟩,
     ⟨(some 47), .op (.bin .neq (.tmp 46) (.val (.int .i64 0))), (some (45, false))⟩,
     ⟨(some 48), .op (.pick (.tmp 45) (.val (.bool true)) (.tmp 47)), none⟩,
     ⟨(some 49), .op (.mov (.tmp 48)), none⟩,
     ⟨(some 50), .op (.mov (.tmp 8)), (some (49, false))⟩,
     ⟨(some 51), .op (.bin .neq (.tmp 50) (.val (.int .i64 3))), (some (49, false))⟩,
     ⟨(some 52), .op (.pick (.tmp 49) (.val (.bool true)) (.tmp 51)), none⟩,
     ⟨(some 53), .op (.mov (.tmp 52)), none⟩,
     ⟨(some 54), .op (.mov (.tmp 10)), (some (53, false))⟩,
     ⟨(some 55), .op (.pick (.tmp 53) (.val (.bool true)) (.tmp 54)), none⟩,
     ⟨(some 56), .op (.mov (.tmp 55)), none⟩,
     ⟨(some 57), .op (.load (some 3) (.tmp 3)), (some (56, false))⟩,
     ⟨(some 58), .op (.build [(.int .i64 0), (.int .i64 0), (.int .i64 0)] [(1, 1, (.val (.int .i64 3))), (2, 1, (.val (.int .i64 7)))]), (some (56, false))⟩,
     ⟨(some 59), .op (.eql true (.flat [.int, .int, .int]) (.tmp 57) (.tmp 58)), (some (56, false))⟩,
     ⟨(some 60), .op (.pick (.tmp 56) (.val (.bool true)) (.tmp 59)), none⟩,
     ⟨(some 61), .op (.mov (.tmp 60)), none⟩,
     ⟨(some 62), .op (.load (some 3) (.tmp 5)), (some (61, false))⟩,
     ⟨(some 63), .op (.build [(.int .i64 0), (.int .i64 0), (.int .i64 0)] [(0, 1, (.val (.int .i64 3))), (1, 1, (.val (.int .i64 1))), (2, 1, (.val (.int .i64 9)))]), (some (61, false))⟩,
     ⟨(some 64), .op (.eql true (.flat [.int, .int, .int]) (.tmp 62) (.tmp 63)), (some (61, false))⟩,
     ⟨(some 65), .op (.pick (.tmp 61) (.val (.bool true)) (.tmp 64)), none⟩,
     ⟨(some 66), .op (.mov (.tmp 65)), none⟩,
     ⟨(some 67), .op (.mov (.tmp 1)), (some (66, false))⟩,
     ⟨(some 68), .call (.fnv 33) [(.tmp 67), (.val (.int .i64 2))], (some (66, false))⟩,
     ⟨(some 69), .op (.bin .neq (.tmp 68) (.val (.int .i64 4))), (some (66, false))⟩,
     ⟨(some 70), .op (.pick (.tmp 66) (.val (.bool true)) (.tmp 69)), none⟩,
     ⟨(some 71), .op (.mov (.tmp 70)), none⟩,
     ⟨(some 72), .op (.mov (.tmp 1)), (some (71, false))⟩,
     ⟨(some 73), .call (.fnv 33) [(.tmp 72), (.val (.int .i64 0))], (some (71, false))⟩,
     ⟨(some 74), .op (.bin .neq (.tmp 73) (.val (.int .i64 0))), (some (71, false))⟩,
     ⟨(some 75), .op (.pick (.tmp 71) (.val (.bool true)) (.tmp 74)), none⟩])
   (.cond (.tmp 75) (.seq (.region [⟨(some 0), .op (.mov (.val (.bool false))), none⟩])
    (.ret))
   (.skip)))
  (.seq (.region [⟨(some 77), .op (.mov (.tmp 1)), none⟩,
    ⟨(some 78), .call (.fnv 34) [(.tmp 77), (.val (.int .i64 (-1)))], none⟩,
    ⟨(some 76), .op (.mov (.tmp 78)), none⟩,
    ⟨(some 79), .op (.extract (.tmp 76) 0), none⟩,
    ⟨(some 80), .op (.extract (.tmp 76) 1), none⟩,
    ⟨(some 11), .op (.mov (.tmp 79)), none⟩,
    ⟨(some 12), .op (.mov (.tmp 80)), none⟩])
  (.seq (.region [⟨(some 81), .call (.fnv 35) [], none⟩,
    ⟨(some 82), .op (.mov (.tmp 81)), none⟩,
    ⟨(some 83), .op (.mov (.tmp 12)), (some (82, true))⟩,
    ⟨(some 84), .op (.pick (.tmp 82) (.tmp 83) (.val (.bool false))), none⟩,
    ⟨(some 85), .op (.mov (.tmp 84)), none⟩,
    ⟨(some 86), .op (.mov (.tmp 11)), (some (85, true))⟩,
    ⟨(some 87), .op (.load (some 3) (.tmp 5)), (some (85, true))⟩,
    ⟨(some 88), .op (.buildSlice 3 1 [(.int .i64 0), (.int .i64 0), (.int .i64 0)] [(0, (.tmp 87))]), (some (85, true))⟩,
    ⟨(some 89), .call (.fnv 36) [(.tmp 86), (.tmp 88)], (some (85, true))⟩,
    ⟨(some 90), .op (.pick (.tmp 85) (.tmp 89) (.val (.bool false))), none⟩,
    ⟨(some 0), .op (.mov (.tmp 90)), none⟩])
  (.ret)))))))))),
  [.tmp 0], none, none⟩
def A12 : AFun := ⟨.seq (.region [⟨(some 0), .op (.mov (.val (.bool false))), none⟩])
  (.seq (.region [⟨(some 18), .call (.fnv 42) [(.val (.int .i64 8)), (.val (.int .i64 2))], none⟩,
    ⟨(some 17), .op (.mov (.tmp 18)), none⟩,
    ⟨(some 19), .op (.extract (.tmp 17) 0), none⟩,
    ⟨(some 20), .op (.extract (.tmp 17) 1), none⟩,
    ⟨(some 1), .op (.mov (.tmp 19)), none⟩,
    ⟨(some 2), .op (.mov (.tmp 20)), none⟩])
  (.seq (.seq (.region [⟨(some 21), .op (.mov (.tmp 1)), none⟩,
     ⟨(some 22), .op (.eql false .ptr (.tmp 21) (.val .nilp)), none⟩,
     ⟨(some 23), .op (.mov (.tmp 22)), none⟩,
     ⟨(some 24), .op (.mov (.tmp 2)), (some (23, false))⟩,
     ⟨(some 25), .op (.bin .neq (.tmp 24) (.val (.int .i64 0))), (some (23, false))⟩,
     ⟨(some 26), .op (.pick (.tmp 23) (.val (.bool true)) (.tmp 25)), none⟩])
   (.cond (.tmp 26) (.seq (.region [⟨(some 0), .op (.mov (.val (.bool false))), none⟩])
    (.ret))
   (.skip)))
  (.seq (.region [⟨(some 27), .op (.mov (.tmp 1)), none⟩,
    ⟨(some 28), .call (.fnv 44) [(.tmp 27), (.val (.int .i64 0)), (.val (.int .i64 3))], none⟩])
  (.seq (.region [⟨(some 29), .op (.mov (.tmp 1)), none⟩,
    ⟨(some 30), .call (.fnv 44) [(.tmp 29), (.val (.int .i64 0)), (.val (.int .i64 3))], none⟩])
  (.seq (.region [⟨(some 31), .op (.mov (.tmp 1)), none⟩,
    ⟨(some 32), .call (.fnv 44) [(.tmp 31), (.val (.int .i64 1)), (.val (.int .i64 3))], none⟩])
  (.seq (.region [⟨(some 34), .op (.mov (.tmp 1)), none⟩,
    ⟨(some 35), .call (.fnv 44) [(.tmp 34), (.val (.int .i64 0)), (.val (.int .i64 100))], none⟩,
    ⟨(some 33), .op (.mov (.tmp 35)), none⟩,
    ⟨(some 36), .op (.extract (.tmp 33) 0), none⟩,
    ⟨(some 37), .op (.extract (.tmp 33) 1), none⟩,
    ⟨(some 3), .op (.mov (.tmp 36)), none⟩,
    ⟨(some 4), .op (.mov (.tmp 37)), none⟩])
  (.seq (.region [⟨(some 39), .op (.mov (.tmp 1)), none⟩,
    ⟨(some 40), .call (.fnv 45) [(.tmp 39), (.val (.int .i64 129))], none⟩,
    ⟨(some 38), .op (.mov (.tmp 40)), none⟩,
    ⟨(some 41), .op (.extract (.tmp 38) 0), none⟩,
    ⟨(some 42), .op (.extract (.tmp 38) 1), none⟩,
    ⟨(some 43), .op (.extract (.tmp 38) 2), none⟩,
    ⟨(some 5), .op (.mov (.tmp 41)), none⟩,
    ⟨(some 6), .op (.mov (.tmp 42)), none⟩,
    ⟨(some 7), .op (.mov (.tmp 43)), none⟩])
  (.seq (.seq (.region [⟨(some 44), .op (.mov (.tmp 4)), none⟩,
     ⟨(some 45), .op (.bin .neq (.tmp 44) (.val (.int .i64 0))), none⟩,
     ⟨(some 46), .op (.mov (.tmp 45)), none⟩,
     ⟨(some 47), .op (.mov (.tmp 3)), (some (46, false))⟩,
     ⟨(some 48), .op (.bin .neq (.tmp 47) (.val (.int .i64 128))), (some (46, false))⟩,
     ⟨(some 49), .op (.pick (.tmp 46) (.val (.bool true)) (.tmp 48)), none⟩,
     ⟨(some 50), .op (.mov (.tmp 49)), none⟩,
     ⟨(some 51), .op (.mov (.tmp 7)), (some (50, false))⟩,
     ⟨(some 52), .op (.un .not (.tmp 51)), (some (50, false))⟩,
     ⟨(some 53), .op (.pick (.tmp 50) (.val (.bool true)) (.tmp 52)), none⟩,
     ⟨(some 54), .op (.mov (.tmp 53)), none⟩,
     ⟨(some 55), .op (.mov (.tmp 5)), (some (54, false))⟩,
     ⟨(some 56), .op (.bin .neq (.tmp 55) (.val (.int .i64 128))), (some (54, false))⟩,
     ⟨(some 57), .op (.pick (.tmp 54) (.val (.bool true)) (.tmp 56)), none⟩,
     ⟨(some 58), .op (.mov (.tmp 57)), none⟩,
     ⟨(some 59), .op (.mov (.tmp 6)), (some (58, false))⟩,
     ⟨(some 60), .op (.bin .neq (.tmp 59) (.val (.int .i64 128))), (some (58, false))⟩,
     ⟨(some 61), .op (.pick (.tmp 58) (.val (.bool true)) (.tmp 60)), none⟩,
     ⟨(some 62), .op (.mov (.tmp 61)), none⟩,
     ⟨(some 63), .op (.mov (.tmp 1)), (some (62, false))⟩,
     ⟨(some 64), .call (.fnv 46) [(.tmp 63), (.val (.int .i64 0))], (some (62, false))⟩,
     ⟨(some 65), .op (.bin .neq (.tmp 64) (.val (.int .i64 0))), (some (62, false))⟩,
     ⟨(some 66), .op (.pick (.tmp 62) (.val (.bool true)) (.tmp 65)), none⟩])
   (.cond (.tmp 66) (.seq (.region [⟨(some 0), .op (.mov (.val (.bool false))), none⟩])
    (.ret))
   (.skip)))
  (.seq (.region [⟨(some 68), .op (.mov (.tmp 1)), none⟩,
    ⟨(some 69), .call (.fnv 44) [(.tmp 68), (.val (.int .i64 0)), (.val (.int .i64 3))], none⟩,
    ⟨(some 67), .op (.mov (.tmp 69)), none⟩,
    ⟨(some 70), .op (.extract (.tmp 67) 0), none⟩,
    ⟨(some 71), .op (.extract (.tmp 67) 1), none⟩,
    ⟨(some 8), .op (.mov (.tmp 70)), none⟩,
    ⟨(some 9), .op (.mov (.tmp 71)), none⟩])
  (.seq (.seq (.region [⟨(some 72), .op (.mov (.tmp 9)), none⟩,
     ⟨(some 73), .op (.bin .neq (.tmp 72) (.val (.int .i64 0))), none⟩,
     ⟨(some 74), .op (.mov (.tmp 73)), none⟩,
     ⟨(some 75), .op (.mov (.tmp 8)), (some (74, false))⟩,
     ⟨(some 76), .op (.bin .neq (.tmp 75) (.val (.int .i64 0))), (some (74, false))⟩,
     ⟨(some 77), .op (.pick (.tmp 74) (.val (.bool true)) (.tmp 76)), none⟩,
     ⟨(some 78), .op (.mov (.tmp 77)), none⟩,
     ⟨(some 79), .op (.mov (.tmp 1)), (some (78, false))⟩,
     ⟨(some 80), .call (.fnv 46) [(.tmp 79), (.val (.int .i64 64))], (some (78, false))⟩,
     ⟨(some 81), .op (.bin .neq (.tmp 80) (.val (.int .i64 0))), (some (78, false))⟩,
     ⟨(some 82), .op (.pick (.tmp 78) (.val (.bool true)) (.tmp 81)), none⟩,
     ⟨(some 83), .op (.mov (.tmp 82)), none⟩,
     ⟨(some 84), .op (.mov (.tmp 1)), (some (83, false))⟩,
     ⟨(some 85), .call (.fnv 48) [(.tmp 84), (.val (.int .i64 1))], (some (83, false))⟩,
     ⟨(some 86), .op (.un .not (.tmp 85)), (some (83, false))⟩,
     ⟨(some 87), .op (.pick (.tmp 83) (.val (.bool true)) (.tmp 86)), none⟩,
     ⟨(some 88), .op (.mov (.tmp 87)), none⟩,
     ⟨(some 89), .op (.mov (.tmp 1)), (some (88, false))⟩,
     ⟨(some 90), .call (.fnv 49) [(.tmp 89), (.val (.int .i64 1))], (some (88, false))⟩,
     ⟨(some 91), .op (.bin .neq (.tmp 90) (.val (.int .i64 0))), (some (88, false))⟩,
     ⟨(some 92), .op (.pick (.tmp 88) (.val (.bool true)) (.tmp 91)), none⟩,
     ⟨(some 93), .op (.mov (.tmp 92)), none⟩,
     ⟨(some 94), .op (.mov (.tmp 1)), (some (93, false))⟩,
     ⟨(some 95), .call (.fnv 48) [(.tmp 94), (.val (.int .i64 1))], (some (93, false))⟩,
     ⟨(some 96), .op (.pick (.tmp 93) (.val (.bool true)) (.tmp 95)), none⟩])
   (.cond (.tmp 96) (.seq (.region [⟨(some 0), .op (.mov (.val (.bool false))), none⟩])
    (.ret))
   (.skip)))
  (.seq (.region [⟨(some 98), .op (.mov (.tmp 1)), none⟩,
    ⟨(some 99), .call (.fnv 47) [(.tmp 98)], none⟩,
    ⟨(some 97), .op (.mov (.tmp 99)), none⟩,
    ⟨(some 100), .op (.extract (.tmp 97) 0), none⟩,
    ⟨(some 101), .op (.extract (.tmp 97) 1), none⟩,
    ⟨(some 102), .op (.extract (.tmp 97) 2), none⟩,
    ⟨(some 10), .op (.mov (.tmp 100)), none⟩,
    ⟨(some 11), .op (.mov (.tmp 101)), none⟩,
    ⟨(some 12), .op (.mov (.tmp 102)), none⟩])
  (.seq (.region [⟨(some 104), .op (.mov (.tmp 1)), none⟩,
    ⟨(some 105), .call (.fnv 44) [(.tmp 104), (.val (.int .i64 0)), (.val (.int .i64 1025))], none⟩,
    ⟨(some 103), .op (.mov (.tmp 105)), none⟩,
    ⟨(some 106), .op (.extract (.tmp 103) 0), none⟩,
    ⟨(some 107), .op (.extract (.tmp 103) 1), none⟩,
    ⟨(some 13), .op (.mov (.tmp 106)), none⟩,
    ⟨(some 14), .op (.mov (.tmp 107)), none⟩])
  (.seq (.region [⟨(some 109), .op (.mov (.tmp 1)), none⟩,
    ⟨(some 110), .call (.fnv 44) [(.tmp 109), (.val (.int .i64 2)), (.val (.int .i64 1))], none⟩,
    ⟨(some 108), .op (.mov (.tmp 110)), none⟩,
    ⟨(some 111), .op (.extract (.tmp 108) 0), none⟩,
    ⟨(some 112), .op (.extract (.tmp 108) 1), none⟩,
    ⟨(some 15), .op (.mov (.tmp 111)), none⟩,
    ⟨(some 16), .op (.mov (.tmp 112)), none⟩])
  (.seq (.region [⟨(some 113), .call (.fnv 43) [], none⟩,
    ⟨(some 114), .op (.mov (.tmp 113)), none⟩,
    ⟨(some 115), .op (.mov (.tmp 10)), (some (114, true))⟩,
    ⟨(some 116), .op (.bin .eql (.tmp 115) (.val (.int .i64 3))), (some (114, true))⟩,
    ⟨(some 117), .op (.pick (.tmp 114) (.tmp 116) (.val (.bool false))), none⟩,
    ⟨(some 118), .op (.mov (.tmp 117)), none⟩,
    ⟨(some 119), .op (.mov (.tmp 11)), (some (118, true))⟩,
    ⟨(some 120), .op (.bin .eql (.tmp 119) (.val (.int .i64 134))), (some (118, true))⟩,
    ⟨(some 121), .op (.pick (.tmp 118) (.tmp 120) (.val (.bool false))), none⟩,
    ⟨(some 122), .op (.mov (.tmp 121)), none⟩,
    ⟨(some 123), .op (.mov (.tmp 12)), (some (122, true))⟩,
    ⟨(some 124), .op (.bin .eql (.tmp 123) (.val (.int .i64 5))), (some (122, true))⟩,
    ⟨(some 125), .op (.pick (.tmp 122) (.tmp 124) (.val (.bool false))), none⟩,
    ⟨(some 126), .op (.mov (.tmp 125)), none⟩,
    ⟨(some 127), .op (.mov (.tmp 14)), (some (126, true))⟩,
    ⟨(some 128), .op (.bin .eql (.tmp 127) (.val (.int .i64 2))), (some (126, true))⟩,
    ⟨(some 129), .op (.pick (.tmp 126) (.tmp 128) (.val (.bool false))), none⟩,
    ⟨(some 130), .op (.mov (.tmp 129)), none⟩,
    ⟨(some 131), .op (.mov (.tmp 16)), (some (130, true))⟩,
    ⟨(some 132), .op (.bin .eql (.tmp 131) (.val (.int .i64 1))), (some (130, true))⟩,
    ⟨(some 133), .op (.pick (.tmp 130) (.tmp 132) (.val (.bool false))), none⟩,
    ⟨(some 134), .op (.mov (.tmp 133)), none⟩,
    ⟨(some 135), .op (.mov (.tmp 1)), (some (134, true))⟩,
    ⟨(some 136), .call (.fnv 46) [(.tmp 135), (.val (.int .i64 1))], (some (134, true))⟩,
    ⟨(some 137), .op (.bin .eql (.tmp 136) (.val (.int .i64 4))), (some (134, true))⟩,
    ⟨(some 138), .op (.pick (.tmp 134) (.tmp 137) (.val (.bool false))), none⟩,
    ⟨(some 139), .op (.mov (.tmp 138)), none⟩,
    ⟨(some 140), .op (.mov (.tmp 1)), (some (139, true))⟩,
    ⟨(some 141), .call (.fnv 50) [(.tmp 140), (.val (.int .i64 0))], (some (139, true))⟩,
    ⟨(some 142), .op (.bin .eql (.tmp 141) (.val (.int .i64 4))), (some (139, true))⟩,
    ⟨(some 143), .op (.pick (.tmp 139) (.tmp 142) (.val (.bool false))), none⟩,
    ⟨(some 0), .op (.mov (.tmp 143)), none⟩])
  (.ret))))))))))))))),
  [.tmp 0], none, none⟩
def A15 : AFun := ⟨.seq (.region [⟨(some 2), .op (.mov (.val .nilp)), none⟩,
    ⟨(some 3), .op (.mov (.val (.int .i64 0))), none⟩])
  (.seq (.seq (.region [⟨(some 7), .op (.mov (.tmp 0)), none⟩,
     ⟨(some 8), .op (.bin .lss (.tmp 7) (.val (.int .i64 1))), none⟩,
     ⟨(some 9), .op (.mov (.tmp 8)), none⟩,
     ⟨(some 10), .op (.mov (.tmp 0)), (some (9, false))⟩,
     ⟨(some 11), .op (.bin .gtr (.tmp 10) (.val (.int .i64 4096))), (some (9, false))⟩,
     ⟨(some 12), .op (.pick (.tmp 9) (.val (.bool true)) (.tmp 11)), none⟩])
   (.cond (.tmp 12) (.seq (.region [⟨(some 2), .op (.mov (.val .nilp)), none⟩,
      ⟨(some 3), .op (.mov (.val (.int .i64 1))), none⟩])
    (.ret))
   (.skip)))
  (.seq (.region [⟨(some 13), .op (.mov (.tmp 0)), none⟩,
    ⟨(some 14), .op (.mov (.tmp 0)), none⟩,
    ⟨(some 15), .op (.bin .add (.tmp 14) (.val (.int .i64 64))), none⟩,
    ⟨(some 16), .op (.bin .sub (.tmp 15) (.val (.int .i64 1))), none⟩,
    ⟨(some 17), .op (.bin .quo (.tmp 16) (.val (.int .i64 64))), none⟩,
    ⟨(some 18), .op (.mkSlice 1 8 [(.int .u64 0)] (.tmp 17)), none⟩,
    ⟨(some 19), .op (.build [(.int .i64 0), .nils, .nils] [(0, 1, (.tmp 13)), (1, 1, (.tmp 18))]), none⟩,
    ⟨(some 20), .op (.box (.tmp 19)), none⟩,
    ⟨(some 4), .op (.mov (.tmp 20)), none⟩])
  (.seq (.seq (.region [⟨(some 21), .op (.mov (.tmp 0)), none⟩,
     ⟨(some 22), .op (.bin .rem (.tmp 21) (.val (.int .i64 64))), none⟩,
     ⟨(some 23), .op (.bin .neq (.tmp 22) (.val (.int .i64 0))), none⟩])
   (.cond (.tmp 23) (.draw [⟨⟨(some 24), .op (.mov (.tmp 4)), none⟩, .pure⟩,
     ⟨⟨(some 25), .op (.nilCheck (.tmp 24)), none⟩, .pure⟩,
     ⟨⟨(some 26), .op (.fieldAddr 1 (.tmp 25)), none⟩, .pure⟩,
     ⟨⟨(some 27), .op (.load none (.tmp 26)), none⟩, .read []⟩,
     ⟨⟨(some 28), .op (.mov (.tmp 4)), none⟩, .pure⟩,
     ⟨⟨(some 29), .op (.nilCheck (.tmp 28)), none⟩, .pure⟩,
     ⟨⟨(some 30), .op (.fieldAddr 1 (.tmp 29)), none⟩, .pure⟩,
     ⟨⟨(some 31), .op (.load none (.tmp 30)), none⟩, .read []⟩,
     ⟨⟨(some 32), .op (.lenS (.tmp 31)), none⟩, .pure⟩,
     ⟨⟨(some 33), .op (.bin .sub (.tmp 32) (.val (.int .i64 1))), none⟩, .pure⟩,
     ⟨⟨(some 34), .op (.mov (.tmp 0)), none⟩, .pure⟩,
     ⟨⟨(some 35), .op (.bin .rem (.tmp 34) (.val (.int .i64 64))), none⟩, .pure⟩,
     ⟨⟨(some 36), .op (.bin .shl (.val (.int .u64 18446744073709551615)) (.tmp 35)), none⟩, .pure⟩,
     ⟨⟨(some 37), .op (.idxS 1 (.tmp 27) (.tmp 33)), none⟩, .read []⟩,
     ⟨⟨none, .op (.store 1 (.tmp 37) (.tmp 36)), none⟩, .act true⟩])
   (.skip)))
  (.seq (.seq (.region [⟨(some 38), .op (.mov (.tmp 4)), none⟩,
     ⟨(some 39), .op (.nilCheck (.tmp 38)), none⟩,
     ⟨(some 40), .op (.fieldAddr 1 (.tmp 39)), none⟩,
     ⟨(some 41), .op (.load none (.tmp 40)), none⟩,
     ⟨(some 42), .op (.lenS (.tmp 41)), none⟩,
     ⟨(some 5), .op (.mov (.tmp 42)), none⟩])
   (.block 0 (.loop (.seq (.block 1 (.seq (.draw [⟨⟨(some 46), .op (.mov (.tmp 4)), none⟩, .pure⟩,
         ⟨⟨(some 47), .op (.mov (.tmp 4)), none⟩, .pure⟩,
         ⟨⟨(some 48), .op (.nilCheck (.tmp 47)), none⟩, .pure⟩,
         ⟨⟨(some 49), .op (.fieldAddr 2 (.tmp 48)), none⟩, .pure⟩,
         ⟨⟨(some 50), .op (.load none (.tmp 49)), none⟩, .read [7, 8]⟩,
         ⟨⟨(some 51), .op (.mov (.tmp 5)), none⟩, .pure⟩,
         ⟨⟨(some 52), .op (.mkSlice 4 32 [(.int .i64 0), (.int .i64 0), (.int .i64 0), (.int .i64 0)] (.tmp 51)), none⟩, .act true⟩,
         ⟨⟨(some 53), .op (.buildSlice 1 1 [.nils] [(0, (.tmp 52))]), none⟩, .act true⟩,
         ⟨⟨(some 54), .op (.append 1 24 (.tmp 50) (.tmp 53)), none⟩, .act true⟩,
         ⟨⟨(some 55), .op (.nilCheck (.tmp 46)), none⟩, .pure⟩,
         ⟨⟨(some 56), .op (.fieldAddr 2 (.tmp 55)), none⟩, .pure⟩,
         ⟨⟨none, .op (.store 1 (.tmp 56) (.tmp 54)), none⟩, .act true⟩])
       (.seq (.region [⟨(some 57), .op (.mov (.tmp 5)), none⟩,
         ⟨(some 58), .op (.bin .eql (.tmp 57) (.val (.int .i64 1))), none⟩])
       (.cond (.tmp 58) (.exit 0)
       (.skip)))))
     (.region [⟨(some 43), .op (.mov (.tmp 5)), none⟩,
      ⟨(some 44), .op (.bin .add (.tmp 43) (.val (.int .i64 7))), none⟩,
      ⟨(some 45), .op (.bin .quo (.tmp 44) (.val (.int .i64 8))), none⟩,
      ⟨(some 5), .op (.mov (.tmp 45)), none⟩])))))
  (.seq (.seq (.region [⟨(some 59), .op (.mov (.tmp 4)), none⟩,
     ⟨(some 60), .op (.nilCheck (.tmp 59)), none⟩,
     ⟨(some 61), .op (.fieldAddr 1 (.tmp 60)), none⟩,
     ⟨(some 62), .op (.load none (.tmp 61)), none⟩,
     ⟨(some 63), .op (.lenS (.tmp 62)), none⟩,
     ⟨(some 64), .op (.mov (.val (.int .i64 0))), none⟩])
   (.block 2 (.loop (.seq (.region [⟨(some 65), .op (.bin .lss (.tmp 64) (.tmp 63)), none⟩])
     (.seq (.cond (.tmp 65) (.skip)
      (.exit 2))
     (.seq (.block 3 (.seq (.region [⟨(some 66), .op (.mov (.tmp 64)), none⟩,
         ⟨(some 6), .op (.mov (.tmp 66)), none⟩])
       (.region [⟨(some 67), .op (.mov (.tmp 4)), none⟩,
        ⟨(some 68), .op (.mov (.tmp 6)), none⟩,
        ⟨(some 69), .call (.fnv 57) [(.tmp 67), (.tmp 68)], none⟩])))
     (.region [⟨(some 70), .op (.bin .add (.tmp 64) (.val (.int .i64 1))), none⟩,
      ⟨(some 64), .op (.mov (.tmp 70)), none⟩])))))))
  (.seq (.region [⟨(some 71), .op (.mov (.tmp 4)), none⟩,
    ⟨(some 2), .op (.mov (.tmp 71)), none⟩,
    ⟨(some 3), .op (.mov (.val (.int .i64 0))), none⟩])
  (.ret))))))),
  [.tmp 2, .tmp 3], none, none⟩
def A16 : AFun := ⟨.seq (.region [⟨(some 0), .op (.mov (.val (.bool false))), none⟩])
  (.seq (.region [⟨(some 8), .call (.fnv 15) [(.val (.int .i64 8))], none⟩,
    ⟨(some 7), .op (.mov (.tmp 8)), none⟩,
    ⟨(some 9), .op (.extract (.tmp 7) 0), none⟩,
    ⟨(some 10), .op (.extract (.tmp 7) 1), none⟩,
    ⟨(some 1), .op (.mov (.tmp 9)), none⟩,
    ⟨(some 2), .op (.mov (.tmp 10)), none⟩])
  (.seq (.seq (.region [⟨(some 11), .op (.mov (.tmp 1)), none⟩,
     ⟨(some 12), .op (.eql false .ptr (.tmp 11) (.val .nilp)), none⟩,
     ⟨(some 13), .op (.mov (.tmp 12)), none⟩,
     ⟨(some 14), .op (.mov (.tmp 2)), (some (13, false))⟩,
     ⟨(some 15), .op (.bin .neq (.tmp 14) (.val (.int .i64 0))), (some (13, false))⟩,
     ⟨(some 16), .op (.pick (.tmp 13) (.val (.bool true)) (.tmp 15)), none⟩])
   (.cond (.tmp 16) (.seq (.region [⟨(some 0), .op (.mov (.val (.bool false))), none⟩])
    (.ret))
   (.skip)))
  (.seq (.region [⟨(some 18), .op (.mov (.tmp 1)), none⟩,
    ⟨(some 19), .call (.fnv 20) [(.tmp 18), (.val (.int .i64 3))], none⟩,
    ⟨(some 17), .op (.mov (.tmp 19)), none⟩,
    ⟨(some 20), .op (.extract (.tmp 17) 0), none⟩,
    ⟨(some 21), .op (.extract (.tmp 17) 1), none⟩,
    ⟨(some 3), .op (.mov (.tmp 20)), none⟩,
    ⟨(some 4), .op (.mov (.tmp 21)), none⟩])
  (.seq (.region [⟨(some 23), .op (.mov (.tmp 1)), none⟩,
    ⟨(some 24), .call (.fnv 20) [(.tmp 23), (.val (.int .i64 2))], none⟩,
    ⟨(some 22), .op (.mov (.tmp 24)), none⟩,
    ⟨(some 25), .op (.extract (.tmp 22) 0), none⟩,
    ⟨(some 26), .op (.extract (.tmp 22) 1), none⟩,
    ⟨(some 5), .op (.mov (.tmp 25)), none⟩,
    ⟨(some 6), .op (.mov (.tmp 26)), none⟩])
  (.seq (.region [⟨(some 27), .op (.mov (.tmp 4)), none⟩,
    ⟨(some 28), .op (.bin .eql (.tmp 27) (.val (.int .i64 0))), none⟩,
    ⟨(some 29), .op (.mov (.tmp 28)), none⟩,
    ⟨(some 30), .op (.mov (.tmp 6)), (some (29, true))⟩,
    ⟨(some 31), .op (.bin .eql (.tmp 30) (.val (.int .i64 0))), (some (29, true))⟩,
    ⟨(some 32), .op (.pick (.tmp 29) (.tmp 31) (.val (.bool false))), none⟩,
    ⟨(some 33), .op (.mov (.tmp 32)), none⟩,
    ⟨(some 34), .op (.mov (.tmp 3)), (some (33, true))⟩,
    ⟨(some 35), .op (.bin .eql (.tmp 34) (.val (.int .i64 0))), (some (33, true))⟩,
    ⟨(some 36), .op (.pick (.tmp 33) (.tmp 35) (.val (.bool false))), none⟩,
    ⟨(some 37), .op (.mov (.tmp 36)), none⟩,
    ⟨(some 38), .op (.mov (.tmp 5)), (some (37, true))⟩,
    ⟨(some 39), .op (.bin .eql (.tmp 38) (.val (.int .i64 3))), (some (37, true))⟩,
    ⟨(some 40), .op (.pick (.tmp 37) (.tmp 39) (.val (.bool false))), none⟩,
    ⟨(some 41), .op (.mov (.tmp 40)), none⟩,
    ⟨(some 42), .op (.mov (.tmp 1)), (some (41, true))⟩,
    ⟨(some 43), .call (.fnv 18) [(.tmp 42), (.val (.int .i64 0)), (.val (.int .i64 3))], (some (41, true))⟩,
    ⟨(some 44), .op (.bin .eql (.tmp 43) (.val (.int .i64 0))), (some (41, true))⟩,
    ⟨(some 45), .op (.pick (.tmp 41) (.tmp 44) (.val (.bool false))), none⟩,
    ⟨(some 46), .op (.mov (.tmp 45)), none⟩,
    ⟨(some 47), .op (.mov (.tmp 1)), (some (46, true))⟩,
    ⟨(some 48), .call (.fnv 18) [(.tmp 47), (.val (.int .i64 0)), (.val (.int .i64 1))], (some (46, true))⟩,
    ⟨(some 49), .op (.bin .eql (.tmp 48) (.val (.int .i64 5))), (some (46, true))⟩,
    ⟨(some 50), .op (.pick (.tmp 46) (.tmp 49) (.val (.bool false))), none⟩,
    ⟨(some 51), .op (.mov (.tmp 50)), none⟩,
    ⟨(some 52), .op (.mov (.tmp 1)), (some (51, true))⟩,
    ⟨(some 53), .call (.fnv 19) [(.tmp 52), (.val (.int .i64 4))], (some (51, true))⟩,
    ⟨(some 54), .op (.pick (.tmp 51) (.tmp 53) (.val (.bool false))), none⟩,
    ⟨(some 55), .op (.mov (.tmp 54)), none⟩,
    ⟨(some 56), .op (.mov (.tmp 1)), (some (55, true))⟩,
    ⟨(some 57), .call (.fnv 19) [(.tmp 56), (.val (.int .i64 5))], (some (55, true))⟩,
    ⟨(some 58), .op (.un .not (.tmp 57)), (some (55, true))⟩,
    ⟨(some 59), .op (.pick (.tmp 55) (.tmp 58) (.val (.bool false))), none⟩,
    ⟨(some 0), .op (.mov (.tmp 59)), none⟩])
  (.ret)))))),
  [.tmp 0], none, none⟩
def A17 : AFun := ⟨.seq (.region [⟨(some 6), .op (.mov (.val (.int .i64 0))), none⟩])
  (.seq (.region [⟨(some 7), .op (.mov (.tmp 0)), none⟩,
    ⟨(some 8), .op (.mov (.tmp 1)), none⟩,
    ⟨(some 9), .op (.mov (.tmp 2)), none⟩,
    ⟨(some 10), .call (.fnv 58) [(.tmp 7), (.tmp 8), (.tmp 9), (.val (.bool true))], none⟩,
    ⟨(some 6), .op (.mov (.tmp 10)), none⟩])
  (.ret)),
  [.tmp 6], none, none⟩
def A18 : AFun := ⟨.seq (.region [⟨(some 6), .op (.mov (.val (.int .i64 0))), none⟩])
  (.seq (.region [⟨(some 7), .op (.mov (.tmp 0)), none⟩,
    ⟨(some 8), .op (.mov (.tmp 1)), none⟩,
    ⟨(some 9), .op (.mov (.tmp 2)), none⟩,
    ⟨(some 10), .call (.fnv 58) [(.tmp 7), (.tmp 8), (.tmp 9), (.val (.bool false))], none⟩,
    ⟨(some 6), .op (.mov (.tmp 10)), none⟩])
  (.ret)),
  [.tmp 6], none, none⟩
def A19 : AFun := ⟨.seq (.region [⟨(some 4), .op (.mov (.val (.bool false))), none⟩])
  (.seq (.region [⟨(some 5), .op (.mov (.tmp 0)), none⟩,
    ⟨(some 6), .op (.eql false .ptr (.tmp 5) (.val .nilp)), none⟩,
    ⟨(some 7), .op (.mov (.tmp 6)), none⟩,
    ⟨(some 8), .op (.mov (.tmp 1)), (some (7, false))⟩,
    ⟨(some 9), .op (.bin .lss (.tmp 8) (.val (.int .i64 0))), (some (7, false))⟩,
    ⟨(some 10), .op (.pick (.tmp 7) (.val (.bool true)) (.tmp 9)), none⟩,
    ⟨(some 11), .op (.mov (.tmp 10)), none⟩,
    ⟨(some 12), .op (.mov (.tmp 1)), (some (11, false))⟩,
    ⟨(some 13), .op (.mov (.tmp 0)), (some (11, false))⟩,
    ⟨(some 14), .op (.nilCheck (.tmp 13)), (some (11, false))⟩,
    ⟨(some 15), .op (.fieldAddr 0 (.tmp 14)), (some (11, false))⟩,
    ⟨(some 16), .op (.load none (.tmp 15)), (some (11, false))⟩,
    ⟨(some 17), .op (.bin .geq (.tmp 12) (.tmp 16)), (some (11, false))⟩,
    ⟨(some 18), .op (.pick (.tmp 11) (.val (.bool true)) (.tmp 17)), none⟩,
    ⟨(some 19), .op (.mov (.tmp 18)), none⟩,
    ⟨(some 20), .op (.mov (.tmp 0)), (some (19, false))⟩,
    ⟨(some 21), .op (.nilCheck (.tmp 20)), (some (19, false))⟩,
    ⟨(some 22), .op (.fieldAddr 1 (.tmp 21)), (some (19, false))⟩,
    ⟨(some 23), .op (.load none (.tmp 22)), (some (19, false))⟩,
    ⟨(some 24), .op (.mov (.tmp 1)), (some (19, false))⟩,
    ⟨(some 25), .op (.bin .quo (.tmp 24) (.val (.int .i64 64))), (some (19, false))⟩,
    ⟨(some 26), .op (.idxS 1 (.tmp 23) (.tmp 25)), (some (19, false))⟩,
    ⟨(some 27), .op (.load none (.tmp 26)), (some (19, false))⟩,
    ⟨(some 28), .op (.mov (.tmp 1)), (some (19, false))⟩,
    ⟨(some 29), .op (.bin .rem (.tmp 28) (.val (.int .i64 64))), (some (19, false))⟩,
    ⟨(some 30), .op (.bin .shr (.tmp 27) (.tmp 29)), (some (19, false))⟩,
    ⟨(some 31), .op (.bin .and (.tmp 30) (.val (.int .u64 1))), (some (19, false))⟩,
    ⟨(some 32), .op (.bin .eql (.tmp 31) (.val (.int .u64 1))), (some (19, false))⟩,
    ⟨(some 33), .op (.pick (.tmp 19) (.val (.bool true)) (.tmp 32)), none⟩,
    ⟨(some 4), .op (.mov (.tmp 33)), none⟩])
  (.ret)),
  [.tmp 4], none, none⟩
def A20 : AFun := ⟨.seq (.region [⟨(some 4), .op (.mov (.val (.int .i64 0))), none⟩,
    ⟨(some 5), .op (.mov (.val (.int .i64 0))), none⟩])
  (.seq (.block 0 (.seq (.region [⟨(some 8), .op (.mov (.tmp 0)), none⟩,
      ⟨(some 9), .op (.eql false .ptr (.tmp 8) (.val .nilp)), none⟩,
      ⟨(some 7), .op (.mov (.tmp 9)), none⟩])
    (.cond (.tmp 7) (.seq (.region [⟨(some 4), .op (.mov (.val (.int .i64 0))), none⟩,
       ⟨(some 5), .op (.mov (.val (.int .i64 5))), none⟩])
     (.ret))
    (.seq (.region [⟨(some 11), .op (.mov (.tmp 1)), none⟩,
      ⟨(some 12), .op (.bin .lss (.tmp 11) (.val (.int .i64 1))), none⟩,
      ⟨(some 10), .op (.mov (.tmp 12)), none⟩])
    (.cond (.tmp 10) (.seq (.region [⟨(some 4), .op (.mov (.val (.int .i64 0))), none⟩,
       ⟨(some 5), .op (.mov (.val (.int .i64 1))), none⟩])
     (.ret))
    (.skip))))))
  (.seq (.region [⟨(some 13), .op (.mov (.tmp 0)), none⟩,
    ⟨(some 14), .op (.mov (.tmp 1)), none⟩,
    ⟨(some 15), .call (.fnv 59) [(.tmp 13), (.tmp 14)], none⟩,
    ⟨(some 6), .op (.mov (.tmp 15)), none⟩])
  (.seq (.seq (.region [⟨(some 16), .op (.mov (.tmp 6)), none⟩,
     ⟨(some 17), .op (.bin .lss (.tmp 16) (.val (.int .i64 0))), none⟩])
   (.cond (.tmp 17) (.seq (.region [⟨(some 4), .op (.mov (.val (.int .i64 0))), none⟩,
      ⟨(some 5), .op (.mov (.val (.int .i64 3))), none⟩])
    (.ret))
   (.skip)))
  (.seq (.region [⟨(some 18), .op (.mov (.tmp 0)), none⟩,
    ⟨(some 19), .op (.mov (.tmp 6)), none⟩,
    ⟨(some 20), .op (.mov (.tmp 1)), none⟩,
    ⟨(some 21), .call (.fnv 60) [(.tmp 18), (.tmp 19), (.tmp 20), (.val (.bool true))], none⟩])
  (.seq (.region [⟨(some 22), .op (.mov (.tmp 6)), none⟩,
    ⟨(some 4), .op (.mov (.tmp 22)), none⟩,
    ⟨(some 5), .op (.mov (.val (.int .i64 0))), none⟩])
  (.ret)))))),
  [.tmp 4, .tmp 5], none, none⟩
def A21 : AFun := ⟨.seq (.region [⟨(some 2), .op (.mov (.val (.int .i64 0))), none⟩,
    ⟨(some 3), .op (.mov (.val (.int .i64 0))), none⟩])
  (.seq (.seq (.region [⟨(some 7), .op (.mov (.tmp 0)), none⟩,
     ⟨(some 8), .op (.eql false .ptr (.tmp 7) (.val .nilp)), none⟩])
   (.cond (.tmp 8) (.seq (.region [⟨(some 2), .op (.mov (.val (.int .i64 0))), none⟩,
      ⟨(some 3), .op (.mov (.val (.int .i64 0))), none⟩])
    (.ret))
   (.skip)))
  (.seq (.region [⟨(some 4), .op (.alloc [(.int .i64 0)]), none⟩,
    ⟨none, .op (.store 1 (.tmp 4) (.val (.int .i64 0))), none⟩])
  (.seq (.seq (.region [⟨(some 9), .op (.mov (.tmp 0)), none⟩,
     ⟨(some 10), .call (.fnv 61) [(.tmp 9)], none⟩])
   (.block 0 (.range (.tmp 10) [11, 12] (.region [⟨(some 6), .op (.mov (.tmp 12)), none⟩])
    (.block 1 (.region [⟨(some 13), .op (.load none (.tmp 4)), none⟩,
       ⟨(some 14), .op (.mov (.tmp 6)), none⟩,
       ⟨(some 15), .op (.bin .add (.tmp 13) (.tmp 14)), none⟩,
       ⟨none, .op (.store 1 (.tmp 4) (.tmp 15)), none⟩])))))
  (.seq (.region [⟨(some 16), .op (.load none (.tmp 4)), none⟩,
    ⟨(some 17), .op (.mov (.tmp 0)), none⟩,
    ⟨(some 18), .op (.nilCheck (.tmp 17)), none⟩,
    ⟨(some 19), .op (.fieldAddr 2 (.tmp 18)), none⟩,
    ⟨(some 20), .op (.load none (.tmp 19)), none⟩,
    ⟨(some 21), .op (.mov (.tmp 0)), none⟩,
    ⟨(some 22), .op (.nilCheck (.tmp 21)), none⟩,
    ⟨(some 23), .op (.fieldAddr 2 (.tmp 22)), none⟩,
    ⟨(some 24), .op (.load none (.tmp 23)), none⟩,
    ⟨(some 25), .op (.lenS (.tmp 24)), none⟩,
    ⟨(some 26), .op (.bin .sub (.tmp 25) (.val (.int .i64 1))), none⟩,
    ⟨(some 27), .op (.idxS 1 (.tmp 20) (.tmp 26)), none⟩,
    ⟨(some 28), .op (.load none (.tmp 27)), none⟩,
    ⟨(some 29), .op (.idxS 4 (.tmp 28) (.val (.int .i64 0))), none⟩,
    ⟨(some 30), .op (.fieldAddr 1 (.tmp 29)), none⟩,
    ⟨(some 31), .op (.load none (.tmp 30)), none⟩,
    ⟨(some 2), .op (.mov (.tmp 16)), none⟩,
    ⟨(some 3), .op (.mov (.tmp 31)), none⟩])
  (.ret))))),
  [.tmp 2, .tmp 3], none, none⟩
def A27 : AFun := ⟨.seq (.region [⟨(some 3), .op (.box (.tmp 1)), none⟩,
    ⟨(some 4), .op (.mov (.val .nils)), none⟩,
    ⟨(some 5), .op (.mov (.val (.bool false))), none⟩])
  (.seq (.region [⟨(some 6), .op (.alloc [.nils]), none⟩])
  (.seq (.region [⟨(some 10), .op (.mov (.tmp 0)), none⟩,
    ⟨(some 11), .call (.fnv 61) [(.tmp 10)], none⟩,
    ⟨(some 7), .op (.mov (.tmp 11)), none⟩])
  (.seq (.seq (.region [⟨(some 12), .op (.mov (.tmp 7)), none⟩,
     ⟨(some 13), .op (.eql false .func (.tmp 12) (.val .nilf)), none⟩,
     ⟨(some 14), .op (.mov (.tmp 13)), none⟩,
     ⟨(some 15), .op (.load none (.tmp 3)), (some (14, false))⟩,
     ⟨(some 16), .op (.bin .eql (.tmp 15) (.val (.int .i64 0))), (some (14, false))⟩,
     ⟨(some 17), .op (.pick (.tmp 14) (.val (.bool true)) (.tmp 16)), none⟩])
   (.cond (.tmp 17) (.seq (.region [⟨(some 18), .op (.mov (.tmp 7)), none⟩,
      ⟨(some 19), .op (.eql true .func (.tmp 18) (.val .nilf)), none⟩,
      ⟨(some 4), .op (.mov (.val .nils)), none⟩,
      ⟨(some 5), .op (.mov (.tmp 19)), none⟩])
    (.ret))
   (.skip)))
  (.seq (.seq (.region [⟨(some 20), .op (.mov (.tmp 7)), none⟩])
   (.block 0 (.range (.tmp 20) [21, 22] (.seq (.region [⟨(some 8), .op (.mov (.tmp 21)), none⟩])
     (.region [⟨(some 9), .op (.mov (.tmp 22)), none⟩]))
    (.block 1 (.seq (.region [⟨(some 23), .op (.load none (.tmp 6)), none⟩,
        ⟨(some 24), .op (.mov (.tmp 8)), none⟩,
        ⟨(some 25), .op (.mov (.tmp 9)), none⟩,
        ⟨(some 26), .op (.build [(.int .i64 0), (.int .i64 0)] [(0, 1, (.tmp 24)), (1, 1, (.tmp 25))]), none⟩,
        ⟨(some 27), .op (.buildSlice 2 1 [(.int .i64 0), (.int .i64 0)] [(0, (.tmp 26))]), none⟩,
        ⟨(some 28), .op (.append 2 16 (.tmp 23) (.tmp 27)), none⟩,
        ⟨none, .op (.store 1 (.tmp 6) (.tmp 28)), none⟩])
      (.seq (.region [⟨(some 29), .op (.load none (.tmp 6)), none⟩,
        ⟨(some 30), .op (.lenS (.tmp 29)), none⟩,
        ⟨(some 31), .op (.load none (.tmp 3)), none⟩,
        ⟨(some 32), .op (.bin .eql (.tmp 30) (.tmp 31)), none⟩,
        ⟨(some 33), .op (.mov (.tmp 32)), none⟩,
        ⟨(some 34), .op (.load none (.tmp 6)), (some (33, false))⟩,
        ⟨(some 35), .op (.lenS (.tmp 34)), (some (33, false))⟩,
        ⟨(some 36), .op (.bin .gtr (.tmp 35) (.val (.int .i64 5000))), (some (33, false))⟩,
        ⟨(some 37), .op (.pick (.tmp 33) (.val (.bool true)) (.tmp 36)), none⟩])
      (.cond (.tmp 37) (.exit 0)
      (.skip))))))))
  (.seq (.region [⟨(some 38), .op (.load none (.tmp 6)), none⟩,
    ⟨(some 4), .op (.mov (.tmp 38)), none⟩,
    ⟨(some 5), .op (.mov (.val (.bool true))), none⟩])
  (.ret)))))),
  [.tmp 4, .tmp 5], none, none⟩
def A28 : AFun := ⟨.seq (.region [⟨(some 4), .op (.mov (.val (.bool false))), none⟩])
  (.seq (.seq (.region [⟨(some 6), .op (.mov (.tmp 0)), none⟩,
     ⟨(some 7), .op (.lenS (.tmp 6)), none⟩,
     ⟨(some 8), .op (.mov (.tmp 1)), none⟩,
     ⟨(some 9), .op (.lenS (.tmp 8)), none⟩,
     ⟨(some 10), .op (.bin .neq (.tmp 7) (.tmp 9)), none⟩])
   (.cond (.tmp 10) (.seq (.region [⟨(some 4), .op (.mov (.val (.bool false))), none⟩])
    (.ret))
   (.skip)))
  (.seq (.seq (.region [⟨(some 5), .op (.mov (.val (.int .i64 0))), none⟩])
   (.block 0 (.loop (.seq (.seq (.region [⟨(some 11), .op (.mov (.tmp 5)), none⟩,
        ⟨(some 12), .op (.mov (.tmp 0)), none⟩,
        ⟨(some 13), .op (.lenS (.tmp 12)), none⟩,
        ⟨(some 14), .op (.bin .lss (.tmp 11) (.tmp 13)), none⟩])
      (.cond (.tmp 14) (.skip)
      (.exit 0)))
     (.seq (.block 1 (.seq (.region [⟨(some 17), .op (.mov (.tmp 0)), none⟩,
         ⟨(some 18), .op (.mov (.tmp 5)), none⟩,
         ⟨(some 19), .op (.idxS 2 (.tmp 17) (.tmp 18)), none⟩,
         ⟨(some 20), .op (.load (some 2) (.tmp 19)), none⟩,
         ⟨(some 21), .op (.mov (.tmp 1)), none⟩,
         ⟨(some 22), .op (.mov (.tmp 5)), none⟩,
         ⟨(some 23), .op (.idxS 2 (.tmp 21) (.tmp 22)), none⟩,
         ⟨(some 24), .op (.load (some 2) (.tmp 23)), none⟩,
         ⟨(some 25), .op (.eql true (.flat [.int, .int]) (.tmp 20) (.tmp 24)), none⟩])
       (.cond (.tmp 25) (.seq (.region [⟨(some 4), .op (.mov (.val (.bool false))), none⟩])
        (.ret))
       (.skip))))
     (.region [⟨(some 15), .op (.mov (.tmp 5)), none⟩,
      ⟨(some 16), .op (.bin .add (.tmp 15) (.val (.int .i64 1))), none⟩,
      ⟨(some 5), .op (.mov (.tmp 16)), none⟩]))))))
  (.seq (.region [⟨(some 4), .op (.mov (.val (.bool true))), none⟩])
  (.ret)))),
  [.tmp 4], none, none⟩
def A30 : AFun := ⟨.seq (.region [⟨(some 2), .op (.mov (.val .nilp)), none⟩,
    ⟨(some 3), .op (.mov (.val (.int .i64 0))), none⟩])
  (.seq (.region [⟨(some 7), .op (.mov (.tmp 0)), none⟩,
    ⟨(some 8), .call (.fnv 15) [(.tmp 7)], none⟩,
    ⟨(some 6), .op (.mov (.tmp 8)), none⟩,
    ⟨(some 9), .op (.extract (.tmp 6) 0), none⟩,
    ⟨(some 10), .op (.extract (.tmp 6) 1), none⟩,
    ⟨(some 4), .op (.mov (.tmp 9)), none⟩,
    ⟨(some 5), .op (.mov (.tmp 10)), none⟩])
  (.seq (.seq (.region [⟨(some 11), .op (.mov (.tmp 5)), none⟩,
     ⟨(some 12), .op (.bin .neq (.tmp 11) (.val (.int .i64 0))), none⟩])
   (.cond (.tmp 12) (.seq (.region [⟨(some 13), .op (.mov (.tmp 5)), none⟩,
      ⟨(some 2), .op (.mov (.val .nilp)), none⟩,
      ⟨(some 3), .op (.mov (.tmp 13)), none⟩])
    (.ret))
   (.skip)))
  (.seq (.draw [⟨⟨(some 14), .op (.mov (.tmp 4)), none⟩, .pure⟩,
    ⟨⟨(some 15), .op (.mov (.tmp 0)), none⟩, .pure⟩,
    ⟨⟨(some 16), .op (.mkSlice 3 24 [(.int .i64 0), (.int .i64 0), (.int .i64 0)] (.tmp 15)), none⟩, .act false⟩,
    ⟨⟨(some 17), .op (.mov (.tmp 0)), none⟩, .pure⟩,
    ⟨⟨(some 18), .op (.mkSlice 1 8 [(.int .i64 0)] (.tmp 17)), none⟩, .act true⟩,
    ⟨⟨(some 19), .op (.build [.nilp, .nils, .nils] [(0, 1, (.tmp 14)), (1, 1, (.tmp 16)), (2, 1, (.tmp 18))]), none⟩, .pure⟩,
    ⟨⟨(some 20), .op (.box (.tmp 19)), none⟩, .act true⟩,
    ⟨⟨(some 2), .op (.mov (.tmp 20)), none⟩, .pure⟩,
    ⟨⟨(some 3), .op (.mov (.val (.int .i64 0))), none⟩, .pure⟩])
  (.ret)))),
  [.tmp 2, .tmp 3], none, none⟩
def A31 : AFun := ⟨.seq (.region [⟨(some 6), .op (.alloc [(.int .i64 0), (.int .i64 0), (.int .i64 0)]), none⟩,
    ⟨(some 7), .op (.mov (.val (.int .i64 0))), none⟩])
  (.seq (.seq (.region [⟨(some 12), .op (.mov (.tmp 0)), none⟩,
     ⟨(some 13), .op (.eql false .ptr (.tmp 12) (.val .nilp)), none⟩])
   (.cond (.tmp 13) (.seq (.region [⟨(some 14), .op (.build [(.int .i64 0), (.int .i64 0), (.int .i64 0)] []), none⟩,
      ⟨none, .op (.store 3 (.tmp 6) (.tmp 14)), none⟩,
      ⟨(some 7), .op (.mov (.val (.int .i64 5))), none⟩])
    (.ret))
   (.skip)))
  (.seq (.region [⟨(some 16), .op (.mov (.tmp 0)), none⟩,
    ⟨(some 17), .op (.nilCheck (.tmp 16)), none⟩,
    ⟨(some 18), .op (.fieldAddr 0 (.tmp 17)), none⟩,
    ⟨(some 19), .op (.load none (.tmp 18)), none⟩,
    ⟨(some 20), .op (.mov (.tmp 1)), none⟩,
    ⟨(some 21), .call (.fnv 20) [(.tmp 19), (.tmp 20)], none⟩,
    ⟨(some 15), .op (.mov (.tmp 21)), none⟩,
    ⟨(some 22), .op (.extract (.tmp 15) 0), none⟩,
    ⟨(some 23), .op (.extract (.tmp 15) 1), none⟩,
    ⟨(some 8), .op (.mov (.tmp 22)), none⟩,
    ⟨(some 9), .op (.mov (.tmp 23)), none⟩])
  (.seq (.seq (.region [⟨(some 24), .op (.mov (.tmp 9)), none⟩,
     ⟨(some 25), .op (.bin .neq (.tmp 24) (.val (.int .i64 0))), none⟩])
   (.cond (.tmp 25) (.seq (.region [⟨(some 26), .op (.build [(.int .i64 0), (.int .i64 0), (.int .i64 0)] []), none⟩,
      ⟨(some 27), .op (.mov (.tmp 9)), none⟩,
      ⟨none, .op (.store 3 (.tmp 6) (.tmp 26)), none⟩,
      ⟨(some 7), .op (.mov (.tmp 27)), none⟩])
    (.ret))
   (.skip)))
  (.seq (.region [⟨(some 28), .op (.mov (.tmp 8)), none⟩,
    ⟨(some 29), .op (.mov (.tmp 1)), none⟩,
    ⟨(some 30), .op (.mov (.tmp 2)), none⟩,
    ⟨(some 31), .op (.build [(.int .i64 0), (.int .i64 0), (.int .i64 0)] [(0, 1, (.tmp 28)), (1, 1, (.tmp 29)), (2, 1, (.tmp 30))]), none⟩,
    ⟨(some 10), .op (.alloc [(.int .i64 0), (.int .i64 0), (.int .i64 0)]), none⟩,
    ⟨none, .op (.store 3 (.tmp 10) (.tmp 31)), none⟩])
  (.seq (.draw [⟨⟨(some 32), .op (.mov (.tmp 0)), none⟩, .pure⟩,
    ⟨⟨(some 33), .op (.nilCheck (.tmp 32)), none⟩, .pure⟩,
    ⟨⟨(some 34), .op (.fieldAddr 1 (.tmp 33)), none⟩, .pure⟩,
    ⟨⟨(some 35), .op (.load none (.tmp 34)), none⟩, .read []⟩,
    ⟨⟨(some 36), .op (.mov (.tmp 8)), none⟩, .pure⟩,
    ⟨⟨(some 37), .op (.load (some 3) (.tmp 10)), none⟩, .read []⟩,
    ⟨⟨(some 38), .op (.idxS 3 (.tmp 35) (.tmp 36)), none⟩, .read []⟩,
    ⟨⟨none, .op (.store 3 (.tmp 38) (.tmp 37)), none⟩, .act true⟩])
  (.seq (.seq (.region [⟨(some 39), .op (.mov (.tmp 1)), none⟩,
     ⟨(some 40), .op (.mov (.val (.int .i64 0))), none⟩])
   (.block 0 (.loop (.seq (.region [⟨(some 41), .op (.bin .lss (.tmp 40) (.tmp 39)), none⟩])
     (.seq (.cond (.tmp 41) (.skip)
      (.exit 0))
     (.seq (.block 1 (.seq (.region [⟨(some 42), .op (.mov (.tmp 40)), none⟩,
         ⟨(some 11), .op (.mov (.tmp 42)), none⟩])
       (.region [⟨(some 43), .op (.mov (.tmp 0)), none⟩,
        ⟨(some 44), .op (.nilCheck (.tmp 43)), none⟩,
        ⟨(some 45), .op (.fieldAddr 2 (.tmp 44)), none⟩,
        ⟨(some 46), .op (.load none (.tmp 45)), none⟩,
        ⟨(some 47), .op (.mov (.tmp 8)), none⟩,
        ⟨(some 48), .op (.mov (.tmp 11)), none⟩,
        ⟨(some 49), .op (.bin .add (.tmp 47) (.tmp 48)), none⟩,
        ⟨(some 50), .op (.mov (.tmp 8)), none⟩,
        ⟨(some 51), .op (.idxS 1 (.tmp 46) (.tmp 49)), none⟩,
        ⟨none, .op (.store 1 (.tmp 51) (.tmp 50)), none⟩])))
     (.region [⟨(some 52), .op (.bin .add (.tmp 40) (.val (.int .i64 1))), none⟩,
      ⟨(some 40), .op (.mov (.tmp 52)), none⟩])))))))
  (.seq (.region [⟨(some 53), .op (.load (some 3) (.tmp 10)), none⟩,
    ⟨none, .op (.store 3 (.tmp 6) (.tmp 53)), none⟩,
    ⟨(some 7), .op (.mov (.val (.int .i64 0))), none⟩])
  (.ret)))))))),
  [.cell 6 (some 3), .tmp 7], none, none⟩
def A32 : AFun := ⟨.seq (.region [⟨(some 4), .op (.alloc [(.int .i64 0), (.int .i64 0), (.int .i64 0)]), none⟩,
    ⟨(some 5), .op (.mov (.val (.bool false))), none⟩])
  (.seq (.seq (.region [⟨(some 6), .op (.mov (.tmp 0)), none⟩,
     ⟨(some 7), .op (.eql false .ptr (.tmp 6) (.val .nilp)), none⟩,
     ⟨(some 8), .op (.mov (.tmp 7)), none⟩,
     ⟨(some 9), .op (.mov (.tmp 1)), (some (8, false))⟩,
     ⟨(some 10), .op (.bin .lss (.tmp 9) (.val (.int .i64 0))), (some (8, false))⟩,
     ⟨(some 11), .op (.pick (.tmp 8) (.val (.bool true)) (.tmp 10)), none⟩,
     ⟨(some 12), .op (.mov (.tmp 11)), none⟩,
     ⟨(some 13), .op (.mov (.tmp 1)), (some (12, false))⟩,
     ⟨(some 14), .op (.mov (.tmp 0)), (some (12, false))⟩,
     ⟨(some 15), .op (.nilCheck (.tmp 14)), (some (12, false))⟩,
     ⟨(some 16), .op (.fieldAddr 2 (.tmp 15)), (some (12, false))⟩,
     ⟨(some 17), .op (.load none (.tmp 16)), (some (12, false))⟩,
     ⟨(some 18), .op (.lenS (.tmp 17)), (some (12, false))⟩,
     ⟨(some 19), .op (.bin .geq (.tmp 13) (.tmp 18)), (some (12, false))⟩,
     ⟨(some 20), .op (.pick (.tmp 12) (.val (.bool true)) (.tmp 19)), none⟩,
     ⟨(some 21), .op (.mov (.tmp 20)), none⟩,
     ⟨(some 22), .op (.mov (.tmp 0)), (some (21, false))⟩,
     ⟨(some 23), .op (.nilCheck (.tmp 22)), (some (21, false))⟩,
     ⟨(some 24), .op (.fieldAddr 0 (.tmp 23)), (some (21, false))⟩,
     ⟨(some 25), .op (.load none (.tmp 24)), (some (21, false))⟩,
     ⟨(some 26), .op (.mov (.tmp 1)), (some (21, false))⟩,
     ⟨(some 27), .call (.fnv 19) [(.tmp 25), (.tmp 26)], (some (21, false))⟩,
     ⟨(some 28), .op (.un .not (.tmp 27)), (some (21, false))⟩,
     ⟨(some 29), .op (.pick (.tmp 21) (.val (.bool true)) (.tmp 28)), none⟩])
   (.cond (.tmp 29) (.seq (.region [⟨(some 30), .op (.build [(.int .i64 0), (.int .i64 0), (.int .i64 0)] []), none⟩,
      ⟨none, .op (.store 3 (.tmp 4) (.tmp 30)), none⟩,
      ⟨(some 5), .op (.mov (.val (.bool false))), none⟩])
    (.ret))
   (.skip)))
  (.seq (.draw [⟨⟨(some 31), .op (.mov (.tmp 0)), none⟩, .pure⟩,
    ⟨⟨(some 32), .op (.nilCheck (.tmp 31)), none⟩, .pure⟩,
    ⟨⟨(some 33), .op (.fieldAddr 1 (.tmp 32)), none⟩, .pure⟩,
    ⟨⟨(some 34), .op (.load none (.tmp 33)), none⟩, .read []⟩,
    ⟨⟨(some 35), .op (.mov (.tmp 0)), none⟩, .pure⟩,
    ⟨⟨(some 36), .op (.nilCheck (.tmp 35)), none⟩, .pure⟩,
    ⟨⟨(some 37), .op (.fieldAddr 2 (.tmp 36)), none⟩, .pure⟩,
    ⟨⟨(some 38), .op (.load none (.tmp 37)), none⟩, .read []⟩,
    ⟨⟨(some 39), .op (.mov (.tmp 1)), none⟩, .pure⟩,
    ⟨⟨(some 40), .op (.idxS 1 (.tmp 38) (.tmp 39)), none⟩, .read []⟩,
    ⟨⟨(some 41), .op (.load none (.tmp 40)), none⟩, .read []⟩,
    ⟨⟨(some 42), .op (.idxS 3 (.tmp 34) (.tmp 41)), none⟩, .read []⟩,
    ⟨⟨(some 43), .op (.load (some 3) (.tmp 42)), none⟩, .read []⟩,
    ⟨⟨none, .op (.store 3 (.tmp 4) (.tmp 43)), none⟩, .act true⟩,
    ⟨⟨(some 5), .op (.mov (.val (.bool true))), none⟩, .pure⟩])
  (.ret))),
  [.cell 4 (some 3), .tmp 5], none, none⟩
def A33 : AFun := ⟨.seq (.region [⟨(some 4), .op (.mov (.val (.int .i64 0))), none⟩])
  (.seq (.seq (.region [⟨(some 7), .op (.mov (.tmp 0)), none⟩,
     ⟨(some 8), .op (.eql false .ptr (.tmp 7) (.val .nilp)), none⟩])
   (.cond (.tmp 8) (.seq (.region [⟨(some 4), .op (.mov (.val (.int .i64 5))), none⟩])
    (.ret))
   (.skip)))
  (.seq (.region [⟨(some 10), .op (.mov (.tmp 0)), none⟩,
    ⟨(some 11), .op (.mov (.tmp 1)), none⟩,
    ⟨(some 12), .call (.fnv 32) [(.tmp 10), (.tmp 11)], none⟩,
    ⟨(some 9), .op (.mov (.tmp 12)), none⟩,
    ⟨(some 13), .op (.extract (.tmp 9) 0), none⟩,
    ⟨(some 14), .op (.extract (.tmp 9) 1), none⟩,
    ⟨(some 5), .op (.alloc [(.int .i64 0), (.int .i64 0), (.int .i64 0)]), none⟩,
    ⟨none, .op (.store 3 (.tmp 5) (.tmp 13)), none⟩,
    ⟨(some 6), .op (.mov (.tmp 14)), none⟩])
  (.seq (.seq (.region [⟨(some 15), .op (.mov (.tmp 6)), none⟩,
     ⟨(some 16), .op (.un .not (.tmp 15)), none⟩,
     ⟨(some 17), .op (.mov (.tmp 16)), none⟩,
     ⟨(some 18), .op (.fieldAddr 0 (.tmp 5)), (some (17, false))⟩,
     ⟨(some 19), .op (.load none (.tmp 18)), (some (17, false))⟩,
     ⟨(some 20), .op (.mov (.tmp 1)), (some (17, false))⟩,
     ⟨(some 21), .op (.bin .neq (.tmp 19) (.tmp 20)), (some (17, false))⟩,
     ⟨(some 22), .op (.pick (.tmp 17) (.val (.bool true)) (.tmp 21)), none⟩])
   (.cond (.tmp 22) (.seq (.region [⟨(some 4), .op (.mov (.val (.int .i64 4))), none⟩])
    (.ret))
   (.skip)))
  (.seq (.region [⟨(some 23), .op (.mov (.tmp 0)), none⟩,
    ⟨(some 24), .op (.nilCheck (.tmp 23)), none⟩,
    ⟨(some 25), .op (.fieldAddr 1 (.tmp 24)), none⟩,
    ⟨(some 26), .op (.load none (.tmp 25)), none⟩,
    ⟨(some 27), .op (.mov (.tmp 1)), none⟩,
    ⟨(some 28), .op (.build [(.int .i64 0), (.int .i64 0), (.int .i64 0)] []), none⟩,
    ⟨(some 29), .op (.idxS 3 (.tmp 26) (.tmp 27)), none⟩,
    ⟨none, .op (.store 3 (.tmp 29) (.tmp 28)), none⟩])
  (.seq (.draw [⟨⟨(some 30), .op (.mov (.tmp 0)), none⟩, .pure⟩,
    ⟨⟨(some 31), .op (.nilCheck (.tmp 30)), none⟩, .pure⟩,
    ⟨⟨(some 32), .op (.fieldAddr 0 (.tmp 31)), none⟩, .pure⟩,
    ⟨⟨(some 33), .op (.load none (.tmp 32)), none⟩, .read []⟩,
    ⟨⟨(some 34), .op (.mov (.tmp 1)), none⟩, .pure⟩,
    ⟨⟨(some 35), .op (.fieldAddr 1 (.tmp 5)), none⟩, .pure⟩,
    ⟨⟨(some 36), .op (.load none (.tmp 35)), none⟩, .read []⟩,
    ⟨⟨(some 37), .call (.fnv 18) [(.tmp 33), (.tmp 34), (.tmp 36)], none⟩, .act true⟩,
    ⟨⟨(some 4), .op (.mov (.tmp 37)), none⟩, .pure⟩])
  (.ret)))))),
  [.tmp 4], none, none⟩
def A34 : AFun := ⟨.seq (.region [⟨(some 3), .op (.box (.tmp 1)), none⟩,
    ⟨(some 4), .op (.mov (.val .nils)), none⟩,
    ⟨(some 5), .op (.mov (.val (.bool false))), none⟩])
  (.seq (.region [⟨(some 6), .op (.alloc [.nils]), none⟩])
  (.seq (.region [⟨(some 9), .op (.mov (.tmp 0)), none⟩,
    ⟨(some 10), .call (.fnv 64) [(.tmp 9)], none⟩,
    ⟨(some 7), .op (.mov (.tmp 10)), none⟩])
  (.seq (.seq (.region [⟨(some 11), .op (.mov (.tmp 7)), none⟩,
     ⟨(some 12), .op (.eql false .func (.tmp 11) (.val .nilf)), none⟩,
     ⟨(some 13), .op (.mov (.tmp 12)), none⟩,
     ⟨(some 14), .op (.load none (.tmp 3)), (some (13, false))⟩,
     ⟨(some 15), .op (.bin .eql (.tmp 14) (.val (.int .i64 0))), (some (13, false))⟩,
     ⟨(some 16), .op (.pick (.tmp 13) (.val (.bool true)) (.tmp 15)), none⟩])
   (.cond (.tmp 16) (.seq (.region [⟨(some 17), .op (.mov (.tmp 7)), none⟩,
      ⟨(some 18), .op (.eql true .func (.tmp 17) (.val .nilf)), none⟩,
      ⟨(some 4), .op (.mov (.val .nils)), none⟩,
      ⟨(some 5), .op (.mov (.tmp 18)), none⟩])
    (.ret))
   (.skip)))
  (.seq (.seq (.region [⟨(some 19), .op (.mov (.tmp 7)), none⟩])
   (.block 0 (.range (.tmp 19) [20] (.region [⟨(some 8), .op (.alloc [(.int .i64 0), (.int .i64 0), (.int .i64 0)]), none⟩,
      ⟨none, .op (.store 3 (.tmp 8) (.tmp 20)), none⟩])
    (.block 1 (.seq (.region [⟨(some 21), .op (.load none (.tmp 6)), none⟩,
        ⟨(some 22), .op (.load (some 3) (.tmp 8)), none⟩,
        ⟨(some 23), .op (.buildSlice 3 1 [(.int .i64 0), (.int .i64 0), (.int .i64 0)] [(0, (.tmp 22))]), none⟩,
        ⟨(some 24), .op (.append 3 24 (.tmp 21) (.tmp 23)), none⟩,
        ⟨none, .op (.store 1 (.tmp 6) (.tmp 24)), none⟩])
      (.seq (.region [⟨(some 25), .op (.load none (.tmp 6)), none⟩,
        ⟨(some 26), .op (.lenS (.tmp 25)), none⟩,
        ⟨(some 27), .op (.load none (.tmp 3)), none⟩,
        ⟨(some 28), .op (.bin .eql (.tmp 26) (.tmp 27)), none⟩,
        ⟨(some 29), .op (.mov (.tmp 28)), none⟩,
        ⟨(some 30), .op (.load none (.tmp 6)), (some (29, false))⟩,
        ⟨(some 31), .op (.lenS (.tmp 30)), (some (29, false))⟩,
        ⟨(some 32), .op (.bin .gtr (.tmp 31) (.val (.int .i64 5000))), (some (29, false))⟩,
        ⟨(some 33), .op (.pick (.tmp 29) (.val (.bool true)) (.tmp 32)), none⟩])
      (.cond (.tmp 33) (.exit 0)
      (.skip))))))))
  (.seq (.region [⟨(some 34), .op (.load none (.tmp 6)), none⟩,
    ⟨(some 4), .op (.mov (.tmp 34)), none⟩,
    ⟨(some 5), .op (.mov (.val (.bool true))), none⟩])
  (.ret)))))),
  [.tmp 4, .tmp 5], none, none⟩
def A35 : AFun := ⟨.seq (.region [⟨(some 0), .op (.mov (.val (.bool false))), none⟩])
  (.seq (.region [⟨(some 8), .call (.fnv 30) [(.val (.int .i64 8))], none⟩,
    ⟨(some 7), .op (.mov (.tmp 8)), none⟩,
    ⟨(some 9), .op (.extract (.tmp 7) 0), none⟩,
    ⟨(some 10), .op (.extract (.tmp 7) 1), none⟩,
    ⟨(some 1), .op (.mov (.tmp 9)), none⟩,
    ⟨(some 2), .op (.mov (.tmp 10)), none⟩])
  (.seq (.seq (.region [⟨(some 11), .op (.mov (.tmp 1)), none⟩,
     ⟨(some 12), .op (.eql false .ptr (.tmp 11) (.val .nilp)), none⟩,
     ⟨(some 13), .op (.mov (.tmp 12)), none⟩,
     ⟨(some 14), .op (.mov (.tmp 2)), (some (13, false))⟩,
     ⟨(some 15), .op (.bin .neq (.tmp 14) (.val (.int .i64 0))), (some (13, false))⟩,
     ⟨(some 16), .op (.pick (.tmp 13) (.val (.bool true)) (.tmp 15)), none⟩])
   (.cond (.tmp 16) (.seq (.region [⟨(some 0), .op (.mov (.val (.bool false))), none⟩])
    (.ret))
   (.skip)))
  (.seq (.region [⟨(some 18), .op (.mov (.tmp 1)), none⟩,
    ⟨(some 19), .call (.fnv 31) [(.tmp 18), (.val (.int .i64 3)), (.val (.int .i64 7))], none⟩,
    ⟨(some 17), .op (.mov (.tmp 19)), none⟩,
    ⟨(some 20), .op (.extract (.tmp 17) 0), none⟩,
    ⟨(some 21), .op (.extract (.tmp 17) 1), none⟩,
    ⟨(some 3), .op (.alloc [(.int .i64 0), (.int .i64 0), (.int .i64 0)]), none⟩,
    ⟨none, .op (.store 3 (.tmp 3) (.tmp 20)), none⟩,
    ⟨(some 4), .op (.mov (.tmp 21)), none⟩])
  (.seq (.region [⟨(some 23), .op (.mov (.tmp 1)), none⟩,
    ⟨(some 24), .call (.fnv 32) [(.tmp 23), (.val (.int .i64 2))], none⟩,
    ⟨(some 22), .op (.mov (.tmp 24)), none⟩,
    ⟨(some 25), .op (.extract (.tmp 22) 0), none⟩,
    ⟨(some 26), .op (.extract (.tmp 22) 1), none⟩,
    ⟨(some 5), .op (.alloc [(.int .i64 0), (.int .i64 0), (.int .i64 0)]), none⟩,
    ⟨none, .op (.store 3 (.tmp 5) (.tmp 25)), none⟩,
    ⟨(some 6), .op (.mov (.tmp 26)), none⟩])
  (.seq (.region [⟨(some 27), .op (.mov (.tmp 4)), none⟩,
    ⟨(some 28), .op (.bin .eql (.tmp 27) (.val (.int .i64 0))), none⟩,
    ⟨(some 29), .op (.mov (.tmp 28)), none⟩,
    ⟨(some 30), .op (.load (some 3) (.tmp 3)), (some (29, true))⟩,
    ⟨(some 31), .op (.build [(.int .i64 0), (.int .i64 0), (.int .i64 0)] [(1, 1, (.val (.int .i64 3))), (2, 1, (.val (.int .i64 7)))]), (some (29, true))⟩,
    ⟨(some 32), .op (.eql false (.flat [.int, .int, .int]) (.tmp 30) (.tmp 31)), (some (29, true))⟩,
    ⟨(some 33), .op (.pick (.tmp 29) (.tmp 32) (.val (.bool false))), none⟩,
    ⟨(some 34), .op (.mov (.tmp 33)), none⟩,
    ⟨(some 35), .op (.mov (.tmp 6)), (some (34, true))⟩,
    ⟨(some 36), .op (.pick (.tmp 34) (.tmp 35) (.val (.bool false))), none⟩,
    ⟨(some 37), .op (.mov (.tmp 36)), none⟩,
    ⟨(some 38), .op (.load (some 3) (.tmp 5)), (some (37, true))⟩,
    ⟨(some 39), .op (.load (some 3) (.tmp 3)), (some (37, true))⟩,
    ⟨(some 40), .op (.eql false (.flat [.int, .int, .int]) (.tmp 38) (.tmp 39)), (some (37, true))⟩,
    ⟨(some 41), .op (.pick (.tmp 37) (.tmp 40) (.val (.bool false))), none⟩,
    ⟨(some 42), .op (.mov (.tmp 41)), none⟩,
    ⟨(some 43), .op (.mov (.tmp 1)), (some (42, true))⟩,
    ⟨(some 44), .call (.fnv 33) [(.tmp 43), (.val (.int .i64 1))], (some (42, true))⟩,
    ⟨(some 45), .op (.bin .eql (.tmp 44) (.val (.int .i64 4))), (some (42, true))⟩,
    ⟨(some 46), .op (.pick (.tmp 42) (.tmp 45) (.val (.bool false))), none⟩,
    ⟨(some 47), .op (.mov (.tmp 46)), none⟩,
    ⟨(some 48), .op (.mov (.tmp 1)), (some (47, true))⟩,
    ⟨(some 49), .call (.fnv 33) [(.tmp 48), (.val (.int .i64 0))], (some (47, true))⟩,
    ⟨(some 50), .op (.bin .eql (.tmp 49) (.val (.int .i64 0))), (some (47, true))⟩,
    ⟨(some 51), .op (.pick (.tmp 47) (.tmp 50) (.val (.bool false))), none⟩,
    ⟨(some 0), .op (.mov (.tmp 51)), none⟩])
  (.ret)))))),
  [.tmp 0], none, none⟩
def A36 : AFun := ⟨.seq (.region [⟨(some 4), .op (.mov (.val (.bool false))), none⟩])
  (.seq (.seq (.region [⟨(some 6), .op (.mov (.tmp 0)), none⟩,
     ⟨(some 7), .op (.lenS (.tmp 6)), none⟩,
     ⟨(some 8), .op (.mov (.tmp 1)), none⟩,
     ⟨(some 9), .op (.lenS (.tmp 8)), none⟩,
     ⟨(some 10), .op (.bin .neq (.tmp 7) (.tmp 9)), none⟩])
   (.cond (.tmp 10) (.seq (.region [⟨(some 4), .op (.mov (.val (.bool false))), none⟩])
    (.ret))
   (.skip)))
  (.seq (.seq (.region [⟨(some 5), .op (.mov (.val (.int .i64 0))), none⟩])
   (.block 0 (.loop (.seq (.seq (.region [⟨(some 11), .op (.mov (.tmp 5)), none⟩,
        ⟨(some 12), .op (.mov (.tmp 0)), none⟩,
        ⟨(some 13), .op (.lenS (.tmp 12)), none⟩,
        ⟨(some 14), .op (.bin .lss (.tmp 11) (.tmp 13)), none⟩])
      (.cond (.tmp 14) (.skip)
      (.exit 0)))
     (.seq (.block 1 (.seq (.region [⟨(some 17), .op (.mov (.tmp 0)), none⟩,
         ⟨(some 18), .op (.mov (.tmp 5)), none⟩,
         ⟨(some 19), .op (.idxS 3 (.tmp 17) (.tmp 18)), none⟩,
         ⟨(some 20), .op (.load (some 3) (.tmp 19)), none⟩,
         ⟨(some 21), .op (.mov (.tmp 1)), none⟩,
         ⟨(some 22), .op (.mov (.tmp 5)), none⟩,
         ⟨(some 23), .op (.idxS 3 (.tmp 21) (.tmp 22)), none⟩,
         ⟨(some 24), .op (.load (some 3) (.tmp 23)), none⟩,
         ⟨(some 25), .op (.eql true (.flat [.int, .int, .int]) (.tmp 20) (.tmp 24)), none⟩])
       (.cond (.tmp 25) (.seq (.region [⟨(some 4), .op (.mov (.val (.bool false))), none⟩])
        (.ret))
       (.skip))))
     (.region [⟨(some 15), .op (.mov (.tmp 5)), none⟩,
      ⟨(some 16), .op (.bin .add (.tmp 15) (.val (.int .i64 1))), none⟩,
      ⟨(some 5), .op (.mov (.tmp 16)), none⟩]))))))
  (.seq (.region [⟨(some 4), .op (.mov (.val (.bool true))), none⟩])
  (.ret)))),
  [.tmp 4], none, none⟩
def A41 : AFun := ⟨.seq (.region [⟨(some 2), .op (.mov (.val (.int .i64 0))), none⟩,
    ⟨(some 3), .op (.mov (.val (.int .i64 0))), none⟩])
  (.seq (.seq (.region [⟨(some 4), .op (.mov (.tmp 0)), none⟩,
     ⟨(some 5), .op (.eql false .ptr (.tmp 4) (.val .nilp)), none⟩])
   (.cond (.tmp 5) (.seq (.region [⟨(some 2), .op (.mov (.val (.int .i64 0))), none⟩,
      ⟨(some 3), .op (.mov (.val (.int .i64 0))), none⟩])
    (.ret))
   (.skip)))
  (.seq (.region [⟨(some 6), .op (.mov (.tmp 0)), none⟩,
    ⟨(some 7), .op (.nilCheck (.tmp 6)), none⟩,
    ⟨(some 8), .op (.fieldAddr 0 (.tmp 7)), none⟩,
    ⟨(some 9), .op (.load none (.tmp 8)), none⟩,
    ⟨(some 10), .call (.fnv 21) [(.tmp 9)], none⟩,
    ⟨(some 11), .op (.extract (.tmp 10) 0), none⟩,
    ⟨(some 12), .op (.extract (.tmp 10) 1), none⟩,
    ⟨(some 2), .op (.mov (.tmp 11)), none⟩,
    ⟨(some 3), .op (.mov (.tmp 12)), none⟩])
  (.ret))),
  [.tmp 2, .tmp 3], none, none⟩
def A42 : AFun := ⟨.seq (.region [⟨(some 4), .op (.mov (.val .nilp)), none⟩,
    ⟨(some 5), .op (.mov (.val (.int .i64 0))), none⟩])
  (.seq (.seq (.region [⟨(some 9), .op (.mov (.tmp 1)), none⟩,
     ⟨(some 10), .op (.bin .lss (.tmp 9) (.val (.int .i64 1))), none⟩,
     ⟨(some 11), .op (.mov (.tmp 10)), none⟩,
     ⟨(some 12), .op (.mov (.tmp 1)), (some (11, false))⟩,
     ⟨(some 13), .op (.bin .gtr (.tmp 12) (.val (.int .i64 8))), (some (11, false))⟩,
     ⟨(some 14), .op (.pick (.tmp 11) (.val (.bool true)) (.tmp 13)), none⟩])
   (.cond (.tmp 14) (.seq (.region [⟨(some 4), .op (.mov (.val .nilp)), none⟩,
      ⟨(some 5), .op (.mov (.val (.int .i64 1))), none⟩])
    (.ret))
   (.skip)))
  (.seq (.region [⟨(some 16), .op (.mov (.tmp 0)), none⟩,
    ⟨(some 17), .call (.fnv 30) [(.tmp 16)], none⟩,
    ⟨(some 15), .op (.mov (.tmp 17)), none⟩,
    ⟨(some 18), .op (.extract (.tmp 15) 0), none⟩,
    ⟨(some 19), .op (.extract (.tmp 15) 1), none⟩,
    ⟨(some 6), .op (.mov (.tmp 18)), none⟩,
    ⟨(some 7), .op (.mov (.tmp 19)), none⟩])
  (.seq (.seq (.region [⟨(some 20), .op (.mov (.tmp 7)), none⟩,
     ⟨(some 21), .op (.bin .neq (.tmp 20) (.val (.int .i64 0))), none⟩])
   (.cond (.tmp 21) (.seq (.region [⟨(some 22), .op (.mov (.tmp 7)), none⟩,
      ⟨(some 4), .op (.mov (.val .nilp)), none⟩,
      ⟨(some 5), .op (.mov (.tmp 22)), none⟩])
    (.ret))
   (.skip)))
  (.seq (.region [⟨(some 23), .op (.mov (.tmp 6)), none⟩,
    ⟨(some 24), .op (.mkMap), none⟩,
    ⟨(some 25), .op (.build [.nilp, .nilm, .nils, (.int .i64 0), (.int .i64 0)] [(0, 1, (.tmp 23)), (1, 1, (.tmp 24))]), none⟩,
    ⟨(some 26), .op (.box (.tmp 25)), none⟩,
    ⟨(some 8), .op (.mov (.tmp 26)), none⟩])
  (.seq (.seq (.region [⟨(some 27), .op (.mov (.tmp 1)), none⟩,
     ⟨(some 28), .op (.mov (.val (.int .i64 0))), none⟩])
   (.block 0 (.loop (.seq (.region [⟨(some 29), .op (.bin .lss (.tmp 28) (.tmp 27)), none⟩])
     (.seq (.cond (.tmp 29) (.skip)
      (.exit 0))
     (.seq (.block 1 (.draw [⟨⟨(some 30), .op (.mov (.tmp 8)), none⟩, .pure⟩,
        ⟨⟨(some 31), .op (.mov (.tmp 8)), none⟩, .pure⟩,
        ⟨⟨(some 32), .op (.nilCheck (.tmp 31)), none⟩, .pure⟩,
        ⟨⟨(some 33), .op (.fieldAddr 2 (.tmp 32)), none⟩, .pure⟩,
        ⟨⟨(some 34), .op (.load none (.tmp 33)), none⟩, .read [6, 7, 8]⟩,
        ⟨⟨(some 35), .call (.fnv 65) [], none⟩, .act true⟩,
        ⟨⟨(some 36), .op (.mkSlice 1 8 [.nilp] (.tmp 35)), none⟩, .act true⟩,
        ⟨⟨(some 37), .op (.buildSlice 1 1 [.nils] [(0, (.tmp 36))]), none⟩, .act true⟩,
        ⟨⟨(some 38), .op (.append 1 24 (.tmp 34) (.tmp 37)), none⟩, .act true⟩,
        ⟨⟨(some 39), .op (.nilCheck (.tmp 30)), none⟩, .pure⟩,
        ⟨⟨(some 40), .op (.fieldAddr 2 (.tmp 39)), none⟩, .pure⟩,
        ⟨⟨none, .op (.store 1 (.tmp 40) (.tmp 38)), none⟩, .act true⟩]))
     (.region [⟨(some 41), .op (.bin .add (.tmp 28) (.val (.int .i64 1))), none⟩,
      ⟨(some 28), .op (.mov (.tmp 41)), none⟩])))))))
  (.seq (.region [⟨(some 42), .op (.mov (.tmp 8)), none⟩,
    ⟨(some 4), .op (.mov (.tmp 42)), none⟩,
    ⟨(some 5), .op (.mov (.val (.int .i64 0))), none⟩])
  (.ret))))))),
  [.tmp 4, .tmp 5], none, none⟩
def A43 : AFun := ⟨.seq (.region [⟨(some 0), .op (.mov (.val (.bool false))), none⟩])
  (.seq (.region [⟨(some 13), .call (.fnv 42) [(.val (.int .i64 8)), (.val (.int .i64 2))], none⟩,
    ⟨(some 12), .op (.mov (.tmp 13)), none⟩,
    ⟨(some 14), .op (.extract (.tmp 12) 0), none⟩,
    ⟨(some 15), .op (.extract (.tmp 12) 1), none⟩,
    ⟨(some 1), .op (.mov (.tmp 14)), none⟩,
    ⟨(some 2), .op (.mov (.tmp 15)), none⟩])
  (.seq (.seq (.region [⟨(some 16), .op (.mov (.tmp 1)), none⟩,
     ⟨(some 17), .op (.eql false .ptr (.tmp 16) (.val .nilp)), none⟩,
     ⟨(some 18), .op (.mov (.tmp 17)), none⟩,
     ⟨(some 19), .op (.mov (.tmp 2)), (some (18, false))⟩,
     ⟨(some 20), .op (.bin .neq (.tmp 19) (.val (.int .i64 0))), (some (18, false))⟩,
     ⟨(some 21), .op (.pick (.tmp 18) (.val (.bool true)) (.tmp 20)), none⟩])
   (.cond (.tmp 21) (.seq (.region [⟨(some 0), .op (.mov (.val (.bool false))), none⟩])
    (.ret))
   (.skip)))
  (.seq (.region [⟨(some 23), .op (.mov (.tmp 1)), none⟩,
    ⟨(some 24), .call (.fnv 44) [(.tmp 23), (.val (.int .i64 0)), (.val (.int .i64 3))], none⟩,
    ⟨(some 22), .op (.mov (.tmp 24)), none⟩,
    ⟨(some 25), .op (.extract (.tmp 22) 0), none⟩,
    ⟨(some 26), .op (.extract (.tmp 22) 1), none⟩,
    ⟨(some 3), .op (.mov (.tmp 25)), none⟩,
    ⟨(some 4), .op (.mov (.tmp 26)), none⟩])
  (.seq (.region [⟨(some 28), .op (.mov (.tmp 1)), none⟩,
    ⟨(some 29), .call (.fnv 44) [(.tmp 28), (.val (.int .i64 0)), (.val (.int .i64 3))], none⟩,
    ⟨(some 27), .op (.mov (.tmp 29)), none⟩,
    ⟨(some 30), .op (.extract (.tmp 27) 0), none⟩,
    ⟨(some 31), .op (.extract (.tmp 27) 1), none⟩,
    ⟨(some 5), .op (.mov (.tmp 30)), none⟩,
    ⟨(some 6), .op (.mov (.tmp 31)), none⟩])
  (.seq (.region [⟨(some 33), .op (.mov (.tmp 1)), none⟩,
    ⟨(some 34), .call (.fnv 44) [(.tmp 33), (.val (.int .i64 1)), (.val (.int .i64 3))], none⟩,
    ⟨(some 32), .op (.mov (.tmp 34)), none⟩,
    ⟨(some 35), .op (.extract (.tmp 32) 0), none⟩,
    ⟨(some 36), .op (.extract (.tmp 32) 1), none⟩,
    ⟨(some 7), .op (.mov (.tmp 35)), none⟩,
    ⟨(some 8), .op (.mov (.tmp 36)), none⟩])
  (.seq (.region [⟨(some 38), .op (.mov (.tmp 1)), none⟩,
    ⟨(some 39), .call (.fnv 45) [(.tmp 38), (.val (.int .i64 5))], none⟩,
    ⟨(some 37), .op (.mov (.tmp 39)), none⟩,
    ⟨(some 40), .op (.extract (.tmp 37) 0), none⟩,
    ⟨(some 41), .op (.extract (.tmp 37) 1), none⟩,
    ⟨(some 42), .op (.extract (.tmp 37) 2), none⟩,
    ⟨(some 9), .op (.mov (.tmp 40)), none⟩,
    ⟨(some 10), .op (.mov (.tmp 41)), none⟩,
    ⟨(some 11), .op (.mov (.tmp 42)), none⟩])
  (.seq (.region [⟨(some 43), .op (.mov (.tmp 4)), none⟩,
    ⟨(some 44), .op (.bin .eql (.tmp 43) (.val (.int .i64 0))), none⟩,
    ⟨(some 45), .op (.mov (.tmp 44)), none⟩,
    ⟨(some 46), .op (.mov (.tmp 6)), (some (45, true))⟩,
    ⟨(some 47), .op (.bin .eql (.tmp 46) (.val (.int .i64 0))), (some (45, true))⟩,
    ⟨(some 48), .op (.pick (.tmp 45) (.tmp 47) (.val (.bool false))), none⟩,
    ⟨(some 49), .op (.mov (.tmp 48)), none⟩,
    ⟨(some 50), .op (.mov (.tmp 8)), (some (49, true))⟩,
    ⟨(some 51), .op (.bin .eql (.tmp 50) (.val (.int .i64 0))), (some (49, true))⟩,
    ⟨(some 52), .op (.pick (.tmp 49) (.tmp 51) (.val (.bool false))), none⟩,
    ⟨(some 53), .op (.mov (.tmp 52)), none⟩,
    ⟨(some 54), .op (.mov (.tmp 3)), (some (53, true))⟩,
    ⟨(some 55), .op (.bin .eql (.tmp 54) (.val (.int .i64 0))), (some (53, true))⟩,
    ⟨(some 56), .op (.pick (.tmp 53) (.tmp 55) (.val (.bool false))), none⟩,
    ⟨(some 57), .op (.mov (.tmp 56)), none⟩,
    ⟨(some 58), .op (.mov (.tmp 5)), (some (57, true))⟩,
    ⟨(some 59), .op (.bin .eql (.tmp 58) (.val (.int .i64 3))), (some (57, true))⟩,
    ⟨(some 60), .op (.pick (.tmp 57) (.tmp 59) (.val (.bool false))), none⟩,
    ⟨(some 61), .op (.mov (.tmp 60)), none⟩,
    ⟨(some 62), .op (.mov (.tmp 7)), (some (61, true))⟩,
    ⟨(some 63), .op (.bin .eql (.tmp 62) (.val (.int .i64 64))), (some (61, true))⟩,
    ⟨(some 64), .op (.pick (.tmp 61) (.tmp 63) (.val (.bool false))), none⟩,
    ⟨(some 65), .op (.mov (.tmp 64)), none⟩,
    ⟨(some 66), .op (.mov (.tmp 11)), (some (65, true))⟩,
    ⟨(some 67), .op (.pick (.tmp 65) (.tmp 66) (.val (.bool false))), none⟩,
    ⟨(some 68), .op (.mov (.tmp 67)), none⟩,
    ⟨(some 69), .op (.mov (.tmp 9)), (some (68, true))⟩,
    ⟨(some 70), .op (.bin .eql (.tmp 69) (.val (.int .i64 3))), (some (68, true))⟩,
    ⟨(some 71), .op (.pick (.tmp 68) (.tmp 70) (.val (.bool false))), none⟩,
    ⟨(some 72), .op (.mov (.tmp 71)), none⟩,
    ⟨(some 73), .op (.mov (.tmp 10)), (some (72, true))⟩,
    ⟨(some 74), .op (.bin .eql (.tmp 73) (.val (.int .i64 3))), (some (72, true))⟩,
    ⟨(some 75), .op (.pick (.tmp 72) (.tmp 74) (.val (.bool false))), none⟩,
    ⟨(some 76), .op (.mov (.tmp 75)), none⟩,
    ⟨(some 77), .op (.mov (.tmp 1)), (some (76, true))⟩,
    ⟨(some 78), .call (.fnv 48) [(.tmp 77), (.val (.int .i64 1))], (some (76, true))⟩,
    ⟨(some 79), .op (.pick (.tmp 76) (.tmp 78) (.val (.bool false))), none⟩,
    ⟨(some 80), .op (.mov (.tmp 79)), none⟩,
    ⟨(some 81), .op (.mov (.tmp 1)), (some (80, true))⟩,
    ⟨(some 82), .call (.fnv 48) [(.tmp 81), (.val (.int .i64 2))], (some (80, true))⟩,
    ⟨(some 83), .op (.un .not (.tmp 82)), (some (80, true))⟩,
    ⟨(some 84), .op (.pick (.tmp 80) (.tmp 83) (.val (.bool false))), none⟩,
    ⟨(some 0), .op (.mov (.tmp 84)), none⟩])
  (.ret)))))))),
  [.tmp 0], none, none⟩
def A44 : AFun := ⟨.seq (.region [⟨(some 6), .op (.mov (.val (.int .i64 0))), none⟩,
    ⟨(some 7), .op (.mov (.val (.int .i64 0))), none⟩])
  (.seq (.block 0 (.seq (.region [⟨(some 15), .op (.mov (.tmp 0)), none⟩,
      ⟨(some 16), .op (.eql false .ptr (.tmp 15) (.val .nilp)), none⟩,
      ⟨(some 14), .op (.mov (.tmp 16)), none⟩])
    (.cond (.tmp 14) (.seq (.region [⟨(some 6), .op (.mov (.val (.int .i64 0))), none⟩,
       ⟨(some 7), .op (.mov (.val (.int .i64 5))), none⟩])
     (.ret))
    (.seq (.region [⟨(some 18), .op (.mov (.tmp 1)), none⟩,
      ⟨(some 19), .op (.bin .lss (.tmp 18) (.val (.int .i64 0))), none⟩,
      ⟨(some 20), .op (.mov (.tmp 19)), none⟩,
      ⟨(some 21), .op (.mov (.tmp 1)), (some (20, false))⟩,
      ⟨(some 22), .op (.mov (.tmp 0)), (some (20, false))⟩,
      ⟨(some 23), .op (.nilCheck (.tmp 22)), (some (20, false))⟩,
      ⟨(some 24), .op (.fieldAddr 2 (.tmp 23)), (some (20, false))⟩,
      ⟨(some 25), .op (.load none (.tmp 24)), (some (20, false))⟩,
      ⟨(some 26), .op (.lenS (.tmp 25)), (some (20, false))⟩,
      ⟨(some 27), .op (.bin .geq (.tmp 21) (.tmp 26)), (some (20, false))⟩,
      ⟨(some 28), .op (.pick (.tmp 20) (.val (.bool true)) (.tmp 27)), none⟩,
      ⟨(some 29), .op (.mov (.tmp 28)), none⟩,
      ⟨(some 30), .op (.mov (.tmp 2)), (some (29, false))⟩,
      ⟨(some 31), .op (.bin .lss (.tmp 30) (.val (.int .i64 1))), (some (29, false))⟩,
      ⟨(some 32), .op (.pick (.tmp 29) (.val (.bool true)) (.tmp 31)), none⟩,
      ⟨(some 17), .op (.mov (.tmp 32)), none⟩])
    (.cond (.tmp 17) (.seq (.region [⟨(some 6), .op (.mov (.val (.int .i64 0))), none⟩,
       ⟨(some 7), .op (.mov (.val (.int .i64 1))), none⟩])
     (.ret))
    (.seq (.region [⟨(some 34), .op (.mov (.tmp 2)), none⟩,
      ⟨(some 35), .op (.bin .gtr (.tmp 34) (.val (.int .i64 1024))), none⟩,
      ⟨(some 33), .op (.mov (.tmp 35)), none⟩])
    (.cond (.tmp 33) (.seq (.region [⟨(some 6), .op (.mov (.val (.int .i64 0))), none⟩,
       ⟨(some 7), .op (.mov (.val (.int .i64 2))), none⟩])
     (.ret))
    (.skip))))))))
  (.seq (.region [⟨(some 37), .op (.mov (.tmp 2)), none⟩,
    ⟨(some 38), .call (.fnv 66) [(.tmp 37)], none⟩,
    ⟨(some 36), .op (.mov (.tmp 38)), none⟩,
    ⟨(some 39), .op (.extract (.tmp 36) 0), none⟩,
    ⟨(some 40), .op (.extract (.tmp 36) 1), none⟩,
    ⟨(some 8), .op (.mov (.tmp 39)), none⟩,
    ⟨(some 9), .op (.mov (.tmp 40)), none⟩])
  (.seq (.seq (.region [⟨(some 41), .op (.mov (.tmp 9)), none⟩,
     ⟨(some 42), .op (.bin .neq (.tmp 41) (.val (.int .i64 0))), none⟩])
   (.cond (.tmp 42) (.seq (.region [⟨(some 44), .op (.mov (.tmp 0)), none⟩,
      ⟨(some 45), .op (.mov (.tmp 2)), none⟩,
      ⟨(some 46), .op (.bin .add (.tmp 45) (.val (.int .i64 64))), none⟩,
      ⟨(some 47), .op (.bin .sub (.tmp 46) (.val (.int .i64 1))), none⟩,
      ⟨(some 48), .op (.bin .quo (.tmp 47) (.val (.int .i64 64))), none⟩,
      ⟨(some 49), .call (.fnv 67) [(.tmp 44), (.tmp 48), (.val (.int .i64 (-1)))], none⟩,
      ⟨(some 43), .op (.mov (.tmp 49)), none⟩,
      ⟨(some 50), .op (.extract (.tmp 43) 0), none⟩,
      ⟨(some 51), .op (.extract (.tmp 43) 1), none⟩,
      ⟨(some 10), .op (.mov (.tmp 50)), none⟩,
      ⟨(some 11), .op (.mov (.tmp 51)), none⟩])
    (.seq (.seq (.region [⟨(some 52), .op (.mov (.tmp 11)), none⟩,
       ⟨(some 53), .op (.bin .neq (.tmp 52) (.val (.int .i64 0))), none⟩])
     (.cond (.tmp 53) (.seq (.region [⟨(some 54), .op (.mov (.tmp 11)), none⟩,
        ⟨(some 6), .op (.mov (.val (.int .i64 0))), none⟩,
        ⟨(some 7), .op (.mov (.tmp 54)), none⟩])
      (.ret))
     (.skip)))
    (.seq (.region [⟨(some 55), .op (.mov (.tmp 10)), none⟩,
      ⟨(some 56), .op (.nilCheck (.tmp 55)), none⟩,
      ⟨(some 57), .op (.fieldAddr 4 (.tmp 56)), none⟩,
      ⟨none, .op (.store 1 (.tmp 57) (.val (.int .u64 1))), none⟩])
    (.seq (.region [⟨(some 58), .op (.mov (.tmp 0)), none⟩,
      ⟨(some 59), .op (.mov (.tmp 10)), none⟩,
      ⟨(some 60), .call (.fnv 68) [(.tmp 58), (.tmp 59), (.val (.int .i64 0))], none⟩,
      ⟨(some 6), .op (.mov (.tmp 60)), none⟩,
      ⟨(some 7), .op (.mov (.val (.int .i64 0))), none⟩])
    (.ret)))))
   (.skip)))
  (.seq (.region [⟨(some 62), .op (.mov (.tmp 0)), none⟩,
    ⟨(some 63), .op (.mov (.tmp 1)), none⟩,
    ⟨(some 64), .op (.mov (.tmp 8)), none⟩,
    ⟨(some 65), .call (.fnv 69) [(.tmp 62), (.tmp 63), (.tmp 64)], none⟩,
    ⟨(some 61), .op (.mov (.tmp 65)), none⟩,
    ⟨(some 66), .op (.extract (.tmp 61) 0), none⟩,
    ⟨(some 67), .op (.extract (.tmp 61) 1), none⟩,
    ⟨(some 12), .op (.mov (.tmp 66)), none⟩,
    ⟨(some 9), .op (.mov (.tmp 67)), none⟩])
  (.seq (.seq (.region [⟨(some 68), .op (.mov (.tmp 9)), none⟩,
     ⟨(some 69), .op (.bin .neq (.tmp 68) (.val (.int .i64 0))), none⟩])
   (.cond (.tmp 69) (.seq (.region [⟨(some 70), .op (.mov (.tmp 9)), none⟩,
      ⟨(some 6), .op (.mov (.val (.int .i64 0))), none⟩,
      ⟨(some 7), .op (.mov (.tmp 70)), none⟩])
    (.ret))
   (.skip)))
  (.seq (.region [⟨(some 71), .op (.mov (.tmp 12)), none⟩,
    ⟨(some 72), .op (.nilCheck (.tmp 71)), none⟩,
    ⟨(some 73), .op (.fieldAddr 4 (.tmp 72)), none⟩,
    ⟨(some 74), .op (.load none (.tmp 73)), none⟩,
    ⟨(some 75), .op (.un .xor (.tmp 74)), none⟩,
    ⟨(some 76), .call (.fnv 70) [(.tmp 75)], none⟩,
    ⟨(some 13), .op (.mov (.tmp 76)), none⟩])
  (.seq (.draw [⟨⟨(some 77), .op (.mov (.tmp 12)), none⟩, .pure⟩,
    ⟨⟨(some 78), .op (.nilCheck (.tmp 77)), none⟩, .pure⟩,
    ⟨⟨(some 79), .op (.fieldAddr 4 (.tmp 78)), none⟩, .pure⟩,
    ⟨⟨(some 80), .op (.load none (.tmp 79)), none⟩, .read []⟩,
    ⟨⟨(some 81), .op (.mov (.tmp 13)), none⟩, .pure⟩,
    ⟨⟨(some 82), .op (.bin .shl (.val (.int .u64 1)) (.tmp 81)), none⟩, .pure⟩,
    ⟨⟨(some 83), .op (.bin .or (.tmp 80) (.tmp 82)), none⟩, .pure⟩,
    ⟨⟨(some 84), .op (.nilCheck (.tmp 77)), none⟩, .pure⟩,
    ⟨⟨(some 85), .op (.fieldAddr 4 (.tmp 84)), none⟩, .pure⟩,
    ⟨⟨none, .op (.store 1 (.tmp 85) (.tmp 83)), none⟩, .act true⟩])
  (.seq (.region [⟨(some 86), .op (.mov (.tmp 0)), none⟩,
    ⟨(some 87), .op (.mov (.tmp 12)), none⟩,
    ⟨(some 88), .op (.mov (.tmp 13)), none⟩,
    ⟨(some 89), .call (.fnv 68) [(.tmp 86), (.tmp 87), (.tmp 88)], none⟩,
    ⟨(some 6), .op (.mov (.tmp 89)), none⟩,
    ⟨(some 7), .op (.mov (.val (.int .i64 0))), none⟩])
  (.ret))))))))),
  [.tmp 6, .tmp 7], none, none⟩
def A45 : AFun := ⟨.seq (.region [⟨(some 4), .op (.mov (.val (.int .i64 0))), none⟩,
    ⟨(some 5), .op (.mov (.val (.int .i64 0))), none⟩,
    ⟨(some 6), .op (.mov (.val (.bool false))), none⟩])
  (.seq (.region [⟨(some 11), .op (.mov (.tmp 0)), none⟩,
    ⟨(some 12), .op (.mov (.tmp 1)), none⟩,
    ⟨(some 13), .call (.fnv 71) [(.tmp 11), (.tmp 12)], none⟩,
    ⟨(some 10), .op (.mov (.tmp 13)), none⟩,
    ⟨(some 14), .op (.extract (.tmp 10) 0), none⟩,
    ⟨(some 15), .op (.extract (.tmp 10) 1), none⟩,
    ⟨(some 16), .op (.extract (.tmp 10) 2), none⟩,
    ⟨(some 7), .op (.mov (.tmp 14)), none⟩,
    ⟨(some 8), .op (.mov (.tmp 15)), none⟩,
    ⟨(some 9), .op (.mov (.tmp 16)), none⟩])
  (.seq (.seq (.region [⟨(some 17), .op (.mov (.tmp 9)), none⟩,
     ⟨(some 18), .op (.un .not (.tmp 17)), none⟩])
   (.cond (.tmp 18) (.seq (.region [⟨(some 4), .op (.mov (.val (.int .i64 0))), none⟩,
      ⟨(some 5), .op (.mov (.val (.int .i64 0))), none⟩,
      ⟨(some 6), .op (.mov (.val (.bool false))), none⟩])
    (.ret))
   (.skip)))
  (.seq (.draw [⟨⟨(some 19), .op (.mov (.tmp 7)), none⟩, .pure⟩,
    ⟨⟨(some 20), .op (.nilCheck (.tmp 19)), none⟩, .pure⟩,
    ⟨⟨(some 21), .op (.fieldAddr 0 (.tmp 20)), none⟩, .pure⟩,
    ⟨⟨(some 22), .op (.fieldAddr 0 (.tmp 21)), none⟩, .pure⟩,
    ⟨⟨(some 23), .op (.load none (.tmp 22)), none⟩, .read [12, 16]⟩,
    ⟨⟨(some 24), .op (.bin .mul (.tmp 23) (.val (.int .i64 64))), none⟩, .pure⟩,
    ⟨⟨(some 25), .op (.mov (.tmp 8)), none⟩, .pure⟩,
    ⟨⟨(some 26), .op (.mov (.tmp 7)), none⟩, .pure⟩,
    ⟨⟨(some 27), .call (.fnv 72) [(.tmp 26)], none⟩, .act false⟩,
    ⟨⟨(some 28), .op (.bin .mul (.tmp 25) (.tmp 27)), none⟩, .pure⟩,
    ⟨⟨(some 29), .op (.bin .add (.tmp 24) (.tmp 28)), none⟩, .pure⟩,
    ⟨⟨(some 30), .op (.mov (.tmp 7)), none⟩, .pure⟩,
    ⟨⟨(some 31), .call (.fnv 72) [(.tmp 30)], none⟩, .act true⟩,
    ⟨⟨(some 4), .op (.mov (.tmp 29)), none⟩, .pure⟩,
    ⟨⟨(some 5), .op (.mov (.tmp 31)), none⟩, .pure⟩,
    ⟨⟨(some 6), .op (.mov (.val (.bool true))), none⟩, .pure⟩])
  (.ret)))),
  [.tmp 4, .tmp 5, .tmp 6], none, none⟩
def A46 : AFun := ⟨.seq (.region [⟨(some 4), .op (.mov (.val (.int .i64 0))), none⟩])
  (.seq (.seq (.region [⟨(some 8), .op (.mov (.tmp 0)), none⟩,
     ⟨(some 9), .op (.eql false .ptr (.tmp 8) (.val .nilp)), none⟩])
   (.cond (.tmp 9) (.seq (.region [⟨(some 4), .op (.mov (.val (.int .i64 5))), none⟩])
    (.ret))
   (.skip)))
  (.seq (.region [⟨(some 11), .op (.mov (.tmp 0)), none⟩,
    ⟨(some 12), .op (.mov (.tmp 1)), none⟩,
    ⟨(some 13), .call (.fnv 71) [(.tmp 11), (.tmp 12)], none⟩,
    ⟨(some 10), .op (.mov (.tmp 13)), none⟩,
    ⟨(some 14), .op (.extract (.tmp 10) 0), none⟩,
    ⟨(some 15), .op (.extract (.tmp 10) 1), none⟩,
    ⟨(some 16), .op (.extract (.tmp 10) 2), none⟩,
    ⟨(some 5), .op (.mov (.tmp 14)), none⟩,
    ⟨(some 6), .op (.mov (.tmp 15)), none⟩,
    ⟨(some 7), .op (.mov (.tmp 16)), none⟩])
  (.seq (.seq (.draw [⟨⟨(some 17), .op (.mov (.tmp 7)), none⟩, .pure⟩,
     ⟨⟨(some 18), .op (.un .not (.tmp 17)), none⟩, .pure⟩,
     ⟨⟨(some 19), .op (.mov (.tmp 18)), none⟩, .pure⟩,
     ⟨⟨(some 20), .op (.mov (.tmp 1)), (some (19, false))⟩, .pure⟩,
     ⟨⟨(some 21), .op (.mov (.tmp 5)), (some (19, false))⟩, .pure⟩,
     ⟨⟨(some 22), .op (.nilCheck (.tmp 21)), (some (19, false))⟩, .pure⟩,
     ⟨⟨(some 23), .op (.fieldAddr 0 (.tmp 22)), (some (19, false))⟩, .pure⟩,
     ⟨⟨(some 24), .op (.fieldAddr 0 (.tmp 23)), (some (19, false))⟩, .pure⟩,
     ⟨⟨(some 25), .op (.load none (.tmp 24)), (some (19, false))⟩, .read [17]⟩,
     ⟨⟨(some 26), .op (.bin .mul (.tmp 25) (.val (.int .i64 64))), (some (19, false))⟩, .pure⟩,
     ⟨⟨(some 27), .op (.mov (.tmp 6)), (some (19, false))⟩, .pure⟩,
     ⟨⟨(some 28), .op (.mov (.tmp 5)), (some (19, false))⟩, .pure⟩,
     ⟨⟨(some 29), .call (.fnv 72) [(.tmp 28)], (some (19, false))⟩, .act true⟩,
     ⟨⟨(some 30), .op (.bin .mul (.tmp 27) (.tmp 29)), (some (19, false))⟩, .pure⟩,
     ⟨⟨(some 31), .op (.bin .add (.tmp 26) (.tmp 30)), (some (19, false))⟩, .pure⟩,
     ⟨⟨(some 32), .op (.bin .neq (.tmp 20) (.tmp 31)), (some (19, false))⟩, .pure⟩,
     ⟨⟨(some 33), .op (.pick (.tmp 19) (.val (.bool true)) (.tmp 32)), none⟩, .pure⟩])
   (.cond (.tmp 33) (.seq (.region [⟨(some 4), .op (.mov (.val (.int .i64 4))), none⟩])
    (.ret))
   (.skip)))
  (.seq (.draw [⟨⟨(some 34), .op (.mov (.tmp 5)), none⟩, .pure⟩,
    ⟨⟨(some 35), .op (.nilCheck (.tmp 34)), none⟩, .pure⟩,
    ⟨⟨(some 36), .op (.fieldAddr 4 (.tmp 35)), none⟩, .pure⟩,
    ⟨⟨(some 37), .op (.load none (.tmp 36)), none⟩, .read []⟩,
    ⟨⟨(some 38), .op (.mov (.tmp 6)), none⟩, .pure⟩,
    ⟨⟨(some 39), .op (.bin .shl (.val (.int .u64 1)) (.tmp 38)), none⟩, .pure⟩,
    ⟨⟨(some 40), .op (.bin .andNot (.tmp 37) (.tmp 39)), none⟩, .pure⟩,
    ⟨⟨(some 41), .op (.nilCheck (.tmp 34)), none⟩, .pure⟩,
    ⟨⟨(some 42), .op (.fieldAddr 4 (.tmp 41)), none⟩, .pure⟩,
    ⟨⟨none, .op (.store 1 (.tmp 42) (.tmp 40)), none⟩, .act true⟩])
  (.seq (.region [⟨(some 43), .op (.mov (.tmp 0)), none⟩,
    ⟨(some 44), .op (.nilCheck (.tmp 43)), none⟩,
    ⟨(some 45), .op (.fieldAddr 3 (.tmp 44)), none⟩,
    ⟨(some 46), .op (.load none (.tmp 45)), none⟩,
    ⟨(some 47), .op (.bin .sub (.tmp 46) (.val (.int .i64 1))), none⟩,
    ⟨(some 48), .op (.nilCheck (.tmp 43)), none⟩,
    ⟨(some 49), .op (.fieldAddr 3 (.tmp 48)), none⟩,
    ⟨none, .op (.store 1 (.tmp 49) (.tmp 47)), none⟩])
  (.seq (.draw [⟨⟨(some 50), .op (.mov (.tmp 0)), none⟩, .pure⟩,
    ⟨⟨(some 51), .op (.nilCheck (.tmp 50)), none⟩, .pure⟩,
    ⟨⟨(some 52), .op (.fieldAddr 4 (.tmp 51)), none⟩, .pure⟩,
    ⟨⟨(some 53), .op (.load none (.tmp 52)), none⟩, .read [9]⟩,
    ⟨⟨(some 54), .op (.mov (.tmp 5)), none⟩, .pure⟩,
    ⟨⟨(some 55), .call (.fnv 72) [(.tmp 54)], none⟩, .act true⟩,
    ⟨⟨(some 56), .op (.bin .sub (.tmp 53) (.tmp 55)), none⟩, .pure⟩,
    ⟨⟨(some 57), .op (.nilCheck (.tmp 50)), none⟩, .pure⟩,
    ⟨⟨(some 58), .op (.fieldAddr 4 (.tmp 57)), none⟩, .pure⟩,
    ⟨⟨none, .op (.store 1 (.tmp 58) (.tmp 56)), none⟩, .act true⟩])
  (.seq (.region [⟨(some 59), .op (.mov (.tmp 0)), none⟩,
    ⟨(some 60), .op (.mov (.tmp 5)), none⟩,
    ⟨(some 61), .call (.fnv 73) [(.tmp 59), (.tmp 60)], none⟩])
  (.seq (.region [⟨(some 4), .op (.mov (.val (.int .i64 0))), none⟩])
  (.ret))))))))),
  [.tmp 4], none, none⟩
def A47 : AFun := ⟨.seq (.region [⟨(some 2), .op (.mov (.val (.int .i64 0))), none⟩,
    ⟨(some 3), .op (.mov (.val (.int .i64 0))), none⟩,
    ⟨(some 4), .op (.mov (.val (.int .i64 0))), none⟩])
  (.seq (.seq (.region [⟨(some 7), .op (.mov (.tmp 0)), none⟩,
     ⟨(some 8), .op (.eql false .ptr (.tmp 7) (.val .nilp)), none⟩])
   (.cond (.tmp 8) (.seq (.region [⟨(some 2), .op (.mov (.val (.int .i64 0))), none⟩,
      ⟨(some 3), .op (.mov (.val (.int .i64 0))), none⟩,
      ⟨(some 4), .op (.mov (.val (.int .i64 0))), none⟩])
    (.ret))
   (.skip)))
  (.seq (.region [⟨(some 10), .op (.mov (.tmp 0)), none⟩,
    ⟨(some 11), .op (.nilCheck (.tmp 10)), none⟩,
    ⟨(some 12), .op (.fieldAddr 0 (.tmp 11)), none⟩,
    ⟨(some 13), .op (.load none (.tmp 12)), none⟩,
    ⟨(some 14), .call (.fnv 41) [(.tmp 13)], none⟩,
    ⟨(some 9), .op (.mov (.tmp 14)), none⟩,
    ⟨(some 15), .op (.extract (.tmp 9) 0), none⟩,
    ⟨(some 16), .op (.extract (.tmp 9) 1), none⟩,
    ⟨(some 5), .op (.mov (.tmp 15)), none⟩,
    ⟨(some 6), .op (.mov (.tmp 16)), none⟩])
  (.seq (.region [⟨(some 17), .op (.mov (.tmp 0)), none⟩,
    ⟨(some 18), .op (.nilCheck (.tmp 17)), none⟩,
    ⟨(some 19), .op (.fieldAddr 3 (.tmp 18)), none⟩,
    ⟨(some 20), .op (.load none (.tmp 19)), none⟩,
    ⟨(some 21), .op (.mov (.tmp 0)), none⟩,
    ⟨(some 22), .op (.nilCheck (.tmp 21)), none⟩,
    ⟨(some 23), .op (.fieldAddr 4 (.tmp 22)), none⟩,
    ⟨(some 24), .op (.load none (.tmp 23)), none⟩,
    ⟨(some 25), .op (.mov (.tmp 5)), none⟩,
    ⟨(some 2), .op (.mov (.tmp 20)), none⟩,
    ⟨(some 3), .op (.mov (.tmp 24)), none⟩,
    ⟨(some 4), .op (.mov (.tmp 25)), none⟩])
  (.ret)))),
  [.tmp 2, .tmp 3, .tmp 4], none, none⟩
def A48 : AFun := ⟨.seq (.region [⟨(some 4), .op (.mov (.val (.bool false))), none⟩])
  (.seq (.seq (.region [⟨(some 7), .op (.mov (.tmp 0)), none⟩,
     ⟨(some 8), .op (.eql false .ptr (.tmp 7) (.val .nilp)), none⟩])
   (.cond (.tmp 8) (.seq (.region [⟨(some 4), .op (.mov (.val (.bool false))), none⟩])
    (.ret))
   (.skip)))
  (.seq (.region [⟨(some 10), .op (.mov (.tmp 0)), none⟩,
    ⟨(some 11), .op (.nilCheck (.tmp 10)), none⟩,
    ⟨(some 12), .op (.fieldAddr 0 (.tmp 11)), none⟩,
    ⟨(some 13), .op (.load none (.tmp 12)), none⟩,
    ⟨(some 14), .op (.mov (.tmp 1)), none⟩,
    ⟨(some 15), .call (.fnv 32) [(.tmp 13), (.tmp 14)], none⟩,
    ⟨(some 9), .op (.mov (.tmp 15)), none⟩,
    ⟨(some 16), .op (.extract (.tmp 9) 0), none⟩,
    ⟨(some 17), .op (.extract (.tmp 9) 1), none⟩,
    ⟨(some 5), .op (.alloc [(.int .i64 0), (.int .i64 0), (.int .i64 0)]), none⟩,
    ⟨none, .op (.store 3 (.tmp 5) (.tmp 16)), none⟩,
    ⟨(some 6), .op (.mov (.tmp 17)), none⟩])
  (.seq (.region [⟨(some 18), .op (.mov (.tmp 6)), none⟩,
    ⟨(some 4), .op (.mov (.tmp 18)), none⟩])
  (.ret)))),
  [.tmp 4], none, none⟩
def A49 : AFun := ⟨.seq (.region [⟨(some 4), .op (.mov (.val (.int .i64 0))), none⟩])
  (.seq (.seq (.region [⟨(some 7), .op (.mov (.tmp 0)), none⟩,
     ⟨(some 8), .op (.eql false .ptr (.tmp 7) (.val .nilp)), none⟩])
   (.cond (.tmp 8) (.seq (.region [⟨(some 4), .op (.mov (.val (.int .i64 5))), none⟩])
    (.ret))
   (.skip)))
  (.seq (.seq (.region [⟨(some 9), .op (.mov (.tmp 1)), none⟩,
     ⟨(some 10), .op (.bin .lss (.tmp 9) (.val (.int .i64 0))), none⟩,
     ⟨(some 11), .op (.mov (.tmp 10)), none⟩,
     ⟨(some 12), .op (.mov (.tmp 1)), (some (11, false))⟩,
     ⟨(some 13), .op (.mov (.tmp 0)), (some (11, false))⟩,
     ⟨(some 14), .op (.nilCheck (.tmp 13)), (some (11, false))⟩,
     ⟨(some 15), .op (.fieldAddr 2 (.tmp 14)), (some (11, false))⟩,
     ⟨(some 16), .op (.load none (.tmp 15)), (some (11, false))⟩,
     ⟨(some 17), .op (.lenS (.tmp 16)), (some (11, false))⟩,
     ⟨(some 18), .op (.bin .geq (.tmp 12) (.tmp 17)), (some (11, false))⟩,
     ⟨(some 19), .op (.pick (.tmp 11) (.val (.bool true)) (.tmp 18)), none⟩])
   (.cond (.tmp 19) (.seq (.region [⟨(some 4), .op (.mov (.val (.int .i64 1))), none⟩])
    (.ret))
   (.skip)))
  (.seq (.seq (.region [⟨(some 20), .op (.mov (.tmp 0)), none⟩,
     ⟨(some 21), .op (.nilCheck (.tmp 20)), none⟩,
     ⟨(some 22), .op (.fieldAddr 2 (.tmp 21)), none⟩,
     ⟨(some 23), .op (.load none (.tmp 22)), none⟩,
     ⟨(some 24), .op (.mov (.tmp 1)), none⟩,
     ⟨(some 25), .op (.idxS 1 (.tmp 23) (.tmp 24)), none⟩,
     ⟨(some 26), .op (.load none (.tmp 25)), none⟩,
     ⟨(some 27), .op (.lenS (.tmp 26)), none⟩,
     ⟨(some 28), .op (.mov (.val (.int .i64 0))), none⟩])
   (.block 0 (.loop (.seq (.region [⟨(some 29), .op (.bin .lss (.tmp 28) (.tmp 27)), none⟩])
     (.seq (.cond (.tmp 29) (.skip)
      (.exit 0))
     (.seq (.block 1 (.seq (.region [⟨(some 30), .op (.mov (.tmp 28)), none⟩,
         ⟨(some 31), .op (.idxS 1 (.tmp 26) (.tmp 28)), none⟩,
         ⟨(some 32), .op (.load none (.tmp 31)), none⟩,
         ⟨(some 5), .op (.mov (.tmp 30)), none⟩,
         ⟨(some 6), .op (.mov (.tmp 32)), none⟩])
       (.seq (.region [⟨(some 33), .op (.mov (.tmp 6)), none⟩,
         ⟨(some 34), .op (.eql true .ptr (.tmp 33) (.val .nilp)), none⟩])
       (.cond (.tmp 34) (.seq (.region [⟨(some 35), .op (.mov (.tmp 6)), none⟩,
          ⟨(some 36), .op (.mov (.tmp 0)), none⟩,
          ⟨(some 37), .op (.nilCheck (.tmp 36)), none⟩,
          ⟨(some 38), .op (.fieldAddr 2 (.tmp 37)), none⟩,
          ⟨(some 39), .op (.load none (.tmp 38)), none⟩,
          ⟨(some 40), .op (.mov (.tmp 1)), none⟩,
          ⟨(some 41), .op (.idxS 1 (.tmp 39) (.tmp 40)), none⟩,
          ⟨(some 42), .op (.load none (.tmp 41)), none⟩,
          ⟨(some 43), .op (.mov (.tmp 5)), none⟩,
          ⟨(some 44), .op (.nilCheck (.tmp 35)), none⟩,
          ⟨(some 45), .op (.fieldAddr 5 (.tmp 44)), none⟩,
          ⟨none, .op (.store 1 (.tmp 45) (.val (.bool false))), none⟩,
          ⟨(some 46), .op (.idxS 1 (.tmp 42) (.tmp 43)), none⟩,
          ⟨none, .op (.store 1 (.tmp 46) (.val .nilp)), none⟩])
        (.region [⟨(some 47), .op (.mov (.tmp 0)), none⟩,
         ⟨(some 48), .op (.mov (.tmp 6)), none⟩,
         ⟨(some 49), .call (.fnv 73) [(.tmp 47), (.tmp 48)], none⟩]))
       (.skip)))))
     (.region [⟨(some 50), .op (.bin .add (.tmp 28) (.val (.int .i64 1))), none⟩,
      ⟨(some 28), .op (.mov (.tmp 50)), none⟩])))))))
  (.seq (.region [⟨(some 4), .op (.mov (.val (.int .i64 0))), none⟩])
  (.ret))))),
  [.tmp 4], none, none⟩
def A50 : AFun := ⟨.seq (.region [⟨(some 4), .op (.mov (.val (.int .i64 0))), none⟩])
  (.seq (.seq (.region [⟨(some 7), .op (.mov (.tmp 0)), none⟩,
     ⟨(some 8), .op (.eql false .ptr (.tmp 7) (.val .nilp)), none⟩])
   (.cond (.tmp 8) (.seq (.region [⟨(some 4), .op (.mov (.val (.int .i64 5))), none⟩])
    (.ret))
   (.skip)))
  (.seq (.seq (.region [⟨(some 10), .op (.mov (.tmp 0)), none⟩,
     ⟨(some 11), .op (.nilCheck (.tmp 10)), none⟩,
     ⟨(some 12), .op (.fieldAddr 0 (.tmp 11)), none⟩,
     ⟨(some 13), .op (.load none (.tmp 12)), none⟩,
     ⟨(some 14), .op (.mov (.tmp 1)), none⟩,
     ⟨(some 15), .call (.fnv 32) [(.tmp 13), (.tmp 14)], none⟩,
     ⟨(some 9), .op (.mov (.tmp 15)), none⟩,
     ⟨(some 16), .op (.extract (.tmp 9) 0), none⟩,
     ⟨(some 17), .op (.extract (.tmp 9) 1), none⟩,
     ⟨(some 5), .op (.alloc [(.int .i64 0), (.int .i64 0), (.int .i64 0)]), none⟩,
     ⟨none, .op (.store 3 (.tmp 5) (.tmp 16)), none⟩,
     ⟨(some 6), .op (.mov (.tmp 17)), none⟩])
   (.seq (.region [⟨(some 18), .op (.mov (.tmp 6)), none⟩,
     ⟨(some 19), .op (.un .not (.tmp 18)), none⟩,
     ⟨(some 20), .op (.mov (.tmp 19)), none⟩,
     ⟨(some 21), .op (.fieldAddr 0 (.tmp 5)), (some (20, false))⟩,
     ⟨(some 22), .op (.load none (.tmp 21)), (some (20, false))⟩,
     ⟨(some 23), .op (.mov (.tmp 1)), (some (20, false))⟩,
     ⟨(some 24), .op (.bin .neq (.tmp 22) (.tmp 23)), (some (20, false))⟩,
     ⟨(some 25), .op (.pick (.tmp 20) (.val (.bool true)) (.tmp 24)), none⟩,
     ⟨(some 26), .op (.mov (.tmp 25)), none⟩,
     ⟨(some 27), .op (.mov (.tmp 0)), (some (26, false))⟩,
     ⟨(some 28), .op (.nilCheck (.tmp 27)), (some (26, false))⟩,
     ⟨(some 29), .op (.fieldAddr 1 (.tmp 28)), (some (26, false))⟩,
     ⟨(some 30), .op (.load none (.tmp 29)), (some (26, false))⟩,
     ⟨(some 31), .op (.mov (.tmp 1)), (some (26, false))⟩,
     ⟨(some 32), .op (.lookup .int .nilp false (.tmp 30) (.tmp 31)), (some (26, false))⟩,
     ⟨(some 33), .op (.eql true .ptr (.tmp 32) (.val .nilp)), (some (26, false))⟩,
     ⟨(some 34), .op (.pick (.tmp 26) (.val (.bool true)) (.tmp 33)), none⟩])
   (.cond (.tmp 34) (.seq (.region [⟨(some 4), .op (.mov (.val (.int .i64 4))), none⟩])
    (.ret))
   (.skip))))
  (.seq (.region [⟨(some 35), .op (.mov (.tmp 0)), none⟩,
    ⟨(some 36), .op (.nilCheck (.tmp 35)), none⟩,
    ⟨(some 37), .op (.fieldAddr 0 (.tmp 36)), none⟩,
    ⟨(some 38), .op (.load none (.tmp 37)), none⟩,
    ⟨(some 39), .op (.mov (.tmp 1)), none⟩,
    ⟨(some 40), .call (.fnv 33) [(.tmp 38), (.tmp 39)], none⟩,
    ⟨(some 4), .op (.mov (.tmp 40)), none⟩])
  (.ret)))),
  [.tmp 4], none, none⟩
def A57 : AFun := ⟨.seq (.draw [⟨⟨(some 8), .op (.mov (.tmp 0)), none⟩, .pure⟩,
    ⟨⟨(some 9), .op (.nilCheck (.tmp 8)), none⟩, .pure⟩,
    ⟨⟨(some 10), .op (.fieldAddr 2 (.tmp 9)), none⟩, .pure⟩,
    ⟨⟨(some 11), .op (.load none (.tmp 10)), none⟩, .read [16]⟩,
    ⟨⟨(some 12), .op (.idxS 1 (.tmp 11) (.val (.int .i64 0))), none⟩, .read [16]⟩,
    ⟨⟨(some 13), .op (.load none (.tmp 12)), none⟩, .read [16]⟩,
    ⟨⟨(some 14), .op (.mov (.tmp 1)), none⟩, .pure⟩,
    ⟨⟨(some 15), .op (.mov (.tmp 0)), none⟩, .pure⟩,
    ⟨⟨(some 16), .op (.nilCheck (.tmp 15)), none⟩, .pure⟩,
    ⟨⟨(some 17), .op (.fieldAddr 1 (.tmp 16)), none⟩, .pure⟩,
    ⟨⟨(some 18), .op (.load none (.tmp 17)), none⟩, .read []⟩,
    ⟨⟨(some 19), .op (.mov (.tmp 1)), none⟩, .pure⟩,
    ⟨⟨(some 20), .op (.idxS 1 (.tmp 18) (.tmp 19)), none⟩, .read []⟩,
    ⟨⟨(some 21), .op (.load none (.tmp 20)), none⟩, .read []⟩,
    ⟨⟨(some 22), .call (.fnv 80) [(.tmp 21)], none⟩, .act true⟩,
    ⟨⟨(some 23), .op (.idxS 4 (.tmp 13) (.tmp 14)), none⟩, .read []⟩,
    ⟨⟨none, .op (.store 4 (.tmp 23) (.tmp 22)), none⟩, .act true⟩])
  (.seq (.region [⟨(some 4), .op (.mov (.val (.int .i64 1))), none⟩])
  (.block 0 (.loop (.seq (.seq (.region [⟨(some 24), .op (.mov (.tmp 4)), none⟩,
       ⟨(some 25), .op (.mov (.tmp 0)), none⟩,
       ⟨(some 26), .op (.nilCheck (.tmp 25)), none⟩,
       ⟨(some 27), .op (.fieldAddr 2 (.tmp 26)), none⟩,
       ⟨(some 28), .op (.load none (.tmp 27)), none⟩,
       ⟨(some 29), .op (.lenS (.tmp 28)), none⟩,
       ⟨(some 30), .op (.bin .lss (.tmp 24) (.tmp 29)), none⟩])
     (.cond (.tmp 30) (.skip)
     (.exit 0)))
    (.seq (.block 1 (.seq (.region [⟨(some 33), .op (.mov (.tmp 1)), none⟩,
        ⟨(some 34), .op (.bin .quo (.tmp 33) (.val (.int .i64 8))), none⟩,
        ⟨(some 1), .op (.mov (.tmp 34)), none⟩])
      (.seq (.region [⟨(some 5), .op (.alloc [(.int .i64 0), (.int .i64 0), (.int .i64 0), (.int .i64 0)]), none⟩])
      (.seq (.seq (.region [⟨(some 35), .op (.mov (.tmp 0)), none⟩,
         ⟨(some 36), .op (.nilCheck (.tmp 35)), none⟩,
         ⟨(some 37), .op (.fieldAddr 2 (.tmp 36)), none⟩,
         ⟨(some 38), .op (.load none (.tmp 37)), none⟩,
         ⟨(some 39), .op (.mov (.tmp 4)), none⟩,
         ⟨(some 40), .op (.bin .sub (.tmp 39) (.val (.int .i64 1))), none⟩,
         ⟨(some 41), .op (.idxS 1 (.tmp 38) (.tmp 40)), none⟩,
         ⟨(some 42), .op (.load none (.tmp 41)), none⟩,
         ⟨(some 43), .op (.mov (.tmp 1)), none⟩,
         ⟨(some 44), .op (.bin .mul (.val (.int .i64 8)) (.tmp 43)), none⟩,
         ⟨(some 45), .op (.mov (.tmp 1)), none⟩,
         ⟨(some 46), .op (.bin .mul (.val (.int .i64 8)) (.tmp 45)), none⟩,
         ⟨(some 47), .op (.bin .add (.tmp 46) (.val (.int .i64 8))), none⟩,
         ⟨(some 48), .op (.mov (.tmp 0)), none⟩,
         ⟨(some 49), .op (.nilCheck (.tmp 48)), none⟩,
         ⟨(some 50), .op (.fieldAddr 2 (.tmp 49)), none⟩,
         ⟨(some 51), .op (.load none (.tmp 50)), none⟩,
         ⟨(some 52), .op (.mov (.tmp 4)), none⟩,
         ⟨(some 53), .op (.bin .sub (.tmp 52) (.val (.int .i64 1))), none⟩,
         ⟨(some 54), .op (.idxS 1 (.tmp 51) (.tmp 53)), none⟩,
         ⟨(some 55), .op (.load none (.tmp 54)), none⟩,
         ⟨(some 56), .op (.lenS (.tmp 55)), none⟩,
         ⟨(some 57), .op (.min (.tmp 47) (.tmp 56)), none⟩,
         ⟨(some 58), .op (.slice 4 (.tmp 42) (some (.tmp 44)) (some (.tmp 57))), none⟩,
         ⟨(some 59), .op (.lenS (.tmp 58)), none⟩,
         ⟨(some 60), .op (.mov (.val (.int .i64 0))), none⟩])
       (.block 2 (.loop (.seq (.region [⟨(some 61), .op (.bin .lss (.tmp 60) (.tmp 59)), none⟩])
         (.seq (.cond (.tmp 61) (.skip)
          (.exit 2))
         (.seq (.block 3 (.seq (.region [⟨(some 62), .op (.idxS 4 (.tmp 58) (.tmp 60)), none⟩,
             ⟨(some 63), .op (.load (some 4) (.tmp 62)), none⟩,
             ⟨(some 7), .op (.alloc [(.int .i64 0), (.int .i64 0), (.int .i64 0), (.int .i64 0)]), none⟩,
             ⟨none, .op (.store 4 (.tmp 7) (.tmp 63)), none⟩])
           (.region [⟨(some 64), .op (.load (some 4) (.tmp 5)), none⟩,
            ⟨(some 65), .op (.load (some 4) (.tmp 7)), none⟩,
            ⟨(some 66), .call (.fnv 81) [(.tmp 64), (.tmp 65)], none⟩,
            ⟨none, .op (.store 4 (.tmp 5) (.tmp 66)), none⟩])))
         (.region [⟨(some 67), .op (.bin .add (.tmp 60) (.val (.int .i64 1))), none⟩,
          ⟨(some 60), .op (.mov (.tmp 67)), none⟩])))))))
      (.draw [⟨⟨(some 68), .op (.mov (.tmp 0)), none⟩, .pure⟩,
       ⟨⟨(some 69), .op (.nilCheck (.tmp 68)), none⟩, .pure⟩,
       ⟨⟨(some 70), .op (.fieldAddr 2 (.tmp 69)), none⟩, .pure⟩,
       ⟨⟨(some 71), .op (.load none (.tmp 70)), none⟩, .read []⟩,
       ⟨⟨(some 72), .op (.mov (.tmp 4)), none⟩, .pure⟩,
       ⟨⟨(some 73), .op (.idxS 1 (.tmp 71) (.tmp 72)), none⟩, .read []⟩,
       ⟨⟨(some 74), .op (.load none (.tmp 73)), none⟩, .read []⟩,
       ⟨⟨(some 75), .op (.mov (.tmp 1)), none⟩, .pure⟩,
       ⟨⟨(some 76), .op (.load (some 4) (.tmp 5)), none⟩, .read []⟩,
       ⟨⟨(some 77), .op (.idxS 4 (.tmp 74) (.tmp 75)), none⟩, .read []⟩,
       ⟨⟨none, .op (.store 4 (.tmp 77) (.tmp 76)), none⟩, .act true⟩])))))
    (.region [⟨(some 31), .op (.mov (.tmp 4)), none⟩,
     ⟨(some 32), .op (.bin .add (.tmp 31) (.val (.int .i64 1))), none⟩,
     ⟨(some 4), .op (.mov (.tmp 32)), none⟩])))))),
  [], none, none⟩
def A58 : AFun := ⟨.seq (.region [⟨(some 8), .op (.mov (.val (.int .i64 0))), none⟩])
  (.seq (.block 0 (.seq (.region [⟨(some 11), .op (.mov (.tmp 0)), none⟩,
      ⟨(some 12), .op (.eql false .ptr (.tmp 11) (.val .nilp)), none⟩,
      ⟨(some 10), .op (.mov (.tmp 12)), none⟩])
    (.cond (.tmp 10) (.seq (.region [⟨(some 8), .op (.mov (.val (.int .i64 5))), none⟩])
     (.ret))
    (.seq (.region [⟨(some 14), .op (.mov (.tmp 0)), none⟩,
      ⟨(some 15), .op (.mov (.tmp 1)), none⟩,
      ⟨(some 16), .op (.mov (.tmp 2)), none⟩,
      ⟨(some 17), .call (.fnv 82) [(.tmp 14), (.tmp 15), (.tmp 16)], none⟩,
      ⟨(some 13), .op (.mov (.tmp 17)), none⟩])
    (.cond (.tmp 13) (.seq (.region [⟨(some 8), .op (.mov (.val (.int .i64 1))), none⟩])
     (.ret))
    (.skip))))))
  (.seq (.seq (.region [⟨(some 18), .op (.mov (.tmp 1)), none⟩,
     ⟨(some 9), .op (.mov (.tmp 18)), none⟩])
   (.block 1 (.loop (.seq (.seq (.region [⟨(some 19), .op (.mov (.tmp 9)), none⟩,
        ⟨(some 20), .op (.mov (.tmp 1)), none⟩,
        ⟨(some 21), .op (.mov (.tmp 2)), none⟩,
        ⟨(some 22), .op (.bin .add (.tmp 20) (.tmp 21)), none⟩,
        ⟨(some 23), .op (.bin .lss (.tmp 19) (.tmp 22)), none⟩])
      (.cond (.tmp 23) (.skip)
      (.exit 1)))
     (.seq (.block 2 (.seq (.region [⟨(some 26), .op (.mov (.tmp 0)), none⟩,
         ⟨(some 27), .op (.mov (.tmp 9)), none⟩,
         ⟨(some 28), .call (.fnv 19) [(.tmp 26), (.tmp 27)], none⟩,
         ⟨(some 29), .op (.mov (.tmp 3)), none⟩,
         ⟨(some 30), .op (.eql false .bool (.tmp 28) (.tmp 29)), none⟩])
       (.cond (.tmp 30) (.seq (.region [⟨(some 8), .op (.mov (.val (.int .i64 5))), none⟩])
        (.ret))
       (.skip))))
     (.region [⟨(some 24), .op (.mov (.tmp 9)), none⟩,
      ⟨(some 25), .op (.bin .add (.tmp 24) (.val (.int .i64 1))), none⟩,
      ⟨(some 9), .op (.mov (.tmp 25)), none⟩]))))))
  (.seq (.region [⟨(some 31), .op (.mov (.tmp 0)), none⟩,
    ⟨(some 32), .op (.mov (.tmp 1)), none⟩,
    ⟨(some 33), .op (.mov (.tmp 2)), none⟩,
    ⟨(some 34), .op (.mov (.tmp 3)), none⟩,
    ⟨(some 35), .call (.fnv 60) [(.tmp 31), (.tmp 32), (.tmp 33), (.tmp 34)], none⟩])
  (.seq (.region [⟨(some 8), .op (.mov (.val (.int .i64 0))), none⟩])
  (.ret))))),
  [.tmp 8], none, none⟩
def A59 : AFun := ⟨.seq (.region [⟨(some 4), .op (.mov (.val (.int .i64 0))), none⟩])
  (.seq (.region [⟨(some 10), .op (.mov (.tmp 0)), none⟩,
    ⟨(some 11), .op (.nilCheck (.tmp 10)), none⟩,
    ⟨(some 12), .op (.fieldAddr 2 (.tmp 11)), none⟩,
    ⟨(some 13), .op (.load none (.tmp 12)), none⟩,
    ⟨(some 14), .op (.mov (.tmp 0)), none⟩,
    ⟨(some 15), .op (.nilCheck (.tmp 14)), none⟩,
    ⟨(some 16), .op (.fieldAddr 2 (.tmp 15)), none⟩,
    ⟨(some 17), .op (.load none (.tmp 16)), none⟩,
    ⟨(some 18), .op (.lenS (.tmp 17)), none⟩,
    ⟨(some 19), .op (.bin .sub (.tmp 18) (.val (.int .i64 1))), none⟩,
    ⟨(some 20), .op (.idxS 1 (.tmp 13) (.tmp 19)), none⟩,
    ⟨(some 21), .op (.load none (.tmp 20)), none⟩,
    ⟨(some 5), .op (.mov (.tmp 21)), none⟩])
  (.seq (.seq (.region [⟨(some 22), .op (.mov (.tmp 5)), none⟩,
     ⟨(some 23), .op (.idxS 4 (.tmp 22) (.val (.int .i64 0))), none⟩,
     ⟨(some 24), .op (.fieldAddr 1 (.tmp 23)), none⟩,
     ⟨(some 25), .op (.load none (.tmp 24)), none⟩,
     ⟨(some 26), .op (.mov (.tmp 1)), none⟩,
     ⟨(some 27), .op (.bin .lss (.tmp 25) (.tmp 26)), none⟩])
   (.cond (.tmp 27) (.seq (.region [⟨(some 4), .op (.mov (.val (.int .i64 (-1)))), none⟩])
    (.ret))
   (.skip)))
  (.seq (.region [⟨(some 6), .op (.mov (.val (.int .i64 0))), none⟩])
  (.seq (.seq (.region [⟨(some 28), .op (.mov (.tmp 0)), none⟩,
     ⟨(some 29), .op (.nilCheck (.tmp 28)), none⟩,
     ⟨(some 30), .op (.fieldAddr 1 (.tmp 29)), none⟩,
     ⟨(some 31), .op (.load none (.tmp 30)), none⟩,
     ⟨(some 32), .op (.lenS (.tmp 31)), none⟩,
     ⟨(some 33), .op (.mov (.val (.int .i64 0))), none⟩])
   (.block 0 (.loop (.seq (.region [⟨(some 34), .op (.bin .lss (.tmp 33) (.tmp 32)), none⟩])
     (.seq (.cond (.tmp 34) (.skip)
      (.exit 0))
     (.seq (.block 1 (.seq (.region [⟨(some 35), .op (.mov (.tmp 33)), none⟩,
         ⟨(some 36), .op (.idxS 1 (.tmp 31) (.tmp 33)), none⟩,
         ⟨(some 37), .op (.load none (.tmp 36)), none⟩,
         ⟨(some 7), .op (.mov (.tmp 35)), none⟩,
         ⟨(some 8), .op (.mov (.tmp 37)), none⟩])
       (.seq (.region [⟨(some 38), .op (.mov (.tmp 0)), none⟩,
         ⟨(some 39), .op (.nilCheck (.tmp 38)), none⟩,
         ⟨(some 40), .op (.fieldAddr 2 (.tmp 39)), none⟩,
         ⟨(some 41), .op (.load none (.tmp 40)), none⟩,
         ⟨(some 42), .op (.idxS 1 (.tmp 41) (.val (.int .i64 0))), none⟩,
         ⟨(some 43), .op (.load none (.tmp 42)), none⟩,
         ⟨(some 44), .op (.mov (.tmp 7)), none⟩,
         ⟨(some 45), .op (.idxS 4 (.tmp 43) (.tmp 44)), none⟩,
         ⟨(some 46), .op (.load (some 4) (.tmp 45)), none⟩,
         ⟨(some 9), .op (.alloc [(.int .i64 0), (.int .i64 0), (.int .i64 0), (.int .i64 0)]), none⟩,
         ⟨none, .op (.store 4 (.tmp 9) (.tmp 46)), none⟩])
       (.seq (.seq (.region [⟨(some 47), .op (.mov (.tmp 6)), none⟩,
          ⟨(some 48), .op (.fieldAddr 0 (.tmp 9)), none⟩,
          ⟨(some 49), .op (.load none (.tmp 48)), none⟩,
          ⟨(some 50), .op (.bin .add (.tmp 47) (.tmp 49)), none⟩,
          ⟨(some 51), .op (.mov (.tmp 1)), none⟩,
          ⟨(some 52), .op (.bin .geq (.tmp 50) (.tmp 51)), none⟩])
        (.cond (.tmp 52) (.seq (.region [⟨(some 53), .op (.mov (.tmp 7)), none⟩,
           ⟨(some 54), .op (.bin .mul (.tmp 53) (.val (.int .i64 64))), none⟩,
           ⟨(some 55), .op (.mov (.tmp 6)), none⟩,
           ⟨(some 56), .op (.bin .sub (.tmp 54) (.tmp 55)), none⟩,
           ⟨(some 4), .op (.mov (.tmp 56)), none⟩])
         (.ret))
        (.skip)))
       (.seq (.seq (.region [⟨(some 57), .op (.fieldAddr 1 (.tmp 9)), none⟩,
          ⟨(some 58), .op (.load none (.tmp 57)), none⟩,
          ⟨(some 59), .op (.mov (.tmp 1)), none⟩,
          ⟨(some 60), .op (.bin .geq (.tmp 58) (.tmp 59)), none⟩])
        (.cond (.tmp 60) (.seq (.region [⟨(some 61), .op (.mov (.tmp 7)), none⟩,
           ⟨(some 62), .op (.bin .mul (.tmp 61) (.val (.int .i64 64))), none⟩,
           ⟨(some 63), .op (.mov (.tmp 8)), none⟩,
           ⟨(some 64), .op (.mov (.tmp 1)), none⟩,
           ⟨(some 65), .call (.fnv 83) [(.tmp 63), (.tmp 64)], none⟩,
           ⟨(some 66), .op (.bin .add (.tmp 62) (.tmp 65)), none⟩,
           ⟨(some 4), .op (.mov (.tmp 66)), none⟩])
         (.ret))
        (.skip)))
       (.seq (.region [⟨(some 67), .op (.fieldAddr 0 (.tmp 9)), none⟩,
         ⟨(some 68), .op (.load none (.tmp 67)), none⟩,
         ⟨(some 69), .op (.bin .eql (.tmp 68) (.val (.int .i64 64))), none⟩])
       (.cond (.tmp 69) (.region [⟨(some 70), .op (.mov (.tmp 6)), none⟩,
         ⟨(some 71), .op (.bin .add (.tmp 70) (.val (.int .i64 64))), none⟩,
         ⟨(some 6), .op (.mov (.tmp 71)), none⟩])
       (.region [⟨(some 72), .op (.fieldAddr 2 (.tmp 9)), none⟩,
        ⟨(some 73), .op (.load none (.tmp 72)), none⟩,
        ⟨(some 6), .op (.mov (.tmp 73)), none⟩]))))))))
     (.region [⟨(some 74), .op (.bin .add (.tmp 33) (.val (.int .i64 1))), none⟩,
      ⟨(some 33), .op (.mov (.tmp 74)), none⟩])))))))
  (.seq (.region [⟨(some 4), .op (.mov (.val (.int .i64 (-1)))), none⟩])
  (.ret)))))),
  [.tmp 4], none, none⟩
def A60 : AFun := ⟨.seq (.region [⟨(some 13), .op (.mov (.tmp 1)), none⟩,
    ⟨(some 8), .op (.mov (.tmp 13)), none⟩])
  (.block 0 (.loop (.seq (.seq (.region [⟨(some 14), .op (.mov (.tmp 8)), none⟩,
       ⟨(some 15), .op (.mov (.tmp 1)), none⟩,
       ⟨(some 16), .op (.mov (.tmp 2)), none⟩,
       ⟨(some 17), .op (.bin .add (.tmp 15) (.tmp 16)), none⟩,
       ⟨(some 18), .op (.bin .lss (.tmp 14) (.tmp 17)), none⟩])
     (.cond (.tmp 18) (.skip)
     (.exit 0)))
    (.block 1 (.seq (.region [⟨(some 19), .op (.mov (.tmp 8)), none⟩,
       ⟨(some 20), .op (.bin .quo (.tmp 19) (.val (.int .i64 64))), none⟩,
       ⟨(some 21), .op (.mov (.tmp 8)), none⟩,
       ⟨(some 22), .op (.bin .rem (.tmp 21) (.val (.int .i64 64))), none⟩,
       ⟨(some 9), .op (.mov (.tmp 20)), none⟩,
       ⟨(some 10), .op (.mov (.tmp 22)), none⟩])
     (.seq (.region [⟨(some 23), .op (.mov (.tmp 10)), none⟩,
       ⟨(some 24), .op (.mov (.tmp 1)), none⟩,
       ⟨(some 25), .op (.bin .add (.tmp 23) (.tmp 24)), none⟩,
       ⟨(some 26), .op (.mov (.tmp 2)), none⟩,
       ⟨(some 27), .op (.bin .add (.tmp 25) (.tmp 26)), none⟩,
       ⟨(some 28), .op (.mov (.tmp 8)), none⟩,
       ⟨(some 29), .op (.bin .sub (.tmp 27) (.tmp 28)), none⟩,
       ⟨(some 30), .op (.min (.val (.int .i64 64)) (.tmp 29)), none⟩,
       ⟨(some 11), .op (.mov (.tmp 30)), none⟩])
     (.seq (.region [⟨(some 31), .op (.mov (.tmp 10)), none⟩,
       ⟨(some 32), .op (.bin .shl (.val (.int .u64 18446744073709551615)) (.tmp 31)), none⟩,
       ⟨(some 33), .op (.mov (.tmp 11)), none⟩,
       ⟨(some 34), .op (.bin .sub (.val (.int .i64 64)) (.tmp 33)), none⟩,
       ⟨(some 35), .op (.bin .shr (.val (.int .u64 18446744073709551615)) (.tmp 34)), none⟩,
       ⟨(some 36), .op (.bin .and (.tmp 32) (.tmp 35)), none⟩,
       ⟨(some 12), .op (.mov (.tmp 36)), none⟩])
     (.seq (.seq (.region [⟨(some 37), .op (.mov (.tmp 3)), none⟩])
      (.cond (.tmp 37) (.region [⟨(some 38), .op (.mov (.tmp 0)), none⟩,
        ⟨(some 39), .op (.nilCheck (.tmp 38)), none⟩,
        ⟨(some 40), .op (.fieldAddr 1 (.tmp 39)), none⟩,
        ⟨(some 41), .op (.load none (.tmp 40)), none⟩,
        ⟨(some 42), .op (.mov (.tmp 9)), none⟩,
        ⟨(some 43), .op (.idxS 1 (.tmp 41) (.tmp 42)), none⟩,
        ⟨(some 44), .op (.load none (.tmp 43)), none⟩,
        ⟨(some 45), .op (.mov (.tmp 12)), none⟩,
        ⟨(some 46), .op (.bin .or (.tmp 44) (.tmp 45)), none⟩,
        ⟨(some 47), .op (.idxS 1 (.tmp 41) (.tmp 42)), none⟩,
        ⟨none, .op (.store 1 (.tmp 47) (.tmp 46)), none⟩])
      (.region [⟨(some 48), .op (.mov (.tmp 0)), none⟩,
       ⟨(some 49), .op (.nilCheck (.tmp 48)), none⟩,
       ⟨(some 50), .op (.fieldAddr 1 (.tmp 49)), none⟩,
       ⟨(some 51), .op (.load none (.tmp 50)), none⟩,
       ⟨(some 52), .op (.mov (.tmp 9)), none⟩,
       ⟨(some 53), .op (.idxS 1 (.tmp 51) (.tmp 52)), none⟩,
       ⟨(some 54), .op (.load none (.tmp 53)), none⟩,
       ⟨(some 55), .op (.mov (.tmp 12)), none⟩,
       ⟨(some 56), .op (.bin .andNot (.tmp 54) (.tmp 55)), none⟩,
       ⟨(some 57), .op (.idxS 1 (.tmp 51) (.tmp 52)), none⟩,
       ⟨none, .op (.store 1 (.tmp 57) (.tmp 56)), none⟩])))
     (.seq (.region [⟨(some 58), .op (.mov (.tmp 0)), none⟩,
       ⟨(some 59), .op (.mov (.tmp 9)), none⟩,
       ⟨(some 60), .call (.fnv 57) [(.tmp 58), (.tmp 59)], none⟩])
     (.region [⟨(some 61), .op (.mov (.tmp 8)), none⟩,
      ⟨(some 62), .op (.mov (.tmp 11)), none⟩,
      ⟨(some 63), .op (.mov (.tmp 10)), none⟩,
      ⟨(some 64), .op (.bin .sub (.tmp 62) (.tmp 63)), none⟩,
      ⟨(some 65), .op (.bin .add (.tmp 61) (.tmp 64)), none⟩,
      ⟨(some 8), .op (.mov (.tmp 65)), none⟩])))))))))),
  [], none, none⟩
def A61 : AFun := ⟨.seq (.region [⟨(some 1), .op (.box (.tmp 0)), none⟩,
    ⟨(some 2), .op (.mov (.val .nilf)), none⟩])
  (.seq (.region [⟨(some 3), .op (.mkFn (.func 84) [] [(.tmp 1)]), none⟩,
    ⟨(some 2), .op (.mov (.tmp 3)), none⟩])
  (.ret)),
  [.tmp 2], none, none⟩
def A64 : AFun := ⟨.seq (.region [⟨(some 1), .op (.box (.tmp 0)), none⟩,
    ⟨(some 2), .op (.mov (.val .nilf)), none⟩])
  (.seq (.region [⟨(some 3), .op (.mkFn (.func 85) [] [(.tmp 1)]), none⟩,
    ⟨(some 2), .op (.mov (.tmp 3)), none⟩])
  (.ret)),
  [.tmp 2], none, none⟩
def A65 : AFun := ⟨.seq (.region [⟨(some 0), .op (.mov (.val (.int .i64 0))), none⟩])
  (.seq (.region [⟨(some 1), .call (.fnv 86) [], none⟩,
    ⟨(some 2), .op (.mov (.val (.int .i64 16))), none⟩,
    ⟨(some 0), .op (.mov (.tmp 2)), none⟩])
  (.ret)),
  [.tmp 0], none, none⟩
def A66 : AFun := ⟨.seq (.region [⟨(some 2), .op (.mov (.val (.int .i64 0))), none⟩,
    ⟨(some 3), .op (.mov (.val (.int .i64 0))), none⟩])
  (.seq (.block 0 (.seq (.region [⟨(some 9), .op (.mov (.tmp 0)), none⟩,
      ⟨(some 10), .op (.bin .lss (.tmp 9) (.val (.int .i64 1))), none⟩,
      ⟨(some 8), .op (.mov (.tmp 10)), none⟩])
    (.cond (.tmp 8) (.seq (.region [⟨(some 2), .op (.mov (.val (.int .i64 0))), none⟩,
       ⟨(some 3), .op (.mov (.val (.int .i64 1))), none⟩])
     (.ret))
    (.seq (.region [⟨(some 12), .op (.mov (.tmp 0)), none⟩,
      ⟨(some 13), .op (.bin .gtr (.tmp 12) (.val (.int .i64 64))), none⟩,
      ⟨(some 11), .op (.mov (.tmp 13)), none⟩])
    (.cond (.tmp 11) (.seq (.region [⟨(some 2), .op (.mov (.val (.int .i64 0))), none⟩,
       ⟨(some 3), .op (.mov (.val (.int .i64 2))), none⟩])
     (.ret))
    (.skip))))))
  (.seq (.region [⟨(some 14), .call (.fnv 86) [], none⟩,
    ⟨(some 4), .op (.alloc [(.int .i64 0), (.int .i64 0), (.int .i64 0), (.int .i64 0), (.int .i64 0), (.int .i64 0), (.int .i64 0), (.int .i64 0), (.int .i64 0), (.int .i64 0), (.int .i64 0), (.int .i64 0), (.int .i64 0), (.int .i64 0), (.int .i64 0), (.int .i64 0)]), none⟩,
    ⟨none, .op (.store 16 (.tmp 4) (.tmp 14)), none⟩])
  (.seq (.region [⟨(some 5), .op (.mov (.val (.int .i64 0))), none⟩,
    ⟨(some 6), .op (.mov (.val (.int .i64 15))), none⟩])
  (.seq (.block 1 (.loop (.seq (.seq (.region [⟨(some 15), .op (.mov (.tmp 5)), none⟩,
        ⟨(some 16), .op (.mov (.tmp 6)), none⟩,
        ⟨(some 17), .op (.bin .lss (.tmp 15) (.tmp 16)), none⟩])
      (.cond (.tmp 17) (.skip)
      (.exit 1)))
     (.block 2 (.seq (.region [⟨(some 18), .op (.mov (.tmp 5)), none⟩,
        ⟨(some 19), .op (.mov (.tmp 6)), none⟩,
        ⟨(some 20), .op (.bin .add (.tmp 18) (.tmp 19)), none⟩,
        ⟨(some 21), .op (.bin .quo (.tmp 20) (.val (.int .i64 2))), none⟩,
        ⟨(some 7), .op (.mov (.tmp 21)), none⟩])
      (.seq (.region [⟨(some 22), .op (.mov (.tmp 7)), none⟩,
        ⟨(some 23), .op (.idxA 1 16 (.tmp 4) (.tmp 22)), none⟩,
        ⟨(some 24), .op (.load none (.tmp 23)), none⟩,
        ⟨(some 25), .op (.mov (.tmp 0)), none⟩,
        ⟨(some 26), .op (.bin .lss (.tmp 24) (.tmp 25)), none⟩])
      (.cond (.tmp 26) (.region [⟨(some 27), .op (.mov (.tmp 7)), none⟩,
        ⟨(some 28), .op (.bin .add (.tmp 27) (.val (.int .i64 1))), none⟩,
        ⟨(some 5), .op (.mov (.tmp 28)), none⟩])
      (.region [⟨(some 29), .op (.mov (.tmp 7)), none⟩,
       ⟨(some 6), .op (.mov (.tmp 29)), none⟩]))))))))
  (.seq (.region [⟨(some 30), .op (.mov (.tmp 5)), none⟩,
    ⟨(some 2), .op (.mov (.tmp 30)), none⟩,
    ⟨(some 3), .op (.mov (.val (.int .i64 0))), none⟩])
  (.ret)))))),
  [.tmp 2, .tmp 3], none, none⟩
def A67 : AFun := ⟨.seq (.region [⟨(some 6), .op (.mov (.val .nilp)), none⟩,
    ⟨(some 7), .op (.mov (.val (.int .i64 0))), none⟩])
  (.seq (.region [⟨(some 12), .op (.mov (.tmp 0)), none⟩,
    ⟨(some 13), .op (.nilCheck (.tmp 12)), none⟩,
    ⟨(some 14), .op (.fieldAddr 0 (.tmp 13)), none⟩,
    ⟨(some 15), .op (.load none (.tmp 14)), none⟩,
    ⟨(some 16), .op (.mov (.tmp 1)), none⟩,
    ⟨(some 17), .op (.mov (.tmp 2)), none⟩,
    ⟨(some 18), .op (.bin .add (.tmp 17) (.val (.int .i64 1))), none⟩,
    ⟨(some 19), .call (.fnv 31) [(.tmp 15), (.tmp 16), (.tmp 18)], none⟩,
    ⟨(some 11), .op (.mov (.tmp 19)), none⟩,
    ⟨(some 20), .op (.extract (.tmp 11) 0), none⟩,
    ⟨(some 21), .op (.extract (.tmp 11) 1), none⟩,
    ⟨(some 8), .op (.alloc [(.int .i64 0), (.int .i64 0), (.int .i64 0)]), none⟩,
    ⟨none, .op (.store 3 (.tmp 8) (.tmp 20)), none⟩,
    ⟨(some 9), .op (.mov (.tmp 21)), none⟩])
  (.seq (.seq (.region [⟨(some 22), .op (.mov (.tmp 9)), none⟩,
     ⟨(some 23), .op (.bin .neq (.tmp 22) (.val (.int .i64 0))), none⟩])
   (.cond (.tmp 23) (.seq (.region [⟨(some 24), .op (.mov (.tmp 9)), none⟩,
      ⟨(some 6), .op (.mov (.val .nilp)), none⟩,
      ⟨(some 7), .op (.mov (.tmp 24)), none⟩])
    (.ret))
   (.skip)))
  (.seq (.region [⟨(some 25), .op (.load (some 3) (.tmp 8)), none⟩,
    ⟨(some 26), .op (.mov (.tmp 2)), none⟩,
    ⟨(some 27), .op (.build [(.int .i64 0), (.int .i64 0), (.int .i64 0), (.int .i64 0), (.int .u64 0), (.bool false)] [(0, 3, (.tmp 25)), (3, 1, (.tmp 26))]), none⟩,
    ⟨(some 28), .op (.box (.tmp 27)), none⟩,
    ⟨(some 10), .op (.mov (.tmp 28)), none⟩])
  (.seq (.draw [⟨⟨(some 29), .op (.mov (.tmp 0)), none⟩, .pure⟩,
    ⟨⟨(some 30), .op (.nilCheck (.tmp 29)), none⟩, .pure⟩,
    ⟨⟨(some 31), .op (.fieldAddr 1 (.tmp 30)), none⟩, .pure⟩,
    ⟨⟨(some 32), .op (.load none (.tmp 31)), none⟩, .read []⟩,
    ⟨⟨(some 33), .op (.fieldAddr 0 (.tmp 8)), none⟩, .pure⟩,
    ⟨⟨(some 34), .op (.load none (.tmp 33)), none⟩, .read []⟩,
    ⟨⟨(some 35), .op (.mov (.tmp 10)), none⟩, .pure⟩,
    ⟨⟨none, .op (.mapUpd .int (.tmp 32) (.tmp 34) (.tmp 35)), none⟩, .act true⟩])
  (.seq (.region [⟨(some 36), .op (.mov (.tmp 10)), none⟩,
    ⟨(some 6), .op (.mov (.tmp 36)), none⟩,
    ⟨(some 7), .op (.mov (.val (.int .i64 0))), none⟩])
  (.ret)))))),
  [.tmp 6, .tmp 7], none, none⟩
def A68 : AFun := ⟨.seq (.region [⟨(some 6), .op (.mov (.val (.int .i64 0))), none⟩])
  (.seq (.region [⟨(some 7), .op (.mov (.tmp 0)), none⟩,
    ⟨(some 8), .op (.nilCheck (.tmp 7)), none⟩,
    ⟨(some 9), .op (.fieldAddr 3 (.tmp 8)), none⟩,
    ⟨(some 10), .op (.load none (.tmp 9)), none⟩,
    ⟨(some 11), .op (.bin .add (.tmp 10) (.val (.int .i64 1))), none⟩,
    ⟨(some 12), .op (.nilCheck (.tmp 7)), none⟩,
    ⟨(some 13), .op (.fieldAddr 3 (.tmp 12)), none⟩,
    ⟨none, .op (.store 1 (.tmp 13) (.tmp 11)), none⟩])
  (.seq (.draw [⟨⟨(some 14), .op (.mov (.tmp 0)), none⟩, .pure⟩,
    ⟨⟨(some 15), .op (.nilCheck (.tmp 14)), none⟩, .pure⟩,
    ⟨⟨(some 16), .op (.fieldAddr 4 (.tmp 15)), none⟩, .pure⟩,
    ⟨⟨(some 17), .op (.load none (.tmp 16)), none⟩, .read [9]⟩,
    ⟨⟨(some 18), .op (.mov (.tmp 1)), none⟩, .pure⟩,
    ⟨⟨(some 19), .call (.fnv 72) [(.tmp 18)], none⟩, .act true⟩,
    ⟨⟨(some 20), .op (.bin .add (.tmp 17) (.tmp 19)), none⟩, .pure⟩,
    ⟨⟨(some 21), .op (.nilCheck (.tmp 14)), none⟩, .pure⟩,
    ⟨⟨(some 22), .op (.fieldAddr 4 (.tmp 21)), none⟩, .pure⟩,
    ⟨⟨none, .op (.store 1 (.tmp 22) (.tmp 20)), none⟩, .act true⟩])
  (.seq (.draw [⟨⟨(some 23), .op (.mov (.tmp 1)), none⟩, .pure⟩,
    ⟨⟨(some 24), .op (.nilCheck (.tmp 23)), none⟩, .pure⟩,
    ⟨⟨(some 25), .op (.fieldAddr 0 (.tmp 24)), none⟩, .pure⟩,
    ⟨⟨(some 26), .op (.fieldAddr 0 (.tmp 25)), none⟩, .pure⟩,
    ⟨⟨(some 27), .op (.load none (.tmp 26)), none⟩, .read [12]⟩,
    ⟨⟨(some 28), .op (.bin .mul (.tmp 27) (.val (.int .i64 64))), none⟩, .pure⟩,
    ⟨⟨(some 29), .op (.mov (.tmp 2)), none⟩, .pure⟩,
    ⟨⟨(some 30), .op (.mov (.tmp 1)), none⟩, .pure⟩,
    ⟨⟨(some 31), .call (.fnv 72) [(.tmp 30)], none⟩, .act true⟩,
    ⟨⟨(some 32), .op (.bin .mul (.tmp 29) (.tmp 31)), none⟩, .pure⟩,
    ⟨⟨(some 33), .op (.bin .add (.tmp 28) (.tmp 32)), none⟩, .pure⟩,
    ⟨⟨(some 6), .op (.mov (.tmp 33)), none⟩, .pure⟩])
  (.ret)))),
  [.tmp 6], none, none⟩
def A69 : AFun := ⟨.seq (.region [⟨(some 6), .op (.mov (.val .nilp)), none⟩,
    ⟨(some 7), .op (.mov (.val (.int .i64 0))), none⟩])
  (.seq (.region [⟨(some 10), .op (.mov (.tmp 0)), none⟩,
    ⟨(some 11), .op (.nilCheck (.tmp 10)), none⟩,
    ⟨(some 12), .op (.fieldAddr 2 (.tmp 11)), none⟩,
    ⟨(some 13), .op (.load none (.tmp 12)), none⟩,
    ⟨(some 14), .op (.mov (.tmp 1)), none⟩,
    ⟨(some 15), .op (.idxS 1 (.tmp 13) (.tmp 14)), none⟩,
    ⟨(some 16), .op (.load none (.tmp 15)), none⟩,
    ⟨(some 17), .op (.mov (.tmp 2)), none⟩,
    ⟨(some 18), .op (.idxS 1 (.tmp 16) (.tmp 17)), none⟩,
    ⟨(some 19), .op (.load none (.tmp 18)), none⟩,
    ⟨(some 8), .op (.mov (.tmp 19)), none⟩])
  (.seq (.seq (.region [⟨(some 20), .op (.mov (.tmp 8)), none⟩,
     ⟨(some 21), .op (.eql true .ptr (.tmp 20) (.val .nilp)), none⟩,
     ⟨(some 22), .op (.mov (.tmp 21)), none⟩,
     ⟨(some 23), .op (.mov (.tmp 8)), (some (22, true))⟩,
     ⟨(some 24), .call (.fnv 87) [(.tmp 23)], (some (22, true))⟩,
     ⟨(some 25), .op (.un .not (.tmp 24)), (some (22, true))⟩,
     ⟨(some 26), .op (.pick (.tmp 22) (.tmp 25) (.val (.bool false))), none⟩])
   (.cond (.tmp 26) (.seq (.region [⟨(some 27), .op (.mov (.tmp 8)), none⟩,
      ⟨(some 6), .op (.mov (.tmp 27)), none⟩,
      ⟨(some 7), .op (.mov (.val (.int .i64 0))), none⟩])
    (.ret))
   (.skip)))
  (.seq (.seq (.region [⟨(some 28), .op (.mov (.tmp 8)), none⟩,
     ⟨(some 29), .op (.eql true .ptr (.tmp 28) (.val .nilp)), none⟩])
   (.cond (.tmp 29) (.region [⟨(some 30), .op (.mov (.tmp 8)), none⟩,
     ⟨(some 31), .op (.mov (.tmp 0)), none⟩,
     ⟨(some 32), .op (.nilCheck (.tmp 31)), none⟩,
     ⟨(some 33), .op (.fieldAddr 2 (.tmp 32)), none⟩,
     ⟨(some 34), .op (.load none (.tmp 33)), none⟩,
     ⟨(some 35), .op (.mov (.tmp 1)), none⟩,
     ⟨(some 36), .op (.idxS 1 (.tmp 34) (.tmp 35)), none⟩,
     ⟨(some 37), .op (.load none (.tmp 36)), none⟩,
     ⟨(some 38), .op (.mov (.tmp 2)), none⟩,
     ⟨(some 39), .op (.nilCheck (.tmp 30)), none⟩,
     ⟨(some 40), .op (.fieldAddr 5 (.tmp 39)), none⟩,
     ⟨none, .op (.store 1 (.tmp 40) (.val (.bool false))), none⟩,
     ⟨(some 41), .op (.idxS 1 (.tmp 37) (.tmp 38)), none⟩,
     ⟨none, .op (.store 1 (.tmp 41) (.val .nilp)), none⟩])
   (.skip)))
  (.seq (.region [⟨(some 9), .op (.mov (.val (.int .i64 0))), none⟩])
  (.seq (.seq (.region [⟨(some 42), .op (.mov (.tmp 0)), none⟩,
     ⟨(some 43), .op (.mov (.tmp 2)), none⟩,
     ⟨(some 44), .call (.fnv 88) [(.tmp 42), (.tmp 43)], none⟩,
     ⟨(some 8), .op (.mov (.tmp 44)), none⟩])
   (.seq (.region [⟨(some 45), .op (.mov (.tmp 8)), none⟩,
     ⟨(some 46), .op (.eql false .ptr (.tmp 45) (.val .nilp)), none⟩])
   (.cond (.tmp 46) (.seq (.region [⟨(some 48), .op (.mov (.tmp 0)), none⟩,
      ⟨(some 49), .op (.mov (.tmp 2)), none⟩,
      ⟨(some 50), .call (.fnv 89) [(.tmp 49)], none⟩,
      ⟨(some 51), .op (.mov (.tmp 2)), none⟩,
      ⟨(some 52), .call (.fnv 67) [(.tmp 48), (.tmp 50), (.tmp 51)], none⟩,
      ⟨(some 47), .op (.mov (.tmp 52)), none⟩,
      ⟨(some 53), .op (.extract (.tmp 47) 0), none⟩,
      ⟨(some 54), .op (.extract (.tmp 47) 1), none⟩,
      ⟨(some 8), .op (.mov (.tmp 53)), none⟩,
      ⟨(some 9), .op (.mov (.tmp 54)), none⟩])
    (.seq (.region [⟨(some 55), .op (.mov (.tmp 9)), none⟩,
      ⟨(some 56), .op (.bin .neq (.tmp 55) (.val (.int .i64 0))), none⟩])
    (.cond (.tmp 56) (.seq (.region [⟨(some 57), .op (.mov (.tmp 9)), none⟩,
       ⟨(some 6), .op (.mov (.val .nilp)), none⟩,
       ⟨(some 7), .op (.mov (.tmp 57)), none⟩])
     (.ret))
    (.skip))))
   (.skip))))
  (.seq (.region [⟨(some 58), .op (.mov (.tmp 8)), none⟩,
    ⟨(some 59), .op (.mov (.tmp 0)), none⟩,
    ⟨(some 60), .op (.nilCheck (.tmp 59)), none⟩,
    ⟨(some 61), .op (.fieldAddr 2 (.tmp 60)), none⟩,
    ⟨(some 62), .op (.load none (.tmp 61)), none⟩,
    ⟨(some 63), .op (.mov (.tmp 1)), none⟩,
    ⟨(some 64), .op (.idxS 1 (.tmp 62) (.tmp 63)), none⟩,
    ⟨(some 65), .op (.load none (.tmp 64)), none⟩,
    ⟨(some 66), .op (.mov (.tmp 2)), none⟩,
    ⟨(some 67), .op (.mov (.tmp 8)), none⟩,
    ⟨(some 68), .op (.nilCheck (.tmp 58)), none⟩,
    ⟨(some 69), .op (.fieldAddr 5 (.tmp 68)), none⟩,
    ⟨none, .op (.store 1 (.tmp 69) (.val (.bool true))), none⟩,
    ⟨(some 70), .op (.idxS 1 (.tmp 65) (.tmp 66)), none⟩,
    ⟨none, .op (.store 1 (.tmp 70) (.tmp 67)), none⟩])
  (.seq (.region [⟨(some 71), .op (.mov (.tmp 8)), none⟩,
    ⟨(some 6), .op (.mov (.tmp 71)), none⟩,
    ⟨(some 7), .op (.mov (.val (.int .i64 0))), none⟩])
  (.ret)))))))),
  [.tmp 6, .tmp 7], none, none⟩
def A70 : AFun := ⟨.seq (.region [⟨(some 2), .op (.mov (.val (.int .i64 0))), none⟩])
  (.seq (.seq (.region [⟨(some 3), .op (.mov (.tmp 0)), none⟩,
     ⟨(some 4), .op (.bin .eql (.tmp 3) (.val (.int .u64 0))), none⟩])
   (.cond (.tmp 4) (.seq (.region [⟨(some 2), .op (.mov (.val (.int .i64 64))), none⟩])
    (.ret))
   (.skip)))
  (.seq (.region [⟨(some 5), .op (.mov (.tmp 0)), none⟩,
    ⟨(some 6), .op (.mov (.tmp 0)), none⟩,
    ⟨(some 7), .op (.un .neg (.tmp 6)), none⟩,
    ⟨(some 8), .op (.bin .and (.tmp 5) (.tmp 7)), none⟩,
    ⟨(some 9), .op (.bin .mul (.tmp 8) (.val (.int .u64 285870213051353865))), none⟩,
    ⟨(some 10), .op (.bin .shr (.tmp 9) (.val (.int .u64 58))), none⟩,
    ⟨(some 11), .op (.idxA 1 64 (.glob 0) (.tmp 10)), none⟩,
    ⟨(some 12), .op (.load none (.tmp 11)), none⟩,
    ⟨(some 13), .op (.conv .i64 (.tmp 12)), none⟩,
    ⟨(some 2), .op (.mov (.tmp 13)), none⟩])
  (.ret))),
  [.tmp 2], none, none⟩
def A71 : AFun := ⟨.seq (.region [⟨(some 4), .op (.mov (.val .nilp)), none⟩,
    ⟨(some 5), .op (.mov (.val (.int .i64 0))), none⟩,
    ⟨(some 6), .op (.mov (.val (.bool false))), none⟩])
  (.seq (.seq (.region [⟨(some 11), .op (.mov (.tmp 0)), none⟩,
     ⟨(some 12), .op (.eql false .ptr (.tmp 11) (.val .nilp)), none⟩,
     ⟨(some 13), .op (.mov (.tmp 12)), none⟩,
     ⟨(some 14), .op (.mov (.tmp 1)), (some (13, false))⟩,
     ⟨(some 15), .op (.bin .lss (.tmp 14) (.val (.int .i64 0))), (some (13, false))⟩,
     ⟨(some 16), .op (.pick (.tmp 13) (.val (.bool true)) (.tmp 15)), none⟩])
   (.cond (.tmp 16) (.seq (.region [⟨(some 4), .op (.mov (.val .nilp)), none⟩,
      ⟨(some 5), .op (.mov (.val (.int .i64 0))), none⟩,
      ⟨(some 6), .op (.mov (.val (.bool false))), none⟩])
    (.ret))
   (.skip)))
  (.seq (.region [⟨(some 18), .op (.mov (.tmp 0)), none⟩,
    ⟨(some 19), .op (.nilCheck (.tmp 18)), none⟩,
    ⟨(some 20), .op (.fieldAddr 0 (.tmp 19)), none⟩,
    ⟨(some 21), .op (.load none (.tmp 20)), none⟩,
    ⟨(some 22), .op (.mov (.tmp 1)), none⟩,
    ⟨(some 23), .op (.bin .quo (.tmp 22) (.val (.int .i64 64))), none⟩,
    ⟨(some 24), .call (.fnv 32) [(.tmp 21), (.tmp 23)], none⟩,
    ⟨(some 17), .op (.mov (.tmp 24)), none⟩,
    ⟨(some 25), .op (.extract (.tmp 17) 0), none⟩,
    ⟨(some 26), .op (.extract (.tmp 17) 1), none⟩,
    ⟨(some 7), .op (.alloc [(.int .i64 0), (.int .i64 0), (.int .i64 0)]), none⟩,
    ⟨none, .op (.store 3 (.tmp 7) (.tmp 25)), none⟩,
    ⟨(some 8), .op (.mov (.tmp 26)), none⟩])
  (.seq (.seq (.region [⟨(some 27), .op (.mov (.tmp 8)), none⟩,
     ⟨(some 28), .op (.un .not (.tmp 27)), none⟩])
   (.cond (.tmp 28) (.seq (.region [⟨(some 4), .op (.mov (.val .nilp)), none⟩,
      ⟨(some 5), .op (.mov (.val (.int .i64 0))), none⟩,
      ⟨(some 6), .op (.mov (.val (.bool false))), none⟩])
    (.ret))
   (.skip)))
  (.seq (.region [⟨(some 29), .op (.mov (.tmp 0)), none⟩,
    ⟨(some 30), .op (.nilCheck (.tmp 29)), none⟩,
    ⟨(some 31), .op (.fieldAddr 1 (.tmp 30)), none⟩,
    ⟨(some 32), .op (.load none (.tmp 31)), none⟩,
    ⟨(some 33), .op (.fieldAddr 0 (.tmp 7)), none⟩,
    ⟨(some 34), .op (.load none (.tmp 33)), none⟩,
    ⟨(some 35), .op (.lookup .int .nilp false (.tmp 32) (.tmp 34)), none⟩,
    ⟨(some 9), .op (.mov (.tmp 35)), none⟩])
  (.seq (.seq (.region [⟨(some 36), .op (.mov (.tmp 9)), none⟩,
     ⟨(some 37), .op (.eql false .ptr (.tmp 36) (.val .nilp)), none⟩])
   (.cond (.tmp 37) (.seq (.region [⟨(some 4), .op (.mov (.val .nilp)), none⟩,
      ⟨(some 5), .op (.mov (.val (.int .i64 0))), none⟩,
      ⟨(some 6), .op (.mov (.val (.bool false))), none⟩])
    (.ret))
   (.skip)))
  (.seq (.draw [⟨⟨(some 38), .op (.mov (.tmp 1)), none⟩, .pure⟩,
    ⟨⟨(some 39), .op (.fieldAddr 0 (.tmp 7)), none⟩, .pure⟩,
    ⟨⟨(some 40), .op (.load none (.tmp 39)), none⟩, .read [9]⟩,
    ⟨⟨(some 41), .op (.bin .mul (.tmp 40) (.val (.int .i64 64))), none⟩, .pure⟩,
    ⟨⟨(some 42), .op (.bin .sub (.tmp 38) (.tmp 41)), none⟩, .pure⟩,
    ⟨⟨(some 43), .op (.mov (.tmp 9)), none⟩, .pure⟩,
    ⟨⟨(some 44), .call (.fnv 72) [(.tmp 43)], none⟩, .act true⟩,
    ⟨⟨(some 45), .op (.bin .quo (.tmp 42) (.tmp 44)), none⟩, .pure⟩,
    ⟨⟨(some 10), .op (.mov (.tmp 45)), none⟩, .pure⟩])
  (.seq (.region [⟨(some 46), .op (.mov (.tmp 9)), none⟩,
    ⟨(some 47), .op (.mov (.tmp 10)), none⟩,
    ⟨(some 48), .op (.mov (.tmp 10)), none⟩,
    ⟨(some 49), .op (.bin .lss (.tmp 48) (.val (.int .i64 64))), none⟩,
    ⟨(some 50), .op (.mov (.tmp 49)), none⟩,
    ⟨(some 51), .op (.mov (.tmp 9)), (some (50, true))⟩,
    ⟨(some 52), .op (.nilCheck (.tmp 51)), (some (50, true))⟩,
    ⟨(some 53), .op (.fieldAddr 4 (.tmp 52)), (some (50, true))⟩,
    ⟨(some 54), .op (.load none (.tmp 53)), (some (50, true))⟩,
    ⟨(some 55), .op (.mov (.tmp 10)), (some (50, true))⟩,
    ⟨(some 56), .op (.bin .shr (.tmp 54) (.tmp 55)), (some (50, true))⟩,
    ⟨(some 57), .op (.bin .and (.tmp 56) (.val (.int .u64 1))), (some (50, true))⟩,
    ⟨(some 58), .op (.bin .eql (.tmp 57) (.val (.int .u64 1))), (some (50, true))⟩,
    ⟨(some 59), .op (.pick (.tmp 50) (.tmp 58) (.val (.bool false))), none⟩,
    ⟨(some 4), .op (.mov (.tmp 46)), none⟩,
    ⟨(some 5), .op (.mov (.tmp 47)), none⟩,
    ⟨(some 6), .op (.mov (.tmp 59)), none⟩])
  (.ret)))))))),
  [.tmp 4, .tmp 5, .tmp 6], none, none⟩
def A72 : AFun := ⟨.seq (.region [⟨(some 2), .op (.mov (.val (.int .i64 0))), none⟩])
  (.seq (.seq (.region [⟨(some 3), .op (.mov (.tmp 0)), none⟩,
     ⟨(some 4), .op (.nilCheck (.tmp 3)), none⟩,
     ⟨(some 5), .op (.fieldAddr 3 (.tmp 4)), none⟩,
     ⟨(some 6), .op (.load none (.tmp 5)), none⟩,
     ⟨(some 7), .op (.bin .lss (.tmp 6) (.val (.int .i64 0))), none⟩])
   (.cond (.tmp 7) (.seq (.region [⟨(some 8), .op (.mov (.tmp 0)), none⟩,
      ⟨(some 9), .op (.nilCheck (.tmp 8)), none⟩,
      ⟨(some 10), .op (.fieldAddr 0 (.tmp 9)), none⟩,
      ⟨(some 11), .op (.fieldAddr 1 (.tmp 10)), none⟩,
      ⟨(some 12), .op (.load none (.tmp 11)), none⟩,
      ⟨(some 13), .op (.bin .mul (.tmp 12) (.val (.int .i64 64))), none⟩,
      ⟨(some 2), .op (.mov (.tmp 13)), none⟩])
    (.ret))
   (.skip)))
  (.seq (.region [⟨(some 14), .op (.mov (.tmp 0)), none⟩,
    ⟨(some 15), .op (.nilCheck (.tmp 14)), none⟩,
    ⟨(some 16), .op (.fieldAddr 3 (.tmp 15)), none⟩,
    ⟨(some 17), .op (.load none (.tmp 16)), none⟩,
    ⟨(some 18), .call (.fnv 90) [(.tmp 17)], none⟩,
    ⟨(some 2), .op (.mov (.tmp 18)), none⟩])
  (.ret))),
  [.tmp 2], none, none⟩
def A73 : AFun := ⟨.seq (.region [⟨(some 4), .op (.mov (.tmp 1)), none⟩,
    ⟨(some 5), .op (.nilCheck (.tmp 4)), none⟩,
    ⟨(some 6), .op (.fieldAddr 4 (.tmp 5)), none⟩,
    ⟨(some 7), .op (.load none (.tmp 6)), none⟩,
    ⟨(some 8), .op (.bin .eql (.tmp 7) (.val (.int .u64 0))), none⟩,
    ⟨(some 9), .op (.mov (.tmp 8)), none⟩,
    ⟨(some 10), .op (.mov (.tmp 1)), (some (9, true))⟩,
    ⟨(some 11), .op (.nilCheck (.tmp 10)), (some (9, true))⟩,
    ⟨(some 12), .op (.fieldAddr 5 (.tmp 11)), (some (9, true))⟩,
    ⟨(some 13), .op (.load none (.tmp 12)), (some (9, true))⟩,
    ⟨(some 14), .op (.un .not (.tmp 13)), (some (9, true))⟩,
    ⟨(some 15), .op (.pick (.tmp 9) (.tmp 14) (.val (.bool false))), none⟩])
  (.cond (.tmp 15) (.seq (.draw [⟨⟨(some 16), .op (.mov (.tmp 0)), none⟩, .pure⟩,
     ⟨⟨(some 17), .op (.nilCheck (.tmp 16)), none⟩, .pure⟩,
     ⟨⟨(some 18), .op (.fieldAddr 1 (.tmp 17)), none⟩, .pure⟩,
     ⟨⟨(some 19), .op (.load none (.tmp 18)), none⟩, .read []⟩,
     ⟨⟨(some 20), .op (.mov (.tmp 1)), none⟩, .pure⟩,
     ⟨⟨(some 21), .op (.nilCheck (.tmp 20)), none⟩, .pure⟩,
     ⟨⟨(some 22), .op (.fieldAddr 0 (.tmp 21)), none⟩, .pure⟩,
     ⟨⟨(some 23), .op (.fieldAddr 0 (.tmp 22)), none⟩, .pure⟩,
     ⟨⟨(some 24), .op (.load none (.tmp 23)), none⟩, .read []⟩,
     ⟨⟨none, .op (.delete .int (.tmp 19) (.tmp 24)), none⟩, .act true⟩])
   (.draw [⟨⟨(some 25), .op (.mov (.tmp 0)), none⟩, .pure⟩,
    ⟨⟨(some 26), .op (.nilCheck (.tmp 25)), none⟩, .pure⟩,
    ⟨⟨(some 27), .op (.fieldAddr 0 (.tmp 26)), none⟩, .pure⟩,
    ⟨⟨(some 28), .op (.load none (.tmp 27)), none⟩, .read []⟩,
    ⟨⟨(some 29), .op (.mov (.tmp 1)), none⟩, .pure⟩,
    ⟨⟨(some 30), .op (.nilCheck (.tmp 29)), none⟩, .pure⟩,
    ⟨⟨(some 31), .op (.fieldAddr 0 (.tmp 30)), none⟩, .pure⟩,
    ⟨⟨(some 32), .op (.fieldAddr 0 (.tmp 31)), none⟩, .pure⟩,
    ⟨⟨(some 33), .op (.load none (.tmp 32)), none⟩, .read []⟩,
    ⟨⟨(some 34), .call (.fnv 33) [(.tmp 28), (.tmp 33)], none⟩, .act true⟩]))
  (.skip)),
  [], none, none⟩
def A80 : AFun := ⟨.seq (.region [⟨(some 2), .op (.alloc [(.int .i64 0), (.int .i64 0), (.int .i64 0), (.int .i64 0)]), none⟩])
  (.seq (.region [⟨(some 5), .op (.mov (.tmp 0)), none⟩,
    ⟨(some 6), .call (.fnv 70) [(.tmp 5)], none⟩,
    ⟨(some 7), .op (.mov (.tmp 0)), none⟩,
    ⟨(some 8), .call (.fnv 96) [(.tmp 7)], none⟩,
    ⟨(some 9), .op (.build [(.int .i64 0), (.int .i64 0), (.int .i64 0), (.int .i64 0)] [(0, 1, (.tmp 6)), (2, 1, (.tmp 8)), (3, 1, (.val (.int .i64 64)))]), none⟩,
    ⟨(some 3), .op (.alloc [(.int .i64 0), (.int .i64 0), (.int .i64 0), (.int .i64 0)]), none⟩,
    ⟨none, .op (.store 4 (.tmp 3) (.tmp 9)), none⟩])
  (.seq (.seq (.region [⟨(some 10), .op (.mov (.tmp 0)), none⟩,
     ⟨(some 11), .op (.un .xor (.tmp 10)), none⟩,
     ⟨(some 4), .op (.mov (.tmp 11)), none⟩])
   (.block 0 (.loop (.seq (.seq (.region [⟨(some 12), .op (.mov (.tmp 4)), none⟩,
        ⟨(some 13), .op (.bin .neq (.tmp 12) (.val (.int .u64 0))), none⟩])
      (.cond (.tmp 13) (.skip)
      (.exit 0)))
     (.seq (.block 1 (.region [⟨(some 18), .op (.fieldAddr 1 (.tmp 3)), none⟩,
        ⟨(some 19), .op (.load none (.tmp 18)), none⟩,
        ⟨(some 20), .op (.bin .add (.tmp 19) (.val (.int .i64 1))), none⟩,
        ⟨(some 21), .op (.fieldAddr 1 (.tmp 3)), none⟩,
        ⟨none, .op (.store 1 (.tmp 21) (.tmp 20)), none⟩]))
     (.region [⟨(some 14), .op (.mov (.tmp 4)), none⟩,
      ⟨(some 15), .op (.mov (.tmp 4)), none⟩,
      ⟨(some 16), .op (.bin .shr (.tmp 15) (.val (.int .u64 1))), none⟩,
      ⟨(some 17), .op (.bin .and (.tmp 14) (.tmp 16)), none⟩,
      ⟨(some 4), .op (.mov (.tmp 17)), none⟩]))))))
  (.seq (.region [⟨(some 22), .op (.load (some 4) (.tmp 3)), none⟩,
    ⟨none, .op (.store 4 (.tmp 2) (.tmp 22)), none⟩])
  (.ret)))),
  [.cell 2 (some 4)], none, none⟩
def A81 : AFun := ⟨.seq (.region [⟨(some 2), .op (.box (.tmp 0)), none⟩,
    ⟨(some 3), .op (.box (.tmp 1)), none⟩,
    ⟨(some 4), .op (.alloc [(.int .i64 0), (.int .i64 0), (.int .i64 0), (.int .i64 0)]), none⟩])
  (.seq (.region [⟨(some 6), .op (.fieldAddr 0 (.tmp 2)), none⟩,
    ⟨(some 7), .op (.load none (.tmp 6)), none⟩,
    ⟨(some 8), .op (.fieldAddr 1 (.tmp 2)), none⟩,
    ⟨(some 9), .op (.load none (.tmp 8)), none⟩,
    ⟨(some 10), .op (.fieldAddr 1 (.tmp 3)), none⟩,
    ⟨(some 11), .op (.load none (.tmp 10)), none⟩,
    ⟨(some 12), .op (.fieldAddr 2 (.tmp 2)), none⟩,
    ⟨(some 13), .op (.load none (.tmp 12)), none⟩,
    ⟨(some 14), .op (.fieldAddr 0 (.tmp 3)), none⟩,
    ⟨(some 15), .op (.load none (.tmp 14)), none⟩,
    ⟨(some 16), .op (.bin .add (.tmp 13) (.tmp 15)), none⟩,
    ⟨(some 17), .op (.max3 (.tmp 9) (.tmp 11) (.tmp 16)), none⟩,
    ⟨(some 18), .op (.fieldAddr 2 (.tmp 3)), none⟩,
    ⟨(some 19), .op (.load none (.tmp 18)), none⟩,
    ⟨(some 20), .op (.fieldAddr 3 (.tmp 2)), none⟩,
    ⟨(some 21), .op (.load none (.tmp 20)), none⟩,
    ⟨(some 22), .op (.fieldAddr 3 (.tmp 3)), none⟩,
    ⟨(some 23), .op (.load none (.tmp 22)), none⟩,
    ⟨(some 24), .op (.bin .add (.tmp 21) (.tmp 23)), none⟩,
    ⟨(some 25), .op (.build [(.int .i64 0), (.int .i64 0), (.int .i64 0), (.int .i64 0)] [(0, 1, (.tmp 7)), (1, 1, (.tmp 17)), (2, 1, (.tmp 19)), (3, 1, (.tmp 24))]), none⟩,
    ⟨(some 5), .op (.alloc [(.int .i64 0), (.int .i64 0), (.int .i64 0), (.int .i64 0)]), none⟩,
    ⟨none, .op (.store 4 (.tmp 5) (.tmp 25)), none⟩])
  (.seq (.seq (.region [⟨(some 26), .op (.fieldAddr 0 (.tmp 2)), none⟩,
     ⟨(some 27), .op (.load none (.tmp 26)), none⟩,
     ⟨(some 28), .op (.fieldAddr 3 (.tmp 2)), none⟩,
     ⟨(some 29), .op (.load none (.tmp 28)), none⟩,
     ⟨(some 30), .op (.bin .eql (.tmp 27) (.tmp 29)), none⟩])
   (.cond (.tmp 30) (.region [⟨(some 31), .op (.fieldAddr 0 (.tmp 5)), none⟩,
     ⟨(some 32), .op (.load none (.tmp 31)), none⟩,
     ⟨(some 33), .op (.fieldAddr 0 (.tmp 3)), none⟩,
     ⟨(some 34), .op (.load none (.tmp 33)), none⟩,
     ⟨(some 35), .op (.bin .add (.tmp 32) (.tmp 34)), none⟩,
     ⟨(some 36), .op (.fieldAddr 0 (.tmp 5)), none⟩,
     ⟨none, .op (.store 1 (.tmp 36) (.tmp 35)), none⟩])
   (.skip)))
  (.seq (.seq (.region [⟨(some 37), .op (.fieldAddr 2 (.tmp 3)), none⟩,
     ⟨(some 38), .op (.load none (.tmp 37)), none⟩,
     ⟨(some 39), .op (.fieldAddr 3 (.tmp 3)), none⟩,
     ⟨(some 40), .op (.load none (.tmp 39)), none⟩,
     ⟨(some 41), .op (.bin .eql (.tmp 38) (.tmp 40)), none⟩])
   (.cond (.tmp 41) (.region [⟨(some 42), .op (.fieldAddr 2 (.tmp 5)), none⟩,
     ⟨(some 43), .op (.load none (.tmp 42)), none⟩,
     ⟨(some 44), .op (.fieldAddr 2 (.tmp 2)), none⟩,
     ⟨(some 45), .op (.load none (.tmp 44)), none⟩,
     ⟨(some 46), .op (.bin .add (.tmp 43) (.tmp 45)), none⟩,
     ⟨(some 47), .op (.fieldAddr 2 (.tmp 5)), none⟩,
     ⟨none, .op (.store 1 (.tmp 47) (.tmp 46)), none⟩])
   (.skip)))
  (.seq (.region [⟨(some 48), .op (.load (some 4) (.tmp 5)), none⟩,
    ⟨none, .op (.store 4 (.tmp 4) (.tmp 48)), none⟩])
  (.ret))))),
  [.cell 4 (some 4)], none, none⟩
def A82 : AFun := ⟨.seq (.region [⟨(some 6), .op (.mov (.val (.bool false))), none⟩])
  (.seq (.region [⟨(some 7), .op (.mov (.tmp 1)), none⟩,
    ⟨(some 8), .op (.bin .lss (.tmp 7) (.val (.int .i64 0))), none⟩,
    ⟨(some 9), .op (.mov (.tmp 8)), none⟩,
    ⟨(some 10), .op (.mov (.tmp 2)), (some (9, false))⟩,
    ⟨(some 11), .op (.bin .lss (.tmp 10) (.val (.int .i64 1))), (some (9, false))⟩,
    ⟨(some 12), .op (.pick (.tmp 9) (.val (.bool true)) (.tmp 11)), none⟩,
    ⟨(some 13), .op (.mov (.tmp 12)), none⟩,
    ⟨(some 14), .op (.mov (.tmp 1)), (some (13, false))⟩,
    ⟨(some 15), .op (.mov (.tmp 0)), (some (13, false))⟩,
    ⟨(some 16), .op (.nilCheck (.tmp 15)), (some (13, false))⟩,
    ⟨(some 17), .op (.fieldAddr 0 (.tmp 16)), (some (13, false))⟩,
    ⟨(some 18), .op (.load none (.tmp 17)), (some (13, false))⟩,
    ⟨(some 19), .op (.bin .geq (.tmp 14) (.tmp 18)), (some (13, false))⟩,
    ⟨(some 20), .op (.pick (.tmp 13) (.val (.bool true)) (.tmp 19)), none⟩,
    ⟨(some 21), .op (.mov (.tmp 20)), none⟩,
    ⟨(some 22), .op (.mov (.tmp 2)), (some (21, false))⟩,
    ⟨(some 23), .op (.mov (.tmp 0)), (some (21, false))⟩,
    ⟨(some 24), .op (.nilCheck (.tmp 23)), (some (21, false))⟩,
    ⟨(some 25), .op (.fieldAddr 0 (.tmp 24)), (some (21, false))⟩,
    ⟨(some 26), .op (.load none (.tmp 25)), (some (21, false))⟩,
    ⟨(some 27), .op (.mov (.tmp 1)), (some (21, false))⟩,
    ⟨(some 28), .op (.bin .sub (.tmp 26) (.tmp 27)), (some (21, false))⟩,
    ⟨(some 29), .op (.bin .gtr (.tmp 22) (.tmp 28)), (some (21, false))⟩,
    ⟨(some 30), .op (.pick (.tmp 21) (.val (.bool true)) (.tmp 29)), none⟩,
    ⟨(some 6), .op (.mov (.tmp 30)), none⟩])
  (.ret)),
  [.tmp 6], none, none⟩
def A83 : AFun := ⟨.seq (.region [⟨(some 4), .op (.mov (.val (.int .i64 0))), none⟩])
  (.seq (.region [⟨(some 6), .op (.mov (.tmp 0)), none⟩,
    ⟨(some 7), .op (.un .xor (.tmp 6)), none⟩,
    ⟨(some 5), .op (.mov (.tmp 7)), none⟩])
  (.seq (.seq (.region [⟨(some 8), .op (.mov (.tmp 1)), none⟩,
     ⟨(some 9), .op (.bin .sub (.tmp 8) (.val (.int .i64 1))), none⟩,
     ⟨(some 10), .op (.mov (.val (.int .i64 0))), none⟩])
   (.block 0 (.loop (.seq (.region [⟨(some 11), .op (.bin .lss (.tmp 10) (.tmp 9)), none⟩])
     (.seq (.cond (.tmp 11) (.skip)
      (.exit 0))
     (.seq (.block 1 (.region [⟨(some 12), .op (.mov (.tmp 5)), none⟩,
        ⟨(some 13), .op (.mov (.tmp 5)), none⟩,
        ⟨(some 14), .op (.bin .shr (.tmp 13) (.val (.int .u64 1))), none⟩,
        ⟨(some 15), .op (.bin .and (.tmp 12) (.tmp 14)), none⟩,
        ⟨(some 5), .op (.mov (.tmp 15)), none⟩]))
     (.region [⟨(some 16), .op (.bin .add (.tmp 10) (.val (.int .i64 1))), none⟩,
      ⟨(some 10), .op (.mov (.tmp 16)), none⟩])))))))
  (.seq (.region [⟨(some 17), .op (.mov (.tmp 5)), none⟩,
    ⟨(some 18), .call (.fnv 70) [(.tmp 17)], none⟩,
    ⟨(some 4), .op (.mov (.tmp 18)), none⟩])
  (.ret)))),
  [.tmp 4], none, none⟩
def A84 : AFun := ⟨.seq (.seq (.region [⟨(some 5), .op (.load none (.tmp 1)), none⟩,
     ⟨(some 6), .op (.eql false .ptr (.tmp 5) (.val .nilp)), none⟩])
   (.cond (.tmp 6) (.ret)
   (.skip)))
  (.seq (.region [⟨(some 3), .op (.mov (.val (.int .i64 0))), none⟩])
  (.block 0 (.loop (.seq (.seq (.region [⟨(some 7), .op (.mov (.tmp 3)), none⟩,
       ⟨(some 8), .op (.load none (.tmp 1)), none⟩,
       ⟨(some 9), .op (.nilCheck (.tmp 8)), none⟩,
       ⟨(some 10), .op (.fieldAddr 0 (.tmp 9)), none⟩,
       ⟨(some 11), .op (.load none (.tmp 10)), none⟩,
       ⟨(some 12), .op (.bin .lss (.tmp 7) (.tmp 11)), none⟩])
     (.cond (.tmp 12) (.skip)
     (.exit 0)))
    (.seq (.block 1 (.seq (.region [⟨(some 4), .op (.mov (.val (.int .i64 0))), none⟩])
      (.seq (.block 2 (.loop (.seq (.seq (.region [⟨(some 15), .op (.load none (.tmp 1)), none⟩,
            ⟨(some 16), .op (.mov (.tmp 3)), none⟩,
            ⟨(some 17), .op (.mov (.tmp 4)), none⟩,
            ⟨(some 18), .op (.bin .add (.tmp 16) (.tmp 17)), none⟩,
            ⟨(some 19), .call (.fnv 19) [(.tmp 15), (.tmp 18)], none⟩,
            ⟨(some 20), .op (.un .not (.tmp 19)), none⟩])
          (.cond (.tmp 20) (.skip)
          (.exit 2)))
         (.block 3 (.region [⟨(some 21), .op (.mov (.tmp 4)), none⟩,
           ⟨(some 22), .op (.bin .add (.tmp 21) (.val (.int .i64 1))), none⟩,
           ⟨(some 4), .op (.mov (.tmp 22)), none⟩])))))
      (.seq (.seq (.region [⟨(some 23), .op (.mov (.tmp 4)), none⟩,
         ⟨(some 24), .op (.bin .gtr (.tmp 23) (.val (.int .i64 0))), none⟩,
         ⟨(some 25), .op (.mov (.tmp 24)), none⟩,
         ⟨(some 26), .op (.mov (.tmp 0)), (some (25, true))⟩,
         ⟨(some 27), .op (.mov (.tmp 3)), (some (25, true))⟩,
         ⟨(some 28), .op (.mov (.tmp 4)), (some (25, true))⟩,
         ⟨(some 29), .call (.tmp 26) [(.tmp 27), (.tmp 28)], (some (25, true))⟩,
         ⟨(some 30), .op (.un .not (.tmp 29)), (some (25, true))⟩,
         ⟨(some 31), .op (.pick (.tmp 25) (.tmp 30) (.val (.bool false))), none⟩])
       (.cond (.tmp 31) (.ret)
       (.skip)))
      (.region [⟨(some 32), .op (.mov (.tmp 3)), none⟩,
       ⟨(some 33), .op (.mov (.tmp 4)), none⟩,
       ⟨(some 34), .op (.bin .add (.tmp 32) (.tmp 33)), none⟩,
       ⟨(some 3), .op (.mov (.tmp 34)), none⟩])))))
    (.region [⟨(some 13), .op (.mov (.tmp 3)), none⟩,
     ⟨(some 14), .op (.bin .add (.tmp 13) (.val (.int .i64 1))), none⟩,
     ⟨(some 3), .op (.mov (.tmp 14)), none⟩])))))),
  [], none, none⟩
def A85 : AFun := ⟨.seq (.seq (.region [⟨(some 5), .op (.load none (.tmp 1)), none⟩,
     ⟨(some 6), .op (.eql false .ptr (.tmp 5) (.val .nilp)), none⟩])
   (.cond (.tmp 6) (.ret)
   (.skip)))
  (.seq (.region [⟨(some 3), .op (.mov (.val (.int .i64 0))), none⟩])
  (.block 0 (.loop (.seq (.seq (.region [⟨(some 7), .op (.mov (.tmp 3)), none⟩,
       ⟨(some 8), .op (.load none (.tmp 1)), none⟩,
       ⟨(some 9), .op (.nilCheck (.tmp 8)), none⟩,
       ⟨(some 10), .op (.fieldAddr 1 (.tmp 9)), none⟩,
       ⟨(some 11), .op (.load none (.tmp 10)), none⟩,
       ⟨(some 12), .op (.lenS (.tmp 11)), none⟩,
       ⟨(some 13), .op (.bin .lss (.tmp 7) (.tmp 12)), none⟩])
     (.cond (.tmp 13) (.skip)
     (.exit 0)))
    (.block 1 (.seq (.region [⟨(some 14), .op (.load none (.tmp 1)), none⟩,
       ⟨(some 15), .op (.nilCheck (.tmp 14)), none⟩,
       ⟨(some 16), .op (.fieldAddr 1 (.tmp 15)), none⟩,
       ⟨(some 17), .op (.load none (.tmp 16)), none⟩,
       ⟨(some 18), .op (.mov (.tmp 3)), none⟩,
       ⟨(some 19), .op (.idxS 3 (.tmp 17) (.tmp 18)), none⟩,
       ⟨(some 20), .op (.load (some 3) (.tmp 19)), none⟩,
       ⟨(some 4), .op (.alloc [(.int .i64 0), (.int .i64 0), (.int .i64 0)]), none⟩,
       ⟨none, .op (.store 3 (.tmp 4) (.tmp 20)), none⟩])
     (.seq (.seq (.region [⟨(some 21), .op (.load (some 3) (.tmp 4)), none⟩,
        ⟨(some 22), .op (.build [(.int .i64 0), (.int .i64 0), (.int .i64 0)] []), none⟩,
        ⟨(some 23), .op (.eql false (.flat [.int, .int, .int]) (.tmp 21) (.tmp 22)), none⟩])
      (.cond (.tmp 23) (.seq (.region [⟨(some 24), .op (.mov (.tmp 3)), none⟩,
         ⟨(some 25), .op (.bin .add (.tmp 24) (.val (.int .i64 1))), none⟩,
         ⟨(some 3), .op (.mov (.tmp 25)), none⟩])
       (.exit 1))
      (.skip)))
     (.seq (.seq (.region [⟨(some 26), .op (.mov (.tmp 0)), none⟩,
        ⟨(some 27), .op (.load (some 3) (.tmp 4)), none⟩,
        ⟨(some 28), .call (.tmp 26) [(.tmp 27)], none⟩,
        ⟨(some 29), .op (.un .not (.tmp 28)), none⟩])
      (.cond (.tmp 29) (.ret)
      (.skip)))
     (.region [⟨(some 30), .op (.mov (.tmp 3)), none⟩,
      ⟨(some 31), .op (.fieldAddr 1 (.tmp 4)), none⟩,
      ⟨(some 32), .op (.load none (.tmp 31)), none⟩,
      ⟨(some 33), .op (.bin .add (.tmp 30) (.tmp 32)), none⟩,
      ⟨(some 3), .op (.mov (.tmp 33)), none⟩]))))))))),
  [], none, none⟩
def A86 : AFun := ⟨.seq (.region [⟨(some 0), .op (.alloc [(.int .i64 0), (.int .i64 0), (.int .i64 0), (.int .i64 0), (.int .i64 0), (.int .i64 0), (.int .i64 0), (.int .i64 0), (.int .i64 0), (.int .i64 0), (.int .i64 0), (.int .i64 0), (.int .i64 0), (.int .i64 0), (.int .i64 0), (.int .i64 0)]), none⟩])
  (.seq (.region [⟨(some 1), .op (.build [(.int .i64 0), (.int .i64 0), (.int .i64 0), (.int .i64 0), (.int .i64 0), (.int .i64 0), (.int .i64 0), (.int .i64 0), (.int .i64 0), (.int .i64 0), (.int .i64 0), (.int .i64 0), (.int .i64 0), (.int .i64 0), (.int .i64 0), (.int .i64 0)] [(0, 1, (.val (.int .i64 1))), (1, 1, (.val (.int .i64 2))), (2, 1, (.val (.int .i64 3))), (3, 1, (.val (.int .i64 4))), (4, 1, (.val (.int .i64 5))), (5, 1, (.val (.int .i64 6))), (6, 1, (.val (.int .i64 8))), (7, 1, (.val (.int .i64 10))), (8, 1, (.val (.int .i64 12))), (9, 1, (.val (.int .i64 16))), (10, 1, (.val (.int .i64 20))), (11, 1, (.val (.int .i64 24))), (12, 1, (.val (.int .i64 32))), (13, 1, (.val (.int .i64 40))), (14, 1, (.val (.int .i64 48))), (15, 1, (.val (.int .i64 64)))]), none⟩,
    ⟨none, .op (.store 16 (.tmp 0) (.tmp 1)), none⟩])
  (.ret)),
  [.cell 0 (some 16)], none, none⟩
def A87 : AFun := ⟨.seq (.region [⟨(some 2), .op (.mov (.val (.bool false))), none⟩])
  (.seq (.draw [⟨⟨(some 3), .op (.mov (.tmp 0)), none⟩, .pure⟩,
    ⟨⟨(some 4), .op (.nilCheck (.tmp 3)), none⟩, .pure⟩,
    ⟨⟨(some 5), .op (.fieldAddr 4 (.tmp 4)), none⟩, .pure⟩,
    ⟨⟨(some 6), .op (.load none (.tmp 5)), none⟩, .read []⟩,
    ⟨⟨(some 7), .call (.fnv 97) [(.tmp 6)], none⟩, .act false⟩,
    ⟨⟨(some 8), .op (.mov (.tmp 0)), none⟩, .pure⟩,
    ⟨⟨(some 9), .op (.nilCheck (.tmp 8)), none⟩, .pure⟩,
    ⟨⟨(some 10), .op (.fieldAddr 3 (.tmp 9)), none⟩, .pure⟩,
    ⟨⟨(some 11), .op (.load none (.tmp 10)), none⟩, .read [4]⟩,
    ⟨⟨(some 12), .call (.fnv 98) [(.tmp 11)], none⟩, .act true⟩,
    ⟨⟨(some 13), .op (.bin .eql (.tmp 7) (.tmp 12)), none⟩, .pure⟩,
    ⟨⟨(some 2), .op (.mov (.tmp 13)), none⟩, .pure⟩])
  (.ret)),
  [.tmp 2], none, none⟩
def A88 : AFun := ⟨.seq (.region [⟨(some 2), .op (.box (.tmp 0)), none⟩,
    ⟨(some 3), .op (.box (.tmp 1)), none⟩,
    ⟨(some 4), .op (.alloc [.nilp]), none⟩])
  (.seq (.seq (.region [⟨(some 7), .op (.load none (.tmp 2)), none⟩,
     ⟨(some 8), .op (.nilCheck (.tmp 7)), none⟩,
     ⟨(some 9), .op (.fieldAddr 0 (.tmp 8)), none⟩,
     ⟨(some 10), .op (.load none (.tmp 9)), none⟩,
     ⟨(some 11), .call (.fnv 64) [(.tmp 10)], none⟩])
   (.block 0 (.range (.tmp 11) [12] (.region [⟨(some 5), .op (.alloc [(.int .i64 0), (.int .i64 0), (.int .i64 0)]), none⟩,
      ⟨none, .op (.store 3 (.tmp 5) (.tmp 12)), none⟩])
    (.block 1 (.seq (.region [⟨(some 13), .op (.load none (.tmp 2)), none⟩,
        ⟨(some 14), .op (.nilCheck (.tmp 13)), none⟩,
        ⟨(some 15), .op (.fieldAddr 1 (.tmp 14)), none⟩,
        ⟨(some 16), .op (.load none (.tmp 15)), none⟩,
        ⟨(some 17), .op (.fieldAddr 0 (.tmp 5)), none⟩,
        ⟨(some 18), .op (.load none (.tmp 17)), none⟩,
        ⟨(some 19), .op (.lookup .int .nilp false (.tmp 16) (.tmp 18)), none⟩,
        ⟨(some 6), .op (.mov (.tmp 19)), none⟩])
      (.seq (.draw [⟨⟨(some 20), .op (.mov (.tmp 6)), none⟩, .pure⟩,
        ⟨⟨(some 21), .op (.eql true .ptr (.tmp 20) (.val .nilp)), none⟩, .pure⟩,
        ⟨⟨(some 22), .op (.mov (.tmp 21)), none⟩, .pure⟩,
        ⟨⟨(some 23), .op (.mov (.tmp 6)), (some (22, true))⟩, .pure⟩,
        ⟨⟨(some 24), .op (.nilCheck (.tmp 23)), (some (22, true))⟩, .pure⟩,
        ⟨⟨(some 25), .op (.fieldAddr 3 (.tmp 24)), (some (22, true))⟩, .pure⟩,
        ⟨⟨(some 26), .op (.load none (.tmp 25)), (some (22, true))⟩, .read []⟩,
        ⟨⟨(some 27), .op (.load none (.tmp 3)), (some (22, true))⟩, .read []⟩,
        ⟨⟨(some 28), .op (.bin .eql (.tmp 26) (.tmp 27)), (some (22, true))⟩, .pure⟩,
        ⟨⟨(some 29), .op (.pick (.tmp 22) (.tmp 28) (.val (.bool false))), none⟩, .pure⟩,
        ⟨⟨(some 30), .op (.mov (.tmp 29)), none⟩, .pure⟩,
        ⟨⟨(some 31), .op (.mov (.tmp 6)), (some (30, true))⟩, .pure⟩,
        ⟨⟨(some 32), .op (.nilCheck (.tmp 31)), (some (30, true))⟩, .pure⟩,
        ⟨⟨(some 33), .op (.fieldAddr 5 (.tmp 32)), (some (30, true))⟩, .pure⟩,
        ⟨⟨(some 34), .op (.load none (.tmp 33)), (some (30, true))⟩, .read []⟩,
        ⟨⟨(some 35), .op (.un .not (.tmp 34)), (some (30, true))⟩, .pure⟩,
        ⟨⟨(some 36), .op (.pick (.tmp 30) (.tmp 35) (.val (.bool false))), none⟩, .pure⟩,
        ⟨⟨(some 37), .op (.mov (.tmp 36)), none⟩, .pure⟩,
        ⟨⟨(some 38), .op (.mov (.tmp 6)), (some (37, true))⟩, .pure⟩,
        ⟨⟨(some 39), .call (.fnv 87) [(.tmp 38)], (some (37, true))⟩, .act true⟩,
        ⟨⟨(some 40), .op (.un .not (.tmp 39)), (some (37, true))⟩, .pure⟩,
        ⟨⟨(some 41), .op (.pick (.tmp 37) (.tmp 40) (.val (.bool false))), none⟩, .pure⟩])
      (.cond (.tmp 41) (.seq (.region [⟨(some 42), .op (.mov (.tmp 6)), none⟩,
         ⟨none, .op (.store 1 (.tmp 4) (.tmp 42)), none⟩])
       (.ret))
      (.skip))))))))
  (.seq (.region [⟨none, .op (.store 1 (.tmp 4) (.val .nilp)), none⟩])
  (.ret))),
  [.cell 4 none], none, none⟩
def A89 : AFun := ⟨.seq (.region [⟨(some 2), .op (.mov (.val (.int .i64 0))), none⟩])
  (.seq (.region [⟨(some 6), .op (.mov (.tmp 0)), none⟩,
    ⟨(some 7), .call (.fnv 90) [(.tmp 6)], none⟩,
    ⟨(some 3), .op (.mov (.tmp 7)), none⟩])
  (.seq (.seq (.region [⟨(some 8), .op (.mov (.tmp 3)), none⟩,
     ⟨(some 9), .op (.bin .eql (.tmp 8) (.val (.int .i64 0))), none⟩])
   (.cond (.tmp 9) (.seq (.region [⟨(some 2), .op (.mov (.val (.int .i64 0))), none⟩])
    (.ret))
   (.skip)))
  (.seq (.region [⟨(some 4), .op (.mov (.val (.int .i64 1))), none⟩])
  (.block 0 (.loop (.seq (.block 1 (.seq (.region [⟨(some 12), .op (.mov (.tmp 4)), none⟩,
        ⟨(some 13), .op (.bin .mul (.tmp 12) (.val (.int .i64 64))), none⟩,
        ⟨(some 5), .op (.mov (.tmp 13)), none⟩])
      (.seq (.region [⟨(some 14), .op (.mov (.tmp 5)), none⟩,
        ⟨(some 15), .op (.mov (.tmp 3)), none⟩,
        ⟨(some 16), .op (.bin .rem (.tmp 14) (.tmp 15)), none⟩,
        ⟨(some 17), .op (.mov (.tmp 5)), none⟩,
        ⟨(some 18), .op (.bin .quo (.tmp 17) (.val (.int .i64 8))), none⟩,
        ⟨(some 19), .op (.bin .leq (.tmp 16) (.tmp 18)), none⟩])
      (.cond (.tmp 19) (.seq (.region [⟨(some 20), .op (.mov (.tmp 4)), none⟩,
         ⟨(some 2), .op (.mov (.tmp 20)), none⟩])
       (.ret))
      (.skip)))))
    (.region [⟨(some 10), .op (.mov (.tmp 4)), none⟩,
     ⟨(some 11), .op (.bin .add (.tmp 10) (.val (.int .i64 1))), none⟩,
     ⟨(some 4), .op (.mov (.tmp 11)), none⟩]))))))),
  [.tmp 2], none, none⟩
def A90 : AFun := ⟨.seq (.region [⟨(some 2), .op (.mov (.val (.int .i64 0))), none⟩])
  (.seq (.seq (.region [⟨(some 3), .op (.mov (.tmp 0)), none⟩,
     ⟨(some 4), .op (.bin .lss (.tmp 3) (.val (.int .i64 0))), none⟩,
     ⟨(some 5), .op (.mov (.tmp 4)), none⟩,
     ⟨(some 6), .op (.mov (.tmp 0)), (some (5, false))⟩,
     ⟨(some 7), .call (.fnv 65) [], (some (5, false))⟩,
     ⟨(some 8), .op (.bin .geq (.tmp 6) (.tmp 7)), (some (5, false))⟩,
     ⟨(some 9), .op (.pick (.tmp 5) (.val (.bool true)) (.tmp 8)), none⟩])
   (.cond (.tmp 9) (.seq (.region [⟨(some 2), .op (.mov (.val (.int .i64 0))), none⟩])
    (.ret))
   (.skip)))
  (.seq (.region [⟨(some 10), .call (.fnv 86) [], none⟩,
    ⟨(some 11), .op (.mov (.tmp 0)), none⟩,
    ⟨(some 12), .op (.index 1 16 none (.tmp 10) (.tmp 11)), none⟩,
    ⟨(some 2), .op (.mov (.tmp 12)), none⟩])
  (.ret))),
  [.tmp 2], none, none⟩
def A96 : AFun := ⟨.seq (.region [⟨(some 2), .op (.mov (.val (.int .i64 0))), none⟩])
  (.seq (.region [⟨(some 3), .op (.mov (.tmp 0)), none⟩,
    ⟨(some 4), .call (.fnv 102) [(.tmp 3)], none⟩,
    ⟨(some 5), .op (.bin .sub (.val (.int .i64 64)) (.tmp 4)), none⟩,
    ⟨(some 2), .op (.mov (.tmp 5)), none⟩])
  (.ret)),
  [.tmp 2], none, none⟩
def A97 : AFun := ⟨.seq (.region [⟨(some 2), .op (.mov (.val (.int .i64 0))), none⟩])
  (.seq (.region [⟨(some 3), .op (.mov (.tmp 0)), none⟩,
    ⟨(some 4), .op (.bin .shr (.tmp 3) (.val (.int .u64 1))), none⟩,
    ⟨(some 5), .op (.bin .and (.tmp 4) (.val (.int .u64 6148914691236517205))), none⟩,
    ⟨(some 6), .op (.mov (.tmp 0)), none⟩,
    ⟨(some 7), .op (.bin .and (.tmp 6) (.val (.int .u64 6148914691236517205))), none⟩,
    ⟨(some 8), .op (.bin .add (.tmp 5) (.tmp 7)), none⟩,
    ⟨(some 0), .op (.mov (.tmp 8)), none⟩])
  (.seq (.region [⟨(some 9), .op (.mov (.tmp 0)), none⟩,
    ⟨(some 10), .op (.bin .shr (.tmp 9) (.val (.int .u64 2))), none⟩,
    ⟨(some 11), .op (.bin .and (.tmp 10) (.val (.int .u64 3689348814741910323))), none⟩,
    ⟨(some 12), .op (.mov (.tmp 0)), none⟩,
    ⟨(some 13), .op (.bin .and (.tmp 12) (.val (.int .u64 3689348814741910323))), none⟩,
    ⟨(some 14), .op (.bin .add (.tmp 11) (.tmp 13)), none⟩,
    ⟨(some 0), .op (.mov (.tmp 14)), none⟩])
  (.seq (.region [⟨(some 15), .op (.mov (.tmp 0)), none⟩,
    ⟨(some 16), .op (.bin .shr (.tmp 15) (.val (.int .u64 4))), none⟩,
    ⟨(some 17), .op (.mov (.tmp 0)), none⟩,
    ⟨(some 18), .op (.bin .add (.tmp 16) (.tmp 17)), none⟩,
    ⟨(some 19), .op (.bin .and (.tmp 18) (.val (.int .u64 1085102592571150095))), none⟩,
    ⟨(some 0), .op (.mov (.tmp 19)), none⟩])
  (.seq (.region [⟨(some 20), .op (.mov (.tmp 0)), none⟩,
    ⟨(some 21), .op (.mov (.tmp 0)), none⟩,
    ⟨(some 22), .op (.bin .shr (.tmp 21) (.val (.int .u64 8))), none⟩,
    ⟨(some 23), .op (.bin .add (.tmp 20) (.tmp 22)), none⟩,
    ⟨(some 0), .op (.mov (.tmp 23)), none⟩])
  (.seq (.region [⟨(some 24), .op (.mov (.tmp 0)), none⟩,
    ⟨(some 25), .op (.mov (.tmp 0)), none⟩,
    ⟨(some 26), .op (.bin .shr (.tmp 25) (.val (.int .u64 16))), none⟩,
    ⟨(some 27), .op (.bin .add (.tmp 24) (.tmp 26)), none⟩,
    ⟨(some 0), .op (.mov (.tmp 27)), none⟩])
  (.seq (.region [⟨(some 28), .op (.mov (.tmp 0)), none⟩,
    ⟨(some 29), .op (.mov (.tmp 0)), none⟩,
    ⟨(some 30), .op (.bin .shr (.tmp 29) (.val (.int .u64 32))), none⟩,
    ⟨(some 31), .op (.bin .add (.tmp 28) (.tmp 30)), none⟩,
    ⟨(some 0), .op (.mov (.tmp 31)), none⟩])
  (.seq (.region [⟨(some 32), .op (.mov (.tmp 0)), none⟩,
    ⟨(some 33), .op (.conv .i64 (.tmp 32)), none⟩,
    ⟨(some 34), .op (.bin .and (.tmp 33) (.val (.int .i64 127))), none⟩,
    ⟨(some 2), .op (.mov (.tmp 34)), none⟩])
  (.ret)))))))),
  [.tmp 2], none, none⟩
def A98 : AFun := ⟨.seq (.region [⟨(some 2), .op (.mov (.val (.int .i64 0))), none⟩])
  (.seq (.seq (.region [⟨(some 3), .op (.mov (.tmp 0)), none⟩,
     ⟨(some 4), .call (.fnv 90) [(.tmp 3)], none⟩,
     ⟨(some 5), .op (.bin .eql (.tmp 4) (.val (.int .i64 0))), none⟩])
   (.cond (.tmp 5) (.seq (.region [⟨(some 2), .op (.mov (.val (.int .i64 0))), none⟩])
    (.ret))
   (.skip)))
  (.seq (.region [⟨(some 6), .op (.mov (.tmp 0)), none⟩,
    ⟨(some 7), .call (.fnv 89) [(.tmp 6)], none⟩,
    ⟨(some 8), .op (.bin .mul (.tmp 7) (.val (.int .i64 64))), none⟩,
    ⟨(some 9), .op (.mov (.tmp 0)), none⟩,
    ⟨(some 10), .call (.fnv 90) [(.tmp 9)], none⟩,
    ⟨(some 11), .op (.bin .quo (.tmp 8) (.tmp 10)), none⟩,
    ⟨(some 2), .op (.mov (.tmp 11)), none⟩])
  (.ret))),
  [.tmp 2], none, none⟩
def A102 : AFun := ⟨.seq (.region [⟨(some 2), .op (.mov (.val (.int .i64 0))), none⟩])
  (.seq (.seq (.region [⟨(some 3), .op (.mov (.tmp 0)), none⟩,
     ⟨(some 4), .op (.bin .geq (.tmp 3) (.val (.int .u64 4294967296))), none⟩])
   (.cond (.tmp 4) (.seq (.region [⟨(some 5), .op (.mov (.tmp 0)), none⟩,
      ⟨(some 6), .op (.bin .shr (.tmp 5) (.val (.int .u64 32))), none⟩,
      ⟨(some 0), .op (.mov (.tmp 6)), none⟩])
    (.region [⟨(some 2), .op (.mov (.val (.int .i64 32))), none⟩]))
   (.skip)))
  (.seq (.seq (.region [⟨(some 7), .op (.mov (.tmp 0)), none⟩,
     ⟨(some 8), .op (.bin .geq (.tmp 7) (.val (.int .u64 65536))), none⟩])
   (.cond (.tmp 8) (.seq (.region [⟨(some 9), .op (.mov (.tmp 0)), none⟩,
      ⟨(some 10), .op (.bin .shr (.tmp 9) (.val (.int .u64 16))), none⟩,
      ⟨(some 0), .op (.mov (.tmp 10)), none⟩])
    (.region [⟨(some 11), .op (.mov (.tmp 2)), none⟩,
     ⟨(some 12), .op (.bin .add (.tmp 11) (.val (.int .i64 16))), none⟩,
     ⟨(some 2), .op (.mov (.tmp 12)), none⟩]))
   (.skip)))
  (.seq (.seq (.region [⟨(some 13), .op (.mov (.tmp 0)), none⟩,
     ⟨(some 14), .op (.bin .geq (.tmp 13) (.val (.int .u64 256))), none⟩])
   (.cond (.tmp 14) (.seq (.region [⟨(some 15), .op (.mov (.tmp 0)), none⟩,
      ⟨(some 16), .op (.bin .shr (.tmp 15) (.val (.int .u64 8))), none⟩,
      ⟨(some 0), .op (.mov (.tmp 16)), none⟩])
    (.region [⟨(some 17), .op (.mov (.tmp 2)), none⟩,
     ⟨(some 18), .op (.bin .add (.tmp 17) (.val (.int .i64 8))), none⟩,
     ⟨(some 2), .op (.mov (.tmp 18)), none⟩]))
   (.skip)))
  (.seq (.region [⟨(some 19), .op (.mov (.tmp 2)), none⟩,
    ⟨(some 20), .op (.mov (.tmp 0)), none⟩,
    ⟨(some 21), .op (.conv .u8 (.tmp 20)), none⟩,
    ⟨(some 22), .op (.indexStr (.val (.str ⟨#[0, 1, 2, 2, 3, 3, 3, 3, 4, 4, 4, 4, 4, 4, 4, 4, 5, 5, 5, 5, 5, 5, 5, 5, 5, 5, 5, 5, 5, 5, 5, 5, 6, 6, 6, 6, 6, 6, 6, 6, 6, 6, 6, 6, 6, 6, 6, 6, 6, 6, 6, 6, 6, 6, 6, 6, 6, 6, 6, 6, 6, 6, 6, 6, 7, 7, 7, 7, 7, 7, 7, 7, 7, 7, 7, 7, 7, 7, 7, 7, 7, 7, 7, 7, 7, 7, 7, 7, 7, 7, 7, 7, 7, 7, 7, 7, 7, 7, 7, 7, 7, 7, 7, 7, 7, 7, 7, 7, 7, 7, 7, 7, 7, 7, 7, 7, 7, 7, 7, 7, 7, 7, 7, 7, 7, 7, 7, 7, 8, 8, 8, 8, 8, 8, 8, 8, 8, 8, 8, 8, 8, 8, 8, 8, 8, 8, 8, 8, 8, 8, 8, 8, 8, 8, 8, 8, 8, 8, 8, 8, 8, 8, 8, 8, 8, 8, 8, 8, 8, 8, 8, 8, 8, 8, 8, 8, 8, 8, 8, 8, 8, 8, 8, 8, 8, 8, 8, 8, 8, 8, 8, 8, 8, 8, 8, 8, 8, 8, 8, 8, 8, 8, 8, 8, 8, 8, 8, 8, 8, 8, 8, 8, 8, 8, 8, 8, 8, 8, 8, 8, 8, 8, 8, 8, 8, 8, 8, 8, 8, 8, 8, 8, 8, 8, 8, 8, 8, 8, 8, 8, 8, 8, 8, 8, 8, 8, 8, 8, 8, 8, 8, 8, 8, 8, 8, 8]⟩)) (.tmp 21)), none⟩,
    ⟨(some 23), .op (.conv .i64 (.tmp 22)), none⟩,
    ⟨(some 24), .op (.bin .add (.tmp 19) (.tmp 23)), none⟩,
    ⟨(some 2), .op (.mov (.tmp 24)), none⟩])
  (.ret))))),
  [.tmp 2], none, none⟩
end Go.Proofs.YthillgheddpmhaaDoor.AmGT
