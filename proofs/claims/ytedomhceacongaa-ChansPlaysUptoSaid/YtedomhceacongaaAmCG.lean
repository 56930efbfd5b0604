/-
  The machine's form of the functions, printed by program off the translation.
-/
import Derived.Test.YtedomhceacongaaAmIR
namespace Go.Proofs.Ytedomhceacongaa.AmGC
open Go Go.AM
set_option maxRecDepth 100000
def A4 : AFun := ⟨.seq (.region [⟨(some 4), .op (.mov (.val (.bool false))), none⟩])
  (.seq (.region [⟨(some 20), .op (.mov (.tmp 0)), none⟩,
    ⟨(some 21), .op (.bin .rem (.tmp 20) (.val (.int .u8 5))), none⟩,
    ⟨(some 22), .op (.conv .i64 (.tmp 21)), none⟩,
    ⟨(some 23), .call (.fnv 9) [(.tmp 22)], none⟩,
    ⟨(some 19), .op (.mov (.tmp 23)), none⟩,
    ⟨(some 24), .op (.extract (.tmp 19) 0), none⟩,
    ⟨(some 25), .op (.extract (.tmp 19) 1), none⟩,
    ⟨(some 5), .op (.mov (.tmp 24)), none⟩,
    ⟨(some 6), .op (.mov (.tmp 25)), none⟩])
  (.seq (.seq (.region [⟨(some 26), .call (.fnv 13) [], none⟩,
     ⟨(some 27), .op (.un .not (.tmp 26)), none⟩,
     ⟨(some 28), .op (.mov (.tmp 27)), none⟩,
     ⟨(some 29), .op (.mov (.tmp 5)), (some (28, false))⟩,
     ⟨(some 30), .op (.eql false .ptr (.tmp 29) (.val .nilp)), (some (28, false))⟩,
     ⟨(some 31), .op (.pick (.tmp 28) (.val (.bool true)) (.tmp 30)), none⟩,
     ⟨(some 32), .op (.mov (.tmp 31)), none⟩,
     ⟨(some 33), .op (.mov (.tmp 6)), (some (32, false))⟩,
     ⟨(some 34), .op (.bin .neq (.tmp 33) (.val (.int .i64 0))), (some (32, false))⟩,
     ⟨(some 35), .op (.pick (.tmp 32) (.val (.bool true)) (.tmp 34)), none⟩])
   (.cond (.tmp 35) (.seq (.region [⟨(some 4), .op (.mov (.val (.bool false))), none⟩])
    (.ret))
   (.skip)))
  (.seq (.region [⟨(some 7), .op (.mov (.val (.int .u64 0))), none⟩,
    ⟨(some 8), .op (.mov (.val (.int .u64 0))), none⟩])
  (.seq (.region [⟨(some 9), .op (.mov (.val (.int .i64 0))), none⟩])
  (.seq (.seq (.region [⟨(some 36), .op (.mov (.tmp 1)), none⟩,
     ⟨(some 37), .op (.lenS (.tmp 36)), none⟩,
     ⟨(some 38), .op (.mov (.val (.int .i64 0))), none⟩])
   (.block 0 (.loop (.seq (.region [⟨(some 39), .op (.bin .lss (.tmp 38) (.tmp 37)), none⟩])
     (.seq (.cond (.tmp 39) (.skip)
      (.exit 0))
     (.seq (.block 1 (.seq (.region [⟨(some 40), .op (.mov (.tmp 38)), none⟩,
         ⟨(some 41), .op (.idxS 1 (.tmp 36) (.tmp 38)), none⟩,
         ⟨(some 42), .op (.load none (.tmp 41)), none⟩,
         ⟨(some 10), .op (.mov (.tmp 40)), none⟩,
         ⟨(some 11), .op (.mov (.tmp 42)), none⟩])
       (.seq (.seq (.region [⟨(some 43), .op (.mov (.tmp 11)), none⟩,
          ⟨(some 44), .op (.bin .rem (.tmp 43) (.val (.int .u8 2))), none⟩,
          ⟨(some 45), .op (.bin .eql (.tmp 44) (.val (.int .u8 0))), none⟩])
        (.cond (.tmp 45) (.seq (.region [⟨(some 46), .op (.mov (.tmp 7)), none⟩,
           ⟨(some 47), .op (.bin .add (.tmp 46) (.val (.int .u64 1))), none⟩,
           ⟨(some 7), .op (.mov (.tmp 47)), none⟩])
         (.seq (.region [⟨(some 48), .op (.mov (.tmp 5)), none⟩,
           ⟨(some 49), .op (.mov (.tmp 10)), none⟩,
           ⟨(some 50), .op (.mov (.tmp 7)), none⟩,
           ⟨(some 51), .call (.fnv 10) [(.tmp 48), (.tmp 49), (.tmp 50), (.val (.bool true))], none⟩,
           ⟨(some 12), .op (.alloc [(.int .i64 0), (.int .i64 0), (.int .u64 0)]), none⟩,
           ⟨none, .op (.store 3 (.tmp 12) (.tmp 51)), none⟩])
         (.seq (.seq (.region [⟨(some 52), .op (.fieldAddr 0 (.tmp 12)), none⟩,
            ⟨(some 53), .op (.load none (.tmp 52)), none⟩,
            ⟨(some 54), .op (.bin .eql (.tmp 53) (.val (.int .i64 2))), none⟩])
          (.cond (.tmp 54) (.seq (.region [⟨(some 55), .op (.mov (.tmp 8)), none⟩,
             ⟨(some 56), .op (.bin .add (.tmp 55) (.val (.int .u64 1))), none⟩,
             ⟨(some 8), .op (.mov (.tmp 56)), none⟩])
           (.seq (.region [⟨(some 57), .op (.mov (.tmp 9)), none⟩,
             ⟨(some 58), .op (.bin .sub (.tmp 57) (.val (.int .i64 1))), none⟩,
             ⟨(some 9), .op (.mov (.tmp 58)), none⟩])
           (.seq (.region [⟨(some 59), .op (.mov (.tmp 8)), none⟩,
             ⟨(some 60), .op (.mov (.tmp 7)), none⟩,
             ⟨(some 61), .op (.bin .neq (.tmp 59) (.tmp 60)), none⟩,
             ⟨(some 62), .op (.mov (.tmp 61)), none⟩,
             ⟨(some 63), .op (.fieldAddr 1 (.tmp 12)), (some (62, false))⟩,
             ⟨(some 64), .op (.load none (.tmp 63)), (some (62, false))⟩,
             ⟨(some 65), .op (.bin .lss (.tmp 64) (.val (.int .i64 0))), (some (62, false))⟩,
             ⟨(some 66), .op (.pick (.tmp 62) (.val (.bool true)) (.tmp 65)), none⟩,
             ⟨(some 67), .op (.mov (.tmp 66)), none⟩,
             ⟨(some 68), .op (.fieldAddr 1 (.tmp 12)), (some (67, false))⟩,
             ⟨(some 69), .op (.load none (.tmp 68)), (some (67, false))⟩,
             ⟨(some 70), .op (.mov (.tmp 10)), (some (67, false))⟩,
             ⟨(some 71), .op (.bin .geq (.tmp 69) (.tmp 70)), (some (67, false))⟩,
             ⟨(some 72), .op (.pick (.tmp 67) (.val (.bool true)) (.tmp 71)), none⟩])
           (.cond (.tmp 72) (.seq (.region [⟨(some 4), .op (.mov (.val (.bool false))), none⟩])
            (.ret))
           (.skip)))))
          (.skip)))
         (.exit 1))))
        (.skip)))
       (.seq (.region [⟨(some 73), .op (.mov (.tmp 5)), none⟩,
         ⟨(some 74), .op (.mov (.tmp 10)), none⟩,
         ⟨(some 75), .call (.fnv 11) [(.tmp 73), (.tmp 74), (.val (.bool true))], none⟩,
         ⟨(some 13), .op (.alloc [(.int .i64 0), (.int .i64 0), (.int .u64 0)]), none⟩,
         ⟨none, .op (.store 3 (.tmp 13) (.tmp 75)), none⟩])
       (.seq (.seq (.region [⟨(some 76), .op (.fieldAddr 0 (.tmp 13)), none⟩,
          ⟨(some 77), .op (.load none (.tmp 76)), none⟩,
          ⟨(some 78), .op (.bin .eql (.tmp 77) (.val (.int .i64 3))), none⟩])
        (.cond (.tmp 78) (.seq (.region [⟨(some 79), .op (.mov (.tmp 9)), none⟩,
           ⟨(some 80), .op (.bin .add (.tmp 79) (.val (.int .i64 1))), none⟩,
           ⟨(some 9), .op (.mov (.tmp 80)), none⟩])
         (.exit 1))
        (.skip)))
       (.seq (.region [⟨(some 81), .op (.mov (.tmp 8)), none⟩,
         ⟨(some 82), .op (.bin .add (.tmp 81) (.val (.int .u64 1))), none⟩,
         ⟨(some 8), .op (.mov (.tmp 82)), none⟩])
       (.seq (.region [⟨(some 83), .op (.fieldAddr 2 (.tmp 13)), none⟩,
         ⟨(some 84), .op (.load none (.tmp 83)), none⟩,
         ⟨(some 85), .op (.mov (.tmp 8)), none⟩,
         ⟨(some 86), .op (.bin .neq (.tmp 84) (.tmp 85)), none⟩])
       (.cond (.tmp 86) (.seq (.region [⟨(some 4), .op (.mov (.val (.bool false))), none⟩])
        (.ret))
       (.skip)))))))))
     (.region [⟨(some 87), .op (.bin .add (.tmp 38) (.val (.int .i64 1))), none⟩,
      ⟨(some 38), .op (.mov (.tmp 87)), none⟩])))))))
  (.seq (.region [⟨(some 89), .op (.mov (.tmp 5)), none⟩,
    ⟨(some 90), .call (.fnv 15) [(.tmp 89)], none⟩,
    ⟨(some 88), .op (.mov (.tmp 90)), none⟩,
    ⟨(some 91), .op (.extract (.tmp 88) 0), none⟩,
    ⟨(some 92), .op (.extract (.tmp 88) 1), none⟩,
    ⟨(some 93), .op (.extract (.tmp 88) 2), none⟩,
    ⟨(some 14), .op (.mov (.tmp 91)), none⟩,
    ⟨(some 15), .op (.mov (.tmp 92)), none⟩,
    ⟨(some 16), .op (.mov (.tmp 93)), none⟩])
  (.seq (.seq (.region [⟨(some 94), .op (.mov (.tmp 14)), none⟩,
     ⟨(some 95), .op (.mov (.tmp 15)), none⟩,
     ⟨(some 96), .op (.bin .add (.tmp 94) (.tmp 95)), none⟩,
     ⟨(some 97), .op (.conv .u64 (.tmp 96)), none⟩,
     ⟨(some 98), .op (.mov (.tmp 7)), none⟩,
     ⟨(some 99), .op (.mov (.tmp 8)), none⟩,
     ⟨(some 100), .op (.bin .sub (.tmp 98) (.tmp 99)), none⟩,
     ⟨(some 101), .op (.bin .neq (.tmp 97) (.tmp 100)), none⟩,
     ⟨(some 102), .op (.mov (.tmp 101)), none⟩,
     ⟨(some 103), .op (.mov (.tmp 16)), (some (102, false))⟩,
     ⟨(some 104), .op (.mov (.tmp 9)), (some (102, false))⟩,
     ⟨(some 105), .op (.bin .neq (.tmp 103) (.tmp 104)), (some (102, false))⟩,
     ⟨(some 106), .op (.pick (.tmp 102) (.val (.bool true)) (.tmp 105)), none⟩,
     ⟨(some 107), .op (.mov (.tmp 106)), none⟩,
     ⟨(some 108), .op (.mov (.tmp 14)), (some (107, false))⟩,
     ⟨(some 109), .op (.mov (.tmp 0)), (some (107, false))⟩,
     ⟨(some 110), .op (.bin .rem (.tmp 109) (.val (.int .u8 5))), (some (107, false))⟩,
     ⟨(some 111), .op (.conv .i64 (.tmp 110)), (some (107, false))⟩,
     ⟨(some 112), .op (.bin .gtr (.tmp 108) (.tmp 111)), (some (107, false))⟩,
     ⟨(some 113), .op (.pick (.tmp 107) (.val (.bool true)) (.tmp 112)), none⟩,
     ⟨(some 114), .op (.mov (.tmp 113)), none⟩,
     ⟨(some 115), .op (.mov (.tmp 15)), (some (114, false))⟩,
     ⟨(some 116), .op (.bin .gtr (.tmp 115) (.val (.int .i64 0))), (some (114, false))⟩,
     ⟨(some 117), .op (.mov (.tmp 116)), (some (114, false))⟩,
     ⟨(some 118), .op (.mov (.tmp 14)), (some (117, false))⟩,
     ⟨(some 119), .op (.bin .gtr (.tmp 118) (.val (.int .i64 0))), (some (117, false))⟩,
     ⟨(some 120), .op (.pick (.tmp 117) (.val (.bool true)) (.tmp 119)), (some (114, false))⟩,
     ⟨(some 121), .op (.mov (.tmp 120)), (some (114, false))⟩,
     ⟨(some 122), .op (.mov (.tmp 16)), (some (121, true))⟩,
     ⟨(some 123), .op (.bin .gtr (.tmp 122) (.val (.int .i64 0))), (some (121, true))⟩,
     ⟨(some 124), .op (.pick (.tmp 121) (.tmp 123) (.val (.bool false))), (some (114, false))⟩,
     ⟨(some 125), .op (.pick (.tmp 114) (.val (.bool true)) (.tmp 124)), none⟩])
   (.cond (.tmp 125) (.seq (.region [⟨(some 4), .op (.mov (.val (.bool false))), none⟩])
    (.ret))
   (.skip)))
  (.seq (.region [⟨(some 127), .op (.mov (.tmp 5)), none⟩,
    ⟨(some 128), .call (.fnv 12) [(.tmp 127)], none⟩,
    ⟨(some 126), .op (.mov (.tmp 128)), none⟩,
    ⟨(some 129), .op (.extract (.tmp 126) 0), none⟩,
    ⟨(some 130), .op (.extract (.tmp 126) 1), none⟩,
    ⟨(some 17), .op (.mov (.tmp 129)), none⟩,
    ⟨(some 18), .op (.mov (.tmp 130)), none⟩])
  (.seq (.region [⟨(some 131), .op (.mov (.tmp 18)), none⟩,
    ⟨(some 132), .op (.mov (.tmp 131)), none⟩,
    ⟨(some 133), .op (.mov (.tmp 17)), (some (132, true))⟩,
    ⟨(some 134), .op (.lenS (.tmp 133)), (some (132, true))⟩,
    ⟨(some 135), .op (.mov (.tmp 15)), (some (132, true))⟩,
    ⟨(some 136), .op (.mov (.tmp 16)), (some (132, true))⟩,
    ⟨(some 137), .op (.bin .add (.tmp 135) (.tmp 136)), (some (132, true))⟩,
    ⟨(some 138), .op (.bin .eql (.tmp 134) (.tmp 137)), (some (132, true))⟩,
    ⟨(some 139), .op (.pick (.tmp 132) (.tmp 138) (.val (.bool false))), none⟩,
    ⟨(some 140), .op (.mov (.tmp 139)), none⟩,
    ⟨(some 141), .op (.mov (.tmp 5)), (some (140, true))⟩,
    ⟨(some 142), .call (.fnv 10) [(.tmp 141), (.val (.int .i64 0)), (.val (.int .u64 1)), (.val (.bool true))], (some (140, true))⟩,
    ⟨(some 143), .op (.field 0 none (.tmp 142)), (some (140, true))⟩,
    ⟨(some 144), .op (.bin .eql (.tmp 143) (.val (.int .i64 4))), (some (140, true))⟩,
    ⟨(some 145), .op (.pick (.tmp 140) (.tmp 144) (.val (.bool false))), none⟩,
    ⟨(some 4), .op (.mov (.tmp 145)), none⟩])
  (.ret)))))))))),
  [.tmp 4], none, none⟩
def A5 : AFun := ⟨.seq (.region [⟨(some 4), .op (.mov (.val (.bool false))), none⟩])
  (.seq (.region [⟨(some 14), .call (.fnv 9) [(.val (.int .i64 0))], none⟩,
    ⟨(some 13), .op (.mov (.tmp 14)), none⟩,
    ⟨(some 15), .op (.extract (.tmp 13) 0), none⟩,
    ⟨(some 16), .op (.extract (.tmp 13) 1), none⟩,
    ⟨(some 5), .op (.mov (.tmp 15)), none⟩,
    ⟨(some 6), .op (.mov (.tmp 16)), none⟩])
  (.seq (.seq (.region [⟨(some 17), .call (.fnv 13) [], none⟩,
     ⟨(some 18), .op (.un .not (.tmp 17)), none⟩,
     ⟨(some 19), .op (.mov (.tmp 18)), none⟩,
     ⟨(some 20), .op (.mov (.tmp 5)), (some (19, false))⟩,
     ⟨(some 21), .op (.eql false .ptr (.tmp 20) (.val .nilp)), (some (19, false))⟩,
     ⟨(some 22), .op (.pick (.tmp 19) (.val (.bool true)) (.tmp 21)), none⟩,
     ⟨(some 23), .op (.mov (.tmp 22)), none⟩,
     ⟨(some 24), .op (.mov (.tmp 6)), (some (23, false))⟩,
     ⟨(some 25), .op (.bin .neq (.tmp 24) (.val (.int .i64 0))), (some (23, false))⟩,
     ⟨(some 26), .op (.pick (.tmp 23) (.val (.bool true)) (.tmp 25)), none⟩])
   (.cond (.tmp 26) (.seq (.region [⟨(some 4), .op (.mov (.val (.bool false))), none⟩])
    (.ret))
   (.skip)))
  (.seq (.region [⟨(some 7), .op (.mov (.val .nils)), none⟩])
  (.seq (.seq (.region [⟨(some 27), .op (.mov (.tmp 0)), none⟩,
     ⟨(some 28), .op (.mov (.tmp 0)), none⟩,
     ⟨(some 29), .op (.lenS (.tmp 28)), none⟩,
     ⟨(some 30), .op (.min (.tmp 29) (.val (.int .i64 60))), none⟩,
     ⟨(some 31), .op (.slice 1 (.tmp 27) none (some (.tmp 30))), none⟩,
     ⟨(some 32), .op (.lenS (.tmp 31)), none⟩,
     ⟨(some 33), .op (.mov (.val (.int .i64 0))), none⟩])
   (.block 0 (.loop (.seq (.region [⟨(some 34), .op (.bin .lss (.tmp 33) (.tmp 32)), none⟩])
     (.seq (.cond (.tmp 34) (.skip)
      (.exit 0))
     (.seq (.block 1 (.seq (.region [⟨(some 35), .op (.idxS 1 (.tmp 31) (.tmp 33)), none⟩,
         ⟨(some 36), .op (.load none (.tmp 35)), none⟩,
         ⟨(some 9), .op (.mov (.tmp 36)), none⟩])
       (.seq (.region [⟨(some 37), .op (.mov (.tmp 5)), none⟩,
         ⟨(some 38), .op (.mov (.tmp 9)), none⟩,
         ⟨(some 39), .op (.conv .i64 (.tmp 38)), none⟩,
         ⟨(some 40), .call (.fnv 16) [(.tmp 37), (.tmp 39), (.val (.int .u64 0)), (.val (.bool false))], none⟩])
       (.seq (.region [⟨(some 41), .op (.mov (.tmp 9)), none⟩,
         ⟨(some 42), .op (.mov (.tmp 1)), none⟩,
         ⟨(some 43), .op (.bin .neq (.tmp 41) (.tmp 42)), none⟩])
       (.cond (.tmp 43) (.region [⟨(some 44), .op (.mov (.tmp 7)), none⟩,
         ⟨(some 45), .op (.mov (.tmp 9)), none⟩,
         ⟨(some 46), .op (.conv .i64 (.tmp 45)), none⟩,
         ⟨(some 47), .op (.buildSlice 1 1 [(.int .i64 0)] [(0, (.tmp 46))]), none⟩,
         ⟨(some 48), .op (.append 1 8 (.tmp 44) (.tmp 47)), none⟩,
         ⟨(some 7), .op (.mov (.tmp 48)), none⟩])
       (.skip))))))
     (.region [⟨(some 49), .op (.bin .add (.tmp 33) (.val (.int .i64 1))), none⟩,
      ⟨(some 33), .op (.mov (.tmp 49)), none⟩])))))))
  (.seq (.region [⟨(some 50), .op (.mov (.tmp 5)), none⟩,
    ⟨(some 51), .op (.mov (.tmp 1)), none⟩,
    ⟨(some 52), .op (.conv .i64 (.tmp 51)), none⟩,
    ⟨(some 53), .call (.fnv 17) [(.tmp 50), (.tmp 52)], none⟩])
  (.seq (.seq (.region [⟨(some 54), .op (.mov (.tmp 7)), none⟩,
     ⟨(some 55), .op (.lenS (.tmp 54)), none⟩,
     ⟨(some 56), .op (.mov (.val (.int .i64 0))), none⟩])
   (.block 2 (.loop (.seq (.region [⟨(some 57), .op (.bin .lss (.tmp 56) (.tmp 55)), none⟩])
     (.seq (.cond (.tmp 57) (.skip)
      (.exit 2))
     (.seq (.block 3 (.seq (.region [⟨(some 58), .op (.mov (.tmp 56)), none⟩,
         ⟨(some 59), .op (.idxS 1 (.tmp 54) (.tmp 56)), none⟩,
         ⟨(some 60), .op (.load none (.tmp 59)), none⟩,
         ⟨(some 10), .op (.mov (.tmp 58)), none⟩,
         ⟨(some 11), .op (.mov (.tmp 60)), none⟩])
       (.seq (.region [⟨(some 61), .op (.mov (.tmp 5)), none⟩,
         ⟨(some 62), .op (.mov (.tmp 10)), none⟩,
         ⟨(some 63), .op (.conv .u64 (.tmp 62)), none⟩,
         ⟨(some 64), .call (.fnv 10) [(.tmp 61), (.val (.int .i64 0)), (.tmp 63), (.val (.bool true))], none⟩,
         ⟨(some 12), .op (.alloc [(.int .i64 0), (.int .i64 0), (.int .u64 0)]), none⟩,
         ⟨none, .op (.store 3 (.tmp 12) (.tmp 64)), none⟩])
       (.seq (.region [⟨(some 65), .op (.load (some 3) (.tmp 12)), none⟩,
         ⟨(some 66), .op (.mov (.tmp 11)), none⟩,
         ⟨(some 67), .op (.build [(.int .i64 0), (.int .i64 0), (.int .u64 0)] [(0, 1, (.val (.int .i64 2))), (1, 1, (.tmp 66))]), none⟩,
         ⟨(some 68), .op (.eql true (.flat [.int, .int, .int]) (.tmp 65) (.tmp 67)), none⟩])
       (.cond (.tmp 68) (.seq (.region [⟨(some 4), .op (.mov (.val (.bool false))), none⟩])
        (.ret))
       (.skip))))))
     (.region [⟨(some 69), .op (.bin .add (.tmp 56) (.val (.int .i64 1))), none⟩,
      ⟨(some 56), .op (.mov (.tmp 69)), none⟩])))))))
  (.seq (.region [⟨(some 70), .op (.mov (.tmp 5)), none⟩,
    ⟨(some 71), .call (.fnv 18) [(.tmp 70), (.val (.bool true))], none⟩,
    ⟨(some 72), .op (.un .not (.tmp 71)), none⟩,
    ⟨(some 73), .op (.mov (.tmp 72)), none⟩,
    ⟨(some 74), .op (.mov (.tmp 5)), (some (73, true))⟩,
    ⟨(some 75), .call (.fnv 10) [(.tmp 74), (.val (.int .i64 0)), (.val (.int .u64 1)), (.val (.bool false))], (some (73, true))⟩,
    ⟨(some 76), .op (.field 0 none (.tmp 75)), (some (73, true))⟩,
    ⟨(some 77), .op (.bin .eql (.tmp 76) (.val (.int .i64 3))), (some (73, true))⟩,
    ⟨(some 78), .op (.pick (.tmp 73) (.tmp 77) (.val (.bool false))), none⟩,
    ⟨(some 4), .op (.mov (.tmp 78)), none⟩])
  (.ret)))))))),
  [.tmp 4], none, none⟩
def A6 : AFun := ⟨.seq (.region [⟨(some 4), .op (.mov (.val (.bool false))), none⟩])
  (.seq (.region [⟨(some 17), .op (.mov (.tmp 0)), none⟩,
    ⟨(some 18), .op (.bin .rem (.tmp 17) (.val (.int .u8 10))), none⟩,
    ⟨(some 19), .op (.conv .i64 (.tmp 18)), none⟩,
    ⟨(some 20), .op (.mov (.tmp 1)), none⟩,
    ⟨(some 21), .op (.bin .rem (.tmp 20) (.val (.int .u8 20))), none⟩,
    ⟨(some 22), .op (.conv .i64 (.tmp 21)), none⟩,
    ⟨(some 5), .op (.mov (.tmp 19)), none⟩,
    ⟨(some 6), .op (.mov (.tmp 22)), none⟩])
  (.seq (.region [⟨(some 24), .op (.mov (.tmp 5)), none⟩,
    ⟨(some 25), .call (.fnv 9) [(.tmp 24)], none⟩,
    ⟨(some 23), .op (.mov (.tmp 25)), none⟩,
    ⟨(some 26), .op (.extract (.tmp 23) 0), none⟩,
    ⟨(some 27), .op (.extract (.tmp 23) 1), none⟩,
    ⟨(some 7), .op (.mov (.tmp 26)), none⟩,
    ⟨(some 8), .op (.mov (.tmp 27)), none⟩])
  (.seq (.seq (.region [⟨(some 28), .call (.fnv 13) [], none⟩,
     ⟨(some 29), .op (.un .not (.tmp 28)), none⟩,
     ⟨(some 30), .op (.mov (.tmp 29)), none⟩,
     ⟨(some 31), .op (.mov (.tmp 7)), (some (30, false))⟩,
     ⟨(some 32), .op (.eql false .ptr (.tmp 31) (.val .nilp)), (some (30, false))⟩,
     ⟨(some 33), .op (.pick (.tmp 30) (.val (.bool true)) (.tmp 32)), none⟩,
     ⟨(some 34), .op (.mov (.tmp 33)), none⟩,
     ⟨(some 35), .op (.mov (.tmp 8)), (some (34, false))⟩,
     ⟨(some 36), .op (.bin .neq (.tmp 35) (.val (.int .i64 0))), (some (34, false))⟩,
     ⟨(some 37), .op (.pick (.tmp 34) (.val (.bool true)) (.tmp 36)), none⟩])
   (.cond (.tmp 37) (.seq (.region [⟨(some 4), .op (.mov (.val (.bool false))), none⟩])
    (.ret))
   (.skip)))
  (.seq (.seq (.region [⟨(some 38), .op (.mov (.tmp 6)), none⟩,
     ⟨(some 39), .op (.mov (.val (.int .i64 0))), none⟩])
   (.block 0 (.loop (.seq (.region [⟨(some 40), .op (.bin .lss (.tmp 39) (.tmp 38)), none⟩])
     (.seq (.cond (.tmp 40) (.skip)
      (.exit 0))
     (.seq (.block 1 (.seq (.region [⟨(some 41), .op (.mov (.tmp 39)), none⟩,
         ⟨(some 9), .op (.mov (.tmp 41)), none⟩])
       (.region [⟨(some 42), .op (.mov (.tmp 7)), none⟩,
        ⟨(some 43), .op (.mov (.tmp 9)), none⟩,
        ⟨(some 44), .op (.mov (.tmp 9)), none⟩,
        ⟨(some 45), .op (.conv .u64 (.tmp 44)), none⟩,
        ⟨(some 46), .op (.bin .add (.tmp 45) (.val (.int .u64 5))), none⟩,
        ⟨(some 47), .call (.fnv 10) [(.tmp 42), (.tmp 43), (.tmp 46), (.val (.bool true))], none⟩])))
     (.region [⟨(some 48), .op (.bin .add (.tmp 39) (.val (.int .i64 1))), none⟩,
      ⟨(some 39), .op (.mov (.tmp 48)), none⟩])))))))
  (.seq (.region [⟨(some 50), .op (.mov (.tmp 7)), none⟩,
    ⟨(some 51), .call (.fnv 12) [(.tmp 50)], none⟩,
    ⟨(some 49), .op (.mov (.tmp 51)), none⟩,
    ⟨(some 52), .op (.extract (.tmp 49) 0), none⟩,
    ⟨(some 53), .op (.extract (.tmp 49) 1), none⟩,
    ⟨(some 10), .op (.mov (.tmp 52)), none⟩,
    ⟨(some 11), .op (.mov (.tmp 53)), none⟩])
  (.seq (.seq (.region [⟨(some 54), .op (.mov (.tmp 11)), none⟩,
     ⟨(some 55), .op (.un .not (.tmp 54)), none⟩,
     ⟨(some 56), .op (.mov (.tmp 55)), none⟩,
     ⟨(some 57), .op (.mov (.tmp 10)), (some (56, false))⟩,
     ⟨(some 58), .op (.lenS (.tmp 57)), (some (56, false))⟩,
     ⟨(some 59), .op (.mov (.tmp 6)), (some (56, false))⟩,
     ⟨(some 60), .op (.mov (.tmp 5)), (some (56, false))⟩,
     ⟨(some 61), .op (.bin .sub (.tmp 59) (.tmp 60)), (some (56, false))⟩,
     ⟨(some 62), .op (.max (.tmp 61) (.val (.int .i64 0))), (some (56, false))⟩,
     ⟨(some 63), .op (.bin .neq (.tmp 58) (.tmp 62)), (some (56, false))⟩,
     ⟨(some 64), .op (.pick (.tmp 56) (.val (.bool true)) (.tmp 63)), none⟩])
   (.cond (.tmp 64) (.seq (.region [⟨(some 4), .op (.mov (.val (.bool false))), none⟩])
    (.ret))
   (.skip)))
  (.seq (.seq (.region [⟨(some 65), .op (.mov (.tmp 10)), none⟩,
     ⟨(some 66), .op (.lenS (.tmp 65)), none⟩,
     ⟨(some 67), .op (.mov (.val (.int .i64 0))), none⟩])
   (.block 2 (.loop (.seq (.region [⟨(some 68), .op (.bin .lss (.tmp 67) (.tmp 66)), none⟩])
     (.seq (.cond (.tmp 68) (.skip)
      (.exit 2))
     (.seq (.block 3 (.seq (.region [⟨(some 69), .op (.mov (.tmp 67)), none⟩,
         ⟨(some 70), .op (.idxS 1 (.tmp 65) (.tmp 67)), none⟩,
         ⟨(some 71), .op (.load none (.tmp 70)), none⟩,
         ⟨(some 12), .op (.mov (.tmp 69)), none⟩,
         ⟨(some 13), .op (.mov (.tmp 71)), none⟩])
       (.seq (.region [⟨(some 72), .op (.mov (.tmp 13)), none⟩,
         ⟨(some 73), .op (.mov (.tmp 5)), none⟩,
         ⟨(some 74), .op (.mov (.tmp 12)), none⟩,
         ⟨(some 75), .op (.bin .add (.tmp 73) (.tmp 74)), none⟩,
         ⟨(some 76), .op (.bin .neq (.tmp 72) (.tmp 75)), none⟩])
       (.cond (.tmp 76) (.seq (.region [⟨(some 4), .op (.mov (.val (.bool false))), none⟩])
        (.ret))
       (.skip)))))
     (.region [⟨(some 77), .op (.bin .add (.tmp 67) (.val (.int .i64 1))), none⟩,
      ⟨(some 67), .op (.mov (.tmp 77)), none⟩])))))))
  (.seq (.seq (.region [⟨(some 78), .op (.mov (.tmp 6)), none⟩,
     ⟨(some 79), .op (.mov (.tmp 5)), none⟩,
     ⟨(some 80), .op (.min (.tmp 78) (.tmp 79)), none⟩,
     ⟨(some 81), .op (.mov (.val (.int .i64 0))), none⟩])
   (.block 4 (.loop (.seq (.region [⟨(some 82), .op (.bin .lss (.tmp 81) (.tmp 80)), none⟩])
     (.seq (.cond (.tmp 82) (.skip)
      (.exit 4))
     (.seq (.block 5 (.seq (.region [⟨(some 83), .op (.mov (.tmp 81)), none⟩,
         ⟨(some 14), .op (.mov (.tmp 83)), none⟩])
       (.seq (.region [⟨(some 84), .op (.mov (.tmp 7)), none⟩,
         ⟨(some 85), .call (.fnv 11) [(.tmp 84), (.val (.int .i64 0)), (.val (.bool true))], none⟩,
         ⟨(some 86), .op (.mov (.tmp 14)), none⟩,
         ⟨(some 87), .op (.conv .u64 (.tmp 86)), none⟩,
         ⟨(some 88), .op (.bin .add (.tmp 87) (.val (.int .u64 5))), none⟩,
         ⟨(some 89), .op (.build [(.int .i64 0), (.int .i64 0), (.int .u64 0)] [(0, 1, (.val (.int .i64 1))), (2, 1, (.tmp 88))]), none⟩,
         ⟨(some 90), .op (.eql true (.flat [.int, .int, .int]) (.tmp 85) (.tmp 89)), none⟩])
       (.cond (.tmp 90) (.seq (.region [⟨(some 4), .op (.mov (.val (.bool false))), none⟩])
        (.ret))
       (.skip)))))
     (.region [⟨(some 91), .op (.bin .add (.tmp 81) (.val (.int .i64 1))), none⟩,
      ⟨(some 81), .op (.mov (.tmp 91)), none⟩])))))))
  (.seq (.region [⟨(some 93), .op (.mov (.tmp 7)), none⟩,
    ⟨(some 94), .call (.fnv 12) [(.tmp 93)], none⟩,
    ⟨(some 92), .op (.mov (.tmp 94)), none⟩,
    ⟨(some 95), .op (.extract (.tmp 92) 0), none⟩,
    ⟨(some 96), .op (.extract (.tmp 92) 1), none⟩,
    ⟨(some 15), .op (.mov (.tmp 95)), none⟩,
    ⟨(some 16), .op (.mov (.tmp 96)), none⟩])
  (.seq (.region [⟨(some 97), .op (.mov (.tmp 7)), none⟩,
    ⟨(some 98), .call (.fnv 11) [(.tmp 97), (.val (.int .i64 0)), (.val (.bool true))], none⟩,
    ⟨(some 99), .op (.build [(.int .i64 0), (.int .i64 0), (.int .u64 0)] [(0, 1, (.val (.int .i64 4)))]), none⟩,
    ⟨(some 100), .op (.eql false (.flat [.int, .int, .int]) (.tmp 98) (.tmp 99)), none⟩,
    ⟨(some 101), .op (.mov (.tmp 100)), none⟩,
    ⟨(some 102), .op (.mov (.tmp 7)), (some (101, true))⟩,
    ⟨(some 103), .call (.fnv 19) [(.tmp 102)], (some (101, true))⟩,
    ⟨(some 104), .op (.pick (.tmp 101) (.tmp 103) (.val (.bool false))), none⟩,
    ⟨(some 105), .op (.mov (.tmp 104)), none⟩,
    ⟨(some 106), .op (.mov (.tmp 16)), (some (105, true))⟩,
    ⟨(some 107), .op (.un .not (.tmp 106)), (some (105, true))⟩,
    ⟨(some 108), .op (.pick (.tmp 105) (.tmp 107) (.val (.bool false))), none⟩,
    ⟨(some 109), .op (.mov (.tmp 108)), none⟩,
    ⟨(some 110), .op (.mov (.tmp 7)), (some (109, true))⟩,
    ⟨(some 111), .call (.fnv 18) [(.tmp 110), (.val (.bool true))], (some (109, true))⟩,
    ⟨(some 112), .op (.pick (.tmp 109) (.tmp 111) (.val (.bool false))), none⟩,
    ⟨(some 113), .op (.mov (.tmp 112)), none⟩,
    ⟨(some 114), .op (.mov (.tmp 7)), (some (113, true))⟩,
    ⟨(some 115), .call (.fnv 18) [(.tmp 114), (.val (.bool false))], (some (113, true))⟩,
    ⟨(some 116), .op (.pick (.tmp 113) (.tmp 115) (.val (.bool false))), none⟩,
    ⟨(some 4), .op (.mov (.tmp 116)), none⟩])
  (.ret))))))))))),
  [.tmp 4], none, none⟩
def A7 : AFun := ⟨.seq (.region [⟨(some 4), .op (.mov (.val (.bool false))), none⟩])
  (.seq (.region [⟨(some 25), .op (.mov (.tmp 0)), none⟩,
    ⟨(some 26), .call (.fnv 9) [(.tmp 25)], none⟩,
    ⟨(some 24), .op (.mov (.tmp 26)), none⟩,
    ⟨(some 27), .op (.extract (.tmp 24) 0), none⟩,
    ⟨(some 28), .op (.extract (.tmp 24) 1), none⟩,
    ⟨(some 5), .op (.mov (.tmp 27)), none⟩,
    ⟨(some 6), .op (.mov (.tmp 28)), none⟩])
  (.seq (.region [⟨(some 30), .op (.mov (.tmp 0)), none⟩,
    ⟨(some 31), .call (.fnv 20) [(.tmp 30)], none⟩,
    ⟨(some 29), .op (.mov (.tmp 31)), none⟩,
    ⟨(some 32), .op (.extract (.tmp 29) 0), none⟩,
    ⟨(some 33), .op (.extract (.tmp 29) 1), none⟩,
    ⟨(some 7), .op (.mov (.tmp 32)), none⟩,
    ⟨(some 8), .op (.mov (.tmp 33)), none⟩])
  (.seq (.seq (.region [⟨(some 34), .call (.fnv 13) [], none⟩,
     ⟨(some 35), .op (.un .not (.tmp 34)), none⟩,
     ⟨(some 36), .op (.mov (.tmp 35)), none⟩,
     ⟨(some 37), .op (.mov (.tmp 6)), (some (36, false))⟩,
     ⟨(some 38), .op (.mov (.tmp 8)), (some (36, false))⟩,
     ⟨(some 39), .op (.bin .neq (.tmp 37) (.tmp 38)), (some (36, false))⟩,
     ⟨(some 40), .op (.pick (.tmp 36) (.val (.bool true)) (.tmp 39)), none⟩,
     ⟨(some 41), .op (.mov (.tmp 40)), none⟩,
     ⟨(some 42), .op (.mov (.tmp 5)), (some (41, false))⟩,
     ⟨(some 43), .op (.eql false .ptr (.tmp 42) (.val .nilp)), (some (41, false))⟩,
     ⟨(some 44), .op (.mov (.tmp 7)), (some (41, false))⟩,
     ⟨(some 45), .op (.eql false .ptr (.tmp 44) (.val .nilp)), (some (41, false))⟩,
     ⟨(some 46), .op (.eql true .bool (.tmp 43) (.tmp 45)), (some (41, false))⟩,
     ⟨(some 47), .op (.pick (.tmp 41) (.val (.bool true)) (.tmp 46)), none⟩])
   (.cond (.tmp 47) (.seq (.region [⟨(some 4), .op (.mov (.val (.bool false))), none⟩])
    (.ret))
   (.skip)))
  (.seq (.seq (.region [⟨(some 48), .op (.mov (.tmp 5)), none⟩,
     ⟨(some 49), .op (.eql false .ptr (.tmp 48) (.val .nilp)), none⟩])
   (.cond (.tmp 49) (.seq (.region [⟨(some 4), .op (.mov (.val (.bool true))), none⟩])
    (.ret))
   (.skip)))
  (.seq (.seq (.region [⟨(some 50), .op (.mov (.tmp 1)), none⟩,
     ⟨(some 51), .op (.lenS (.tmp 50)), none⟩,
     ⟨(some 52), .op (.mov (.val (.int .i64 0))), none⟩])
   (.block 0 (.loop (.seq (.region [⟨(some 53), .op (.bin .lss (.tmp 52) (.tmp 51)), none⟩])
     (.seq (.cond (.tmp 53) (.skip)
      (.exit 0))
     (.seq (.block 1 (.seq (.region [⟨(some 54), .op (.idxS 4 (.tmp 50) (.tmp 52)), none⟩,
         ⟨(some 55), .op (.load (some 4) (.tmp 54)), none⟩,
         ⟨(some 10), .op (.alloc [(.int .i64 0), (.int .i64 0), (.int .u64 0), (.bool false)]), none⟩,
         ⟨none, .op (.store 4 (.tmp 10) (.tmp 55)), none⟩])
       (.seq (.region [⟨(some 11), .op (.mov (.val (.bool true))), none⟩])
       (.seq (.seq (.region [⟨(some 56), .op (.fieldAddr 0 (.tmp 10)), none⟩,
          ⟨(some 57), .op (.load none (.tmp 56)), none⟩])
        (.block 2 (.seq (.region [⟨(some 59), .op (.bin .eql (.tmp 57) (.val (.int .i64 0))), none⟩,
           ⟨(some 58), .op (.mov (.tmp 59)), none⟩])
         (.cond (.tmp 58) (.seq (.region [⟨(some 61), .op (.mov (.tmp 7)), none⟩,
            ⟨(some 62), .op (.fieldAddr 1 (.tmp 10)), none⟩,
            ⟨(some 63), .op (.load none (.tmp 62)), none⟩,
            ⟨(some 64), .op (.fieldAddr 2 (.tmp 10)), none⟩,
            ⟨(some 65), .op (.load none (.tmp 64)), none⟩,
            ⟨(some 66), .op (.fieldAddr 3 (.tmp 10)), none⟩,
            ⟨(some 67), .op (.load none (.tmp 66)), none⟩,
            ⟨(some 68), .call (.fnv 21) [(.tmp 61), (.tmp 63), (.tmp 65), (.tmp 67)], none⟩,
            ⟨(some 60), .op (.mov (.tmp 68)), none⟩,
            ⟨(some 69), .op (.extract (.tmp 60) 0), none⟩,
            ⟨(some 70), .op (.extract (.tmp 60) 1), none⟩,
            ⟨(some 12), .op (.mov (.tmp 69)), none⟩,
            ⟨(some 13), .op (.mov (.tmp 70)), none⟩])
          (.region [⟨(some 71), .op (.mov (.tmp 5)), none⟩,
           ⟨(some 72), .op (.fieldAddr 1 (.tmp 10)), none⟩,
           ⟨(some 73), .op (.load none (.tmp 72)), none⟩,
           ⟨(some 74), .op (.fieldAddr 2 (.tmp 10)), none⟩,
           ⟨(some 75), .op (.load none (.tmp 74)), none⟩,
           ⟨(some 76), .op (.fieldAddr 3 (.tmp 10)), none⟩,
           ⟨(some 77), .op (.load none (.tmp 76)), none⟩,
           ⟨(some 78), .call (.fnv 10) [(.tmp 71), (.tmp 73), (.tmp 75), (.tmp 77)], none⟩,
           ⟨(some 79), .op (.mov (.tmp 12)), none⟩,
           ⟨(some 80), .op (.mov (.tmp 13)), none⟩,
           ⟨(some 81), .op (.build [(.int .i64 0), (.int .i64 0), (.int .u64 0)] [(0, 1, (.tmp 79)), (1, 1, (.tmp 80))]), none⟩,
           ⟨(some 82), .op (.eql false (.flat [.int, .int, .int]) (.tmp 78) (.tmp 81)), none⟩,
           ⟨(some 11), .op (.mov (.tmp 82)), none⟩]))
         (.seq (.region [⟨(some 84), .op (.bin .eql (.tmp 57) (.val (.int .i64 1))), none⟩,
           ⟨(some 83), .op (.mov (.tmp 84)), none⟩])
         (.cond (.tmp 83) (.seq (.region [⟨(some 86), .op (.mov (.tmp 7)), none⟩,
            ⟨(some 87), .op (.fieldAddr 1 (.tmp 10)), none⟩,
            ⟨(some 88), .op (.load none (.tmp 87)), none⟩,
            ⟨(some 89), .op (.fieldAddr 3 (.tmp 10)), none⟩,
            ⟨(some 90), .op (.load none (.tmp 89)), none⟩,
            ⟨(some 91), .call (.fnv 22) [(.tmp 86), (.tmp 88), (.tmp 90)], none⟩,
            ⟨(some 85), .op (.mov (.tmp 91)), none⟩,
            ⟨(some 92), .op (.extract (.tmp 85) 0), none⟩,
            ⟨(some 93), .op (.extract (.tmp 85) 1), none⟩,
            ⟨(some 94), .op (.extract (.tmp 85) 2), none⟩,
            ⟨(some 14), .op (.mov (.tmp 92)), none⟩,
            ⟨(some 15), .op (.mov (.tmp 93)), none⟩,
            ⟨(some 16), .op (.mov (.tmp 94)), none⟩])
          (.region [⟨(some 95), .op (.mov (.tmp 5)), none⟩,
           ⟨(some 96), .op (.fieldAddr 1 (.tmp 10)), none⟩,
           ⟨(some 97), .op (.load none (.tmp 96)), none⟩,
           ⟨(some 98), .op (.fieldAddr 3 (.tmp 10)), none⟩,
           ⟨(some 99), .op (.load none (.tmp 98)), none⟩,
           ⟨(some 100), .call (.fnv 11) [(.tmp 95), (.tmp 97), (.tmp 99)], none⟩,
           ⟨(some 101), .op (.mov (.tmp 14)), none⟩,
           ⟨(some 102), .op (.mov (.tmp 15)), none⟩,
           ⟨(some 103), .op (.mov (.tmp 16)), none⟩,
           ⟨(some 104), .op (.build [(.int .i64 0), (.int .i64 0), (.int .u64 0)] [(0, 1, (.tmp 101)), (1, 1, (.tmp 102)), (2, 1, (.tmp 103))]), none⟩,
           ⟨(some 105), .op (.eql false (.flat [.int, .int, .int]) (.tmp 100) (.tmp 104)), none⟩,
           ⟨(some 11), .op (.mov (.tmp 105)), none⟩]))
         (.seq (.region [⟨(some 107), .op (.bin .eql (.tmp 57) (.val (.int .i64 2))), none⟩,
           ⟨(some 106), .op (.mov (.tmp 107)), none⟩])
         (.cond (.tmp 106) (.seq (.region [⟨(some 108), .op (.mov (.tmp 5)), none⟩,
            ⟨(some 109), .op (.fieldAddr 1 (.tmp 10)), none⟩,
            ⟨(some 110), .op (.load none (.tmp 109)), none⟩,
            ⟨(some 111), .op (.fieldAddr 2 (.tmp 10)), none⟩,
            ⟨(some 112), .op (.load none (.tmp 111)), none⟩,
            ⟨(some 113), .op (.fieldAddr 3 (.tmp 10)), none⟩,
            ⟨(some 114), .op (.load none (.tmp 113)), none⟩,
            ⟨(some 115), .call (.fnv 16) [(.tmp 108), (.tmp 110), (.tmp 112), (.tmp 114)], none⟩])
          (.region [⟨(some 116), .op (.mov (.tmp 7)), none⟩,
           ⟨(some 117), .op (.fieldAddr 1 (.tmp 10)), none⟩,
           ⟨(some 118), .op (.load none (.tmp 117)), none⟩,
           ⟨(some 119), .op (.fieldAddr 2 (.tmp 10)), none⟩,
           ⟨(some 120), .op (.load none (.tmp 119)), none⟩,
           ⟨(some 121), .op (.fieldAddr 3 (.tmp 10)), none⟩,
           ⟨(some 122), .op (.load none (.tmp 121)), none⟩,
           ⟨(some 123), .call (.fnv 23) [(.tmp 116), (.tmp 118), (.tmp 120), (.tmp 122)], none⟩]))
         (.seq (.region [⟨(some 125), .op (.bin .eql (.tmp 57) (.val (.int .i64 3))), none⟩,
           ⟨(some 124), .op (.mov (.tmp 125)), none⟩])
         (.cond (.tmp 124) (.seq (.region [⟨(some 127), .op (.mov (.tmp 5)), none⟩,
            ⟨(some 128), .call (.fnv 12) [(.tmp 127)], none⟩,
            ⟨(some 126), .op (.mov (.tmp 128)), none⟩,
            ⟨(some 129), .op (.extract (.tmp 126) 0), none⟩,
            ⟨(some 130), .op (.extract (.tmp 126) 1), none⟩,
            ⟨(some 17), .op (.mov (.tmp 129)), none⟩,
            ⟨(some 18), .op (.mov (.tmp 130)), none⟩])
          (.seq (.region [⟨(some 132), .op (.mov (.tmp 7)), none⟩,
            ⟨(some 133), .call (.fnv 24) [(.tmp 132)], none⟩,
            ⟨(some 131), .op (.mov (.tmp 133)), none⟩,
            ⟨(some 134), .op (.extract (.tmp 131) 0), none⟩,
            ⟨(some 135), .op (.extract (.tmp 131) 1), none⟩,
            ⟨(some 19), .op (.mov (.tmp 134)), none⟩,
            ⟨(some 20), .op (.mov (.tmp 135)), none⟩])
          (.region [⟨(some 136), .op (.mov (.tmp 17)), none⟩,
           ⟨(some 137), .op (.mov (.tmp 19)), none⟩,
           ⟨(some 138), .call (.fnv 14) [(.tmp 136), (.tmp 137)], none⟩,
           ⟨(some 139), .op (.mov (.tmp 138)), none⟩,
           ⟨(some 140), .op (.mov (.tmp 18)), (some (139, true))⟩,
           ⟨(some 141), .op (.mov (.tmp 20)), (some (139, true))⟩,
           ⟨(some 142), .op (.eql false .bool (.tmp 140) (.tmp 141)), (some (139, true))⟩,
           ⟨(some 143), .op (.pick (.tmp 139) (.tmp 142) (.val (.bool false))), none⟩,
           ⟨(some 11), .op (.mov (.tmp 143)), none⟩])))
         (.seq (.region [⟨(some 145), .op (.bin .eql (.tmp 57) (.val (.int .i64 4))), none⟩,
           ⟨(some 144), .op (.mov (.tmp 145)), none⟩])
         (.cond (.tmp 144) (.seq (.region [⟨(some 146), .op (.mov (.tmp 5)), none⟩,
            ⟨(some 147), .op (.fieldAddr 1 (.tmp 10)), none⟩,
            ⟨(some 148), .op (.load none (.tmp 147)), none⟩,
            ⟨(some 149), .call (.fnv 17) [(.tmp 146), (.tmp 148)], none⟩])
          (.region [⟨(some 150), .op (.mov (.tmp 7)), none⟩,
           ⟨(some 151), .op (.fieldAddr 1 (.tmp 10)), none⟩,
           ⟨(some 152), .op (.load none (.tmp 151)), none⟩,
           ⟨(some 153), .call (.fnv 25) [(.tmp 150), (.tmp 152)], none⟩]))
         (.skip)))))))))))))
       (.seq (.region [⟨(some 155), .op (.mov (.tmp 5)), none⟩,
         ⟨(some 156), .call (.fnv 15) [(.tmp 155)], none⟩,
         ⟨(some 154), .op (.mov (.tmp 156)), none⟩,
         ⟨(some 157), .op (.extract (.tmp 154) 0), none⟩,
         ⟨(some 158), .op (.extract (.tmp 154) 1), none⟩,
         ⟨(some 159), .op (.extract (.tmp 154) 2), none⟩,
         ⟨(some 21), .op (.mov (.tmp 157)), none⟩,
         ⟨(some 22), .op (.mov (.tmp 158)), none⟩,
         ⟨(some 23), .op (.mov (.tmp 159)), none⟩])
       (.seq (.draw [⟨⟨(some 160), .op (.mov (.tmp 11)), none⟩, .pure⟩,
         ⟨⟨(some 161), .op (.un .not (.tmp 160)), none⟩, .pure⟩,
         ⟨⟨(some 162), .op (.mov (.tmp 161)), none⟩, .pure⟩,
         ⟨⟨(some 163), .op (.mov (.tmp 21)), (some (162, false))⟩, .pure⟩,
         ⟨⟨(some 164), .op (.mov (.tmp 7)), (some (162, false))⟩, .pure⟩,
         ⟨⟨(some 165), .op (.nilCheck (.tmp 164)), (some (162, false))⟩, .pure⟩,
         ⟨⟨(some 166), .op (.fieldAddr 0 (.tmp 165)), (some (162, false))⟩, .pure⟩,
         ⟨⟨(some 167), .op (.load none (.tmp 166)), (some (162, false))⟩, .read []⟩,
         ⟨⟨(some 168), .op (.lenS (.tmp 167)), (some (162, false))⟩, .pure⟩,
         ⟨⟨(some 169), .op (.bin .neq (.tmp 163) (.tmp 168)), (some (162, false))⟩, .pure⟩,
         ⟨⟨(some 170), .op (.pick (.tmp 162) (.val (.bool true)) (.tmp 169)), none⟩, .pure⟩,
         ⟨⟨(some 171), .op (.mov (.tmp 170)), none⟩, .pure⟩,
         ⟨⟨(some 172), .op (.mov (.tmp 22)), (some (171, false))⟩, .pure⟩,
         ⟨⟨(some 173), .op (.mov (.tmp 7)), (some (171, false))⟩, .pure⟩,
         ⟨⟨(some 174), .op (.nilCheck (.tmp 173)), (some (171, false))⟩, .pure⟩,
         ⟨⟨(some 175), .op (.fieldAddr 3 (.tmp 174)), (some (171, false))⟩, .pure⟩,
         ⟨⟨(some 176), .op (.load none (.tmp 175)), (some (171, false))⟩, .read []⟩,
         ⟨⟨(some 177), .op (.lenS (.tmp 176)), (some (171, false))⟩, .pure⟩,
         ⟨⟨(some 178), .op (.bin .neq (.tmp 172) (.tmp 177)), (some (171, false))⟩, .pure⟩,
         ⟨⟨(some 179), .op (.pick (.tmp 171) (.val (.bool true)) (.tmp 178)), none⟩, .pure⟩,
         ⟨⟨(some 180), .op (.mov (.tmp 179)), none⟩, .pure⟩,
         ⟨⟨(some 181), .op (.mov (.tmp 23)), (some (180, false))⟩, .pure⟩,
         ⟨⟨(some 182), .op (.mov (.tmp 7)), (some (180, false))⟩, .pure⟩,
         ⟨⟨(some 183), .op (.nilCheck (.tmp 182)), (some (180, false))⟩, .pure⟩,
         ⟨⟨(some 184), .op (.fieldAddr 4 (.tmp 183)), (some (180, false))⟩, .pure⟩,
         ⟨⟨(some 185), .op (.load none (.tmp 184)), (some (180, false))⟩, .read []⟩,
         ⟨⟨(some 186), .op (.lenS (.tmp 185)), (some (180, false))⟩, .pure⟩,
         ⟨⟨(some 187), .op (.bin .neq (.tmp 181) (.tmp 186)), (some (180, false))⟩, .pure⟩,
         ⟨⟨(some 188), .op (.pick (.tmp 180) (.val (.bool true)) (.tmp 187)), none⟩, .pure⟩,
         ⟨⟨(some 189), .op (.mov (.tmp 188)), none⟩, .pure⟩,
         ⟨⟨(some 190), .op (.mov (.tmp 5)), (some (189, false))⟩, .pure⟩,
         ⟨⟨(some 191), .call (.fnv 27) [(.tmp 190)], (some (189, false))⟩, .act false⟩,
         ⟨⟨(some 192), .op (.mov (.tmp 7)), (some (189, false))⟩, .pure⟩,
         ⟨⟨(some 193), .call (.fnv 28) [(.tmp 192)], (some (189, false))⟩, .act true⟩,
         ⟨⟨(some 194), .call (.fnv 26) [(.tmp 191), (.tmp 193)], (some (189, false))⟩, .act true⟩,
         ⟨⟨(some 195), .op (.un .not (.tmp 194)), (some (189, false))⟩, .pure⟩,
         ⟨⟨(some 196), .op (.pick (.tmp 189) (.val (.bool true)) (.tmp 195)), none⟩, .pure⟩,
         ⟨⟨(some 197), .op (.mov (.tmp 196)), none⟩, .pure⟩,
         ⟨⟨(some 198), .op (.mov (.tmp 5)), (some (197, false))⟩, .pure⟩,
         ⟨⟨(some 199), .call (.fnv 19) [(.tmp 198)], (some (197, false))⟩, .act false⟩,
         ⟨⟨(some 200), .op (.mov (.tmp 7)), (some (197, false))⟩, .pure⟩,
         ⟨⟨(some 201), .op (.nilCheck (.tmp 200)), (some (197, false))⟩, .pure⟩,
         ⟨⟨(some 202), .op (.fieldAddr 2 (.tmp 201)), (some (197, false))⟩, .pure⟩,
         ⟨⟨(some 203), .op (.load none (.tmp 202)), (some (197, false))⟩, .read [39]⟩,
         ⟨⟨(some 204), .op (.eql true .bool (.tmp 199) (.tmp 203)), (some (197, false))⟩, .pure⟩,
         ⟨⟨(some 205), .op (.pick (.tmp 197) (.val (.bool true)) (.tmp 204)), none⟩, .pure⟩,
         ⟨⟨(some 206), .op (.mov (.tmp 205)), none⟩, .pure⟩,
         ⟨⟨(some 207), .op (.mov (.tmp 5)), (some (206, false))⟩, .pure⟩,
         ⟨⟨(some 208), .call (.fnv 18) [(.tmp 207), (.val (.bool true))], (some (206, false))⟩, .act false⟩,
         ⟨⟨(some 209), .op (.mov (.tmp 7)), (some (206, false))⟩, .pure⟩,
         ⟨⟨(some 210), .call (.fnv 29) [(.tmp 209), (.val (.bool true))], (some (206, false))⟩, .act true⟩,
         ⟨⟨(some 211), .op (.eql true .bool (.tmp 208) (.tmp 210)), (some (206, false))⟩, .pure⟩,
         ⟨⟨(some 212), .op (.pick (.tmp 206) (.val (.bool true)) (.tmp 211)), none⟩, .pure⟩,
         ⟨⟨(some 213), .op (.mov (.tmp 212)), none⟩, .pure⟩,
         ⟨⟨(some 214), .op (.mov (.tmp 5)), (some (213, false))⟩, .pure⟩,
         ⟨⟨(some 215), .call (.fnv 18) [(.tmp 214), (.val (.bool false))], (some (213, false))⟩, .act false⟩,
         ⟨⟨(some 216), .op (.mov (.tmp 7)), (some (213, false))⟩, .pure⟩,
         ⟨⟨(some 217), .call (.fnv 29) [(.tmp 216), (.val (.bool false))], (some (213, false))⟩, .act true⟩,
         ⟨⟨(some 218), .op (.eql true .bool (.tmp 215) (.tmp 217)), (some (213, false))⟩, .pure⟩,
         ⟨⟨(some 219), .op (.pick (.tmp 213) (.val (.bool true)) (.tmp 218)), none⟩, .pure⟩])
       (.cond (.tmp 219) (.seq (.region [⟨(some 4), .op (.mov (.val (.bool false))), none⟩])
        (.ret))
       (.skip))))))))
     (.region [⟨(some 220), .op (.bin .add (.tmp 52) (.val (.int .i64 1))), none⟩,
      ⟨(some 52), .op (.mov (.tmp 220)), none⟩])))))))
  (.seq (.region [⟨(some 4), .op (.mov (.val (.bool true))), none⟩])
  (.ret))))))),
  [.tmp 4], none, none⟩
def A8 : AFun := ⟨.seq (.region [⟨(some 2), .op (.mov (.val (.bool false))), none⟩])
  (.seq (.region [⟨(some 3), .op (.mov (.val .nilp)), none⟩])
  (.seq (.region [⟨(some 17), .op (.mov (.tmp 3)), none⟩,
    ⟨(some 18), .call (.fnv 12) [(.tmp 17)], none⟩,
    ⟨(some 16), .op (.mov (.tmp 18)), none⟩,
    ⟨(some 19), .op (.extract (.tmp 16) 0), none⟩,
    ⟨(some 20), .op (.extract (.tmp 16) 1), none⟩,
    ⟨(some 4), .op (.mov (.tmp 19)), none⟩,
    ⟨(some 5), .op (.mov (.tmp 20)), none⟩])
  (.seq (.region [⟨(some 22), .op (.mov (.tmp 3)), none⟩,
    ⟨(some 23), .call (.fnv 15) [(.tmp 22)], none⟩,
    ⟨(some 21), .op (.mov (.tmp 23)), none⟩,
    ⟨(some 24), .op (.extract (.tmp 21) 0), none⟩,
    ⟨(some 25), .op (.extract (.tmp 21) 1), none⟩,
    ⟨(some 26), .op (.extract (.tmp 21) 2), none⟩,
    ⟨(some 6), .op (.mov (.tmp 24)), none⟩,
    ⟨(some 7), .op (.mov (.tmp 25)), none⟩,
    ⟨(some 8), .op (.mov (.tmp 26)), none⟩])
  (.seq (.region [⟨(some 27), .op (.mov (.tmp 3)), none⟩,
    ⟨(some 28), .call (.fnv 16) [(.tmp 27), (.val (.int .i64 1)), (.val (.int .u64 2)), (.val (.bool true))], none⟩])
  (.seq (.region [⟨(some 29), .op (.mov (.tmp 3)), none⟩,
    ⟨(some 30), .call (.fnv 17) [(.tmp 29), (.val (.int .i64 1))], none⟩])
  (.seq (.seq (.region [⟨(some 31), .call (.fnv 13) [], none⟩,
     ⟨(some 32), .op (.un .not (.tmp 31)), none⟩,
     ⟨(some 33), .op (.mov (.tmp 32)), none⟩,
     ⟨(some 34), .op (.mov (.tmp 5)), (some (33, false))⟩,
     ⟨(some 35), .op (.pick (.tmp 33) (.val (.bool true)) (.tmp 34)), none⟩,
     ⟨(some 36), .op (.mov (.tmp 35)), none⟩,
     ⟨(some 37), .op (.mov (.tmp 4)), (some (36, false))⟩,
     ⟨(some 38), .op (.lenS (.tmp 37)), (some (36, false))⟩,
     ⟨(some 39), .op (.bin .neq (.tmp 38) (.val (.int .i64 0))), (some (36, false))⟩,
     ⟨(some 40), .op (.pick (.tmp 36) (.val (.bool true)) (.tmp 39)), none⟩,
     ⟨(some 41), .op (.mov (.tmp 40)), none⟩,
     ⟨(some 42), .op (.mov (.tmp 6)), (some (41, false))⟩,
     ⟨(some 43), .op (.mov (.tmp 7)), (some (41, false))⟩,
     ⟨(some 44), .op (.bin .add (.tmp 42) (.tmp 43)), (some (41, false))⟩,
     ⟨(some 45), .op (.mov (.tmp 8)), (some (41, false))⟩,
     ⟨(some 46), .op (.bin .add (.tmp 44) (.tmp 45)), (some (41, false))⟩,
     ⟨(some 47), .op (.bin .neq (.tmp 46) (.val (.int .i64 0))), (some (41, false))⟩,
     ⟨(some 48), .op (.pick (.tmp 41) (.val (.bool true)) (.tmp 47)), none⟩,
     ⟨(some 49), .op (.mov (.tmp 48)), none⟩,
     ⟨(some 50), .op (.mov (.tmp 3)), (some (49, false))⟩,
     ⟨(some 51), .call (.fnv 10) [(.tmp 50), (.val (.int .i64 1)), (.val (.int .u64 2)), (.val (.bool true))], (some (49, false))⟩,
     ⟨(some 52), .op (.build [(.int .i64 0), (.int .i64 0), (.int .u64 0)] []), (some (49, false))⟩,
     ⟨(some 53), .op (.eql true (.flat [.int, .int, .int]) (.tmp 51) (.tmp 52)), (some (49, false))⟩,
     ⟨(some 54), .op (.pick (.tmp 49) (.val (.bool true)) (.tmp 53)), none⟩,
     ⟨(some 55), .op (.mov (.tmp 54)), none⟩,
     ⟨(some 56), .op (.mov (.tmp 3)), (some (55, false))⟩,
     ⟨(some 57), .call (.fnv 11) [(.tmp 56), (.val (.int .i64 1)), (.val (.bool true))], (some (55, false))⟩,
     ⟨(some 58), .op (.build [(.int .i64 0), (.int .i64 0), (.int .u64 0)] []), (some (55, false))⟩,
     ⟨(some 59), .op (.eql true (.flat [.int, .int, .int]) (.tmp 57) (.tmp 58)), (some (55, false))⟩,
     ⟨(some 60), .op (.pick (.tmp 55) (.val (.bool true)) (.tmp 59)), none⟩,
     ⟨(some 61), .op (.mov (.tmp 60)), none⟩,
     ⟨(some 62), .op (.mov (.tmp 3)), (some (61, false))⟩,
     ⟨(some 63), .call (.fnv 18) [(.tmp 62), (.val (.bool true))], (some (61, false))⟩,
     ⟨(some 64), .op (.pick (.tmp 61) (.val (.bool true)) (.tmp 63)), none⟩,
     ⟨(some 65), .op (.mov (.tmp 64)), none⟩,
     ⟨(some 66), .op (.mov (.tmp 3)), (some (65, false))⟩,
     ⟨(some 67), .call (.fnv 19) [(.tmp 66)], (some (65, false))⟩,
     ⟨(some 68), .op (.pick (.tmp 65) (.val (.bool true)) (.tmp 67)), none⟩,
     ⟨(some 69), .op (.mov (.tmp 68)), none⟩,
     ⟨(some 70), .op (.mov (.tmp 3)), (some (69, false))⟩,
     ⟨(some 71), .call (.fnv 27) [(.tmp 70)], (some (69, false))⟩,
     ⟨(some 72), .op (.lenS (.tmp 71)), (some (69, false))⟩,
     ⟨(some 73), .op (.bin .neq (.tmp 72) (.val (.int .i64 0))), (some (69, false))⟩,
     ⟨(some 74), .op (.pick (.tmp 69) (.val (.bool true)) (.tmp 73)), none⟩])
   (.cond (.tmp 74) (.seq (.region [⟨(some 2), .op (.mov (.val (.bool false))), none⟩])
    (.ret))
   (.skip)))
  (.seq (.region [⟨(some 76), .call (.fnv 9) [(.val (.int .i64 4))], none⟩,
    ⟨(some 75), .op (.mov (.tmp 76)), none⟩,
    ⟨(some 77), .op (.extract (.tmp 75) 0), none⟩,
    ⟨(some 78), .op (.extract (.tmp 75) 1), none⟩,
    ⟨(some 9), .op (.mov (.tmp 77)), none⟩,
    ⟨(some 10), .op (.mov (.tmp 78)), none⟩])
  (.seq (.seq (.region [⟨(some 79), .op (.mov (.tmp 9)), none⟩,
     ⟨(some 80), .op (.eql false .ptr (.tmp 79) (.val .nilp)), none⟩])
   (.cond (.tmp 80) (.seq (.region [⟨(some 2), .op (.mov (.val (.bool false))), none⟩])
    (.ret))
   (.skip)))
  (.seq (.seq (.region [⟨(some 81), .op (.mov (.tmp 0)), none⟩,
     ⟨(some 82), .op (.mov (.tmp 0)), none⟩,
     ⟨(some 83), .op (.lenS (.tmp 82)), none⟩,
     ⟨(some 84), .op (.min (.tmp 83) (.val (.int .i64 9))), none⟩,
     ⟨(some 85), .op (.slice 1 (.tmp 81) none (some (.tmp 84))), none⟩,
     ⟨(some 86), .op (.lenS (.tmp 85)), none⟩,
     ⟨(some 87), .op (.mov (.val (.int .i64 0))), none⟩])
   (.block 0 (.loop (.seq (.region [⟨(some 88), .op (.bin .lss (.tmp 87) (.tmp 86)), none⟩])
     (.seq (.cond (.tmp 88) (.skip)
      (.exit 0))
     (.seq (.block 1 (.seq (.region [⟨(some 89), .op (.mov (.tmp 87)), none⟩,
         ⟨(some 90), .op (.idxS 1 (.tmp 85) (.tmp 87)), none⟩,
         ⟨(some 91), .op (.load none (.tmp 90)), none⟩,
         ⟨(some 11), .op (.mov (.tmp 89)), none⟩,
         ⟨(some 12), .op (.mov (.tmp 91)), none⟩])
       (.region [⟨(some 92), .op (.mov (.tmp 9)), none⟩,
        ⟨(some 93), .op (.mov (.tmp 11)), none⟩,
        ⟨(some 94), .op (.mov (.tmp 12)), none⟩,
        ⟨(some 95), .call (.fnv 10) [(.tmp 92), (.tmp 93), (.tmp 94), (.val (.bool true))], none⟩])))
     (.region [⟨(some 96), .op (.bin .add (.tmp 87) (.val (.int .i64 1))), none⟩,
      ⟨(some 87), .op (.mov (.tmp 96)), none⟩])))))))
  (.seq (.region [⟨(some 97), .op (.mov (.tmp 9)), none⟩,
    ⟨(some 98), .call (.fnv 27) [(.tmp 97)], none⟩,
    ⟨(some 99), .op (.mov (.tmp 9)), none⟩,
    ⟨(some 100), .call (.fnv 27) [(.tmp 99)], none⟩,
    ⟨(some 13), .op (.mov (.tmp 98)), none⟩,
    ⟨(some 14), .op (.mov (.tmp 100)), none⟩])
  (.seq (.seq (.region [⟨(some 101), .op (.mov (.tmp 13)), none⟩,
     ⟨(some 102), .op (.lenS (.tmp 101)), none⟩,
     ⟨(some 103), .op (.mov (.val (.int .i64 0))), none⟩])
   (.block 2 (.loop (.seq (.region [⟨(some 104), .op (.bin .lss (.tmp 103) (.tmp 102)), none⟩])
     (.seq (.cond (.tmp 104) (.skip)
      (.exit 2))
     (.seq (.block 3 (.seq (.region [⟨(some 105), .op (.mov (.tmp 103)), none⟩,
         ⟨(some 15), .op (.mov (.tmp 105)), none⟩])
       (.region [⟨(some 106), .op (.mov (.tmp 13)), none⟩,
        ⟨(some 107), .op (.mov (.tmp 15)), none⟩,
        ⟨(some 108), .op (.idxS 1 (.tmp 106) (.tmp 107)), none⟩,
        ⟨none, .op (.store 1 (.tmp 108) (.val (.int .u64 1099511627776))), none⟩])))
     (.region [⟨(some 109), .op (.bin .add (.tmp 103) (.val (.int .i64 1))), none⟩,
      ⟨(some 103), .op (.mov (.tmp 109)), none⟩])))))))
  (.seq (.region [⟨(some 110), .op (.mov (.tmp 13)), none⟩,
    ⟨(some 111), .op (.buildSlice 1 1 [(.int .u64 0)] [(0, (.val (.int .u64 3)))]), none⟩,
    ⟨(some 112), .op (.append 1 8 (.tmp 110) (.tmp 111)), none⟩,
    ⟨(some 13), .op (.mov (.tmp 112)), none⟩])
  (.seq (.region [⟨(some 113), .op (.mov (.tmp 14)), none⟩,
    ⟨(some 114), .op (.mov (.tmp 0)), none⟩,
    ⟨(some 115), .op (.mov (.tmp 0)), none⟩,
    ⟨(some 116), .op (.lenS (.tmp 115)), none⟩,
    ⟨(some 117), .op (.min (.tmp 116) (.val (.int .i64 9))), none⟩,
    ⟨(some 118), .op (.slice 1 (.tmp 114) none (some (.tmp 117))), none⟩,
    ⟨(some 119), .call (.fnv 26) [(.tmp 113), (.tmp 118)], none⟩,
    ⟨(some 120), .op (.mov (.tmp 119)), none⟩,
    ⟨(some 121), .op (.mov (.tmp 9)), (some (120, true))⟩,
    ⟨(some 122), .call (.fnv 27) [(.tmp 121)], (some (120, true))⟩,
    ⟨(some 123), .op (.mov (.tmp 14)), (some (120, true))⟩,
    ⟨(some 124), .call (.fnv 26) [(.tmp 122), (.tmp 123)], (some (120, true))⟩,
    ⟨(some 125), .op (.pick (.tmp 120) (.tmp 124) (.val (.bool false))), none⟩,
    ⟨(some 126), .op (.mov (.tmp 125)), none⟩,
    ⟨(some 127), .op (.mov (.tmp 13)), (some (126, true))⟩,
    ⟨(some 128), .op (.mov (.tmp 13)), (some (126, true))⟩,
    ⟨(some 129), .op (.lenS (.tmp 128)), (some (126, true))⟩,
    ⟨(some 130), .op (.bin .sub (.tmp 129) (.val (.int .i64 1))), (some (126, true))⟩,
    ⟨(some 131), .op (.idxS 1 (.tmp 127) (.tmp 130)), (some (126, true))⟩,
    ⟨(some 132), .op (.load none (.tmp 131)), (some (126, true))⟩,
    ⟨(some 133), .op (.bin .eql (.tmp 132) (.val (.int .u64 3))), (some (126, true))⟩,
    ⟨(some 134), .op (.pick (.tmp 126) (.tmp 133) (.val (.bool false))), none⟩,
    ⟨(some 2), .op (.mov (.tmp 134)), none⟩])
  (.ret)))))))))))))),
  [.tmp 2], none, none⟩
def A9 : AFun := ⟨.seq (.region [⟨(some 2), .op (.mov (.val .nilp)), none⟩,
    ⟨(some 3), .op (.mov (.val (.int .i64 0))), none⟩])
  (.seq (.seq (.region [⟨(some 4), .op (.mov (.tmp 0)), none⟩,
     ⟨(some 5), .op (.bin .lss (.tmp 4) (.val (.int .i64 0))), none⟩,
     ⟨(some 6), .op (.mov (.tmp 5)), none⟩,
     ⟨(some 7), .op (.mov (.tmp 0)), (some (6, false))⟩,
     ⟨(some 8), .op (.bin .gtr (.tmp 7) (.val (.int .i64 16))), (some (6, false))⟩,
     ⟨(some 9), .op (.pick (.tmp 6) (.val (.bool true)) (.tmp 8)), none⟩])
   (.cond (.tmp 9) (.seq (.region [⟨(some 2), .op (.mov (.val .nilp)), none⟩,
      ⟨(some 3), .op (.mov (.val (.int .i64 1))), none⟩])
    (.ret))
   (.skip)))
  (.seq (.region [⟨(some 10), .op (.mov (.tmp 0)), none⟩,
    ⟨(some 11), .op (.build [.nils, (.int .i64 0), (.bool false), .nils, .nils] [(1, 1, (.tmp 10))]), none⟩,
    ⟨(some 12), .op (.box (.tmp 11)), none⟩,
    ⟨(some 2), .op (.mov (.tmp 12)), none⟩,
    ⟨(some 3), .op (.mov (.val (.int .i64 0))), none⟩])
  (.ret))),
  [.tmp 2, .tmp 3], none, none⟩
def A10 : AFun := ⟨.seq (.region [⟨(some 8), .op (.alloc [(.int .i64 0), (.int .i64 0), (.int .u64 0)]), none⟩])
  (.seq (.block 0 (.seq (.region [⟨(some 11), .op (.mov (.tmp 0)), none⟩,
      ⟨(some 12), .op (.eql false .ptr (.tmp 11) (.val .nilp)), none⟩,
      ⟨(some 10), .op (.mov (.tmp 12)), none⟩])
    (.cond (.tmp 10) (.seq (.region [⟨(some 13), .op (.build [(.int .i64 0), (.int .i64 0), (.int .u64 0)] []), none⟩,
       ⟨none, .op (.store 3 (.tmp 8) (.tmp 13)), none⟩])
     (.ret))
    (.seq (.region [⟨(some 15), .op (.mov (.tmp 0)), none⟩,
      ⟨(some 16), .op (.nilCheck (.tmp 15)), none⟩,
      ⟨(some 17), .op (.fieldAddr 2 (.tmp 16)), none⟩,
      ⟨(some 18), .op (.load none (.tmp 17)), none⟩,
      ⟨(some 14), .op (.mov (.tmp 18)), none⟩])
    (.cond (.tmp 14) (.seq (.region [⟨(some 19), .op (.build [(.int .i64 0), (.int .i64 0), (.int .u64 0)] [(0, 1, (.val (.int .i64 4)))]), none⟩,
       ⟨none, .op (.store 3 (.tmp 8) (.tmp 19)), none⟩])
     (.ret))
    (.seq (.region [⟨(some 21), .op (.mov (.tmp 0)), none⟩,
      ⟨(some 22), .op (.nilCheck (.tmp 21)), none⟩,
      ⟨(some 23), .op (.fieldAddr 4 (.tmp 22)), none⟩,
      ⟨(some 24), .op (.load none (.tmp 23)), none⟩,
      ⟨(some 25), .op (.lenS (.tmp 24)), none⟩,
      ⟨(some 26), .op (.bin .gtr (.tmp 25) (.val (.int .i64 0))), none⟩,
      ⟨(some 20), .op (.mov (.tmp 26)), none⟩])
    (.cond (.tmp 20) (.seq (.region [⟨(some 27), .op (.mov (.tmp 0)), none⟩,
       ⟨(some 28), .op (.nilCheck (.tmp 27)), none⟩,
       ⟨(some 29), .op (.fieldAddr 4 (.tmp 28)), none⟩,
       ⟨(some 30), .op (.load none (.tmp 29)), none⟩,
       ⟨(some 31), .op (.idxS 2 (.tmp 30) (.val (.int .i64 0))), none⟩,
       ⟨(some 32), .op (.load (some 2) (.tmp 31)), none⟩,
       ⟨(some 9), .op (.alloc [(.int .i64 0), (.int .u64 0)]), none⟩,
       ⟨none, .op (.store 2 (.tmp 9) (.tmp 32)), none⟩])
     (.seq (.region [⟨(some 33), .op (.mov (.tmp 0)), none⟩,
       ⟨(some 34), .op (.mov (.tmp 0)), none⟩,
       ⟨(some 35), .op (.nilCheck (.tmp 34)), none⟩,
       ⟨(some 36), .op (.fieldAddr 4 (.tmp 35)), none⟩,
       ⟨(some 37), .op (.load none (.tmp 36)), none⟩,
       ⟨(some 38), .op (.slice 2 (.tmp 37) (some (.val (.int .i64 1))) none), none⟩,
       ⟨(some 39), .op (.nilCheck (.tmp 33)), none⟩,
       ⟨(some 40), .op (.fieldAddr 4 (.tmp 39)), none⟩,
       ⟨none, .op (.store 1 (.tmp 40) (.tmp 38)), none⟩])
     (.seq (.region [⟨(some 41), .op (.fieldAddr 0 (.tmp 9)), none⟩,
       ⟨(some 42), .op (.load none (.tmp 41)), none⟩,
       ⟨(some 43), .op (.build [(.int .i64 0), (.int .i64 0), (.int .u64 0)] [(0, 1, (.val (.int .i64 2))), (1, 1, (.tmp 42))]), none⟩,
       ⟨none, .op (.store 3 (.tmp 8) (.tmp 43)), none⟩])
     (.ret))))
    (.seq (.region [⟨(some 45), .op (.mov (.tmp 0)), none⟩,
      ⟨(some 46), .op (.nilCheck (.tmp 45)), none⟩,
      ⟨(some 47), .op (.fieldAddr 0 (.tmp 46)), none⟩,
      ⟨(some 48), .op (.load none (.tmp 47)), none⟩,
      ⟨(some 49), .op (.lenS (.tmp 48)), none⟩,
      ⟨(some 50), .op (.mov (.tmp 0)), none⟩,
      ⟨(some 51), .op (.nilCheck (.tmp 50)), none⟩,
      ⟨(some 52), .op (.fieldAddr 1 (.tmp 51)), none⟩,
      ⟨(some 53), .op (.load none (.tmp 52)), none⟩,
      ⟨(some 54), .op (.bin .lss (.tmp 49) (.tmp 53)), none⟩,
      ⟨(some 44), .op (.mov (.tmp 54)), none⟩])
    (.cond (.tmp 44) (.seq (.region [⟨(some 55), .op (.mov (.tmp 0)), none⟩,
       ⟨(some 56), .op (.mov (.tmp 0)), none⟩,
       ⟨(some 57), .op (.nilCheck (.tmp 56)), none⟩,
       ⟨(some 58), .op (.fieldAddr 0 (.tmp 57)), none⟩,
       ⟨(some 59), .op (.load none (.tmp 58)), none⟩,
       ⟨(some 60), .op (.mov (.tmp 2)), none⟩,
       ⟨(some 61), .op (.buildSlice 1 1 [(.int .u64 0)] [(0, (.tmp 60))]), none⟩,
       ⟨(some 62), .op (.append 1 8 (.tmp 59) (.tmp 61)), none⟩,
       ⟨(some 63), .op (.nilCheck (.tmp 55)), none⟩,
       ⟨(some 64), .op (.fieldAddr 0 (.tmp 63)), none⟩,
       ⟨none, .op (.store 1 (.tmp 64) (.tmp 62)), none⟩])
     (.seq (.region [⟨(some 65), .op (.build [(.int .i64 0), (.int .i64 0), (.int .u64 0)] [(0, 1, (.val (.int .i64 1)))]), none⟩,
       ⟨none, .op (.store 3 (.tmp 8) (.tmp 65)), none⟩])
     (.ret)))
    (.skip))))))))))
  (.seq (.seq (.region [⟨(some 66), .op (.mov (.tmp 3)), none⟩])
   (.cond (.tmp 66) (.region [⟨(some 67), .op (.mov (.tmp 0)), none⟩,
     ⟨(some 68), .op (.mov (.tmp 1)), none⟩,
     ⟨(some 69), .op (.mov (.tmp 2)), none⟩,
     ⟨(some 70), .call (.fnv 16) [(.tmp 67), (.tmp 68), (.tmp 69), (.val (.bool true))], none⟩])
   (.skip)))
  (.seq (.region [⟨(some 71), .op (.build [(.int .i64 0), (.int .i64 0), (.int .u64 0)] [(0, 1, (.val (.int .i64 3)))]), none⟩,
    ⟨none, .op (.store 3 (.tmp 8) (.tmp 71)), none⟩])
  (.ret)))),
  [.cell 8 (some 3)], none, none⟩
def A11 : AFun := ⟨.seq (.region [⟨(some 6), .op (.alloc [(.int .i64 0), (.int .i64 0), (.int .u64 0)]), none⟩])
  (.seq (.seq (.region [⟨(some 10), .op (.mov (.tmp 0)), none⟩,
     ⟨(some 11), .op (.eql false .ptr (.tmp 10) (.val .nilp)), none⟩])
   (.cond (.tmp 11) (.seq (.region [⟨(some 12), .op (.build [(.int .i64 0), (.int .i64 0), (.int .u64 0)] []), none⟩,
      ⟨none, .op (.store 3 (.tmp 6) (.tmp 12)), none⟩])
    (.ret))
   (.skip)))
  (.seq (.seq (.region [⟨(some 13), .op (.mov (.tmp 0)), none⟩,
     ⟨(some 14), .op (.nilCheck (.tmp 13)), none⟩,
     ⟨(some 15), .op (.fieldAddr 0 (.tmp 14)), none⟩,
     ⟨(some 16), .op (.load none (.tmp 15)), none⟩,
     ⟨(some 17), .op (.lenS (.tmp 16)), none⟩,
     ⟨(some 18), .op (.bin .gtr (.tmp 17) (.val (.int .i64 0))), none⟩])
   (.cond (.tmp 18) (.seq (.region [⟨(some 19), .op (.mov (.tmp 0)), none⟩,
      ⟨(some 20), .op (.nilCheck (.tmp 19)), none⟩,
      ⟨(some 21), .op (.fieldAddr 0 (.tmp 20)), none⟩,
      ⟨(some 22), .op (.load none (.tmp 21)), none⟩,
      ⟨(some 23), .op (.idxS 1 (.tmp 22) (.val (.int .i64 0))), none⟩,
      ⟨(some 24), .op (.load none (.tmp 23)), none⟩,
      ⟨(some 25), .op (.build [(.int .i64 0), (.int .i64 0), (.int .u64 0)] [(0, 1, (.val (.int .i64 1))), (2, 1, (.tmp 24))]), none⟩,
      ⟨(some 7), .op (.alloc [(.int .i64 0), (.int .i64 0), (.int .u64 0)]), none⟩,
      ⟨none, .op (.store 3 (.tmp 7) (.tmp 25)), none⟩])
    (.seq (.region [⟨(some 26), .op (.mov (.tmp 0)), none⟩,
      ⟨(some 27), .op (.mov (.tmp 0)), none⟩,
      ⟨(some 28), .op (.nilCheck (.tmp 27)), none⟩,
      ⟨(some 29), .op (.fieldAddr 0 (.tmp 28)), none⟩,
      ⟨(some 30), .op (.load none (.tmp 29)), none⟩,
      ⟨(some 31), .op (.slice 1 (.tmp 30) (some (.val (.int .i64 1))) none), none⟩,
      ⟨(some 32), .op (.nilCheck (.tmp 26)), none⟩,
      ⟨(some 33), .op (.fieldAddr 0 (.tmp 32)), none⟩,
      ⟨none, .op (.store 1 (.tmp 33) (.tmp 31)), none⟩])
    (.seq (.seq (.region [⟨(some 34), .op (.mov (.tmp 0)), none⟩,
       ⟨(some 35), .op (.nilCheck (.tmp 34)), none⟩,
       ⟨(some 36), .op (.fieldAddr 3 (.tmp 35)), none⟩,
       ⟨(some 37), .op (.load none (.tmp 36)), none⟩,
       ⟨(some 38), .op (.lenS (.tmp 37)), none⟩,
       ⟨(some 39), .op (.bin .gtr (.tmp 38) (.val (.int .i64 0))), none⟩])
     (.cond (.tmp 39) (.seq (.region [⟨(some 40), .op (.mov (.tmp 0)), none⟩,
        ⟨(some 41), .op (.nilCheck (.tmp 40)), none⟩,
        ⟨(some 42), .op (.fieldAddr 3 (.tmp 41)), none⟩,
        ⟨(some 43), .op (.load none (.tmp 42)), none⟩,
        ⟨(some 44), .op (.idxS 2 (.tmp 43) (.val (.int .i64 0))), none⟩,
        ⟨(some 45), .op (.load (some 2) (.tmp 44)), none⟩,
        ⟨(some 8), .op (.alloc [(.int .i64 0), (.int .u64 0)]), none⟩,
        ⟨none, .op (.store 2 (.tmp 8) (.tmp 45)), none⟩])
      (.seq (.region [⟨(some 46), .op (.mov (.tmp 0)), none⟩,
        ⟨(some 47), .op (.mov (.tmp 0)), none⟩,
        ⟨(some 48), .op (.nilCheck (.tmp 47)), none⟩,
        ⟨(some 49), .op (.fieldAddr 3 (.tmp 48)), none⟩,
        ⟨(some 50), .op (.load none (.tmp 49)), none⟩,
        ⟨(some 51), .op (.slice 2 (.tmp 50) (some (.val (.int .i64 1))) none), none⟩,
        ⟨(some 52), .op (.nilCheck (.tmp 46)), none⟩,
        ⟨(some 53), .op (.fieldAddr 3 (.tmp 52)), none⟩,
        ⟨none, .op (.store 1 (.tmp 53) (.tmp 51)), none⟩])
      (.seq (.draw [⟨⟨(some 54), .op (.mov (.tmp 0)), none⟩, .pure⟩,
        ⟨⟨(some 55), .op (.mov (.tmp 0)), none⟩, .pure⟩,
        ⟨⟨(some 56), .op (.nilCheck (.tmp 55)), none⟩, .pure⟩,
        ⟨⟨(some 57), .op (.fieldAddr 0 (.tmp 56)), none⟩, .pure⟩,
        ⟨⟨(some 58), .op (.load none (.tmp 57)), none⟩, .read [8]⟩,
        ⟨⟨(some 59), .op (.fieldAddr 1 (.tmp 8)), none⟩, .pure⟩,
        ⟨⟨(some 60), .op (.load none (.tmp 59)), none⟩, .read []⟩,
        ⟨⟨(some 61), .op (.buildSlice 1 1 [(.int .u64 0)] [(0, (.tmp 60))]), none⟩, .act true⟩,
        ⟨⟨(some 62), .op (.append 1 8 (.tmp 58) (.tmp 61)), none⟩, .act true⟩,
        ⟨⟨(some 63), .op (.nilCheck (.tmp 54)), none⟩, .pure⟩,
        ⟨⟨(some 64), .op (.fieldAddr 0 (.tmp 63)), none⟩, .pure⟩,
        ⟨⟨none, .op (.store 1 (.tmp 64) (.tmp 62)), none⟩, .act true⟩])
      (.draw [⟨⟨(some 65), .op (.fieldAddr 0 (.tmp 8)), none⟩, .pure⟩,
       ⟨⟨(some 66), .op (.load none (.tmp 65)), none⟩, .read [5]⟩,
       ⟨⟨(some 67), .op (.fieldAddr 0 (.tmp 7)), none⟩, .pure⟩,
       ⟨⟨none, .op (.store 1 (.tmp 67) (.val (.int .i64 2))), none⟩, .act true⟩,
       ⟨⟨(some 68), .op (.fieldAddr 1 (.tmp 7)), none⟩, .pure⟩,
       ⟨⟨none, .op (.store 1 (.tmp 68) (.tmp 66)), none⟩, .act true⟩]))))
     (.skip)))
    (.seq (.region [⟨(some 69), .op (.load (some 3) (.tmp 7)), none⟩,
      ⟨none, .op (.store 3 (.tmp 6) (.tmp 69)), none⟩])
    (.ret)))))
   (.skip)))
  (.seq (.block 0 (.seq (.region [⟨(some 71), .op (.mov (.tmp 0)), none⟩,
      ⟨(some 72), .op (.nilCheck (.tmp 71)), none⟩,
      ⟨(some 73), .op (.fieldAddr 3 (.tmp 72)), none⟩,
      ⟨(some 74), .op (.load none (.tmp 73)), none⟩,
      ⟨(some 75), .op (.lenS (.tmp 74)), none⟩,
      ⟨(some 76), .op (.bin .gtr (.tmp 75) (.val (.int .i64 0))), none⟩,
      ⟨(some 70), .op (.mov (.tmp 76)), none⟩])
    (.cond (.tmp 70) (.seq (.region [⟨(some 77), .op (.mov (.tmp 0)), none⟩,
       ⟨(some 78), .op (.nilCheck (.tmp 77)), none⟩,
       ⟨(some 79), .op (.fieldAddr 3 (.tmp 78)), none⟩,
       ⟨(some 80), .op (.load none (.tmp 79)), none⟩,
       ⟨(some 81), .op (.idxS 2 (.tmp 80) (.val (.int .i64 0))), none⟩,
       ⟨(some 82), .op (.load (some 2) (.tmp 81)), none⟩,
       ⟨(some 9), .op (.alloc [(.int .i64 0), (.int .u64 0)]), none⟩,
       ⟨none, .op (.store 2 (.tmp 9) (.tmp 82)), none⟩])
     (.seq (.region [⟨(some 83), .op (.mov (.tmp 0)), none⟩,
       ⟨(some 84), .op (.mov (.tmp 0)), none⟩,
       ⟨(some 85), .op (.nilCheck (.tmp 84)), none⟩,
       ⟨(some 86), .op (.fieldAddr 3 (.tmp 85)), none⟩,
       ⟨(some 87), .op (.load none (.tmp 86)), none⟩,
       ⟨(some 88), .op (.slice 2 (.tmp 87) (some (.val (.int .i64 1))) none), none⟩,
       ⟨(some 89), .op (.nilCheck (.tmp 83)), none⟩,
       ⟨(some 90), .op (.fieldAddr 3 (.tmp 89)), none⟩,
       ⟨none, .op (.store 1 (.tmp 90) (.tmp 88)), none⟩])
     (.seq (.region [⟨(some 91), .op (.fieldAddr 0 (.tmp 9)), none⟩,
       ⟨(some 92), .op (.load none (.tmp 91)), none⟩,
       ⟨(some 93), .op (.fieldAddr 1 (.tmp 9)), none⟩,
       ⟨(some 94), .op (.load none (.tmp 93)), none⟩,
       ⟨(some 95), .op (.build [(.int .i64 0), (.int .i64 0), (.int .u64 0)] [(0, 1, (.val (.int .i64 2))), (1, 1, (.tmp 92)), (2, 1, (.tmp 94))]), none⟩,
       ⟨none, .op (.store 3 (.tmp 6) (.tmp 95)), none⟩])
     (.ret))))
    (.seq (.region [⟨(some 97), .op (.mov (.tmp 0)), none⟩,
      ⟨(some 98), .op (.nilCheck (.tmp 97)), none⟩,
      ⟨(some 99), .op (.fieldAddr 2 (.tmp 98)), none⟩,
      ⟨(some 100), .op (.load none (.tmp 99)), none⟩,
      ⟨(some 96), .op (.mov (.tmp 100)), none⟩])
    (.cond (.tmp 96) (.seq (.region [⟨(some 101), .op (.build [(.int .i64 0), (.int .i64 0), (.int .u64 0)] [(0, 1, (.val (.int .i64 4)))]), none⟩,
       ⟨none, .op (.store 3 (.tmp 6) (.tmp 101)), none⟩])
     (.ret))
    (.skip))))))
  (.seq (.seq (.region [⟨(some 102), .op (.mov (.tmp 2)), none⟩])
   (.cond (.tmp 102) (.region [⟨(some 103), .op (.mov (.tmp 0)), none⟩,
     ⟨(some 104), .op (.mov (.tmp 1)), none⟩,
     ⟨(some 105), .call (.fnv 16) [(.tmp 103), (.tmp 104), (.val (.int .u64 0)), (.val (.bool false))], none⟩])
   (.skip)))
  (.seq (.region [⟨(some 106), .op (.build [(.int .i64 0), (.int .i64 0), (.int .u64 0)] [(0, 1, (.val (.int .i64 3)))]), none⟩,
    ⟨none, .op (.store 3 (.tmp 6) (.tmp 106)), none⟩])
  (.ret)))))),
  [.cell 6 (some 3)], none, none⟩
def A12 : AFun := ⟨.seq (.region [⟨(some 2), .op (.mov (.val .nils)), none⟩,
    ⟨(some 3), .op (.mov (.val (.bool false))), none⟩])
  (.seq (.seq (.region [⟨(some 9), .op (.mov (.tmp 0)), none⟩,
     ⟨(some 10), .op (.eql false .ptr (.tmp 9) (.val .nilp)), none⟩,
     ⟨(some 11), .op (.mov (.tmp 10)), none⟩,
     ⟨(some 12), .op (.mov (.tmp 0)), (some (11, false))⟩,
     ⟨(some 13), .op (.nilCheck (.tmp 12)), (some (11, false))⟩,
     ⟨(some 14), .op (.fieldAddr 2 (.tmp 13)), (some (11, false))⟩,
     ⟨(some 15), .op (.load none (.tmp 14)), (some (11, false))⟩,
     ⟨(some 16), .op (.pick (.tmp 11) (.val (.bool true)) (.tmp 15)), none⟩])
   (.cond (.tmp 16) (.seq (.region [⟨(some 2), .op (.mov (.val .nils)), none⟩,
      ⟨(some 3), .op (.mov (.val (.bool false))), none⟩])
    (.ret))
   (.skip)))
  (.seq (.region [⟨(some 17), .op (.mov (.tmp 0)), none⟩,
    ⟨(some 18), .op (.nilCheck (.tmp 17)), none⟩,
    ⟨(some 19), .op (.fieldAddr 2 (.tmp 18)), none⟩,
    ⟨none, .op (.store 1 (.tmp 19) (.val (.bool true))), none⟩])
  (.seq (.region [⟨(some 4), .op (.mov (.val .nils)), none⟩])
  (.seq (.seq (.region [⟨(some 20), .op (.mov (.tmp 0)), none⟩,
     ⟨(some 21), .op (.nilCheck (.tmp 20)), none⟩,
     ⟨(some 22), .op (.fieldAddr 4 (.tmp 21)), none⟩,
     ⟨(some 23), .op (.load none (.tmp 22)), none⟩,
     ⟨(some 24), .op (.lenS (.tmp 23)), none⟩,
     ⟨(some 25), .op (.mov (.val (.int .i64 0))), none⟩])
   (.block 0 (.loop (.seq (.region [⟨(some 26), .op (.bin .lss (.tmp 25) (.tmp 24)), none⟩])
     (.seq (.cond (.tmp 26) (.skip)
      (.exit 0))
     (.seq (.block 1 (.seq (.region [⟨(some 27), .op (.idxS 2 (.tmp 23) (.tmp 25)), none⟩,
         ⟨(some 28), .op (.load (some 2) (.tmp 27)), none⟩,
         ⟨(some 6), .op (.alloc [(.int .i64 0), (.int .u64 0)]), none⟩,
         ⟨none, .op (.store 2 (.tmp 6) (.tmp 28)), none⟩])
       (.region [⟨(some 29), .op (.mov (.tmp 4)), none⟩,
        ⟨(some 30), .op (.fieldAddr 0 (.tmp 6)), none⟩,
        ⟨(some 31), .op (.load none (.tmp 30)), none⟩,
        ⟨(some 32), .op (.buildSlice 1 1 [(.int .i64 0)] [(0, (.tmp 31))]), none⟩,
        ⟨(some 33), .op (.append 1 8 (.tmp 29) (.tmp 32)), none⟩,
        ⟨(some 4), .op (.mov (.tmp 33)), none⟩])))
     (.region [⟨(some 34), .op (.bin .add (.tmp 25) (.val (.int .i64 1))), none⟩,
      ⟨(some 25), .op (.mov (.tmp 34)), none⟩])))))))
  (.seq (.seq (.region [⟨(some 35), .op (.mov (.tmp 0)), none⟩,
     ⟨(some 36), .op (.nilCheck (.tmp 35)), none⟩,
     ⟨(some 37), .op (.fieldAddr 3 (.tmp 36)), none⟩,
     ⟨(some 38), .op (.load none (.tmp 37)), none⟩,
     ⟨(some 39), .op (.lenS (.tmp 38)), none⟩,
     ⟨(some 40), .op (.mov (.val (.int .i64 0))), none⟩])
   (.block 2 (.loop (.seq (.region [⟨(some 41), .op (.bin .lss (.tmp 40) (.tmp 39)), none⟩])
     (.seq (.cond (.tmp 41) (.skip)
      (.exit 2))
     (.seq (.block 3 (.seq (.region [⟨(some 42), .op (.idxS 2 (.tmp 38) (.tmp 40)), none⟩,
         ⟨(some 43), .op (.load (some 2) (.tmp 42)), none⟩,
         ⟨(some 8), .op (.alloc [(.int .i64 0), (.int .u64 0)]), none⟩,
         ⟨none, .op (.store 2 (.tmp 8) (.tmp 43)), none⟩])
       (.region [⟨(some 44), .op (.mov (.tmp 4)), none⟩,
        ⟨(some 45), .op (.fieldAddr 0 (.tmp 8)), none⟩,
        ⟨(some 46), .op (.load none (.tmp 45)), none⟩,
        ⟨(some 47), .op (.buildSlice 1 1 [(.int .i64 0)] [(0, (.tmp 46))]), none⟩,
        ⟨(some 48), .op (.append 1 8 (.tmp 44) (.tmp 47)), none⟩,
        ⟨(some 4), .op (.mov (.tmp 48)), none⟩])))
     (.region [⟨(some 49), .op (.bin .add (.tmp 40) (.val (.int .i64 1))), none⟩,
      ⟨(some 40), .op (.mov (.tmp 49)), none⟩])))))))
  (.seq (.region [⟨(some 50), .op (.mov (.tmp 0)), none⟩,
    ⟨(some 51), .op (.mov (.tmp 0)), none⟩,
    ⟨(some 52), .op (.nilCheck (.tmp 50)), none⟩,
    ⟨(some 53), .op (.fieldAddr 4 (.tmp 52)), none⟩,
    ⟨none, .op (.store 1 (.tmp 53) (.val .nils)), none⟩,
    ⟨(some 54), .op (.nilCheck (.tmp 51)), none⟩,
    ⟨(some 55), .op (.fieldAddr 3 (.tmp 54)), none⟩,
    ⟨none, .op (.store 1 (.tmp 55) (.val .nils)), none⟩])
  (.seq (.region [⟨(some 56), .op (.mov (.tmp 4)), none⟩,
    ⟨(some 2), .op (.mov (.tmp 56)), none⟩,
    ⟨(some 3), .op (.mov (.val (.bool true))), none⟩])
  (.ret)))))))),
  [.tmp 2, .tmp 3], none, none⟩
def A13 : AFun := ⟨.seq (.region [⟨(some 0), .op (.mov (.val (.bool false))), none⟩])
  (.seq (.region [⟨(some 4), .call (.fnv 9) [(.val (.int .i64 1))], none⟩,
    ⟨(some 3), .op (.mov (.tmp 4)), none⟩,
    ⟨(some 5), .op (.extract (.tmp 3) 0), none⟩,
    ⟨(some 6), .op (.extract (.tmp 3) 1), none⟩,
    ⟨(some 1), .op (.mov (.tmp 5)), none⟩,
    ⟨(some 2), .op (.mov (.tmp 6)), none⟩])
  (.seq (.seq (.region [⟨(some 7), .op (.mov (.tmp 1)), none⟩,
     ⟨(some 8), .op (.eql false .ptr (.tmp 7) (.val .nilp)), none⟩,
     ⟨(some 9), .op (.mov (.tmp 8)), none⟩,
     ⟨(some 10), .op (.mov (.tmp 2)), (some (9, false))⟩,
     ⟨(some 11), .op (.bin .neq (.tmp 10) (.val (.int .i64 0))), (some (9, false))⟩,
     ⟨(some 12), .op (.pick (.tmp 9) (.val (.bool true)) (.tmp 11)), none⟩,
     ⟨(some 13), .op (.mov (.tmp 12)), none⟩,
     ⟨(some 14), .op (.mov (.tmp 1)), (some (13, false))⟩,
     ⟨(some 15), .call (.fnv 10) [(.tmp 14), (.val (.int .i64 1)), (.val (.int .u64 5)), (.val (.bool true))], (some (13, false))⟩,
     ⟨(some 16), .op (.build [(.int .i64 0), (.int .i64 0), (.int .u64 0)] [(0, 1, (.val (.int .i64 1)))]), (some (13, false))⟩,
     ⟨(some 17), .op (.eql true (.flat [.int, .int, .int]) (.tmp 15) (.tmp 16)), (some (13, false))⟩,
     ⟨(some 18), .op (.pick (.tmp 13) (.val (.bool true)) (.tmp 17)), none⟩,
     ⟨(some 19), .op (.mov (.tmp 18)), none⟩,
     ⟨(some 20), .op (.mov (.tmp 1)), (some (19, false))⟩,
     ⟨(some 21), .call (.fnv 10) [(.tmp 20), (.val (.int .i64 2)), (.val (.int .u64 6)), (.val (.bool true))], (some (19, false))⟩,
     ⟨(some 22), .op (.build [(.int .i64 0), (.int .i64 0), (.int .u64 0)] [(0, 1, (.val (.int .i64 3)))]), (some (19, false))⟩,
     ⟨(some 23), .op (.eql true (.flat [.int, .int, .int]) (.tmp 21) (.tmp 22)), (some (19, false))⟩,
     ⟨(some 24), .op (.pick (.tmp 19) (.val (.bool true)) (.tmp 23)), none⟩])
   (.cond (.tmp 24) (.seq (.region [⟨(some 0), .op (.mov (.val (.bool false))), none⟩])
    (.ret))
   (.skip)))
  (.seq (.region [⟨(some 25), .op (.mov (.tmp 1)), none⟩,
    ⟨(some 26), .call (.fnv 11) [(.tmp 25), (.val (.int .i64 3)), (.val (.bool true))], none⟩,
    ⟨(some 27), .op (.build [(.int .i64 0), (.int .i64 0), (.int .u64 0)] [(0, 1, (.val (.int .i64 2))), (1, 1, (.val (.int .i64 2))), (2, 1, (.val (.int .u64 5)))]), none⟩,
    ⟨(some 28), .op (.eql false (.flat [.int, .int, .int]) (.tmp 26) (.tmp 27)), none⟩,
    ⟨(some 29), .op (.mov (.tmp 28)), none⟩,
    ⟨(some 30), .op (.mov (.tmp 1)), (some (29, true))⟩,
    ⟨(some 31), .call (.fnv 11) [(.tmp 30), (.val (.int .i64 3)), (.val (.bool true))], (some (29, true))⟩,
    ⟨(some 32), .op (.build [(.int .i64 0), (.int .i64 0), (.int .u64 0)] [(0, 1, (.val (.int .i64 1))), (2, 1, (.val (.int .u64 6)))]), (some (29, true))⟩,
    ⟨(some 33), .op (.eql false (.flat [.int, .int, .int]) (.tmp 31) (.tmp 32)), (some (29, true))⟩,
    ⟨(some 34), .op (.pick (.tmp 29) (.tmp 33) (.val (.bool false))), none⟩,
    ⟨(some 0), .op (.mov (.tmp 34)), none⟩])
  (.ret)))),
  [.tmp 0], none, none⟩
def A14 : AFun := ⟨.seq (.region [⟨(some 4), .op (.mov (.val (.bool false))), none⟩])
  (.seq (.seq (.region [⟨(some 6), .op (.mov (.tmp 0)), none⟩,
     ⟨(some 7), .op (.lenS (.tmp 6)), none⟩,
     ⟨(some 8), .op (.mov (.tmp 1)), none⟩,
     ⟨(some 9), .op (.lenS (.tmp 8)), none⟩,
     ⟨(some 10), .op (.bin .neq (.tmp 7) (.tmp 9)), none⟩])
   (.cond (.tmp 10) (.seq (.region [⟨(some 4), .op (.mov (.val (.bool false))), none⟩])
    (.ret))
   (.skip)))
  (.seq (.seq (.region [⟨(some 5), .op (.mov (.val (.int .i64 0))), none⟩])
   (.block 0 (.loop (.seq (.seq (.region [⟨(some 11), .op (.mov (.tmp 5)), none⟩,
        ⟨(some 12), .op (.mov (.tmp 0)), none⟩,
        ⟨(some 13), .op (.lenS (.tmp 12)), none⟩,
        ⟨(some 14), .op (.bin .lss (.tmp 11) (.tmp 13)), none⟩])
      (.cond (.tmp 14) (.skip)
      (.exit 0)))
     (.seq (.block 1 (.seq (.region [⟨(some 17), .op (.mov (.tmp 0)), none⟩,
         ⟨(some 18), .op (.mov (.tmp 5)), none⟩,
         ⟨(some 19), .op (.idxS 1 (.tmp 17) (.tmp 18)), none⟩,
         ⟨(some 20), .op (.load none (.tmp 19)), none⟩,
         ⟨(some 21), .op (.mov (.tmp 1)), none⟩,
         ⟨(some 22), .op (.mov (.tmp 5)), none⟩,
         ⟨(some 23), .op (.idxS 1 (.tmp 21) (.tmp 22)), none⟩,
         ⟨(some 24), .op (.load none (.tmp 23)), none⟩,
         ⟨(some 25), .op (.bin .neq (.tmp 20) (.tmp 24)), none⟩])
       (.cond (.tmp 25) (.seq (.region [⟨(some 4), .op (.mov (.val (.bool false))), none⟩])
        (.ret))
       (.skip))))
     (.region [⟨(some 15), .op (.mov (.tmp 5)), none⟩,
      ⟨(some 16), .op (.bin .add (.tmp 15) (.val (.int .i64 1))), none⟩,
      ⟨(some 5), .op (.mov (.tmp 16)), none⟩]))))))
  (.seq (.region [⟨(some 4), .op (.mov (.val (.bool true))), none⟩])
  (.ret)))),
  [.tmp 4], none, none⟩
def A15 : AFun := ⟨.seq (.region [⟨(some 2), .op (.mov (.val (.int .i64 0))), none⟩,
    ⟨(some 3), .op (.mov (.val (.int .i64 0))), none⟩,
    ⟨(some 4), .op (.mov (.val (.int .i64 0))), none⟩])
  (.seq (.seq (.region [⟨(some 5), .op (.mov (.tmp 0)), none⟩,
     ⟨(some 6), .op (.eql false .ptr (.tmp 5) (.val .nilp)), none⟩])
   (.cond (.tmp 6) (.seq (.region [⟨(some 2), .op (.mov (.val (.int .i64 0))), none⟩,
      ⟨(some 3), .op (.mov (.val (.int .i64 0))), none⟩,
      ⟨(some 4), .op (.mov (.val (.int .i64 0))), none⟩])
    (.ret))
   (.skip)))
  (.seq (.region [⟨(some 7), .op (.mov (.tmp 0)), none⟩,
    ⟨(some 8), .op (.nilCheck (.tmp 7)), none⟩,
    ⟨(some 9), .op (.fieldAddr 0 (.tmp 8)), none⟩,
    ⟨(some 10), .op (.load none (.tmp 9)), none⟩,
    ⟨(some 11), .op (.lenS (.tmp 10)), none⟩,
    ⟨(some 12), .op (.mov (.tmp 0)), none⟩,
    ⟨(some 13), .op (.nilCheck (.tmp 12)), none⟩,
    ⟨(some 14), .op (.fieldAddr 3 (.tmp 13)), none⟩,
    ⟨(some 15), .op (.load none (.tmp 14)), none⟩,
    ⟨(some 16), .op (.lenS (.tmp 15)), none⟩,
    ⟨(some 17), .op (.mov (.tmp 0)), none⟩,
    ⟨(some 18), .op (.nilCheck (.tmp 17)), none⟩,
    ⟨(some 19), .op (.fieldAddr 4 (.tmp 18)), none⟩,
    ⟨(some 20), .op (.load none (.tmp 19)), none⟩,
    ⟨(some 21), .op (.lenS (.tmp 20)), none⟩,
    ⟨(some 2), .op (.mov (.tmp 11)), none⟩,
    ⟨(some 3), .op (.mov (.tmp 16)), none⟩,
    ⟨(some 4), .op (.mov (.tmp 21)), none⟩])
  (.ret))),
  [.tmp 2, .tmp 3, .tmp 4], none, none⟩
def A16 : AFun := ⟨.block 0 (.seq (.region [⟨(some 20), .op (.mov (.tmp 0)), none⟩,
     ⟨(some 21), .op (.eql false .ptr (.tmp 20) (.val .nilp)), none⟩,
     ⟨(some 19), .op (.mov (.tmp 21)), none⟩])
   (.cond (.tmp 19) (.skip)
   (.seq (.region [⟨(some 23), .op (.mov (.tmp 3)), none⟩,
     ⟨(some 22), .op (.mov (.tmp 23)), none⟩])
   (.cond (.tmp 22) (.region [⟨(some 24), .op (.mov (.tmp 0)), none⟩,
     ⟨(some 25), .op (.mov (.tmp 0)), none⟩,
     ⟨(some 26), .op (.nilCheck (.tmp 25)), none⟩,
     ⟨(some 27), .op (.fieldAddr 3 (.tmp 26)), none⟩,
     ⟨(some 28), .op (.load none (.tmp 27)), none⟩,
     ⟨(some 29), .op (.mov (.tmp 1)), none⟩,
     ⟨(some 30), .op (.mov (.tmp 2)), none⟩,
     ⟨(some 31), .op (.build [(.int .i64 0), (.int .u64 0)] [(0, 1, (.tmp 29)), (1, 1, (.tmp 30))]), none⟩,
     ⟨(some 32), .op (.buildSlice 2 1 [(.int .i64 0), (.int .u64 0)] [(0, (.tmp 31))]), none⟩,
     ⟨(some 33), .op (.append 2 16 (.tmp 28) (.tmp 32)), none⟩,
     ⟨(some 34), .op (.nilCheck (.tmp 24)), none⟩,
     ⟨(some 35), .op (.fieldAddr 3 (.tmp 34)), none⟩,
     ⟨none, .op (.store 1 (.tmp 35) (.tmp 33)), none⟩])
   (.region [⟨(some 8), .op (.mov (.tmp 0)), none⟩,
    ⟨(some 9), .op (.mov (.tmp 0)), none⟩,
    ⟨(some 10), .op (.nilCheck (.tmp 9)), none⟩,
    ⟨(some 11), .op (.fieldAddr 4 (.tmp 10)), none⟩,
    ⟨(some 12), .op (.load none (.tmp 11)), none⟩,
    ⟨(some 13), .op (.mov (.tmp 1)), none⟩,
    ⟨(some 14), .op (.build [(.int .i64 0), (.int .u64 0)] [(0, 1, (.tmp 13))]), none⟩,
    ⟨(some 15), .op (.buildSlice 2 1 [(.int .i64 0), (.int .u64 0)] [(0, (.tmp 14))]), none⟩,
    ⟨(some 16), .op (.append 2 16 (.tmp 12) (.tmp 15)), none⟩,
    ⟨(some 17), .op (.nilCheck (.tmp 8)), none⟩,
    ⟨(some 18), .op (.fieldAddr 4 (.tmp 17)), none⟩,
    ⟨none, .op (.store 1 (.tmp 18) (.tmp 16)), none⟩]))))),
  [], none, none⟩
def A17 : AFun := ⟨.seq (.region [⟨(some 4), .op (.mov (.tmp 0)), none⟩,
    ⟨(some 5), .op (.eql true .ptr (.tmp 4) (.val .nilp)), none⟩])
  (.cond (.tmp 5) (.draw [⟨⟨(some 6), .op (.mov (.tmp 0)), none⟩, .pure⟩,
    ⟨⟨(some 7), .op (.mov (.tmp 0)), none⟩, .pure⟩,
    ⟨⟨(some 8), .op (.mov (.tmp 0)), none⟩, .pure⟩,
    ⟨⟨(some 9), .op (.nilCheck (.tmp 8)), none⟩, .pure⟩,
    ⟨⟨(some 10), .op (.fieldAddr 3 (.tmp 9)), none⟩, .pure⟩,
    ⟨⟨(some 11), .op (.load none (.tmp 10)), none⟩, .read []⟩,
    ⟨⟨(some 12), .op (.mov (.tmp 1)), none⟩, .pure⟩,
    ⟨⟨(some 13), .call (.fnv 30) [(.tmp 11), (.tmp 12)], none⟩, .act false⟩,
    ⟨⟨(some 14), .op (.mov (.tmp 0)), none⟩, .pure⟩,
    ⟨⟨(some 15), .op (.nilCheck (.tmp 14)), none⟩, .pure⟩,
    ⟨⟨(some 16), .op (.fieldAddr 4 (.tmp 15)), none⟩, .pure⟩,
    ⟨⟨(some 17), .op (.load none (.tmp 16)), none⟩, .read [7]⟩,
    ⟨⟨(some 18), .op (.mov (.tmp 1)), none⟩, .pure⟩,
    ⟨⟨(some 19), .call (.fnv 30) [(.tmp 17), (.tmp 18)], none⟩, .act true⟩,
    ⟨⟨(some 20), .op (.nilCheck (.tmp 6)), none⟩, .pure⟩,
    ⟨⟨(some 21), .op (.fieldAddr 3 (.tmp 20)), none⟩, .pure⟩,
    ⟨⟨none, .op (.store 1 (.tmp 21) (.tmp 13)), none⟩, .act true⟩,
    ⟨⟨(some 22), .op (.nilCheck (.tmp 7)), none⟩, .pure⟩,
    ⟨⟨(some 23), .op (.fieldAddr 4 (.tmp 22)), none⟩, .pure⟩,
    ⟨⟨none, .op (.store 1 (.tmp 23) (.tmp 19)), none⟩, .act true⟩])
  (.skip)),
  [], none, none⟩
def A18 : AFun := ⟨.seq (.region [⟨(some 4), .op (.mov (.val (.bool false))), none⟩])
  (.seq (.seq (.region [⟨(some 5), .op (.mov (.tmp 0)), none⟩,
     ⟨(some 6), .op (.eql false .ptr (.tmp 5) (.val .nilp)), none⟩])
   (.cond (.tmp 6) (.seq (.region [⟨(some 4), .op (.mov (.val (.bool false))), none⟩])
    (.ret))
   (.skip)))
  (.seq (.seq (.region [⟨(some 7), .op (.mov (.tmp 1)), none⟩])
   (.cond (.tmp 7) (.seq (.region [⟨(some 8), .op (.mov (.tmp 0)), none⟩,
      ⟨(some 9), .op (.nilCheck (.tmp 8)), none⟩,
      ⟨(some 10), .op (.fieldAddr 2 (.tmp 9)), none⟩,
      ⟨(some 11), .op (.load none (.tmp 10)), none⟩,
      ⟨(some 12), .op (.mov (.tmp 11)), none⟩,
      ⟨(some 13), .op (.mov (.tmp 0)), (some (12, false))⟩,
      ⟨(some 14), .op (.nilCheck (.tmp 13)), (some (12, false))⟩,
      ⟨(some 15), .op (.fieldAddr 4 (.tmp 14)), (some (12, false))⟩,
      ⟨(some 16), .op (.load none (.tmp 15)), (some (12, false))⟩,
      ⟨(some 17), .op (.lenS (.tmp 16)), (some (12, false))⟩,
      ⟨(some 18), .op (.bin .gtr (.tmp 17) (.val (.int .i64 0))), (some (12, false))⟩,
      ⟨(some 19), .op (.pick (.tmp 12) (.val (.bool true)) (.tmp 18)), none⟩,
      ⟨(some 20), .op (.mov (.tmp 19)), none⟩,
      ⟨(some 21), .op (.mov (.tmp 0)), (some (20, false))⟩,
      ⟨(some 22), .op (.nilCheck (.tmp 21)), (some (20, false))⟩,
      ⟨(some 23), .op (.fieldAddr 0 (.tmp 22)), (some (20, false))⟩,
      ⟨(some 24), .op (.load none (.tmp 23)), (some (20, false))⟩,
      ⟨(some 25), .op (.lenS (.tmp 24)), (some (20, false))⟩,
      ⟨(some 26), .op (.mov (.tmp 0)), (some (20, false))⟩,
      ⟨(some 27), .op (.nilCheck (.tmp 26)), (some (20, false))⟩,
      ⟨(some 28), .op (.fieldAddr 1 (.tmp 27)), (some (20, false))⟩,
      ⟨(some 29), .op (.load none (.tmp 28)), (some (20, false))⟩,
      ⟨(some 30), .op (.bin .lss (.tmp 25) (.tmp 29)), (some (20, false))⟩,
      ⟨(some 31), .op (.pick (.tmp 20) (.val (.bool true)) (.tmp 30)), none⟩,
      ⟨(some 4), .op (.mov (.tmp 31)), none⟩])
    (.ret))
   (.skip)))
  (.seq (.region [⟨(some 32), .op (.mov (.tmp 0)), none⟩,
    ⟨(some 33), .op (.nilCheck (.tmp 32)), none⟩,
    ⟨(some 34), .op (.fieldAddr 2 (.tmp 33)), none⟩,
    ⟨(some 35), .op (.load none (.tmp 34)), none⟩,
    ⟨(some 36), .op (.mov (.tmp 35)), none⟩,
    ⟨(some 37), .op (.mov (.tmp 0)), (some (36, false))⟩,
    ⟨(some 38), .op (.nilCheck (.tmp 37)), (some (36, false))⟩,
    ⟨(some 39), .op (.fieldAddr 3 (.tmp 38)), (some (36, false))⟩,
    ⟨(some 40), .op (.load none (.tmp 39)), (some (36, false))⟩,
    ⟨(some 41), .op (.lenS (.tmp 40)), (some (36, false))⟩,
    ⟨(some 42), .op (.bin .gtr (.tmp 41) (.val (.int .i64 0))), (some (36, false))⟩,
    ⟨(some 43), .op (.pick (.tmp 36) (.val (.bool true)) (.tmp 42)), none⟩,
    ⟨(some 44), .op (.mov (.tmp 43)), none⟩,
    ⟨(some 45), .op (.mov (.tmp 0)), (some (44, false))⟩,
    ⟨(some 46), .op (.nilCheck (.tmp 45)), (some (44, false))⟩,
    ⟨(some 47), .op (.fieldAddr 0 (.tmp 46)), (some (44, false))⟩,
    ⟨(some 48), .op (.load none (.tmp 47)), (some (44, false))⟩,
    ⟨(some 49), .op (.lenS (.tmp 48)), (some (44, false))⟩,
    ⟨(some 50), .op (.bin .gtr (.tmp 49) (.val (.int .i64 0))), (some (44, false))⟩,
    ⟨(some 51), .op (.pick (.tmp 44) (.val (.bool true)) (.tmp 50)), none⟩,
    ⟨(some 4), .op (.mov (.tmp 51)), none⟩])
  (.ret)))),
  [.tmp 4], none, none⟩
def A19 : AFun := ⟨.seq (.region [⟨(some 2), .op (.mov (.val (.bool false))), none⟩])
  (.seq (.region [⟨(some 3), .op (.mov (.tmp 0)), none⟩,
    ⟨(some 4), .op (.eql true .ptr (.tmp 3) (.val .nilp)), none⟩,
    ⟨(some 5), .op (.mov (.tmp 4)), none⟩,
    ⟨(some 6), .op (.mov (.tmp 0)), (some (5, true))⟩,
    ⟨(some 7), .op (.nilCheck (.tmp 6)), (some (5, true))⟩,
    ⟨(some 8), .op (.fieldAddr 2 (.tmp 7)), (some (5, true))⟩,
    ⟨(some 9), .op (.load none (.tmp 8)), (some (5, true))⟩,
    ⟨(some 10), .op (.pick (.tmp 5) (.tmp 9) (.val (.bool false))), none⟩,
    ⟨(some 2), .op (.mov (.tmp 10)), none⟩])
  (.ret)),
  [.tmp 2], none, none⟩
def A20 : AFun := ⟨.seq (.region [⟨(some 2), .op (.mov (.val .nilp)), none⟩,
    ⟨(some 3), .op (.mov (.val (.int .i64 0))), none⟩])
  (.seq (.seq (.region [⟨(some 4), .op (.mov (.tmp 0)), none⟩,
     ⟨(some 5), .op (.bin .lss (.tmp 4) (.val (.int .i64 0))), none⟩,
     ⟨(some 6), .op (.mov (.tmp 5)), none⟩,
     ⟨(some 7), .op (.mov (.tmp 0)), (some (6, false))⟩,
     ⟨(some 8), .op (.bin .gtr (.tmp 7) (.val (.int .i64 16))), (some (6, false))⟩,
     ⟨(some 9), .op (.pick (.tmp 6) (.val (.bool true)) (.tmp 8)), none⟩])
   (.cond (.tmp 9) (.seq (.region [⟨(some 2), .op (.mov (.val .nilp)), none⟩,
      ⟨(some 3), .op (.mov (.val (.int .i64 1))), none⟩])
    (.ret))
   (.skip)))
  (.seq (.region [⟨(some 10), .op (.mov (.tmp 0)), none⟩,
    ⟨(some 11), .op (.build [.nils, (.int .i64 0), (.bool false), .nils, .nils] [(1, 1, (.tmp 10))]), none⟩,
    ⟨(some 12), .op (.box (.tmp 11)), none⟩,
    ⟨(some 2), .op (.mov (.tmp 12)), none⟩,
    ⟨(some 3), .op (.mov (.val (.int .i64 0))), none⟩])
  (.ret))),
  [.tmp 2, .tmp 3], none, none⟩
def A21 : AFun := ⟨.seq (.region [⟨(some 8), .op (.mov (.val (.int .i64 0))), none⟩,
    ⟨(some 9), .op (.mov (.val (.int .i64 0))), none⟩])
  (.seq (.seq (.region [⟨(some 11), .op (.mov (.tmp 0)), none⟩,
     ⟨(some 12), .op (.nilCheck (.tmp 11)), none⟩,
     ⟨(some 13), .op (.fieldAddr 2 (.tmp 12)), none⟩,
     ⟨(some 14), .op (.load none (.tmp 13)), none⟩])
   (.cond (.tmp 14) (.seq (.region [⟨(some 8), .op (.mov (.val (.int .i64 4))), none⟩,
      ⟨(some 9), .op (.mov (.val (.int .i64 0))), none⟩])
    (.ret))
   (.skip)))
  (.seq (.seq (.region [⟨(some 15), .op (.mov (.tmp 0)), none⟩,
     ⟨(some 16), .op (.nilCheck (.tmp 15)), none⟩,
     ⟨(some 17), .op (.fieldAddr 4 (.tmp 16)), none⟩,
     ⟨(some 18), .op (.load none (.tmp 17)), none⟩,
     ⟨(some 19), .op (.lenS (.tmp 18)), none⟩,
     ⟨(some 20), .op (.bin .gtr (.tmp 19) (.val (.int .i64 0))), none⟩])
   (.cond (.tmp 20) (.seq (.region [⟨(some 21), .op (.mov (.tmp 0)), none⟩,
      ⟨(some 22), .op (.nilCheck (.tmp 21)), none⟩,
      ⟨(some 23), .op (.fieldAddr 4 (.tmp 22)), none⟩,
      ⟨(some 24), .op (.load none (.tmp 23)), none⟩,
      ⟨(some 25), .op (.idxS 2 (.tmp 24) (.val (.int .i64 0))), none⟩,
      ⟨(some 26), .op (.fieldAddr 0 (.tmp 25)), none⟩,
      ⟨(some 27), .op (.load none (.tmp 26)), none⟩,
      ⟨(some 10), .op (.mov (.tmp 27)), none⟩])
    (.seq (.region [⟨(some 28), .op (.mov (.tmp 0)), none⟩,
      ⟨(some 29), .op (.mov (.tmp 0)), none⟩,
      ⟨(some 30), .op (.nilCheck (.tmp 29)), none⟩,
      ⟨(some 31), .op (.fieldAddr 4 (.tmp 30)), none⟩,
      ⟨(some 32), .op (.load none (.tmp 31)), none⟩,
      ⟨(some 33), .op (.slice 2 (.tmp 32) (some (.val (.int .i64 1))) none), none⟩,
      ⟨(some 34), .op (.nilCheck (.tmp 28)), none⟩,
      ⟨(some 35), .op (.fieldAddr 4 (.tmp 34)), none⟩,
      ⟨none, .op (.store 1 (.tmp 35) (.tmp 33)), none⟩])
    (.seq (.region [⟨(some 36), .op (.mov (.tmp 10)), none⟩,
      ⟨(some 8), .op (.mov (.val (.int .i64 2))), none⟩,
      ⟨(some 9), .op (.mov (.tmp 36)), none⟩])
    (.ret))))
   (.skip)))
  (.seq (.seq (.region [⟨(some 37), .op (.mov (.tmp 0)), none⟩,
     ⟨(some 38), .op (.nilCheck (.tmp 37)), none⟩,
     ⟨(some 39), .op (.fieldAddr 0 (.tmp 38)), none⟩,
     ⟨(some 40), .op (.load none (.tmp 39)), none⟩,
     ⟨(some 41), .op (.lenS (.tmp 40)), none⟩,
     ⟨(some 42), .op (.mov (.tmp 0)), none⟩,
     ⟨(some 43), .op (.nilCheck (.tmp 42)), none⟩,
     ⟨(some 44), .op (.fieldAddr 1 (.tmp 43)), none⟩,
     ⟨(some 45), .op (.load none (.tmp 44)), none⟩,
     ⟨(some 46), .op (.bin .lss (.tmp 41) (.tmp 45)), none⟩])
   (.cond (.tmp 46) (.seq (.region [⟨(some 47), .op (.mov (.tmp 0)), none⟩,
      ⟨(some 48), .op (.mov (.tmp 0)), none⟩,
      ⟨(some 49), .op (.nilCheck (.tmp 48)), none⟩,
      ⟨(some 50), .op (.fieldAddr 0 (.tmp 49)), none⟩,
      ⟨(some 51), .op (.load none (.tmp 50)), none⟩,
      ⟨(some 52), .op (.mov (.tmp 2)), none⟩,
      ⟨(some 53), .op (.buildSlice 1 1 [(.int .u64 0)] [(0, (.tmp 52))]), none⟩,
      ⟨(some 54), .op (.append 1 8 (.tmp 51) (.tmp 53)), none⟩,
      ⟨(some 55), .op (.nilCheck (.tmp 47)), none⟩,
      ⟨(some 56), .op (.fieldAddr 0 (.tmp 55)), none⟩,
      ⟨none, .op (.store 1 (.tmp 56) (.tmp 54)), none⟩])
    (.seq (.region [⟨(some 8), .op (.mov (.val (.int .i64 1))), none⟩,
      ⟨(some 9), .op (.mov (.val (.int .i64 0))), none⟩])
    (.ret)))
   (.skip)))
  (.seq (.seq (.region [⟨(some 57), .op (.mov (.tmp 3)), none⟩])
   (.cond (.tmp 57) (.region [⟨(some 58), .op (.mov (.tmp 0)), none⟩,
     ⟨(some 59), .op (.mov (.tmp 0)), none⟩,
     ⟨(some 60), .op (.nilCheck (.tmp 59)), none⟩,
     ⟨(some 61), .op (.fieldAddr 3 (.tmp 60)), none⟩,
     ⟨(some 62), .op (.load none (.tmp 61)), none⟩,
     ⟨(some 63), .op (.mov (.tmp 1)), none⟩,
     ⟨(some 64), .op (.mov (.tmp 2)), none⟩,
     ⟨(some 65), .op (.build [(.int .i64 0), (.int .u64 0)] [(0, 1, (.tmp 63)), (1, 1, (.tmp 64))]), none⟩,
     ⟨(some 66), .call (.fnv 31) [(.tmp 62), (.tmp 65)], none⟩,
     ⟨(some 67), .op (.nilCheck (.tmp 58)), none⟩,
     ⟨(some 68), .op (.fieldAddr 3 (.tmp 67)), none⟩,
     ⟨none, .op (.store 1 (.tmp 68) (.tmp 66)), none⟩])
   (.skip)))
  (.seq (.region [⟨(some 8), .op (.mov (.val (.int .i64 3))), none⟩,
    ⟨(some 9), .op (.mov (.val (.int .i64 0))), none⟩])
  (.ret)))))),
  [.tmp 8, .tmp 9], none, none⟩
def A22 : AFun := ⟨.seq (.region [⟨(some 6), .op (.mov (.val (.int .i64 0))), none⟩,
    ⟨(some 7), .op (.mov (.val (.int .i64 0))), none⟩,
    ⟨(some 8), .op (.mov (.val (.int .u64 0))), none⟩])
  (.seq (.seq (.region [⟨(some 14), .op (.mov (.tmp 0)), none⟩,
     ⟨(some 15), .op (.nilCheck (.tmp 14)), none⟩,
     ⟨(some 16), .op (.fieldAddr 0 (.tmp 15)), none⟩,
     ⟨(some 17), .op (.load none (.tmp 16)), none⟩,
     ⟨(some 18), .op (.lenS (.tmp 17)), none⟩,
     ⟨(some 19), .op (.bin .gtr (.tmp 18) (.val (.int .i64 0))), none⟩])
   (.cond (.tmp 19) (.seq (.region [⟨(some 20), .op (.mov (.tmp 0)), none⟩,
      ⟨(some 21), .op (.nilCheck (.tmp 20)), none⟩,
      ⟨(some 22), .op (.fieldAddr 0 (.tmp 21)), none⟩,
      ⟨(some 23), .op (.load none (.tmp 22)), none⟩,
      ⟨(some 24), .op (.idxS 1 (.tmp 23) (.val (.int .i64 0))), none⟩,
      ⟨(some 25), .op (.load none (.tmp 24)), none⟩,
      ⟨(some 9), .op (.mov (.tmp 25)), none⟩])
    (.seq (.region [⟨(some 10), .op (.mov (.val .nils)), none⟩])
    (.seq (.region [⟨(some 26), .op (.mov (.tmp 10)), none⟩,
      ⟨(some 27), .op (.mov (.tmp 0)), none⟩,
      ⟨(some 28), .op (.nilCheck (.tmp 27)), none⟩,
      ⟨(some 29), .op (.fieldAddr 0 (.tmp 28)), none⟩,
      ⟨(some 30), .op (.load none (.tmp 29)), none⟩,
      ⟨(some 31), .op (.slice 1 (.tmp 30) (some (.val (.int .i64 1))) none), none⟩,
      ⟨(some 32), .op (.append 1 8 (.tmp 26) (.tmp 31)), none⟩,
      ⟨(some 10), .op (.mov (.tmp 32)), none⟩])
    (.seq (.region [⟨(some 11), .op (.mov (.val (.int .i64 1))), none⟩,
      ⟨(some 12), .op (.mov (.val (.int .i64 0))), none⟩])
    (.seq (.seq (.region [⟨(some 33), .op (.mov (.tmp 0)), none⟩,
       ⟨(some 34), .op (.nilCheck (.tmp 33)), none⟩,
       ⟨(some 35), .op (.fieldAddr 3 (.tmp 34)), none⟩,
       ⟨(some 36), .op (.load none (.tmp 35)), none⟩,
       ⟨(some 37), .op (.lenS (.tmp 36)), none⟩,
       ⟨(some 38), .op (.bin .gtr (.tmp 37) (.val (.int .i64 0))), none⟩])
     (.cond (.tmp 38) (.seq (.region [⟨(some 39), .op (.mov (.tmp 10)), none⟩,
        ⟨(some 40), .op (.mov (.tmp 0)), none⟩,
        ⟨(some 41), .op (.nilCheck (.tmp 40)), none⟩,
        ⟨(some 42), .op (.fieldAddr 3 (.tmp 41)), none⟩,
        ⟨(some 43), .op (.load none (.tmp 42)), none⟩,
        ⟨(some 44), .op (.idxS 2 (.tmp 43) (.val (.int .i64 0))), none⟩,
        ⟨(some 45), .op (.fieldAddr 1 (.tmp 44)), none⟩,
        ⟨(some 46), .op (.load none (.tmp 45)), none⟩,
        ⟨(some 47), .op (.buildSlice 1 1 [(.int .u64 0)] [(0, (.tmp 46))]), none⟩,
        ⟨(some 48), .op (.append 1 8 (.tmp 39) (.tmp 47)), none⟩,
        ⟨(some 10), .op (.mov (.tmp 48)), none⟩])
      (.seq (.region [⟨(some 49), .op (.mov (.tmp 0)), none⟩,
        ⟨(some 50), .op (.nilCheck (.tmp 49)), none⟩,
        ⟨(some 51), .op (.fieldAddr 3 (.tmp 50)), none⟩,
        ⟨(some 52), .op (.load none (.tmp 51)), none⟩,
        ⟨(some 53), .op (.idxS 2 (.tmp 52) (.val (.int .i64 0))), none⟩,
        ⟨(some 54), .op (.fieldAddr 0 (.tmp 53)), none⟩,
        ⟨(some 55), .op (.load none (.tmp 54)), none⟩,
        ⟨(some 12), .op (.mov (.tmp 55)), none⟩])
      (.seq (.region [⟨(some 56), .op (.mov (.tmp 0)), none⟩,
        ⟨(some 57), .op (.mov (.tmp 0)), none⟩,
        ⟨(some 58), .op (.nilCheck (.tmp 57)), none⟩,
        ⟨(some 59), .op (.fieldAddr 3 (.tmp 58)), none⟩,
        ⟨(some 60), .op (.load none (.tmp 59)), none⟩,
        ⟨(some 61), .op (.slice 2 (.tmp 60) (some (.val (.int .i64 1))) none), none⟩,
        ⟨(some 62), .op (.nilCheck (.tmp 56)), none⟩,
        ⟨(some 63), .op (.fieldAddr 3 (.tmp 62)), none⟩,
        ⟨none, .op (.store 1 (.tmp 63) (.tmp 61)), none⟩])
      (.region [⟨(some 11), .op (.mov (.val (.int .i64 2))), none⟩]))))
     (.skip)))
    (.seq (.region [⟨(some 64), .op (.mov (.tmp 0)), none⟩,
      ⟨(some 65), .op (.mov (.tmp 10)), none⟩,
      ⟨(some 66), .op (.nilCheck (.tmp 64)), none⟩,
      ⟨(some 67), .op (.fieldAddr 0 (.tmp 66)), none⟩,
      ⟨none, .op (.store 1 (.tmp 67) (.tmp 65)), none⟩])
    (.seq (.region [⟨(some 68), .op (.mov (.tmp 11)), none⟩,
      ⟨(some 69), .op (.mov (.tmp 12)), none⟩,
      ⟨(some 70), .op (.mov (.tmp 9)), none⟩,
      ⟨(some 6), .op (.mov (.tmp 68)), none⟩,
      ⟨(some 7), .op (.mov (.tmp 69)), none⟩,
      ⟨(some 8), .op (.mov (.tmp 70)), none⟩])
    (.ret))))))))
   (.skip)))
  (.seq (.seq (.region [⟨(some 71), .op (.mov (.tmp 0)), none⟩,
     ⟨(some 72), .op (.nilCheck (.tmp 71)), none⟩,
     ⟨(some 73), .op (.fieldAddr 3 (.tmp 72)), none⟩,
     ⟨(some 74), .op (.load none (.tmp 73)), none⟩,
     ⟨(some 75), .op (.lenS (.tmp 74)), none⟩,
     ⟨(some 76), .op (.bin .gtr (.tmp 75) (.val (.int .i64 0))), none⟩])
   (.cond (.tmp 76) (.seq (.region [⟨(some 77), .op (.mov (.tmp 0)), none⟩,
      ⟨(some 78), .op (.nilCheck (.tmp 77)), none⟩,
      ⟨(some 79), .op (.fieldAddr 3 (.tmp 78)), none⟩,
      ⟨(some 80), .op (.load none (.tmp 79)), none⟩,
      ⟨(some 81), .op (.idxS 2 (.tmp 80) (.val (.int .i64 0))), none⟩,
      ⟨(some 82), .op (.load (some 2) (.tmp 81)), none⟩,
      ⟨(some 13), .op (.alloc [(.int .i64 0), (.int .u64 0)]), none⟩,
      ⟨none, .op (.store 2 (.tmp 13) (.tmp 82)), none⟩])
    (.seq (.region [⟨(some 83), .op (.mov (.tmp 0)), none⟩,
      ⟨(some 84), .op (.mov (.tmp 0)), none⟩,
      ⟨(some 85), .op (.nilCheck (.tmp 84)), none⟩,
      ⟨(some 86), .op (.fieldAddr 3 (.tmp 85)), none⟩,
      ⟨(some 87), .op (.load none (.tmp 86)), none⟩,
      ⟨(some 88), .op (.slice 2 (.tmp 87) (some (.val (.int .i64 1))) none), none⟩,
      ⟨(some 89), .op (.nilCheck (.tmp 83)), none⟩,
      ⟨(some 90), .op (.fieldAddr 3 (.tmp 89)), none⟩,
      ⟨none, .op (.store 1 (.tmp 90) (.tmp 88)), none⟩])
    (.seq (.region [⟨(some 91), .op (.fieldAddr 0 (.tmp 13)), none⟩,
      ⟨(some 92), .op (.load none (.tmp 91)), none⟩,
      ⟨(some 93), .op (.fieldAddr 1 (.tmp 13)), none⟩,
      ⟨(some 94), .op (.load none (.tmp 93)), none⟩,
      ⟨(some 6), .op (.mov (.val (.int .i64 2))), none⟩,
      ⟨(some 7), .op (.mov (.tmp 92)), none⟩,
      ⟨(some 8), .op (.mov (.tmp 94)), none⟩])
    (.ret))))
   (.skip)))
  (.seq (.seq (.region [⟨(some 95), .op (.mov (.tmp 0)), none⟩,
     ⟨(some 96), .op (.nilCheck (.tmp 95)), none⟩,
     ⟨(some 97), .op (.fieldAddr 2 (.tmp 96)), none⟩,
     ⟨(some 98), .op (.load none (.tmp 97)), none⟩])
   (.cond (.tmp 98) (.seq (.region [⟨(some 6), .op (.mov (.val (.int .i64 4))), none⟩,
      ⟨(some 7), .op (.mov (.val (.int .i64 0))), none⟩,
      ⟨(some 8), .op (.mov (.val (.int .u64 0))), none⟩])
    (.ret))
   (.skip)))
  (.seq (.seq (.region [⟨(some 99), .op (.mov (.tmp 2)), none⟩])
   (.cond (.tmp 99) (.region [⟨(some 100), .op (.mov (.tmp 0)), none⟩,
     ⟨(some 101), .op (.mov (.tmp 0)), none⟩,
     ⟨(some 102), .op (.nilCheck (.tmp 101)), none⟩,
     ⟨(some 103), .op (.fieldAddr 4 (.tmp 102)), none⟩,
     ⟨(some 104), .op (.load none (.tmp 103)), none⟩,
     ⟨(some 105), .op (.mov (.tmp 1)), none⟩,
     ⟨(some 106), .op (.build [(.int .i64 0), (.int .u64 0)] [(0, 1, (.tmp 105)), (1, 1, (.val (.int .u64 0)))]), none⟩,
     ⟨(some 107), .call (.fnv 31) [(.tmp 104), (.tmp 106)], none⟩,
     ⟨(some 108), .op (.nilCheck (.tmp 100)), none⟩,
     ⟨(some 109), .op (.fieldAddr 4 (.tmp 108)), none⟩,
     ⟨none, .op (.store 1 (.tmp 109) (.tmp 107)), none⟩])
   (.skip)))
  (.seq (.region [⟨(some 6), .op (.mov (.val (.int .i64 3))), none⟩,
    ⟨(some 7), .op (.mov (.val (.int .i64 0))), none⟩,
    ⟨(some 8), .op (.mov (.val (.int .u64 0))), none⟩])
  (.ret)))))),
  [.tmp 6, .tmp 7, .tmp 8], none, none⟩
def A23 : AFun := ⟨.seq (.region [⟨(some 8), .op (.mov (.tmp 3)), none⟩])
  (.cond (.tmp 8) (.region [⟨(some 9), .op (.mov (.tmp 0)), none⟩,
    ⟨(some 10), .op (.mov (.tmp 0)), none⟩,
    ⟨(some 11), .op (.nilCheck (.tmp 10)), none⟩,
    ⟨(some 12), .op (.fieldAddr 3 (.tmp 11)), none⟩,
    ⟨(some 13), .op (.load none (.tmp 12)), none⟩,
    ⟨(some 14), .op (.mov (.tmp 1)), none⟩,
    ⟨(some 15), .op (.mov (.tmp 2)), none⟩,
    ⟨(some 16), .op (.build [(.int .i64 0), (.int .u64 0)] [(0, 1, (.tmp 14)), (1, 1, (.tmp 15))]), none⟩,
    ⟨(some 17), .call (.fnv 31) [(.tmp 13), (.tmp 16)], none⟩,
    ⟨(some 18), .op (.nilCheck (.tmp 9)), none⟩,
    ⟨(some 19), .op (.fieldAddr 3 (.tmp 18)), none⟩,
    ⟨none, .op (.store 1 (.tmp 19) (.tmp 17)), none⟩])
  (.region [⟨(some 20), .op (.mov (.tmp 0)), none⟩,
   ⟨(some 21), .op (.mov (.tmp 0)), none⟩,
   ⟨(some 22), .op (.nilCheck (.tmp 21)), none⟩,
   ⟨(some 23), .op (.fieldAddr 4 (.tmp 22)), none⟩,
   ⟨(some 24), .op (.load none (.tmp 23)), none⟩,
   ⟨(some 25), .op (.mov (.tmp 1)), none⟩,
   ⟨(some 26), .op (.build [(.int .i64 0), (.int .u64 0)] [(0, 1, (.tmp 25)), (1, 1, (.val (.int .u64 0)))]), none⟩,
   ⟨(some 27), .call (.fnv 31) [(.tmp 24), (.tmp 26)], none⟩,
   ⟨(some 28), .op (.nilCheck (.tmp 20)), none⟩,
   ⟨(some 29), .op (.fieldAddr 4 (.tmp 28)), none⟩,
   ⟨none, .op (.store 1 (.tmp 29) (.tmp 27)), none⟩])),
  [], none, none⟩
def A24 : AFun := ⟨.seq (.region [⟨(some 2), .op (.mov (.val .nils)), none⟩,
    ⟨(some 3), .op (.mov (.val (.bool false))), none⟩])
  (.seq (.seq (.region [⟨(some 7), .op (.mov (.tmp 0)), none⟩,
     ⟨(some 8), .op (.nilCheck (.tmp 7)), none⟩,
     ⟨(some 9), .op (.fieldAddr 2 (.tmp 8)), none⟩,
     ⟨(some 10), .op (.load none (.tmp 9)), none⟩])
   (.cond (.tmp 10) (.seq (.region [⟨(some 2), .op (.mov (.val .nils)), none⟩,
      ⟨(some 3), .op (.mov (.val (.bool false))), none⟩])
    (.ret))
   (.skip)))
  (.seq (.region [⟨(some 11), .op (.mov (.tmp 0)), none⟩,
    ⟨(some 12), .op (.nilCheck (.tmp 11)), none⟩,
    ⟨(some 13), .op (.fieldAddr 2 (.tmp 12)), none⟩,
    ⟨none, .op (.store 1 (.tmp 13) (.val (.bool true))), none⟩])
  (.seq (.region [⟨(some 4), .op (.mov (.val .nils)), none⟩])
  (.seq (.seq (.region [⟨(some 5), .op (.mov (.val (.int .i64 0))), none⟩])
   (.block 0 (.loop (.seq (.seq (.region [⟨(some 14), .op (.mov (.tmp 5)), none⟩,
        ⟨(some 15), .op (.mov (.tmp 0)), none⟩,
        ⟨(some 16), .op (.nilCheck (.tmp 15)), none⟩,
        ⟨(some 17), .op (.fieldAddr 4 (.tmp 16)), none⟩,
        ⟨(some 18), .op (.load none (.tmp 17)), none⟩,
        ⟨(some 19), .op (.lenS (.tmp 18)), none⟩,
        ⟨(some 20), .op (.bin .lss (.tmp 14) (.tmp 19)), none⟩])
      (.cond (.tmp 20) (.skip)
      (.exit 0)))
     (.seq (.block 1 (.region [⟨(some 23), .op (.mov (.tmp 4)), none⟩,
        ⟨(some 24), .op (.mov (.tmp 0)), none⟩,
        ⟨(some 25), .op (.nilCheck (.tmp 24)), none⟩,
        ⟨(some 26), .op (.fieldAddr 4 (.tmp 25)), none⟩,
        ⟨(some 27), .op (.load none (.tmp 26)), none⟩,
        ⟨(some 28), .op (.mov (.tmp 5)), none⟩,
        ⟨(some 29), .op (.idxS 2 (.tmp 27) (.tmp 28)), none⟩,
        ⟨(some 30), .op (.fieldAddr 0 (.tmp 29)), none⟩,
        ⟨(some 31), .op (.load none (.tmp 30)), none⟩,
        ⟨(some 32), .op (.buildSlice 1 1 [(.int .i64 0)] [(0, (.tmp 31))]), none⟩,
        ⟨(some 33), .op (.append 1 8 (.tmp 23) (.tmp 32)), none⟩,
        ⟨(some 4), .op (.mov (.tmp 33)), none⟩]))
     (.region [⟨(some 21), .op (.mov (.tmp 5)), none⟩,
      ⟨(some 22), .op (.bin .add (.tmp 21) (.val (.int .i64 1))), none⟩,
      ⟨(some 5), .op (.mov (.tmp 22)), none⟩]))))))
  (.seq (.seq (.region [⟨(some 6), .op (.mov (.val (.int .i64 0))), none⟩])
   (.block 2 (.loop (.seq (.seq (.region [⟨(some 34), .op (.mov (.tmp 6)), none⟩,
        ⟨(some 35), .op (.mov (.tmp 0)), none⟩,
        ⟨(some 36), .op (.nilCheck (.tmp 35)), none⟩,
        ⟨(some 37), .op (.fieldAddr 3 (.tmp 36)), none⟩,
        ⟨(some 38), .op (.load none (.tmp 37)), none⟩,
        ⟨(some 39), .op (.lenS (.tmp 38)), none⟩,
        ⟨(some 40), .op (.bin .lss (.tmp 34) (.tmp 39)), none⟩])
      (.cond (.tmp 40) (.skip)
      (.exit 2)))
     (.seq (.block 3 (.region [⟨(some 43), .op (.mov (.tmp 4)), none⟩,
        ⟨(some 44), .op (.mov (.tmp 0)), none⟩,
        ⟨(some 45), .op (.nilCheck (.tmp 44)), none⟩,
        ⟨(some 46), .op (.fieldAddr 3 (.tmp 45)), none⟩,
        ⟨(some 47), .op (.load none (.tmp 46)), none⟩,
        ⟨(some 48), .op (.mov (.tmp 6)), none⟩,
        ⟨(some 49), .op (.idxS 2 (.tmp 47) (.tmp 48)), none⟩,
        ⟨(some 50), .op (.fieldAddr 0 (.tmp 49)), none⟩,
        ⟨(some 51), .op (.load none (.tmp 50)), none⟩,
        ⟨(some 52), .op (.buildSlice 1 1 [(.int .i64 0)] [(0, (.tmp 51))]), none⟩,
        ⟨(some 53), .op (.append 1 8 (.tmp 43) (.tmp 52)), none⟩,
        ⟨(some 4), .op (.mov (.tmp 53)), none⟩]))
     (.region [⟨(some 41), .op (.mov (.tmp 6)), none⟩,
      ⟨(some 42), .op (.bin .add (.tmp 41) (.val (.int .i64 1))), none⟩,
      ⟨(some 6), .op (.mov (.tmp 42)), none⟩]))))))
  (.seq (.region [⟨(some 54), .op (.mov (.tmp 0)), none⟩,
    ⟨(some 55), .op (.nilCheck (.tmp 54)), none⟩,
    ⟨(some 56), .op (.fieldAddr 4 (.tmp 55)), none⟩,
    ⟨none, .op (.store 1 (.tmp 56) (.val .nils)), none⟩])
  (.seq (.region [⟨(some 57), .op (.mov (.tmp 0)), none⟩,
    ⟨(some 58), .op (.nilCheck (.tmp 57)), none⟩,
    ⟨(some 59), .op (.fieldAddr 3 (.tmp 58)), none⟩,
    ⟨none, .op (.store 1 (.tmp 59) (.val .nils)), none⟩])
  (.seq (.region [⟨(some 60), .op (.mov (.tmp 4)), none⟩,
    ⟨(some 2), .op (.mov (.tmp 60)), none⟩,
    ⟨(some 3), .op (.mov (.val (.bool true))), none⟩])
  (.ret))))))))),
  [.tmp 2, .tmp 3], none, none⟩
def A25 : AFun := ⟨.seq (.region [⟨(some 4), .op (.mov (.tmp 0)), none⟩,
    ⟨(some 5), .op (.mov (.tmp 0)), none⟩,
    ⟨(some 6), .op (.nilCheck (.tmp 5)), none⟩,
    ⟨(some 7), .op (.fieldAddr 3 (.tmp 6)), none⟩,
    ⟨(some 8), .op (.load none (.tmp 7)), none⟩,
    ⟨(some 9), .op (.mov (.tmp 1)), none⟩,
    ⟨(some 10), .call (.fnv 32) [(.tmp 8), (.tmp 9)], none⟩,
    ⟨(some 11), .op (.nilCheck (.tmp 4)), none⟩,
    ⟨(some 12), .op (.fieldAddr 3 (.tmp 11)), none⟩,
    ⟨none, .op (.store 1 (.tmp 12) (.tmp 10)), none⟩])
  (.region [⟨(some 13), .op (.mov (.tmp 0)), none⟩,
   ⟨(some 14), .op (.mov (.tmp 0)), none⟩,
   ⟨(some 15), .op (.nilCheck (.tmp 14)), none⟩,
   ⟨(some 16), .op (.fieldAddr 4 (.tmp 15)), none⟩,
   ⟨(some 17), .op (.load none (.tmp 16)), none⟩,
   ⟨(some 18), .op (.mov (.tmp 1)), none⟩,
   ⟨(some 19), .call (.fnv 32) [(.tmp 17), (.tmp 18)], none⟩,
   ⟨(some 20), .op (.nilCheck (.tmp 13)), none⟩,
   ⟨(some 21), .op (.fieldAddr 4 (.tmp 20)), none⟩,
   ⟨none, .op (.store 1 (.tmp 21) (.tmp 19)), none⟩]),
  [], none, none⟩
def A26 : AFun := ⟨.seq (.region [⟨(some 4), .op (.mov (.val (.bool false))), none⟩])
  (.seq (.seq (.region [⟨(some 6), .op (.mov (.tmp 0)), none⟩,
     ⟨(some 7), .op (.lenS (.tmp 6)), none⟩,
     ⟨(some 8), .op (.mov (.tmp 1)), none⟩,
     ⟨(some 9), .op (.lenS (.tmp 8)), none⟩,
     ⟨(some 10), .op (.bin .neq (.tmp 7) (.tmp 9)), none⟩])
   (.cond (.tmp 10) (.seq (.region [⟨(some 4), .op (.mov (.val (.bool false))), none⟩])
    (.ret))
   (.skip)))
  (.seq (.seq (.region [⟨(some 5), .op (.mov (.val (.int .i64 0))), none⟩])
   (.block 0 (.loop (.seq (.seq (.region [⟨(some 11), .op (.mov (.tmp 5)), none⟩,
        ⟨(some 12), .op (.mov (.tmp 0)), none⟩,
        ⟨(some 13), .op (.lenS (.tmp 12)), none⟩,
        ⟨(some 14), .op (.bin .lss (.tmp 11) (.tmp 13)), none⟩])
      (.cond (.tmp 14) (.skip)
      (.exit 0)))
     (.seq (.block 1 (.seq (.region [⟨(some 17), .op (.mov (.tmp 0)), none⟩,
         ⟨(some 18), .op (.mov (.tmp 5)), none⟩,
         ⟨(some 19), .op (.idxS 1 (.tmp 17) (.tmp 18)), none⟩,
         ⟨(some 20), .op (.load none (.tmp 19)), none⟩,
         ⟨(some 21), .op (.mov (.tmp 1)), none⟩,
         ⟨(some 22), .op (.mov (.tmp 5)), none⟩,
         ⟨(some 23), .op (.idxS 1 (.tmp 21) (.tmp 22)), none⟩,
         ⟨(some 24), .op (.load none (.tmp 23)), none⟩,
         ⟨(some 25), .op (.bin .neq (.tmp 20) (.tmp 24)), none⟩])
       (.cond (.tmp 25) (.seq (.region [⟨(some 4), .op (.mov (.val (.bool false))), none⟩])
        (.ret))
       (.skip))))
     (.region [⟨(some 15), .op (.mov (.tmp 5)), none⟩,
      ⟨(some 16), .op (.bin .add (.tmp 15) (.val (.int .i64 1))), none⟩,
      ⟨(some 5), .op (.mov (.tmp 16)), none⟩]))))))
  (.seq (.region [⟨(some 4), .op (.mov (.val (.bool true))), none⟩])
  (.ret)))),
  [.tmp 4], none, none⟩
def A27 : AFun := ⟨.seq (.region [⟨(some 2), .op (.mov (.val .nils)), none⟩])
  (.seq (.seq (.region [⟨(some 6), .op (.mov (.tmp 0)), none⟩,
     ⟨(some 7), .op (.eql false .ptr (.tmp 6) (.val .nilp)), none⟩])
   (.cond (.tmp 7) (.seq (.region [⟨(some 2), .op (.mov (.val .nils)), none⟩])
    (.ret))
   (.skip)))
  (.seq (.region [⟨(some 8), .op (.mov (.tmp 0)), none⟩,
    ⟨(some 9), .op (.nilCheck (.tmp 8)), none⟩,
    ⟨(some 10), .op (.fieldAddr 0 (.tmp 9)), none⟩,
    ⟨(some 11), .op (.load none (.tmp 10)), none⟩,
    ⟨(some 12), .op (.append 1 8 (.val .nils) (.tmp 11)), none⟩,
    ⟨(some 3), .op (.mov (.tmp 12)), none⟩])
  (.seq (.seq (.region [⟨(some 13), .op (.mov (.tmp 0)), none⟩,
     ⟨(some 14), .op (.nilCheck (.tmp 13)), none⟩,
     ⟨(some 15), .op (.fieldAddr 3 (.tmp 14)), none⟩,
     ⟨(some 16), .op (.load none (.tmp 15)), none⟩,
     ⟨(some 17), .op (.lenS (.tmp 16)), none⟩,
     ⟨(some 18), .op (.mov (.val (.int .i64 0))), none⟩])
   (.block 0 (.loop (.seq (.region [⟨(some 19), .op (.bin .lss (.tmp 18) (.tmp 17)), none⟩])
     (.seq (.cond (.tmp 19) (.skip)
      (.exit 0))
     (.seq (.block 1 (.seq (.region [⟨(some 20), .op (.idxS 2 (.tmp 16) (.tmp 18)), none⟩,
         ⟨(some 21), .op (.load (some 2) (.tmp 20)), none⟩,
         ⟨(some 5), .op (.alloc [(.int .i64 0), (.int .u64 0)]), none⟩,
         ⟨none, .op (.store 2 (.tmp 5) (.tmp 21)), none⟩])
       (.region [⟨(some 22), .op (.mov (.tmp 3)), none⟩,
        ⟨(some 23), .op (.fieldAddr 1 (.tmp 5)), none⟩,
        ⟨(some 24), .op (.load none (.tmp 23)), none⟩,
        ⟨(some 25), .op (.buildSlice 1 1 [(.int .u64 0)] [(0, (.tmp 24))]), none⟩,
        ⟨(some 26), .op (.append 1 8 (.tmp 22) (.tmp 25)), none⟩,
        ⟨(some 3), .op (.mov (.tmp 26)), none⟩])))
     (.region [⟨(some 27), .op (.bin .add (.tmp 18) (.val (.int .i64 1))), none⟩,
      ⟨(some 18), .op (.mov (.tmp 27)), none⟩])))))))
  (.seq (.region [⟨(some 28), .op (.mov (.tmp 3)), none⟩,
    ⟨(some 2), .op (.mov (.tmp 28)), none⟩])
  (.ret))))),
  [.tmp 2], none, none⟩
def A28 : AFun := ⟨.seq (.region [⟨(some 2), .op (.mov (.val .nils)), none⟩])
  (.seq (.region [⟨(some 3), .op (.mov (.val .nils)), none⟩])
  (.seq (.region [⟨(some 5), .op (.mov (.tmp 3)), none⟩,
    ⟨(some 6), .op (.mov (.tmp 0)), none⟩,
    ⟨(some 7), .op (.nilCheck (.tmp 6)), none⟩,
    ⟨(some 8), .op (.fieldAddr 0 (.tmp 7)), none⟩,
    ⟨(some 9), .op (.load none (.tmp 8)), none⟩,
    ⟨(some 10), .op (.append 1 8 (.tmp 5) (.tmp 9)), none⟩,
    ⟨(some 3), .op (.mov (.tmp 10)), none⟩])
  (.seq (.seq (.region [⟨(some 4), .op (.mov (.val (.int .i64 0))), none⟩])
   (.block 0 (.loop (.seq (.seq (.region [⟨(some 11), .op (.mov (.tmp 4)), none⟩,
        ⟨(some 12), .op (.mov (.tmp 0)), none⟩,
        ⟨(some 13), .op (.nilCheck (.tmp 12)), none⟩,
        ⟨(some 14), .op (.fieldAddr 3 (.tmp 13)), none⟩,
        ⟨(some 15), .op (.load none (.tmp 14)), none⟩,
        ⟨(some 16), .op (.lenS (.tmp 15)), none⟩,
        ⟨(some 17), .op (.bin .lss (.tmp 11) (.tmp 16)), none⟩])
      (.cond (.tmp 17) (.skip)
      (.exit 0)))
     (.seq (.block 1 (.region [⟨(some 20), .op (.mov (.tmp 3)), none⟩,
        ⟨(some 21), .op (.mov (.tmp 0)), none⟩,
        ⟨(some 22), .op (.nilCheck (.tmp 21)), none⟩,
        ⟨(some 23), .op (.fieldAddr 3 (.tmp 22)), none⟩,
        ⟨(some 24), .op (.load none (.tmp 23)), none⟩,
        ⟨(some 25), .op (.mov (.tmp 4)), none⟩,
        ⟨(some 26), .op (.idxS 2 (.tmp 24) (.tmp 25)), none⟩,
        ⟨(some 27), .op (.fieldAddr 1 (.tmp 26)), none⟩,
        ⟨(some 28), .op (.load none (.tmp 27)), none⟩,
        ⟨(some 29), .op (.buildSlice 1 1 [(.int .u64 0)] [(0, (.tmp 28))]), none⟩,
        ⟨(some 30), .op (.append 1 8 (.tmp 20) (.tmp 29)), none⟩,
        ⟨(some 3), .op (.mov (.tmp 30)), none⟩]))
     (.region [⟨(some 18), .op (.mov (.tmp 4)), none⟩,
      ⟨(some 19), .op (.bin .add (.tmp 18) (.val (.int .i64 1))), none⟩,
      ⟨(some 4), .op (.mov (.tmp 19)), none⟩]))))))
  (.seq (.region [⟨(some 31), .op (.mov (.tmp 3)), none⟩,
    ⟨(some 2), .op (.mov (.tmp 31)), none⟩])
  (.ret))))),
  [.tmp 2], none, none⟩
def A29 : AFun := ⟨.seq (.region [⟨(some 4), .op (.mov (.val (.bool false))), none⟩])
  (.seq (.seq (.region [⟨(some 5), .op (.mov (.tmp 0)), none⟩,
     ⟨(some 6), .op (.nilCheck (.tmp 5)), none⟩,
     ⟨(some 7), .op (.fieldAddr 2 (.tmp 6)), none⟩,
     ⟨(some 8), .op (.load none (.tmp 7)), none⟩])
   (.cond (.tmp 8) (.seq (.region [⟨(some 4), .op (.mov (.val (.bool true))), none⟩])
    (.ret))
   (.skip)))
  (.seq (.seq (.region [⟨(some 9), .op (.mov (.tmp 1)), none⟩])
   (.cond (.tmp 9) (.seq (.region [⟨(some 10), .op (.mov (.tmp 0)), none⟩,
      ⟨(some 11), .op (.nilCheck (.tmp 10)), none⟩,
      ⟨(some 12), .op (.fieldAddr 4 (.tmp 11)), none⟩,
      ⟨(some 13), .op (.load none (.tmp 12)), none⟩,
      ⟨(some 14), .op (.lenS (.tmp 13)), none⟩,
      ⟨(some 15), .op (.bin .gtr (.tmp 14) (.val (.int .i64 0))), none⟩,
      ⟨(some 16), .op (.mov (.tmp 15)), none⟩,
      ⟨(some 17), .op (.mov (.tmp 0)), (some (16, false))⟩,
      ⟨(some 18), .op (.nilCheck (.tmp 17)), (some (16, false))⟩,
      ⟨(some 19), .op (.fieldAddr 0 (.tmp 18)), (some (16, false))⟩,
      ⟨(some 20), .op (.load none (.tmp 19)), (some (16, false))⟩,
      ⟨(some 21), .op (.lenS (.tmp 20)), (some (16, false))⟩,
      ⟨(some 22), .op (.mov (.tmp 0)), (some (16, false))⟩,
      ⟨(some 23), .op (.nilCheck (.tmp 22)), (some (16, false))⟩,
      ⟨(some 24), .op (.fieldAddr 1 (.tmp 23)), (some (16, false))⟩,
      ⟨(some 25), .op (.load none (.tmp 24)), (some (16, false))⟩,
      ⟨(some 26), .op (.bin .lss (.tmp 21) (.tmp 25)), (some (16, false))⟩,
      ⟨(some 27), .op (.pick (.tmp 16) (.val (.bool true)) (.tmp 26)), none⟩,
      ⟨(some 4), .op (.mov (.tmp 27)), none⟩])
    (.ret))
   (.skip)))
  (.seq (.region [⟨(some 28), .op (.mov (.tmp 0)), none⟩,
    ⟨(some 29), .op (.nilCheck (.tmp 28)), none⟩,
    ⟨(some 30), .op (.fieldAddr 3 (.tmp 29)), none⟩,
    ⟨(some 31), .op (.load none (.tmp 30)), none⟩,
    ⟨(some 32), .op (.lenS (.tmp 31)), none⟩,
    ⟨(some 33), .op (.bin .gtr (.tmp 32) (.val (.int .i64 0))), none⟩,
    ⟨(some 34), .op (.mov (.tmp 33)), none⟩,
    ⟨(some 35), .op (.mov (.tmp 0)), (some (34, false))⟩,
    ⟨(some 36), .op (.nilCheck (.tmp 35)), (some (34, false))⟩,
    ⟨(some 37), .op (.fieldAddr 0 (.tmp 36)), (some (34, false))⟩,
    ⟨(some 38), .op (.load none (.tmp 37)), (some (34, false))⟩,
    ⟨(some 39), .op (.lenS (.tmp 38)), (some (34, false))⟩,
    ⟨(some 40), .op (.bin .gtr (.tmp 39) (.val (.int .i64 0))), (some (34, false))⟩,
    ⟨(some 41), .op (.pick (.tmp 34) (.val (.bool true)) (.tmp 40)), none⟩,
    ⟨(some 4), .op (.mov (.tmp 41)), none⟩])
  (.ret)))),
  [.tmp 4], none, none⟩
def A30 : AFun := ⟨.seq (.region [⟨(some 4), .op (.mov (.val .nils)), none⟩])
  (.seq (.region [⟨(some 5), .op (.mov (.val .nils)), none⟩])
  (.seq (.seq (.region [⟨(some 8), .op (.mov (.tmp 0)), none⟩,
     ⟨(some 9), .op (.lenS (.tmp 8)), none⟩,
     ⟨(some 10), .op (.mov (.val (.int .i64 0))), none⟩])
   (.block 0 (.loop (.seq (.region [⟨(some 11), .op (.bin .lss (.tmp 10) (.tmp 9)), none⟩])
     (.seq (.cond (.tmp 11) (.skip)
      (.exit 0))
     (.seq (.block 1 (.seq (.region [⟨(some 12), .op (.idxS 2 (.tmp 8) (.tmp 10)), none⟩,
         ⟨(some 13), .op (.load (some 2) (.tmp 12)), none⟩,
         ⟨(some 7), .op (.alloc [(.int .i64 0), (.int .u64 0)]), none⟩,
         ⟨none, .op (.store 2 (.tmp 7) (.tmp 13)), none⟩])
       (.seq (.region [⟨(some 14), .op (.fieldAddr 0 (.tmp 7)), none⟩,
         ⟨(some 15), .op (.load none (.tmp 14)), none⟩,
         ⟨(some 16), .op (.mov (.tmp 1)), none⟩,
         ⟨(some 17), .op (.bin .neq (.tmp 15) (.tmp 16)), none⟩])
       (.cond (.tmp 17) (.region [⟨(some 18), .op (.mov (.tmp 5)), none⟩,
         ⟨(some 19), .op (.load (some 2) (.tmp 7)), none⟩,
         ⟨(some 20), .op (.buildSlice 2 1 [(.int .i64 0), (.int .u64 0)] [(0, (.tmp 19))]), none⟩,
         ⟨(some 21), .op (.append 2 16 (.tmp 18) (.tmp 20)), none⟩,
         ⟨(some 5), .op (.mov (.tmp 21)), none⟩])
       (.skip)))))
     (.region [⟨(some 22), .op (.bin .add (.tmp 10) (.val (.int .i64 1))), none⟩,
      ⟨(some 10), .op (.mov (.tmp 22)), none⟩])))))))
  (.seq (.region [⟨(some 23), .op (.mov (.tmp 5)), none⟩,
    ⟨(some 4), .op (.mov (.tmp 23)), none⟩])
  (.ret)))),
  [.tmp 4], none, none⟩
def A31 : AFun := ⟨.seq (.region [⟨(some 3), .op (.box (.tmp 1)), none⟩,
    ⟨(some 4), .op (.mov (.val .nils)), none⟩])
  (.seq (.region [⟨(some 5), .op (.mov (.val .nils)), none⟩])
  (.seq (.region [⟨(some 6), .op (.mov (.tmp 5)), none⟩,
    ⟨(some 7), .op (.mov (.tmp 0)), none⟩,
    ⟨(some 8), .op (.append 2 16 (.tmp 6) (.tmp 7)), none⟩,
    ⟨(some 5), .op (.mov (.tmp 8)), none⟩])
  (.seq (.region [⟨(some 9), .op (.mov (.tmp 5)), none⟩,
    ⟨(some 10), .op (.load (some 2) (.tmp 3)), none⟩,
    ⟨(some 11), .op (.buildSlice 2 1 [(.int .i64 0), (.int .u64 0)] [(0, (.tmp 10))]), none⟩,
    ⟨(some 12), .op (.append 2 16 (.tmp 9) (.tmp 11)), none⟩,
    ⟨(some 5), .op (.mov (.tmp 12)), none⟩])
  (.seq (.region [⟨(some 13), .op (.mov (.tmp 5)), none⟩,
    ⟨(some 4), .op (.mov (.tmp 13)), none⟩])
  (.ret))))),
  [.tmp 4], none, none⟩
def A32 : AFun := ⟨.seq (.region [⟨(some 4), .op (.mov (.val .nils)), none⟩])
  (.seq (.region [⟨(some 5), .op (.mov (.val .nils)), none⟩])
  (.seq (.seq (.region [⟨(some 6), .op (.mov (.val (.int .i64 0))), none⟩])
   (.block 0 (.loop (.seq (.seq (.region [⟨(some 7), .op (.mov (.tmp 6)), none⟩,
        ⟨(some 8), .op (.mov (.tmp 0)), none⟩,
        ⟨(some 9), .op (.lenS (.tmp 8)), none⟩,
        ⟨(some 10), .op (.bin .lss (.tmp 7) (.tmp 9)), none⟩])
      (.cond (.tmp 10) (.skip)
      (.exit 0)))
     (.seq (.block 1 (.seq (.region [⟨(some 13), .op (.mov (.tmp 0)), none⟩,
         ⟨(some 14), .op (.mov (.tmp 6)), none⟩,
         ⟨(some 15), .op (.idxS 2 (.tmp 13) (.tmp 14)), none⟩,
         ⟨(some 16), .op (.fieldAddr 0 (.tmp 15)), none⟩,
         ⟨(some 17), .op (.load none (.tmp 16)), none⟩,
         ⟨(some 18), .op (.mov (.tmp 1)), none⟩,
         ⟨(some 19), .op (.bin .neq (.tmp 17) (.tmp 18)), none⟩])
       (.cond (.tmp 19) (.region [⟨(some 20), .op (.mov (.tmp 5)), none⟩,
         ⟨(some 21), .op (.mov (.tmp 0)), none⟩,
         ⟨(some 22), .op (.mov (.tmp 6)), none⟩,
         ⟨(some 23), .op (.idxS 2 (.tmp 21) (.tmp 22)), none⟩,
         ⟨(some 24), .op (.load (some 2) (.tmp 23)), none⟩,
         ⟨(some 25), .op (.buildSlice 2 1 [(.int .i64 0), (.int .u64 0)] [(0, (.tmp 24))]), none⟩,
         ⟨(some 26), .op (.append 2 16 (.tmp 20) (.tmp 25)), none⟩,
         ⟨(some 5), .op (.mov (.tmp 26)), none⟩])
       (.skip))))
     (.region [⟨(some 11), .op (.mov (.tmp 6)), none⟩,
      ⟨(some 12), .op (.bin .add (.tmp 11) (.val (.int .i64 1))), none⟩,
      ⟨(some 6), .op (.mov (.tmp 12)), none⟩]))))))
  (.seq (.region [⟨(some 27), .op (.mov (.tmp 5)), none⟩,
    ⟨(some 4), .op (.mov (.tmp 27)), none⟩])
  (.ret)))),
  [.tmp 4], none, none⟩
end Go.Proofs.Ytedomhceacongaa.AmGC
