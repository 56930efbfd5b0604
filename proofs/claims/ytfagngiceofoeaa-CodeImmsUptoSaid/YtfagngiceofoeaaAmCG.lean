/-
  The machine's form of the functions, printed by program off the translation.
-/
import Derived.Test.YtfagngiceofoeaaAmP
namespace Go.Proofs.Ytfagngiceofoeaa.AmGC
open Go Go.AM
set_option maxRecDepth 100000
def A3 : AFun := ⟨.seq (.region [⟨(some 1), .op (.box (.tmp 0)), none⟩,
    ⟨(some 2), .op (.mov (.val (.bool false))), none⟩])
  (.seq (.region [⟨(some 8), .op (.load (some 3) (.tmp 1)), none⟩,
    ⟨(some 9), .call (.fnv 10) [(.tmp 8)], none⟩,
    ⟨(some 7), .op (.mov (.tmp 9)), none⟩,
    ⟨(some 10), .op (.extract (.tmp 7) 0), none⟩,
    ⟨(some 11), .op (.extract (.tmp 7) 1), none⟩,
    ⟨(some 3), .op (.mov (.tmp 10)), none⟩,
    ⟨(some 4), .op (.mov (.tmp 11)), none⟩])
  (.seq (.region [⟨(some 13), .op (.load (some 3) (.tmp 1)), none⟩,
    ⟨(some 14), .call (.fnv 11) [(.tmp 13)], none⟩,
    ⟨(some 12), .op (.mov (.tmp 14)), none⟩,
    ⟨(some 15), .op (.extract (.tmp 12) 0), none⟩,
    ⟨(some 16), .op (.extract (.tmp 12) 1), none⟩,
    ⟨(some 5), .op (.mov (.tmp 15)), none⟩,
    ⟨(some 6), .op (.mov (.tmp 16)), none⟩])
  (.seq (.region [⟨(some 17), .call (.fnv 12) [], none⟩,
    ⟨(some 18), .op (.mov (.tmp 17)), none⟩,
    ⟨(some 19), .op (.mov (.tmp 3)), (some (18, true))⟩,
    ⟨(some 20), .op (.mov (.tmp 5)), (some (18, true))⟩,
    ⟨(some 21), .call (.fnv 13) [(.tmp 19), (.tmp 20)], (some (18, true))⟩,
    ⟨(some 22), .op (.pick (.tmp 18) (.tmp 21) (.val (.bool false))), none⟩,
    ⟨(some 23), .op (.mov (.tmp 22)), none⟩,
    ⟨(some 24), .op (.mov (.tmp 4)), (some (23, true))⟩,
    ⟨(some 25), .op (.mov (.tmp 6)), (some (23, true))⟩,
    ⟨(some 26), .op (.bin .eql (.tmp 24) (.tmp 25)), (some (23, true))⟩,
    ⟨(some 27), .op (.pick (.tmp 23) (.tmp 26) (.val (.bool false))), none⟩,
    ⟨(some 2), .op (.mov (.tmp 27)), none⟩])
  (.ret)))),
  [.tmp 2], none, none⟩
def A4 : AFun := ⟨.seq (.region [⟨(some 2), .op (.mov (.val (.bool false))), none⟩])
  (.seq (.region [⟨(some 10), .op (.mov (.tmp 0)), none⟩,
    ⟨(some 11), .call (.fnv 14) [(.tmp 10)], none⟩,
    ⟨(some 9), .op (.mov (.tmp 11)), none⟩,
    ⟨(some 12), .op (.extract (.tmp 9) 0), none⟩,
    ⟨(some 13), .op (.extract (.tmp 9) 1), none⟩,
    ⟨(some 3), .op (.alloc [.nils, .nils, .nils]), none⟩,
    ⟨(some 4), .op (.alloc [(.int .i64 0), (.int .i64 0), (.int .i64 0)]), none⟩,
    ⟨none, .op (.store 3 (.tmp 3) (.tmp 12)), none⟩,
    ⟨none, .op (.store 3 (.tmp 4) (.tmp 13)), none⟩])
  (.seq (.region [⟨(some 15), .op (.mov (.tmp 0)), none⟩,
    ⟨(some 16), .call (.fnv 15) [(.tmp 15)], none⟩,
    ⟨(some 14), .op (.mov (.tmp 16)), none⟩,
    ⟨(some 17), .op (.extract (.tmp 14) 0), none⟩,
    ⟨(some 18), .op (.extract (.tmp 14) 1), none⟩,
    ⟨(some 19), .op (.extract (.tmp 14) 2), none⟩,
    ⟨(some 5), .op (.alloc [.nils, .nils, .nils]), none⟩,
    ⟨none, .op (.store 3 (.tmp 5) (.tmp 17)), none⟩,
    ⟨(some 6), .op (.mov (.tmp 18)), none⟩,
    ⟨(some 7), .op (.mov (.tmp 19)), none⟩])
  (.seq (.region [⟨(some 8), .op (.mov (.val (.int .i64 0))), none⟩])
  (.seq (.seq (.region [⟨(some 20), .op (.mov (.tmp 6)), none⟩,
     ⟨(some 21), .op (.bin .neq (.tmp 20) (.val (.int .i64 0))), none⟩])
   (.cond (.tmp 21) (.region [⟨(some 8), .op (.mov (.val (.int .i64 (-1)))), none⟩])
   (.skip)))
  (.seq (.region [⟨(some 22), .call (.fnv 12) [], none⟩,
    ⟨(some 23), .op (.mov (.tmp 22)), none⟩,
    ⟨(some 24), .op (.load (some 3) (.tmp 3)), (some (23, true))⟩,
    ⟨(some 25), .op (.load (some 3) (.tmp 5)), (some (23, true))⟩,
    ⟨(some 26), .call (.fnv 16) [(.tmp 24), (.tmp 25)], (some (23, true))⟩,
    ⟨(some 27), .op (.pick (.tmp 23) (.tmp 26) (.val (.bool false))), none⟩,
    ⟨(some 28), .op (.mov (.tmp 27)), none⟩,
    ⟨(some 29), .op (.load (some 3) (.tmp 4)), (some (28, true))⟩,
    ⟨(some 30), .op (.mov (.tmp 6)), (some (28, true))⟩,
    ⟨(some 31), .op (.mov (.tmp 8)), (some (28, true))⟩,
    ⟨(some 32), .op (.mov (.tmp 7)), (some (28, true))⟩,
    ⟨(some 33), .op (.build [(.int .i64 0), (.int .i64 0), (.int .i64 0)] [(0, 1, (.tmp 30)), (1, 1, (.tmp 31)), (2, 1, (.tmp 32))]), (some (28, true))⟩,
    ⟨(some 34), .op (.eql false (.flat [.int, .int, .int]) (.tmp 29) (.tmp 33)), (some (28, true))⟩,
    ⟨(some 35), .op (.pick (.tmp 28) (.tmp 34) (.val (.bool false))), none⟩,
    ⟨(some 2), .op (.mov (.tmp 35)), none⟩])
  (.ret)))))),
  [.tmp 2], none, none⟩
def A5 : AFun := ⟨.seq (.region [⟨(some 2), .op (.box (.tmp 0)), none⟩,
    ⟨(some 4), .op (.mov (.val (.bool false))), none⟩])
  (.seq (.seq (.region [⟨(some 12), .call (.fnv 12) [], none⟩,
     ⟨(some 13), .op (.un .not (.tmp 12)), none⟩])
   (.cond (.tmp 13) (.seq (.region [⟨(some 4), .op (.mov (.val (.bool false))), none⟩])
    (.ret))
   (.skip)))
  (.seq (.region [⟨(some 15), .op (.load (some 3) (.tmp 2)), none⟩,
    ⟨(some 16), .call (.fnv 10) [(.tmp 15)], none⟩,
    ⟨(some 14), .op (.mov (.tmp 16)), none⟩,
    ⟨(some 17), .op (.extract (.tmp 14) 0), none⟩,
    ⟨(some 18), .op (.extract (.tmp 14) 1), none⟩,
    ⟨(some 5), .op (.mov (.tmp 17)), none⟩,
    ⟨(some 6), .op (.mov (.tmp 18)), none⟩])
  (.seq (.seq (.region [⟨(some 19), .op (.mov (.tmp 6)), none⟩,
     ⟨(some 20), .op (.bin .eql (.tmp 19) (.val (.int .i64 0))), none⟩])
   (.cond (.tmp 20) (.seq (.region [⟨(some 22), .op (.mov (.tmp 5)), none⟩,
      ⟨(some 23), .call (.fnv 14) [(.tmp 22)], none⟩,
      ⟨(some 21), .op (.mov (.tmp 23)), none⟩,
      ⟨(some 24), .op (.extract (.tmp 21) 0), none⟩,
      ⟨(some 25), .op (.extract (.tmp 21) 1), none⟩,
      ⟨(some 7), .op (.alloc [.nils, .nils, .nils]), none⟩,
      ⟨(some 8), .op (.alloc [(.int .i64 0), (.int .i64 0), (.int .i64 0)]), none⟩,
      ⟨none, .op (.store 3 (.tmp 7) (.tmp 24)), none⟩,
      ⟨none, .op (.store 3 (.tmp 8) (.tmp 25)), none⟩])
    (.seq (.region [⟨(some 26), .op (.fieldAddr 0 (.tmp 8)), none⟩,
      ⟨(some 27), .op (.load none (.tmp 26)), none⟩,
      ⟨(some 28), .op (.bin .neq (.tmp 27) (.val (.int .i64 0))), none⟩,
      ⟨(some 29), .op (.mov (.tmp 28)), none⟩,
      ⟨(some 30), .op (.load (some 3) (.tmp 2)), (some (29, false))⟩,
      ⟨(some 31), .op (.load (some 3) (.tmp 7)), (some (29, false))⟩,
      ⟨(some 32), .call (.fnv 16) [(.tmp 30), (.tmp 31)], (some (29, false))⟩,
      ⟨(some 33), .op (.un .not (.tmp 32)), (some (29, false))⟩,
      ⟨(some 34), .op (.pick (.tmp 29) (.val (.bool true)) (.tmp 33)), none⟩])
    (.cond (.tmp 34) (.seq (.region [⟨(some 4), .op (.mov (.val (.bool false))), none⟩])
     (.ret))
    (.skip))))
   (.skip)))
  (.seq (.region [⟨(some 36), .op (.mov (.tmp 1)), none⟩,
    ⟨(some 37), .call (.fnv 14) [(.tmp 36)], none⟩,
    ⟨(some 35), .op (.mov (.tmp 37)), none⟩,
    ⟨(some 38), .op (.extract (.tmp 35) 0), none⟩,
    ⟨(some 39), .op (.extract (.tmp 35) 1), none⟩,
    ⟨(some 9), .op (.alloc [.nils, .nils, .nils]), none⟩,
    ⟨(some 10), .op (.alloc [(.int .i64 0), (.int .i64 0), (.int .i64 0)]), none⟩,
    ⟨none, .op (.store 3 (.tmp 9) (.tmp 38)), none⟩,
    ⟨none, .op (.store 3 (.tmp 10) (.tmp 39)), none⟩])
  (.seq (.seq (.region [⟨(some 40), .op (.fieldAddr 0 (.tmp 10)), none⟩,
     ⟨(some 41), .op (.load none (.tmp 40)), none⟩,
     ⟨(some 42), .op (.bin .neq (.tmp 41) (.val (.int .i64 0))), none⟩])
   (.cond (.tmp 42) (.seq (.region [⟨(some 4), .op (.mov (.val (.bool true))), none⟩])
    (.ret))
   (.skip)))
  (.seq (.region [⟨(some 44), .op (.load (some 3) (.tmp 9)), none⟩,
    ⟨(some 45), .call (.fnv 10) [(.tmp 44)], none⟩,
    ⟨(some 43), .op (.mov (.tmp 45)), none⟩,
    ⟨(some 46), .op (.extract (.tmp 43) 0), none⟩,
    ⟨(some 47), .op (.extract (.tmp 43) 1), none⟩,
    ⟨(some 11), .op (.mov (.tmp 46)), none⟩,
    ⟨(some 6), .op (.mov (.tmp 47)), none⟩])
  (.seq (.region [⟨(some 48), .op (.mov (.tmp 6)), none⟩,
    ⟨(some 49), .op (.bin .eql (.tmp 48) (.val (.int .i64 0))), none⟩,
    ⟨(some 50), .op (.mov (.tmp 49)), none⟩,
    ⟨(some 51), .op (.mov (.tmp 11)), (some (50, true))⟩,
    ⟨(some 52), .op (.mov (.tmp 1)), (some (50, true))⟩,
    ⟨(some 53), .call (.fnv 13) [(.tmp 51), (.tmp 52)], (some (50, true))⟩,
    ⟨(some 54), .op (.pick (.tmp 50) (.tmp 53) (.val (.bool false))), none⟩,
    ⟨(some 4), .op (.mov (.tmp 54)), none⟩])
  (.ret)))))))),
  [.tmp 4], none, none⟩
def A6 : AFun := ⟨.seq (.region [⟨(some 2), .op (.mov (.val (.bool false))), none⟩])
  (.seq (.seq (.region [⟨(some 18), .call (.fnv 12) [], none⟩,
     ⟨(some 19), .op (.un .not (.tmp 18)), none⟩])
   (.cond (.tmp 19) (.seq (.region [⟨(some 2), .op (.mov (.val (.bool false))), none⟩])
    (.ret))
   (.skip)))
  (.seq (.region [⟨(some 3), .op (.mov (.val .nils)), none⟩])
  (.seq (.region [⟨(some 20), .op (.mov (.tmp 3)), none⟩,
    ⟨(some 21), .op (.mov (.tmp 0)), none⟩,
    ⟨(some 22), .op (.append 1 1 (.tmp 20) (.tmp 21)), none⟩,
    ⟨(some 3), .op (.mov (.tmp 22)), none⟩])
  (.seq (.region [⟨(some 23), .op (.mov (.tmp 3)), none⟩,
    ⟨(some 24), .op (.buildSlice 1 1 [(.int .u8 0)] [(0, (.val (.int .u8 99)))]), none⟩,
    ⟨(some 25), .op (.append 1 1 (.tmp 23) (.tmp 24)), none⟩,
    ⟨(some 3), .op (.mov (.tmp 25)), none⟩])
  (.seq (.region [⟨(some 27), .op (.mov (.tmp 3)), none⟩,
    ⟨(some 28), .op (.mov (.tmp 0)), none⟩,
    ⟨(some 29), .op (.lenS (.tmp 28)), none⟩,
    ⟨(some 30), .op (.slice 1 (.tmp 27) none (some (.tmp 29))), none⟩,
    ⟨(some 31), .call (.fnv 14) [(.tmp 30)], none⟩,
    ⟨(some 26), .op (.mov (.tmp 31)), none⟩,
    ⟨(some 32), .op (.extract (.tmp 26) 0), none⟩,
    ⟨(some 33), .op (.extract (.tmp 26) 1), none⟩,
    ⟨(some 4), .op (.alloc [.nils, .nils, .nils]), none⟩,
    ⟨(some 5), .op (.alloc [(.int .i64 0), (.int .i64 0), (.int .i64 0)]), none⟩,
    ⟨none, .op (.store 3 (.tmp 4) (.tmp 32)), none⟩,
    ⟨none, .op (.store 3 (.tmp 5) (.tmp 33)), none⟩])
  (.seq (.region [⟨(some 35), .op (.mov (.tmp 3)), none⟩,
    ⟨(some 36), .op (.mov (.tmp 0)), none⟩,
    ⟨(some 37), .op (.lenS (.tmp 36)), none⟩,
    ⟨(some 38), .op (.slice 1 (.tmp 35) none (some (.tmp 37))), none⟩,
    ⟨(some 39), .call (.fnv 14) [(.tmp 38)], none⟩,
    ⟨(some 34), .op (.mov (.tmp 39)), none⟩,
    ⟨(some 40), .op (.extract (.tmp 34) 0), none⟩,
    ⟨(some 41), .op (.extract (.tmp 34) 1), none⟩,
    ⟨(some 6), .op (.alloc [.nils, .nils, .nils]), none⟩,
    ⟨(some 7), .op (.alloc [(.int .i64 0), (.int .i64 0), (.int .i64 0)]), none⟩,
    ⟨none, .op (.store 3 (.tmp 6) (.tmp 40)), none⟩,
    ⟨none, .op (.store 3 (.tmp 7) (.tmp 41)), none⟩])
  (.seq (.region [⟨(some 43), .op (.mov (.tmp 0)), none⟩,
    ⟨(some 44), .call (.fnv 15) [(.tmp 43)], none⟩,
    ⟨(some 42), .op (.mov (.tmp 44)), none⟩,
    ⟨(some 45), .op (.extract (.tmp 42) 0), none⟩,
    ⟨(some 46), .op (.extract (.tmp 42) 1), none⟩,
    ⟨(some 47), .op (.extract (.tmp 42) 2), none⟩,
    ⟨(some 8), .op (.alloc [.nils, .nils, .nils]), none⟩,
    ⟨none, .op (.store 3 (.tmp 8) (.tmp 45)), none⟩,
    ⟨(some 9), .op (.mov (.tmp 46)), none⟩,
    ⟨(some 10), .op (.mov (.tmp 47)), none⟩])
  (.seq (.region [⟨(some 48), .op (.load (some 3) (.tmp 4)), none⟩,
    ⟨(some 49), .call (.fnv 17) [(.tmp 48)], none⟩])
  (.seq (.seq (.region [⟨(some 50), .op (.load (some 3) (.tmp 6)), none⟩,
     ⟨(some 51), .op (.load (some 3) (.tmp 8)), none⟩,
     ⟨(some 52), .call (.fnv 16) [(.tmp 50), (.tmp 51)], none⟩,
     ⟨(some 53), .op (.un .not (.tmp 52)), none⟩,
     ⟨(some 54), .op (.mov (.tmp 53)), none⟩,
     ⟨(some 55), .op (.mov (.tmp 3)), (some (54, false))⟩,
     ⟨(some 56), .op (.mov (.tmp 0)), (some (54, false))⟩,
     ⟨(some 57), .op (.lenS (.tmp 56)), (some (54, false))⟩,
     ⟨(some 58), .op (.slice 1 (.tmp 55) none (some (.tmp 57))), (some (54, false))⟩,
     ⟨(some 59), .op (.mov (.tmp 0)), (some (54, false))⟩,
     ⟨(some 60), .call (.fnv 13) [(.tmp 58), (.tmp 59)], (some (54, false))⟩,
     ⟨(some 61), .op (.un .not (.tmp 60)), (some (54, false))⟩,
     ⟨(some 62), .op (.pick (.tmp 54) (.val (.bool true)) (.tmp 61)), none⟩,
     ⟨(some 63), .op (.mov (.tmp 62)), none⟩,
     ⟨(some 64), .op (.mov (.tmp 3)), (some (63, false))⟩,
     ⟨(some 65), .op (.mov (.tmp 0)), (some (63, false))⟩,
     ⟨(some 66), .op (.lenS (.tmp 65)), (some (63, false))⟩,
     ⟨(some 67), .op (.idxS 1 (.tmp 64) (.tmp 66)), (some (63, false))⟩,
     ⟨(some 68), .op (.load none (.tmp 67)), (some (63, false))⟩,
     ⟨(some 69), .op (.bin .neq (.tmp 68) (.val (.int .u8 99))), (some (63, false))⟩,
     ⟨(some 70), .op (.pick (.tmp 63) (.val (.bool true)) (.tmp 69)), none⟩])
   (.cond (.tmp 70) (.seq (.region [⟨(some 2), .op (.mov (.val (.bool false))), none⟩])
    (.ret))
   (.skip)))
  (.seq (.region [⟨(some 72), .op (.load (some 3) (.tmp 6)), none⟩,
    ⟨(some 73), .call (.fnv 10) [(.tmp 72)], none⟩,
    ⟨(some 71), .op (.mov (.tmp 73)), none⟩,
    ⟨(some 74), .op (.extract (.tmp 71) 0), none⟩,
    ⟨(some 75), .op (.extract (.tmp 71) 1), none⟩,
    ⟨(some 11), .op (.mov (.tmp 74)), none⟩,
    ⟨(some 12), .op (.mov (.tmp 75)), none⟩])
  (.seq (.region [⟨(some 77), .op (.load (some 3) (.tmp 6)), none⟩,
    ⟨(some 78), .call (.fnv 10) [(.tmp 77)], none⟩,
    ⟨(some 76), .op (.mov (.tmp 78)), none⟩,
    ⟨(some 79), .op (.extract (.tmp 76) 0), none⟩,
    ⟨(some 80), .op (.extract (.tmp 76) 1), none⟩,
    ⟨(some 13), .op (.mov (.tmp 79)), none⟩,
    ⟨(some 14), .op (.mov (.tmp 80)), none⟩])
  (.seq (.seq (.region [⟨(some 81), .op (.mov (.tmp 11)), none⟩,
     ⟨(some 82), .op (.lenS (.tmp 81)), none⟩,
     ⟨(some 83), .op (.mov (.val (.int .i64 0))), none⟩])
   (.block 0 (.loop (.seq (.region [⟨(some 84), .op (.bin .lss (.tmp 83) (.tmp 82)), none⟩])
     (.seq (.cond (.tmp 84) (.skip)
      (.exit 0))
     (.seq (.block 1 (.seq (.region [⟨(some 85), .op (.mov (.tmp 83)), none⟩,
         ⟨(some 15), .op (.mov (.tmp 85)), none⟩])
       (.region [⟨(some 86), .op (.mov (.tmp 11)), none⟩,
        ⟨(some 87), .op (.mov (.tmp 15)), none⟩,
        ⟨(some 88), .op (.idxS 1 (.tmp 86) (.tmp 87)), none⟩,
        ⟨none, .op (.store 1 (.tmp 88) (.val (.int .u8 255))), none⟩])))
     (.region [⟨(some 89), .op (.bin .add (.tmp 83) (.val (.int .i64 1))), none⟩,
      ⟨(some 83), .op (.mov (.tmp 89)), none⟩])))))))
  (.seq (.region [⟨(some 90), .op (.mov (.tmp 11)), none⟩,
    ⟨(some 91), .op (.buildSlice 1 1 [(.int .u8 0)] [(0, (.val (.int .u8 1)))]), none⟩,
    ⟨(some 92), .op (.append 1 1 (.tmp 90) (.tmp 91)), none⟩,
    ⟨(some 11), .op (.mov (.tmp 92)), none⟩])
  (.seq (.region [⟨(some 94), .op (.load (some 3) (.tmp 8)), none⟩,
    ⟨(some 95), .call (.fnv 11) [(.tmp 94)], none⟩,
    ⟨(some 93), .op (.mov (.tmp 95)), none⟩,
    ⟨(some 96), .op (.extract (.tmp 93) 0), none⟩,
    ⟨(some 97), .op (.extract (.tmp 93) 1), none⟩,
    ⟨(some 16), .op (.mov (.tmp 96)), none⟩,
    ⟨(some 17), .op (.mov (.tmp 97)), none⟩])
  (.seq (.region [⟨(some 98), .op (.mov (.tmp 17)), none⟩,
    ⟨(some 99), .op (.bin .neq (.tmp 98) (.val (.int .i64 0))), none⟩,
    ⟨(some 100), .op (.mov (.tmp 99)), none⟩,
    ⟨(some 101), .op (.mov (.tmp 13)), (some (100, false))⟩,
    ⟨(some 102), .op (.mov (.tmp 16)), (some (100, false))⟩,
    ⟨(some 103), .call (.fnv 13) [(.tmp 101), (.tmp 102)], (some (100, false))⟩,
    ⟨(some 104), .op (.pick (.tmp 100) (.val (.bool true)) (.tmp 103)), none⟩,
    ⟨(some 105), .op (.mov (.tmp 104)), none⟩,
    ⟨(some 106), .op (.mov (.tmp 11)), (some (105, true))⟩,
    ⟨(some 107), .op (.mov (.tmp 11)), (some (105, true))⟩,
    ⟨(some 108), .op (.lenS (.tmp 107)), (some (105, true))⟩,
    ⟨(some 109), .op (.bin .sub (.tmp 108) (.val (.int .i64 1))), (some (105, true))⟩,
    ⟨(some 110), .op (.idxS 1 (.tmp 106) (.tmp 109)), (some (105, true))⟩,
    ⟨(some 111), .op (.load none (.tmp 110)), (some (105, true))⟩,
    ⟨(some 112), .op (.bin .eql (.tmp 111) (.val (.int .u8 1))), (some (105, true))⟩,
    ⟨(some 113), .op (.pick (.tmp 105) (.tmp 112) (.val (.bool false))), none⟩,
    ⟨(some 2), .op (.mov (.tmp 113)), none⟩])
  (.ret)))))))))))))))),
  [.tmp 2], none, none⟩
def A7 : AFun := ⟨.seq (.region [⟨(some 3), .op (.box (.tmp 0)), none⟩,
    ⟨(some 6), .op (.mov (.val (.bool false))), none⟩])
  (.seq (.region [⟨(some 16), .op (.load (some 3) (.tmp 3)), none⟩,
    ⟨(some 17), .call (.fnv 10) [(.tmp 16)], none⟩,
    ⟨(some 15), .op (.mov (.tmp 17)), none⟩,
    ⟨(some 18), .op (.extract (.tmp 15) 0), none⟩,
    ⟨(some 19), .op (.extract (.tmp 15) 1), none⟩,
    ⟨(some 7), .op (.mov (.tmp 18)), none⟩,
    ⟨(some 8), .op (.mov (.tmp 19)), none⟩])
  (.seq (.seq (.region [⟨(some 20), .call (.fnv 12) [], none⟩,
     ⟨(some 21), .op (.un .not (.tmp 20)), none⟩])
   (.cond (.tmp 21) (.seq (.region [⟨(some 6), .op (.mov (.val (.bool false))), none⟩])
    (.ret))
   (.skip)))
  (.seq (.seq (.region [⟨(some 22), .op (.mov (.tmp 8)), none⟩,
     ⟨(some 23), .op (.bin .neq (.tmp 22) (.val (.int .i64 0))), none⟩,
     ⟨(some 24), .op (.mov (.tmp 23)), none⟩,
     ⟨(some 25), .op (.mov (.tmp 7)), (some (24, false))⟩,
     ⟨(some 26), .op (.lenS (.tmp 25)), (some (24, false))⟩,
     ⟨(some 27), .op (.bin .gtr (.tmp 26) (.val (.int .i64 16000))), (some (24, false))⟩,
     ⟨(some 28), .op (.pick (.tmp 24) (.val (.bool true)) (.tmp 27)), none⟩])
   (.cond (.tmp 28) (.seq (.region [⟨(some 29), .op (.mov (.tmp 7)), none⟩,
      ⟨(some 30), .op (.lenS (.tmp 29)), none⟩,
      ⟨(some 31), .op (.bin .eql (.tmp 30) (.val (.int .i64 0))), none⟩,
      ⟨(some 32), .op (.mov (.tmp 31)), none⟩,
      ⟨(some 33), .op (.mov (.tmp 8)), (some (32, false))⟩,
      ⟨(some 34), .op (.bin .eql (.tmp 33) (.val (.int .i64 0))), (some (32, false))⟩,
      ⟨(some 35), .op (.pick (.tmp 32) (.val (.bool true)) (.tmp 34)), none⟩,
      ⟨(some 6), .op (.mov (.tmp 35)), none⟩])
    (.ret))
   (.skip)))
  (.seq (.region [⟨(some 36), .op (.mov (.tmp 1)), none⟩,
    ⟨(some 37), .op (.conv .i64 (.tmp 36)), none⟩,
    ⟨(some 38), .op (.mov (.tmp 7)), none⟩,
    ⟨(some 39), .op (.lenS (.tmp 38)), none⟩,
    ⟨(some 40), .op (.bin .rem (.tmp 37) (.tmp 39)), none⟩,
    ⟨(some 9), .op (.mov (.tmp 40)), none⟩])
  (.seq (.region [⟨(some 42), .op (.mov (.tmp 7)), none⟩,
    ⟨(some 43), .op (.mov (.tmp 9)), none⟩,
    ⟨(some 44), .op (.slice 1 (.tmp 42) none (some (.tmp 43))), none⟩,
    ⟨(some 45), .call (.fnv 14) [(.tmp 44)], none⟩,
    ⟨(some 41), .op (.mov (.tmp 45)), none⟩,
    ⟨(some 46), .op (.extract (.tmp 41) 0), none⟩,
    ⟨(some 47), .op (.extract (.tmp 41) 1), none⟩,
    ⟨(some 10), .op (.alloc [.nils, .nils, .nils]), none⟩,
    ⟨(some 11), .op (.alloc [(.int .i64 0), (.int .i64 0), (.int .i64 0)]), none⟩,
    ⟨none, .op (.store 3 (.tmp 10) (.tmp 46)), none⟩,
    ⟨none, .op (.store 3 (.tmp 11) (.tmp 47)), none⟩])
  (.seq (.seq (.region [⟨(some 48), .op (.fieldAddr 0 (.tmp 11)), none⟩,
     ⟨(some 49), .op (.load none (.tmp 48)), none⟩,
     ⟨(some 50), .op (.bin .neq (.tmp 49) (.val (.int .i64 7))), none⟩,
     ⟨(some 51), .op (.mov (.tmp 50)), none⟩,
     ⟨(some 52), .op (.fieldAddr 1 (.tmp 11)), (some (51, false))⟩,
     ⟨(some 53), .op (.load none (.tmp 52)), (some (51, false))⟩,
     ⟨(some 54), .op (.bin .neq (.tmp 53) (.val (.int .i64 (-1)))), (some (51, false))⟩,
     ⟨(some 55), .op (.pick (.tmp 51) (.val (.bool true)) (.tmp 54)), none⟩,
     ⟨(some 56), .op (.mov (.tmp 55)), none⟩,
     ⟨(some 57), .op (.fieldAddr 2 (.tmp 11)), (some (56, false))⟩,
     ⟨(some 58), .op (.load none (.tmp 57)), (some (56, false))⟩,
     ⟨(some 59), .op (.mov (.tmp 9)), (some (56, false))⟩,
     ⟨(some 60), .op (.bin .gtr (.tmp 58) (.tmp 59)), (some (56, false))⟩,
     ⟨(some 61), .op (.pick (.tmp 56) (.val (.bool true)) (.tmp 60)), none⟩])
   (.cond (.tmp 61) (.seq (.region [⟨(some 6), .op (.mov (.val (.bool false))), none⟩])
    (.ret))
   (.skip)))
  (.seq (.region [⟨(some 12), .op (.mov (.val .nils)), none⟩])
  (.seq (.region [⟨(some 62), .op (.mov (.tmp 12)), none⟩,
    ⟨(some 63), .op (.mov (.tmp 7)), none⟩,
    ⟨(some 64), .op (.append 1 1 (.tmp 62) (.tmp 63)), none⟩,
    ⟨(some 12), .op (.mov (.tmp 64)), none⟩])
  (.seq (.region [⟨(some 65), .op (.mov (.tmp 12)), none⟩,
    ⟨(some 66), .op (.mov (.tmp 2)), none⟩,
    ⟨(some 67), .op (.buildSlice 1 1 [(.int .u8 0)] [(0, (.tmp 66))]), none⟩,
    ⟨(some 68), .op (.append 1 1 (.tmp 65) (.tmp 67)), none⟩,
    ⟨(some 12), .op (.mov (.tmp 68)), none⟩])
  (.seq (.region [⟨(some 70), .op (.mov (.tmp 12)), none⟩,
    ⟨(some 71), .call (.fnv 14) [(.tmp 70)], none⟩,
    ⟨(some 69), .op (.mov (.tmp 71)), none⟩,
    ⟨(some 72), .op (.extract (.tmp 69) 0), none⟩,
    ⟨(some 73), .op (.extract (.tmp 69) 1), none⟩,
    ⟨(some 13), .op (.alloc [.nils, .nils, .nils]), none⟩,
    ⟨(some 14), .op (.alloc [(.int .i64 0), (.int .i64 0), (.int .i64 0)]), none⟩,
    ⟨none, .op (.store 3 (.tmp 13) (.tmp 72)), none⟩,
    ⟨none, .op (.store 3 (.tmp 14) (.tmp 73)), none⟩])
  (.seq (.region [⟨(some 74), .op (.load (some 3) (.tmp 14)), none⟩,
    ⟨(some 75), .op (.mov (.tmp 7)), none⟩,
    ⟨(some 76), .op (.lenS (.tmp 75)), none⟩,
    ⟨(some 77), .op (.build [(.int .i64 0), (.int .i64 0), (.int .i64 0)] [(0, 1, (.val (.int .i64 7))), (1, 1, (.val (.int .i64 (-1)))), (2, 1, (.tmp 76))]), none⟩,
    ⟨(some 78), .op (.eql false (.flat [.int, .int, .int]) (.tmp 74) (.tmp 77)), none⟩,
    ⟨(some 6), .op (.mov (.tmp 78)), none⟩])
  (.ret)))))))))))),
  [.tmp 6], none, none⟩
def A8 : AFun := ⟨.seq (.region [⟨(some 4), .op (.mov (.val (.bool false))), none⟩])
  (.seq (.region [⟨(some 14), .call (.fnv 18) [], none⟩,
    ⟨(some 5), .op (.alloc [.nils, .nils, .nils]), none⟩,
    ⟨none, .op (.store 3 (.tmp 5) (.tmp 14)), none⟩])
  (.seq (.region [⟨(some 15), .op (.fieldAddr 2 (.tmp 5)), none⟩,
    ⟨(some 16), .op (.load none (.tmp 15)), none⟩,
    ⟨(some 17), .op (.idxS 4 (.tmp 16) (.val (.int .i64 0))), none⟩,
    ⟨(some 18), .op (.fieldAddr 3 (.tmp 17)), none⟩,
    ⟨(some 19), .op (.load none (.tmp 18)), none⟩,
    ⟨(some 20), .op (.mov (.tmp 0)), none⟩,
    ⟨(some 21), .op (.idxS 6 (.tmp 19) (.val (.int .i64 0))), none⟩,
    ⟨(some 22), .op (.fieldAddr 4 (.tmp 21)), none⟩,
    ⟨none, .op (.store 1 (.tmp 22) (.tmp 20)), none⟩])
  (.seq (.region [⟨(some 23), .op (.fieldAddr 2 (.tmp 5)), none⟩,
    ⟨(some 24), .op (.load none (.tmp 23)), none⟩,
    ⟨(some 25), .op (.idxS 4 (.tmp 24) (.val (.int .i64 0))), none⟩,
    ⟨(some 26), .op (.fieldAddr 3 (.tmp 25)), none⟩,
    ⟨(some 27), .op (.load none (.tmp 26)), none⟩,
    ⟨(some 28), .op (.mov (.tmp 1)), none⟩,
    ⟨(some 29), .op (.conv .i64 (.tmp 28)), none⟩,
    ⟨(some 30), .op (.idxS 6 (.tmp 27) (.val (.int .i64 0))), none⟩,
    ⟨(some 31), .op (.fieldAddr 1 (.tmp 30)), none⟩,
    ⟨none, .op (.store 1 (.tmp 31) (.tmp 29)), none⟩])
  (.seq (.region [⟨(some 33), .op (.load (some 3) (.tmp 5)), none⟩,
    ⟨(some 34), .call (.fnv 10) [(.tmp 33)], none⟩,
    ⟨(some 32), .op (.mov (.tmp 34)), none⟩,
    ⟨(some 35), .op (.extract (.tmp 32) 0), none⟩,
    ⟨(some 36), .op (.extract (.tmp 32) 1), none⟩,
    ⟨(some 6), .op (.mov (.tmp 35)), none⟩,
    ⟨(some 7), .op (.mov (.tmp 36)), none⟩])
  (.seq (.region [⟨(some 38), .op (.mov (.tmp 6)), none⟩,
    ⟨(some 39), .call (.fnv 14) [(.tmp 38)], none⟩,
    ⟨(some 37), .op (.mov (.tmp 39)), none⟩,
    ⟨(some 40), .op (.extract (.tmp 37) 0), none⟩,
    ⟨(some 41), .op (.extract (.tmp 37) 1), none⟩,
    ⟨(some 8), .op (.alloc [.nils, .nils, .nils]), none⟩,
    ⟨(some 9), .op (.alloc [(.int .i64 0), (.int .i64 0), (.int .i64 0)]), none⟩,
    ⟨none, .op (.store 3 (.tmp 8) (.tmp 40)), none⟩,
    ⟨none, .op (.store 3 (.tmp 9) (.tmp 41)), none⟩])
  (.seq (.seq (.region [⟨(some 42), .call (.fnv 12) [], none⟩,
     ⟨(some 43), .op (.un .not (.tmp 42)), none⟩,
     ⟨(some 44), .op (.mov (.tmp 43)), none⟩,
     ⟨(some 45), .op (.mov (.tmp 7)), (some (44, false))⟩,
     ⟨(some 46), .op (.bin .neq (.tmp 45) (.val (.int .i64 0))), (some (44, false))⟩,
     ⟨(some 47), .op (.pick (.tmp 44) (.val (.bool true)) (.tmp 46)), none⟩,
     ⟨(some 48), .op (.mov (.tmp 47)), none⟩,
     ⟨(some 49), .op (.fieldAddr 0 (.tmp 9)), (some (48, false))⟩,
     ⟨(some 50), .op (.load none (.tmp 49)), (some (48, false))⟩,
     ⟨(some 51), .op (.bin .neq (.tmp 50) (.val (.int .i64 0))), (some (48, false))⟩,
     ⟨(some 52), .op (.pick (.tmp 48) (.val (.bool true)) (.tmp 51)), none⟩,
     ⟨(some 53), .op (.mov (.tmp 52)), none⟩,
     ⟨(some 54), .op (.fieldAddr 2 (.tmp 8)), (some (53, false))⟩,
     ⟨(some 55), .op (.load none (.tmp 54)), (some (53, false))⟩,
     ⟨(some 56), .op (.lenS (.tmp 55)), (some (53, false))⟩,
     ⟨(some 57), .op (.bin .neq (.tmp 56) (.val (.int .i64 1))), (some (53, false))⟩,
     ⟨(some 58), .op (.pick (.tmp 53) (.val (.bool true)) (.tmp 57)), none⟩,
     ⟨(some 59), .op (.mov (.tmp 58)), none⟩,
     ⟨(some 60), .op (.fieldAddr 2 (.tmp 8)), (some (59, false))⟩,
     ⟨(some 61), .op (.load none (.tmp 60)), (some (59, false))⟩,
     ⟨(some 62), .op (.idxS 4 (.tmp 61) (.val (.int .i64 0))), (some (59, false))⟩,
     ⟨(some 63), .op (.fieldAddr 3 (.tmp 62)), (some (59, false))⟩,
     ⟨(some 64), .op (.load none (.tmp 63)), (some (59, false))⟩,
     ⟨(some 65), .op (.lenS (.tmp 64)), (some (59, false))⟩,
     ⟨(some 66), .op (.bin .neq (.tmp 65) (.val (.int .i64 1))), (some (59, false))⟩,
     ⟨(some 67), .op (.pick (.tmp 59) (.val (.bool true)) (.tmp 66)), none⟩])
   (.cond (.tmp 67) (.seq (.region [⟨(some 4), .op (.mov (.val (.bool false))), none⟩])
    (.ret))
   (.skip)))
  (.seq (.region [⟨(some 10), .op (.mov (.val (.int .i64 1))), none⟩])
  (.seq (.seq (.region [⟨(some 68), .op (.mov (.tmp 0)), none⟩,
     ⟨(some 11), .op (.mov (.tmp 68)), none⟩])
   (.block 0 (.loop (.seq (.seq (.region [⟨(some 69), .op (.mov (.tmp 11)), none⟩,
        ⟨(some 70), .op (.bin .gtr (.tmp 69) (.val (.int .u64 127))), none⟩])
      (.cond (.tmp 70) (.skip)
      (.exit 0)))
     (.seq (.block 1 (.region [⟨(some 73), .op (.mov (.tmp 10)), none⟩,
        ⟨(some 74), .op (.bin .add (.tmp 73) (.val (.int .i64 1))), none⟩,
        ⟨(some 10), .op (.mov (.tmp 74)), none⟩]))
     (.region [⟨(some 71), .op (.mov (.tmp 11)), none⟩,
      ⟨(some 72), .op (.bin .shr (.tmp 71) (.val (.int .u64 7))), none⟩,
      ⟨(some 11), .op (.mov (.tmp 72)), none⟩]))))))
  (.seq (.seq (.region [⟨(some 75), .op (.mov (.tmp 1)), none⟩,
     ⟨(some 76), .op (.conv .u64 (.tmp 75)), none⟩,
     ⟨(some 12), .op (.mov (.tmp 76)), none⟩])
   (.block 2 (.loop (.seq (.seq (.region [⟨(some 77), .op (.mov (.tmp 12)), none⟩,
        ⟨(some 78), .op (.bin .gtr (.tmp 77) (.val (.int .u64 127))), none⟩])
      (.cond (.tmp 78) (.skip)
      (.exit 2)))
     (.seq (.block 3 (.region [⟨(some 81), .op (.mov (.tmp 10)), none⟩,
        ⟨(some 82), .op (.bin .add (.tmp 81) (.val (.int .i64 1))), none⟩,
        ⟨(some 10), .op (.mov (.tmp 82)), none⟩]))
     (.region [⟨(some 79), .op (.mov (.tmp 12)), none⟩,
      ⟨(some 80), .op (.bin .shr (.tmp 79) (.val (.int .u64 7))), none⟩,
      ⟨(some 12), .op (.mov (.tmp 80)), none⟩]))))))
  (.seq (.region [⟨(some 83), .op (.fieldAddr 2 (.tmp 8)), none⟩,
    ⟨(some 84), .op (.load none (.tmp 83)), none⟩,
    ⟨(some 85), .op (.idxS 4 (.tmp 84) (.val (.int .i64 0))), none⟩,
    ⟨(some 86), .op (.fieldAddr 3 (.tmp 85)), none⟩,
    ⟨(some 87), .op (.load none (.tmp 86)), none⟩,
    ⟨(some 88), .op (.idxS 6 (.tmp 87) (.val (.int .i64 0))), none⟩,
    ⟨(some 89), .op (.load (some 6) (.tmp 88)), none⟩,
    ⟨(some 13), .op (.alloc [(.int .i64 0), (.int .i64 0), (.int .i64 0), (.int .i64 0), (.int .u64 0), .nils]), none⟩,
    ⟨none, .op (.store 6 (.tmp 13) (.tmp 89)), none⟩])
  (.seq (.region [⟨(some 90), .op (.fieldAddr 4 (.tmp 13)), none⟩,
    ⟨(some 91), .op (.load none (.tmp 90)), none⟩,
    ⟨(some 92), .op (.mov (.tmp 0)), none⟩,
    ⟨(some 93), .op (.bin .eql (.tmp 91) (.tmp 92)), none⟩,
    ⟨(some 94), .op (.mov (.tmp 93)), none⟩,
    ⟨(some 95), .op (.fieldAddr 1 (.tmp 13)), (some (94, true))⟩,
    ⟨(some 96), .op (.load none (.tmp 95)), (some (94, true))⟩,
    ⟨(some 97), .op (.mov (.tmp 1)), (some (94, true))⟩,
    ⟨(some 98), .op (.conv .i64 (.tmp 97)), (some (94, true))⟩,
    ⟨(some 99), .op (.bin .eql (.tmp 96) (.tmp 98)), (some (94, true))⟩,
    ⟨(some 100), .op (.pick (.tmp 94) (.tmp 99) (.val (.bool false))), none⟩,
    ⟨(some 101), .op (.mov (.tmp 100)), none⟩,
    ⟨(some 102), .op (.mov (.tmp 6)), (some (101, true))⟩,
    ⟨(some 103), .op (.lenS (.tmp 102)), (some (101, true))⟩,
    ⟨(some 104), .op (.mov (.tmp 10)), (some (101, true))⟩,
    ⟨(some 105), .op (.bin .add (.val (.int .i64 13)) (.tmp 104)), (some (101, true))⟩,
    ⟨(some 106), .op (.bin .eql (.tmp 103) (.tmp 105)), (some (101, true))⟩,
    ⟨(some 107), .op (.pick (.tmp 101) (.tmp 106) (.val (.bool false))), none⟩,
    ⟨(some 4), .op (.mov (.tmp 107)), none⟩])
  (.ret)))))))))))),
  [.tmp 4], none, none⟩
def A10 : AFun := ⟨.seq (.region [⟨(some 1), .op (.box (.tmp 0)), none⟩,
    ⟨(some 2), .op (.mov (.val .nils)), none⟩,
    ⟨(some 3), .op (.mov (.val (.int .i64 0))), none⟩])
  (.seq (.region [⟨(some 11), .op (.build [.nils, (.int .i64 0)] []), none⟩,
    ⟨(some 12), .op (.box (.tmp 11)), none⟩,
    ⟨(some 4), .op (.mov (.tmp 12)), none⟩])
  (.seq (.region [⟨(some 13), .op (.mov (.tmp 4)), none⟩,
    ⟨(some 14), .op (.fieldAddr 0 (.tmp 1)), none⟩,
    ⟨(some 15), .op (.load none (.tmp 14)), none⟩,
    ⟨(some 16), .op (.lenS (.tmp 15)), none⟩,
    ⟨(some 17), .call (.fnv 19) [(.tmp 13), (.tmp 16), (.val (.int .i64 32))], none⟩])
  (.seq (.seq (.region [⟨(some 18), .op (.fieldAddr 0 (.tmp 1)), none⟩,
     ⟨(some 19), .op (.load none (.tmp 18)), none⟩,
     ⟨(some 20), .op (.lenS (.tmp 19)), none⟩,
     ⟨(some 21), .op (.mov (.val (.int .i64 0))), none⟩])
   (.block 0 (.loop (.seq (.region [⟨(some 22), .op (.bin .lss (.tmp 21) (.tmp 20)), none⟩])
     (.seq (.cond (.tmp 22) (.skip)
      (.exit 0))
     (.seq (.block 1 (.seq (.region [⟨(some 23), .op (.idxS 2 (.tmp 19) (.tmp 21)), none⟩,
         ⟨(some 24), .op (.load (some 2) (.tmp 23)), none⟩,
         ⟨(some 6), .op (.alloc [(.bool false), .nils]), none⟩,
         ⟨none, .op (.store 2 (.tmp 6) (.tmp 24)), none⟩])
       (.seq (.region [⟨(some 25), .op (.mov (.tmp 4)), none⟩,
         ⟨(some 26), .op (.fieldAddr 0 (.tmp 6)), none⟩,
         ⟨(some 27), .op (.load none (.tmp 26)), none⟩,
         ⟨(some 28), .call (.fnv 21) [(.tmp 27)], none⟩,
         ⟨(some 29), .call (.fnv 20) [(.tmp 25), (.tmp 28)], none⟩])
       (.region [⟨(some 30), .op (.mov (.tmp 4)), none⟩,
        ⟨(some 31), .op (.fieldAddr 1 (.tmp 6)), none⟩,
        ⟨(some 32), .op (.load none (.tmp 31)), none⟩,
        ⟨(some 33), .call (.fnv 22) [(.tmp 30), (.tmp 32), (.val (.int .i64 16))], none⟩]))))
     (.region [⟨(some 34), .op (.bin .add (.tmp 21) (.val (.int .i64 1))), none⟩,
      ⟨(some 21), .op (.mov (.tmp 34)), none⟩])))))))
  (.seq (.region [⟨(some 35), .op (.mov (.tmp 4)), none⟩,
    ⟨(some 36), .op (.fieldAddr 1 (.tmp 1)), none⟩,
    ⟨(some 37), .op (.load none (.tmp 36)), none⟩,
    ⟨(some 38), .call (.fnv 22) [(.tmp 35), (.tmp 37), (.val (.int .i64 32))], none⟩])
  (.seq (.region [⟨(some 39), .op (.mov (.tmp 4)), none⟩,
    ⟨(some 40), .op (.fieldAddr 2 (.tmp 1)), none⟩,
    ⟨(some 41), .op (.load none (.tmp 40)), none⟩,
    ⟨(some 42), .op (.lenS (.tmp 41)), none⟩,
    ⟨(some 43), .call (.fnv 19) [(.tmp 39), (.tmp 42), (.val (.int .i64 32))], none⟩])
  (.seq (.seq (.region [⟨(some 44), .op (.fieldAddr 2 (.tmp 1)), none⟩,
     ⟨(some 45), .op (.load none (.tmp 44)), none⟩,
     ⟨(some 46), .op (.lenS (.tmp 45)), none⟩,
     ⟨(some 47), .op (.mov (.val (.int .i64 0))), none⟩])
   (.block 2 (.loop (.seq (.region [⟨(some 48), .op (.bin .lss (.tmp 47) (.tmp 46)), none⟩])
     (.seq (.cond (.tmp 48) (.skip)
      (.exit 2))
     (.seq (.block 3 (.seq (.region [⟨(some 49), .op (.idxS 4 (.tmp 45) (.tmp 47)), none⟩,
         ⟨(some 50), .op (.load (some 4) (.tmp 49)), none⟩,
         ⟨(some 8), .op (.alloc [(.int .i64 0), .nils, .nils, .nils]), none⟩,
         ⟨none, .op (.store 4 (.tmp 8) (.tmp 50)), none⟩])
       (.seq (.region [⟨(some 51), .op (.mov (.tmp 4)), none⟩,
         ⟨(some 52), .op (.fieldAddr 0 (.tmp 8)), none⟩,
         ⟨(some 53), .op (.load none (.tmp 52)), none⟩,
         ⟨(some 54), .call (.fnv 20) [(.tmp 51), (.tmp 53)], none⟩])
       (.seq (.region [⟨(some 55), .op (.mov (.tmp 4)), none⟩,
         ⟨(some 56), .op (.fieldAddr 1 (.tmp 8)), none⟩,
         ⟨(some 57), .op (.load none (.tmp 56)), none⟩,
         ⟨(some 58), .call (.fnv 22) [(.tmp 55), (.tmp 57), (.val (.int .i64 32))], none⟩])
       (.seq (.region [⟨(some 59), .op (.mov (.tmp 4)), none⟩,
         ⟨(some 60), .op (.fieldAddr 2 (.tmp 8)), none⟩,
         ⟨(some 61), .op (.load none (.tmp 60)), none⟩,
         ⟨(some 62), .call (.fnv 22) [(.tmp 59), (.tmp 61), (.val (.int .i64 32))], none⟩])
       (.seq (.region [⟨(some 63), .op (.mov (.tmp 4)), none⟩,
         ⟨(some 64), .op (.fieldAddr 3 (.tmp 8)), none⟩,
         ⟨(some 65), .op (.load none (.tmp 64)), none⟩,
         ⟨(some 66), .op (.lenS (.tmp 65)), none⟩,
         ⟨(some 67), .call (.fnv 19) [(.tmp 63), (.tmp 66), (.val (.int .i64 256))], none⟩])
       (.seq (.region [⟨(some 68), .op (.fieldAddr 3 (.tmp 8)), none⟩,
         ⟨(some 69), .op (.load none (.tmp 68)), none⟩,
         ⟨(some 70), .op (.lenS (.tmp 69)), none⟩,
         ⟨(some 71), .op (.mov (.val (.int .i64 0))), none⟩])
       (.block 4 (.loop (.seq (.region [⟨(some 72), .op (.bin .lss (.tmp 71) (.tmp 70)), none⟩])
         (.seq (.cond (.tmp 72) (.skip)
          (.exit 4))
         (.seq (.block 5 (.seq (.region [⟨(some 73), .op (.idxS 6 (.tmp 69) (.tmp 71)), none⟩,
             ⟨(some 74), .op (.load (some 6) (.tmp 73)), none⟩,
             ⟨(some 10), .op (.alloc [(.int .i64 0), (.int .i64 0), (.int .i64 0), (.int .i64 0), (.int .u64 0), .nils]), none⟩,
             ⟨none, .op (.store 6 (.tmp 10) (.tmp 74)), none⟩])
           (.region [⟨(some 75), .op (.mov (.tmp 4)), none⟩,
            ⟨(some 76), .op (.load (some 6) (.tmp 10)), none⟩,
            ⟨(some 77), .call (.fnv 23) [(.tmp 75), (.tmp 76)], none⟩])))
         (.region [⟨(some 78), .op (.bin .add (.tmp 71) (.val (.int .i64 1))), none⟩,
          ⟨(some 71), .op (.mov (.tmp 78)), none⟩])))))))))))))
     (.region [⟨(some 79), .op (.bin .add (.tmp 47) (.val (.int .i64 1))), none⟩,
      ⟨(some 47), .op (.mov (.tmp 79)), none⟩])))))))
  (.seq (.seq (.region [⟨(some 80), .op (.mov (.tmp 4)), none⟩,
     ⟨(some 81), .op (.nilCheck (.tmp 80)), none⟩,
     ⟨(some 82), .op (.fieldAddr 1 (.tmp 81)), none⟩,
     ⟨(some 83), .op (.load none (.tmp 82)), none⟩,
     ⟨(some 84), .op (.bin .eql (.tmp 83) (.val (.int .i64 0))), none⟩,
     ⟨(some 85), .op (.mov (.tmp 84)), none⟩,
     ⟨(some 86), .op (.mov (.tmp 4)), (some (85, true))⟩,
     ⟨(some 87), .op (.nilCheck (.tmp 86)), (some (85, true))⟩,
     ⟨(some 88), .op (.fieldAddr 0 (.tmp 87)), (some (85, true))⟩,
     ⟨(some 89), .op (.load none (.tmp 88)), (some (85, true))⟩,
     ⟨(some 90), .op (.lenS (.tmp 89)), (some (85, true))⟩,
     ⟨(some 91), .op (.bin .gtr (.tmp 90) (.val (.int .i64 16384))), (some (85, true))⟩,
     ⟨(some 92), .op (.pick (.tmp 85) (.tmp 91) (.val (.bool false))), none⟩])
   (.cond (.tmp 92) (.region [⟨(some 93), .op (.mov (.tmp 4)), none⟩,
     ⟨(some 94), .op (.nilCheck (.tmp 93)), none⟩,
     ⟨(some 95), .op (.fieldAddr 1 (.tmp 94)), none⟩,
     ⟨none, .op (.store 1 (.tmp 95) (.val (.int .i64 2))), none⟩])
   (.skip)))
  (.seq (.seq (.region [⟨(some 96), .op (.mov (.tmp 4)), none⟩,
     ⟨(some 97), .op (.nilCheck (.tmp 96)), none⟩,
     ⟨(some 98), .op (.fieldAddr 1 (.tmp 97)), none⟩,
     ⟨(some 99), .op (.load none (.tmp 98)), none⟩,
     ⟨(some 100), .op (.bin .neq (.tmp 99) (.val (.int .i64 0))), none⟩])
   (.cond (.tmp 100) (.seq (.region [⟨(some 101), .op (.mov (.tmp 4)), none⟩,
      ⟨(some 102), .op (.nilCheck (.tmp 101)), none⟩,
      ⟨(some 103), .op (.fieldAddr 1 (.tmp 102)), none⟩,
      ⟨(some 104), .op (.load none (.tmp 103)), none⟩,
      ⟨(some 2), .op (.mov (.val .nils)), none⟩,
      ⟨(some 3), .op (.mov (.tmp 104)), none⟩])
    (.ret))
   (.skip)))
  (.seq (.region [⟨(some 105), .op (.mov (.tmp 4)), none⟩,
    ⟨(some 106), .op (.nilCheck (.tmp 105)), none⟩,
    ⟨(some 107), .op (.fieldAddr 0 (.tmp 106)), none⟩,
    ⟨(some 108), .op (.load none (.tmp 107)), none⟩,
    ⟨(some 2), .op (.mov (.tmp 108)), none⟩,
    ⟨(some 3), .op (.mov (.val (.int .i64 0))), none⟩])
  (.ret)))))))))),
  [.tmp 2, .tmp 3], none, none⟩
def A11 : AFun := ⟨.seq (.region [⟨(some 1), .op (.box (.tmp 0)), none⟩,
    ⟨(some 2), .op (.mov (.val .nils)), none⟩,
    ⟨(some 3), .op (.mov (.val (.int .i64 0))), none⟩])
  (.seq (.region [⟨(some 9), .op (.build [.nils, (.int .i64 0)] []), none⟩,
    ⟨(some 10), .op (.box (.tmp 9)), none⟩,
    ⟨(some 4), .op (.mov (.tmp 10)), none⟩])
  (.seq (.region [⟨(some 11), .op (.mov (.tmp 4)), none⟩,
    ⟨(some 12), .op (.fieldAddr 0 (.tmp 1)), none⟩,
    ⟨(some 13), .op (.load none (.tmp 12)), none⟩,
    ⟨(some 14), .op (.lenS (.tmp 13)), none⟩,
    ⟨(some 15), .call (.fnv 24) [(.tmp 11), (.tmp 14), (.val (.int .i64 32))], none⟩])
  (.seq (.seq (.region [⟨(some 5), .op (.mov (.val (.int .i64 0))), none⟩])
   (.block 0 (.loop (.seq (.seq (.region [⟨(some 16), .op (.mov (.tmp 5)), none⟩,
        ⟨(some 17), .op (.fieldAddr 0 (.tmp 1)), none⟩,
        ⟨(some 18), .op (.load none (.tmp 17)), none⟩,
        ⟨(some 19), .op (.lenS (.tmp 18)), none⟩,
        ⟨(some 20), .op (.bin .lss (.tmp 16) (.tmp 19)), none⟩])
      (.cond (.tmp 20) (.skip)
      (.exit 0)))
     (.seq (.block 1 (.seq (.seq (.region [⟨(some 23), .op (.fieldAddr 0 (.tmp 1)), none⟩,
          ⟨(some 24), .op (.load none (.tmp 23)), none⟩,
          ⟨(some 25), .op (.mov (.tmp 5)), none⟩,
          ⟨(some 26), .op (.idxS 2 (.tmp 24) (.tmp 25)), none⟩,
          ⟨(some 27), .op (.fieldAddr 0 (.tmp 26)), none⟩,
          ⟨(some 28), .op (.load none (.tmp 27)), none⟩])
        (.cond (.tmp 28) (.region [⟨(some 29), .op (.mov (.tmp 4)), none⟩,
          ⟨(some 30), .call (.fnv 25) [(.tmp 29), (.val (.int .i64 1))], none⟩])
        (.region [⟨(some 31), .op (.mov (.tmp 4)), none⟩,
         ⟨(some 32), .call (.fnv 25) [(.tmp 31), (.val (.int .i64 0))], none⟩])))
       (.region [⟨(some 33), .op (.mov (.tmp 4)), none⟩,
        ⟨(some 34), .op (.fieldAddr 0 (.tmp 1)), none⟩,
        ⟨(some 35), .op (.load none (.tmp 34)), none⟩,
        ⟨(some 36), .op (.mov (.tmp 5)), none⟩,
        ⟨(some 37), .op (.idxS 2 (.tmp 35) (.tmp 36)), none⟩,
        ⟨(some 38), .op (.fieldAddr 1 (.tmp 37)), none⟩,
        ⟨(some 39), .op (.load none (.tmp 38)), none⟩,
        ⟨(some 40), .call (.fnv 26) [(.tmp 33), (.tmp 39), (.val (.int .i64 16))], none⟩])))
     (.region [⟨(some 21), .op (.mov (.tmp 5)), none⟩,
      ⟨(some 22), .op (.bin .add (.tmp 21) (.val (.int .i64 1))), none⟩,
      ⟨(some 5), .op (.mov (.tmp 22)), none⟩]))))))
  (.seq (.region [⟨(some 41), .op (.mov (.tmp 4)), none⟩,
    ⟨(some 42), .op (.fieldAddr 1 (.tmp 1)), none⟩,
    ⟨(some 43), .op (.load none (.tmp 42)), none⟩,
    ⟨(some 44), .call (.fnv 26) [(.tmp 41), (.tmp 43), (.val (.int .i64 32))], none⟩])
  (.seq (.region [⟨(some 45), .op (.mov (.tmp 4)), none⟩,
    ⟨(some 46), .op (.fieldAddr 2 (.tmp 1)), none⟩,
    ⟨(some 47), .op (.load none (.tmp 46)), none⟩,
    ⟨(some 48), .op (.lenS (.tmp 47)), none⟩,
    ⟨(some 49), .call (.fnv 24) [(.tmp 45), (.tmp 48), (.val (.int .i64 32))], none⟩])
  (.seq (.seq (.region [⟨(some 6), .op (.mov (.val (.int .i64 0))), none⟩])
   (.block 2 (.loop (.seq (.seq (.region [⟨(some 50), .op (.mov (.tmp 6)), none⟩,
        ⟨(some 51), .op (.fieldAddr 2 (.tmp 1)), none⟩,
        ⟨(some 52), .op (.load none (.tmp 51)), none⟩,
        ⟨(some 53), .op (.lenS (.tmp 52)), none⟩,
        ⟨(some 54), .op (.bin .lss (.tmp 50) (.tmp 53)), none⟩])
      (.cond (.tmp 54) (.skip)
      (.exit 2)))
     (.seq (.block 3 (.seq (.region [⟨(some 57), .op (.fieldAddr 2 (.tmp 1)), none⟩,
         ⟨(some 58), .op (.load none (.tmp 57)), none⟩,
         ⟨(some 59), .op (.mov (.tmp 6)), none⟩,
         ⟨(some 60), .op (.idxS 4 (.tmp 58) (.tmp 59)), none⟩,
         ⟨(some 61), .op (.load (some 4) (.tmp 60)), none⟩,
         ⟨(some 7), .op (.alloc [(.int .i64 0), .nils, .nils, .nils]), none⟩,
         ⟨none, .op (.store 4 (.tmp 7) (.tmp 61)), none⟩])
       (.seq (.region [⟨(some 62), .op (.mov (.tmp 4)), none⟩,
         ⟨(some 63), .op (.fieldAddr 0 (.tmp 7)), none⟩,
         ⟨(some 64), .op (.load none (.tmp 63)), none⟩,
         ⟨(some 65), .call (.fnv 25) [(.tmp 62), (.tmp 64)], none⟩])
       (.seq (.region [⟨(some 66), .op (.mov (.tmp 4)), none⟩,
         ⟨(some 67), .op (.fieldAddr 1 (.tmp 7)), none⟩,
         ⟨(some 68), .op (.load none (.tmp 67)), none⟩,
         ⟨(some 69), .call (.fnv 26) [(.tmp 66), (.tmp 68), (.val (.int .i64 32))], none⟩])
       (.seq (.region [⟨(some 70), .op (.mov (.tmp 4)), none⟩,
         ⟨(some 71), .op (.fieldAddr 2 (.tmp 7)), none⟩,
         ⟨(some 72), .op (.load none (.tmp 71)), none⟩,
         ⟨(some 73), .call (.fnv 26) [(.tmp 70), (.tmp 72), (.val (.int .i64 32))], none⟩])
       (.seq (.region [⟨(some 74), .op (.mov (.tmp 4)), none⟩,
         ⟨(some 75), .op (.fieldAddr 3 (.tmp 7)), none⟩,
         ⟨(some 76), .op (.load none (.tmp 75)), none⟩,
         ⟨(some 77), .op (.lenS (.tmp 76)), none⟩,
         ⟨(some 78), .call (.fnv 24) [(.tmp 74), (.tmp 77), (.val (.int .i64 256))], none⟩])
       (.seq (.region [⟨(some 8), .op (.mov (.val (.int .i64 0))), none⟩])
       (.block 4 (.loop (.seq (.seq (.region [⟨(some 79), .op (.mov (.tmp 8)), none⟩,
            ⟨(some 80), .op (.fieldAddr 3 (.tmp 7)), none⟩,
            ⟨(some 81), .op (.load none (.tmp 80)), none⟩,
            ⟨(some 82), .op (.lenS (.tmp 81)), none⟩,
            ⟨(some 83), .op (.bin .lss (.tmp 79) (.tmp 82)), none⟩])
          (.cond (.tmp 83) (.skip)
          (.exit 4)))
         (.seq (.block 5 (.region [⟨(some 86), .op (.mov (.tmp 4)), none⟩,
            ⟨(some 87), .op (.fieldAddr 3 (.tmp 7)), none⟩,
            ⟨(some 88), .op (.load none (.tmp 87)), none⟩,
            ⟨(some 89), .op (.mov (.tmp 8)), none⟩,
            ⟨(some 90), .op (.idxS 6 (.tmp 88) (.tmp 89)), none⟩,
            ⟨(some 91), .op (.load (some 6) (.tmp 90)), none⟩,
            ⟨(some 92), .call (.fnv 27) [(.tmp 86), (.tmp 91)], none⟩]))
         (.region [⟨(some 84), .op (.mov (.tmp 8)), none⟩,
          ⟨(some 85), .op (.bin .add (.tmp 84) (.val (.int .i64 1))), none⟩,
          ⟨(some 8), .op (.mov (.tmp 85)), none⟩]))))))))))))
     (.region [⟨(some 55), .op (.mov (.tmp 6)), none⟩,
      ⟨(some 56), .op (.bin .add (.tmp 55) (.val (.int .i64 1))), none⟩,
      ⟨(some 6), .op (.mov (.tmp 56)), none⟩]))))))
  (.seq (.seq (.region [⟨(some 93), .op (.mov (.tmp 4)), none⟩,
     ⟨(some 94), .op (.nilCheck (.tmp 93)), none⟩,
     ⟨(some 95), .op (.fieldAddr 1 (.tmp 94)), none⟩,
     ⟨(some 96), .op (.load none (.tmp 95)), none⟩,
     ⟨(some 97), .op (.bin .eql (.tmp 96) (.val (.int .i64 0))), none⟩,
     ⟨(some 98), .op (.mov (.tmp 97)), none⟩,
     ⟨(some 99), .op (.mov (.tmp 4)), (some (98, true))⟩,
     ⟨(some 100), .op (.nilCheck (.tmp 99)), (some (98, true))⟩,
     ⟨(some 101), .op (.fieldAddr 0 (.tmp 100)), (some (98, true))⟩,
     ⟨(some 102), .op (.load none (.tmp 101)), (some (98, true))⟩,
     ⟨(some 103), .op (.lenS (.tmp 102)), (some (98, true))⟩,
     ⟨(some 104), .op (.bin .gtr (.tmp 103) (.val (.int .i64 16384))), (some (98, true))⟩,
     ⟨(some 105), .op (.pick (.tmp 98) (.tmp 104) (.val (.bool false))), none⟩])
   (.cond (.tmp 105) (.region [⟨(some 106), .op (.mov (.tmp 4)), none⟩,
     ⟨(some 107), .op (.nilCheck (.tmp 106)), none⟩,
     ⟨(some 108), .op (.fieldAddr 1 (.tmp 107)), none⟩,
     ⟨none, .op (.store 1 (.tmp 108) (.val (.int .i64 2))), none⟩])
   (.skip)))
  (.seq (.seq (.region [⟨(some 109), .op (.mov (.tmp 4)), none⟩,
     ⟨(some 110), .op (.nilCheck (.tmp 109)), none⟩,
     ⟨(some 111), .op (.fieldAddr 1 (.tmp 110)), none⟩,
     ⟨(some 112), .op (.load none (.tmp 111)), none⟩,
     ⟨(some 113), .op (.bin .neq (.tmp 112) (.val (.int .i64 0))), none⟩])
   (.cond (.tmp 113) (.seq (.region [⟨(some 114), .op (.mov (.tmp 4)), none⟩,
      ⟨(some 115), .op (.nilCheck (.tmp 114)), none⟩,
      ⟨(some 116), .op (.fieldAddr 1 (.tmp 115)), none⟩,
      ⟨(some 117), .op (.load none (.tmp 116)), none⟩,
      ⟨(some 2), .op (.mov (.val .nils)), none⟩,
      ⟨(some 3), .op (.mov (.tmp 117)), none⟩])
    (.ret))
   (.skip)))
  (.seq (.region [⟨(some 118), .op (.mov (.tmp 4)), none⟩,
    ⟨(some 119), .op (.nilCheck (.tmp 118)), none⟩,
    ⟨(some 120), .op (.fieldAddr 0 (.tmp 119)), none⟩,
    ⟨(some 121), .op (.load none (.tmp 120)), none⟩,
    ⟨(some 2), .op (.mov (.tmp 121)), none⟩,
    ⟨(some 3), .op (.mov (.val (.int .i64 0))), none⟩])
  (.ret)))))))))),
  [.tmp 2, .tmp 3], none, none⟩
def A12 : AFun := ⟨.seq (.region [⟨(some 0), .op (.mov (.val (.bool false))), none⟩])
  (.seq (.region [⟨(some 6), .call (.fnv 18) [], none⟩,
    ⟨(some 7), .call (.fnv 10) [(.tmp 6)], none⟩,
    ⟨(some 5), .op (.mov (.tmp 7)), none⟩,
    ⟨(some 8), .op (.extract (.tmp 5) 0), none⟩,
    ⟨(some 9), .op (.extract (.tmp 5) 1), none⟩,
    ⟨(some 1), .op (.mov (.tmp 8)), none⟩,
    ⟨(some 2), .op (.mov (.tmp 9)), none⟩])
  (.seq (.region [⟨(some 11), .op (.mov (.tmp 1)), none⟩,
    ⟨(some 12), .call (.fnv 14) [(.tmp 11)], none⟩,
    ⟨(some 10), .op (.mov (.tmp 12)), none⟩,
    ⟨(some 13), .op (.extract (.tmp 10) 0), none⟩,
    ⟨(some 14), .op (.extract (.tmp 10) 1), none⟩,
    ⟨(some 3), .op (.alloc [.nils, .nils, .nils]), none⟩,
    ⟨(some 4), .op (.alloc [(.int .i64 0), (.int .i64 0), (.int .i64 0)]), none⟩,
    ⟨none, .op (.store 3 (.tmp 3) (.tmp 13)), none⟩,
    ⟨none, .op (.store 3 (.tmp 4) (.tmp 14)), none⟩])
  (.seq (.draw [⟨⟨(some 15), .op (.mov (.tmp 2)), none⟩, .pure⟩,
    ⟨⟨(some 16), .op (.bin .eql (.tmp 15) (.val (.int .i64 0))), none⟩, .pure⟩,
    ⟨⟨(some 17), .op (.mov (.tmp 16)), none⟩, .pure⟩,
    ⟨⟨(some 18), .op (.fieldAddr 0 (.tmp 4)), (some (17, true))⟩, .pure⟩,
    ⟨⟨(some 19), .op (.load none (.tmp 18)), (some (17, true))⟩, .read []⟩,
    ⟨⟨(some 20), .op (.bin .eql (.tmp 19) (.val (.int .i64 0))), (some (17, true))⟩, .pure⟩,
    ⟨⟨(some 21), .op (.pick (.tmp 17) (.tmp 20) (.val (.bool false))), none⟩, .pure⟩,
    ⟨⟨(some 22), .op (.mov (.tmp 21)), none⟩, .pure⟩,
    ⟨⟨(some 23), .op (.mov (.tmp 1)), (some (22, true))⟩, .pure⟩,
    ⟨⟨(some 24), .op (.lenS (.tmp 23)), (some (22, true))⟩, .pure⟩,
    ⟨⟨(some 25), .op (.bin .gtr (.tmp 24) (.val (.int .i64 9))), (some (22, true))⟩, .pure⟩,
    ⟨⟨(some 26), .op (.pick (.tmp 22) (.tmp 25) (.val (.bool false))), none⟩, .pure⟩,
    ⟨⟨(some 27), .op (.mov (.tmp 26)), none⟩, .pure⟩,
    ⟨⟨(some 28), .op (.load (some 3) (.tmp 3)), (some (27, true))⟩, .read [15]⟩,
    ⟨⟨(some 29), .call (.fnv 18) [], (some (27, true))⟩, .act true⟩,
    ⟨⟨(some 30), .call (.fnv 16) [(.tmp 28), (.tmp 29)], (some (27, true))⟩, .act true⟩,
    ⟨⟨(some 31), .op (.pick (.tmp 27) (.tmp 30) (.val (.bool false))), none⟩, .pure⟩,
    ⟨⟨(some 0), .op (.mov (.tmp 31)), none⟩, .pure⟩])
  (.ret)))),
  [.tmp 0], none, none⟩
def A13 : AFun := ⟨.seq (.region [⟨(some 4), .op (.mov (.val (.bool false))), none⟩])
  (.seq (.region [⟨(some 5), .op (.mov (.tmp 0)), none⟩,
    ⟨(some 6), .op (.b2s (.tmp 5)), none⟩,
    ⟨(some 7), .op (.mov (.tmp 1)), none⟩,
    ⟨(some 8), .op (.b2s (.tmp 7)), none⟩,
    ⟨(some 9), .op (.bin .eql (.tmp 6) (.tmp 8)), none⟩,
    ⟨(some 4), .op (.mov (.tmp 9)), none⟩])
  (.ret)),
  [.tmp 4], none, none⟩
def A14 : AFun := ⟨.seq (.region [⟨(some 2), .op (.alloc [.nils, .nils, .nils]), none⟩,
    ⟨(some 3), .op (.alloc [(.int .i64 0), (.int .i64 0), (.int .i64 0)]), none⟩])
  (.seq (.seq (.region [⟨(some 5), .op (.mov (.tmp 0)), none⟩,
     ⟨(some 6), .op (.lenS (.tmp 5)), none⟩,
     ⟨(some 7), .op (.bin .gtr (.tmp 6) (.val (.int .i64 16384))), none⟩])
   (.cond (.tmp 7) (.seq (.region [⟨(some 8), .op (.load (some 3) (.tmp 2)), none⟩,
      ⟨(some 9), .op (.build [(.int .i64 0), (.int .i64 0), (.int .i64 0)] [(0, 1, (.val (.int .i64 2))), (1, 1, (.val (.int .i64 (-1))))]), none⟩,
      ⟨none, .op (.store 3 (.tmp 2) (.tmp 8)), none⟩,
      ⟨none, .op (.store 3 (.tmp 3) (.tmp 9)), none⟩])
    (.ret))
   (.skip)))
  (.region [⟨(some 10), .op (.mkFn (.func 28) [] [(.tmp 2), (.tmp 3)]), none⟩])),
  [.cell 2 (some 3), .cell 3 (some 3)], some ((.tmp 10),
   .seq (.region [⟨(some 11), .op (.mov (.tmp 0)), none⟩,
     ⟨(some 12), .op (.build [.nils, (.int .i64 0)] [(0, 1, (.tmp 11))]), none⟩,
     ⟨(some 13), .op (.box (.tmp 12)), none⟩,
     ⟨(some 4), .op (.mov (.tmp 13)), none⟩])
   (.seq (.region [⟨(some 14), .op (.mov (.tmp 4)), none⟩,
     ⟨(some 15), .call (.fnv 29) [(.tmp 14)], none⟩,
     ⟨(some 16), .op (.build [(.int .i64 0), (.int .i64 0), (.int .i64 0)] []), none⟩,
     ⟨none, .op (.store 3 (.tmp 2) (.tmp 15)), none⟩,
     ⟨none, .op (.store 3 (.tmp 3) (.tmp 16)), none⟩])
   (.ret))), none⟩
def A15 : AFun := ⟨.seq (.region [⟨(some 2), .op (.alloc [.nils, .nils, .nils]), none⟩,
    ⟨(some 3), .op (.mov (.val (.int .i64 0))), none⟩,
    ⟨(some 4), .op (.mov (.val (.int .i64 0))), none⟩])
  (.seq (.seq (.region [⟨(some 11), .op (.mov (.tmp 0)), none⟩,
     ⟨(some 12), .op (.lenS (.tmp 11)), none⟩,
     ⟨(some 13), .op (.bin .gtr (.tmp 12) (.val (.int .i64 16384))), none⟩])
   (.cond (.tmp 13) (.seq (.region [⟨(some 14), .op (.build [.nils, .nils, .nils] []), none⟩,
      ⟨none, .op (.store 3 (.tmp 2) (.tmp 14)), none⟩,
      ⟨(some 3), .op (.mov (.val (.int .i64 2))), none⟩,
      ⟨(some 4), .op (.mov (.val (.int .i64 0))), none⟩])
    (.ret))
   (.skip)))
  (.seq (.region [⟨(some 15), .op (.mov (.tmp 0)), none⟩,
    ⟨(some 16), .op (.build [.nils, (.int .i64 0), (.int .i64 0), (.int .i64 0)] [(0, 1, (.tmp 15))]), none⟩,
    ⟨(some 17), .op (.box (.tmp 16)), none⟩,
    ⟨(some 5), .op (.mov (.tmp 17)), none⟩])
  (.seq (.region [⟨(some 6), .op (.alloc [.nils, .nils, .nils]), none⟩])
  (.seq (.region [⟨(some 18), .op (.mov (.tmp 5)), none⟩,
    ⟨(some 19), .call (.fnv 30) [(.tmp 18), (.val (.int .i64 32)), (.val (.int .i64 16))], none⟩,
    ⟨(some 7), .op (.mov (.tmp 19)), none⟩])
  (.seq (.seq (.region [⟨(some 8), .op (.mov (.val (.int .i64 0))), none⟩])
   (.block 0 (.loop (.seq (.seq (.region [⟨(some 20), .op (.mov (.tmp 8)), none⟩,
        ⟨(some 21), .op (.mov (.tmp 7)), none⟩,
        ⟨(some 22), .op (.bin .lss (.tmp 20) (.tmp 21)), none⟩,
        ⟨(some 23), .op (.mov (.tmp 22)), none⟩,
        ⟨(some 24), .op (.mov (.tmp 5)), (some (23, true))⟩,
        ⟨(some 25), .op (.nilCheck (.tmp 24)), (some (23, true))⟩,
        ⟨(some 26), .op (.fieldAddr 2 (.tmp 25)), (some (23, true))⟩,
        ⟨(some 27), .op (.load none (.tmp 26)), (some (23, true))⟩,
        ⟨(some 28), .op (.bin .eql (.tmp 27) (.val (.int .i64 0))), (some (23, true))⟩,
        ⟨(some 29), .op (.pick (.tmp 23) (.tmp 28) (.val (.bool false))), none⟩])
      (.cond (.tmp 29) (.skip)
      (.exit 0)))
     (.seq (.block 1 (.seq (.region [⟨(some 9), .op (.alloc [(.bool false), .nils]), none⟩])
       (.seq (.region [⟨(some 32), .op (.mov (.tmp 5)), none⟩,
         ⟨(some 33), .call (.fnv 30) [(.tmp 32), (.val (.int .i64 1)), (.val (.int .i64 8))], none⟩,
         ⟨(some 34), .op (.bin .eql (.tmp 33) (.val (.int .i64 1))), none⟩,
         ⟨(some 35), .op (.fieldAddr 0 (.tmp 9)), none⟩,
         ⟨none, .op (.store 1 (.tmp 35) (.tmp 34)), none⟩])
       (.seq (.region [⟨(some 36), .op (.mov (.tmp 5)), none⟩,
         ⟨(some 37), .call (.fnv 31) [(.tmp 36), (.val (.int .i64 16))], none⟩,
         ⟨(some 38), .op (.fieldAddr 1 (.tmp 9)), none⟩,
         ⟨none, .op (.store 1 (.tmp 38) (.tmp 37)), none⟩])
       (.region [⟨(some 39), .op (.fieldAddr 0 (.tmp 6)), none⟩,
        ⟨(some 40), .op (.load none (.tmp 39)), none⟩,
        ⟨(some 41), .op (.load (some 2) (.tmp 9)), none⟩,
        ⟨(some 42), .op (.buildSlice 2 1 [(.bool false), .nils] [(0, (.tmp 41))]), none⟩,
        ⟨(some 43), .op (.append 2 32 (.tmp 40) (.tmp 42)), none⟩,
        ⟨(some 44), .op (.fieldAddr 0 (.tmp 6)), none⟩,
        ⟨none, .op (.store 1 (.tmp 44) (.tmp 43)), none⟩])))))
     (.region [⟨(some 30), .op (.mov (.tmp 8)), none⟩,
      ⟨(some 31), .op (.bin .add (.tmp 30) (.val (.int .i64 1))), none⟩,
      ⟨(some 8), .op (.mov (.tmp 31)), none⟩]))))))
  (.seq (.region [⟨(some 45), .op (.mov (.tmp 5)), none⟩,
    ⟨(some 46), .call (.fnv 31) [(.tmp 45), (.val (.int .i64 32))], none⟩,
    ⟨(some 47), .op (.fieldAddr 1 (.tmp 6)), none⟩,
    ⟨none, .op (.store 1 (.tmp 47) (.tmp 46)), none⟩])
  (.seq (.region [⟨(some 48), .op (.mov (.tmp 5)), none⟩,
    ⟨(some 49), .call (.fnv 30) [(.tmp 48), (.val (.int .i64 32)), (.val (.int .i64 16))], none⟩,
    ⟨(some 7), .op (.mov (.tmp 49)), none⟩])
  (.seq (.seq (.region [⟨(some 10), .op (.mov (.val (.int .i64 0))), none⟩])
   (.block 2 (.loop (.seq (.seq (.region [⟨(some 50), .op (.mov (.tmp 10)), none⟩,
        ⟨(some 51), .op (.mov (.tmp 7)), none⟩,
        ⟨(some 52), .op (.bin .lss (.tmp 50) (.tmp 51)), none⟩,
        ⟨(some 53), .op (.mov (.tmp 52)), none⟩,
        ⟨(some 54), .op (.mov (.tmp 5)), (some (53, true))⟩,
        ⟨(some 55), .op (.nilCheck (.tmp 54)), (some (53, true))⟩,
        ⟨(some 56), .op (.fieldAddr 2 (.tmp 55)), (some (53, true))⟩,
        ⟨(some 57), .op (.load none (.tmp 56)), (some (53, true))⟩,
        ⟨(some 58), .op (.bin .eql (.tmp 57) (.val (.int .i64 0))), (some (53, true))⟩,
        ⟨(some 59), .op (.pick (.tmp 53) (.tmp 58) (.val (.bool false))), none⟩])
      (.cond (.tmp 59) (.skip)
      (.exit 2)))
     (.seq (.block 3 (.draw [⟨⟨(some 62), .op (.fieldAddr 2 (.tmp 6)), none⟩, .pure⟩,
        ⟨⟨(some 63), .op (.load none (.tmp 62)), none⟩, .read [4, 5]⟩,
        ⟨⟨(some 64), .op (.mov (.tmp 5)), none⟩, .pure⟩,
        ⟨⟨(some 65), .call (.fnv 32) [(.tmp 64)], none⟩, .act true⟩,
        ⟨⟨(some 66), .op (.buildSlice 4 1 [(.int .i64 0), .nils, .nils, .nils] [(0, (.tmp 65))]), none⟩, .act true⟩,
        ⟨⟨(some 67), .op (.append 4 80 (.tmp 63) (.tmp 66)), none⟩, .act true⟩,
        ⟨⟨(some 68), .op (.fieldAddr 2 (.tmp 6)), none⟩, .pure⟩,
        ⟨⟨none, .op (.store 1 (.tmp 68) (.tmp 67)), none⟩, .act true⟩]))
     (.region [⟨(some 60), .op (.mov (.tmp 10)), none⟩,
      ⟨(some 61), .op (.bin .add (.tmp 60) (.val (.int .i64 1))), none⟩,
      ⟨(some 10), .op (.mov (.tmp 61)), none⟩]))))))
  (.seq (.seq (.region [⟨(some 69), .op (.mov (.tmp 5)), none⟩,
     ⟨(some 70), .op (.nilCheck (.tmp 69)), none⟩,
     ⟨(some 71), .op (.fieldAddr 1 (.tmp 70)), none⟩,
     ⟨(some 72), .op (.load none (.tmp 71)), none⟩,
     ⟨(some 73), .op (.mov (.tmp 0)), none⟩,
     ⟨(some 74), .op (.lenS (.tmp 73)), none⟩,
     ⟨(some 75), .op (.bin .lss (.tmp 72) (.tmp 74)), none⟩])
   (.cond (.tmp 75) (.region [⟨(some 76), .op (.mov (.tmp 5)), none⟩,
     ⟨(some 77), .op (.mov (.tmp 5)), none⟩,
     ⟨(some 78), .op (.nilCheck (.tmp 77)), none⟩,
     ⟨(some 79), .op (.fieldAddr 1 (.tmp 78)), none⟩,
     ⟨(some 80), .op (.load none (.tmp 79)), none⟩,
     ⟨(some 81), .call (.fnv 33) [(.tmp 76), (.val (.int .i64 7)), (.tmp 80)], none⟩])
   (.skip)))
  (.seq (.seq (.region [⟨(some 82), .op (.mov (.tmp 5)), none⟩,
     ⟨(some 83), .op (.nilCheck (.tmp 82)), none⟩,
     ⟨(some 84), .op (.fieldAddr 2 (.tmp 83)), none⟩,
     ⟨(some 85), .op (.load none (.tmp 84)), none⟩,
     ⟨(some 86), .op (.bin .neq (.tmp 85) (.val (.int .i64 0))), none⟩])
   (.cond (.tmp 86) (.seq (.draw [⟨⟨(some 87), .op (.build [.nils, .nils, .nils] []), none⟩, .pure⟩,
      ⟨⟨(some 88), .op (.mov (.tmp 5)), none⟩, .pure⟩,
      ⟨⟨(some 89), .op (.nilCheck (.tmp 88)), none⟩, .pure⟩,
      ⟨⟨(some 90), .op (.fieldAddr 2 (.tmp 89)), none⟩, .pure⟩,
      ⟨⟨(some 91), .op (.load none (.tmp 90)), none⟩, .read [12]⟩,
      ⟨⟨(some 92), .op (.mov (.tmp 5)), none⟩, .pure⟩,
      ⟨⟨(some 93), .op (.nilCheck (.tmp 92)), none⟩, .pure⟩,
      ⟨⟨(some 94), .op (.fieldAddr 3 (.tmp 93)), none⟩, .pure⟩,
      ⟨⟨(some 95), .op (.load none (.tmp 94)), none⟩, .read [12]⟩,
      ⟨⟨none, .op (.store 3 (.tmp 2) (.tmp 87)), none⟩, .act true⟩,
      ⟨⟨(some 3), .op (.mov (.tmp 91)), none⟩, .pure⟩,
      ⟨⟨(some 4), .op (.mov (.tmp 95)), none⟩, .pure⟩])
    (.ret))
   (.skip)))
  (.seq (.region [⟨(some 96), .op (.load (some 3) (.tmp 6)), none⟩,
    ⟨none, .op (.store 3 (.tmp 2) (.tmp 96)), none⟩,
    ⟨(some 3), .op (.mov (.val (.int .i64 0))), none⟩,
    ⟨(some 4), .op (.mov (.val (.int .i64 0))), none⟩])
  (.ret)))))))))))),
  [.cell 2 (some 3), .tmp 3, .tmp 4], none, none⟩
def A16 : AFun := ⟨.seq (.region [⟨(some 2), .op (.box (.tmp 0)), none⟩,
    ⟨(some 3), .op (.box (.tmp 1)), none⟩,
    ⟨(some 4), .op (.mov (.val (.bool false))), none⟩])
  (.seq (.seq (.region [⟨(some 10), .op (.fieldAddr 0 (.tmp 2)), none⟩,
     ⟨(some 11), .op (.load none (.tmp 10)), none⟩,
     ⟨(some 12), .op (.lenS (.tmp 11)), none⟩,
     ⟨(some 13), .op (.fieldAddr 0 (.tmp 3)), none⟩,
     ⟨(some 14), .op (.load none (.tmp 13)), none⟩,
     ⟨(some 15), .op (.lenS (.tmp 14)), none⟩,
     ⟨(some 16), .op (.bin .neq (.tmp 12) (.tmp 15)), none⟩,
     ⟨(some 17), .op (.mov (.tmp 16)), none⟩,
     ⟨(some 18), .op (.fieldAddr 2 (.tmp 2)), (some (17, false))⟩,
     ⟨(some 19), .op (.load none (.tmp 18)), (some (17, false))⟩,
     ⟨(some 20), .op (.lenS (.tmp 19)), (some (17, false))⟩,
     ⟨(some 21), .op (.fieldAddr 2 (.tmp 3)), (some (17, false))⟩,
     ⟨(some 22), .op (.load none (.tmp 21)), (some (17, false))⟩,
     ⟨(some 23), .op (.lenS (.tmp 22)), (some (17, false))⟩,
     ⟨(some 24), .op (.bin .neq (.tmp 20) (.tmp 23)), (some (17, false))⟩,
     ⟨(some 25), .op (.pick (.tmp 17) (.val (.bool true)) (.tmp 24)), none⟩,
     ⟨(some 26), .op (.mov (.tmp 25)), none⟩,
     ⟨(some 27), .op (.fieldAddr 1 (.tmp 2)), (some (26, false))⟩,
     ⟨(some 28), .op (.load none (.tmp 27)), (some (26, false))⟩,
     ⟨(some 29), .op (.fieldAddr 1 (.tmp 3)), (some (26, false))⟩,
     ⟨(some 30), .op (.load none (.tmp 29)), (some (26, false))⟩,
     ⟨(some 31), .call (.fnv 34) [(.tmp 28), (.tmp 30)], (some (26, false))⟩,
     ⟨(some 32), .op (.un .not (.tmp 31)), (some (26, false))⟩,
     ⟨(some 33), .op (.pick (.tmp 26) (.val (.bool true)) (.tmp 32)), none⟩])
   (.cond (.tmp 33) (.seq (.region [⟨(some 4), .op (.mov (.val (.bool false))), none⟩])
    (.ret))
   (.skip)))
  (.seq (.seq (.region [⟨(some 5), .op (.mov (.val (.int .i64 0))), none⟩])
   (.block 0 (.loop (.seq (.seq (.region [⟨(some 34), .op (.mov (.tmp 5)), none⟩,
        ⟨(some 35), .op (.fieldAddr 0 (.tmp 2)), none⟩,
        ⟨(some 36), .op (.load none (.tmp 35)), none⟩,
        ⟨(some 37), .op (.lenS (.tmp 36)), none⟩,
        ⟨(some 38), .op (.bin .lss (.tmp 34) (.tmp 37)), none⟩])
      (.cond (.tmp 38) (.skip)
      (.exit 0)))
     (.seq (.block 1 (.seq (.draw [⟨⟨(some 41), .op (.fieldAddr 0 (.tmp 2)), none⟩, .pure⟩,
         ⟨⟨(some 42), .op (.load none (.tmp 41)), none⟩, .read []⟩,
         ⟨⟨(some 43), .op (.mov (.tmp 5)), none⟩, .pure⟩,
         ⟨⟨(some 44), .op (.idxS 2 (.tmp 42) (.tmp 43)), none⟩, .read []⟩,
         ⟨⟨(some 45), .op (.fieldAddr 0 (.tmp 44)), none⟩, .pure⟩,
         ⟨⟨(some 46), .op (.load none (.tmp 45)), none⟩, .read []⟩,
         ⟨⟨(some 47), .op (.fieldAddr 0 (.tmp 3)), none⟩, .pure⟩,
         ⟨⟨(some 48), .op (.load none (.tmp 47)), none⟩, .read []⟩,
         ⟨⟨(some 49), .op (.mov (.tmp 5)), none⟩, .pure⟩,
         ⟨⟨(some 50), .op (.idxS 2 (.tmp 48) (.tmp 49)), none⟩, .read []⟩,
         ⟨⟨(some 51), .op (.fieldAddr 0 (.tmp 50)), none⟩, .pure⟩,
         ⟨⟨(some 52), .op (.load none (.tmp 51)), none⟩, .read []⟩,
         ⟨⟨(some 53), .op (.eql true .bool (.tmp 46) (.tmp 52)), none⟩, .pure⟩,
         ⟨⟨(some 54), .op (.mov (.tmp 53)), none⟩, .pure⟩,
         ⟨⟨(some 55), .op (.fieldAddr 0 (.tmp 2)), (some (54, false))⟩, .pure⟩,
         ⟨⟨(some 56), .op (.load none (.tmp 55)), (some (54, false))⟩, .read []⟩,
         ⟨⟨(some 57), .op (.mov (.tmp 5)), (some (54, false))⟩, .pure⟩,
         ⟨⟨(some 58), .op (.idxS 2 (.tmp 56) (.tmp 57)), (some (54, false))⟩, .read []⟩,
         ⟨⟨(some 59), .op (.fieldAddr 1 (.tmp 58)), (some (54, false))⟩, .pure⟩,
         ⟨⟨(some 60), .op (.load none (.tmp 59)), (some (54, false))⟩, .read []⟩,
         ⟨⟨(some 61), .op (.fieldAddr 0 (.tmp 3)), (some (54, false))⟩, .pure⟩,
         ⟨⟨(some 62), .op (.load none (.tmp 61)), (some (54, false))⟩, .read []⟩,
         ⟨⟨(some 63), .op (.mov (.tmp 5)), (some (54, false))⟩, .pure⟩,
         ⟨⟨(some 64), .op (.idxS 2 (.tmp 62) (.tmp 63)), (some (54, false))⟩, .read []⟩,
         ⟨⟨(some 65), .op (.fieldAddr 1 (.tmp 64)), (some (54, false))⟩, .pure⟩,
         ⟨⟨(some 66), .op (.load none (.tmp 65)), (some (54, false))⟩, .read []⟩,
         ⟨⟨(some 67), .call (.fnv 34) [(.tmp 60), (.tmp 66)], (some (54, false))⟩, .act true⟩,
         ⟨⟨(some 68), .op (.un .not (.tmp 67)), (some (54, false))⟩, .pure⟩,
         ⟨⟨(some 69), .op (.pick (.tmp 54) (.val (.bool true)) (.tmp 68)), none⟩, .pure⟩])
       (.cond (.tmp 69) (.seq (.region [⟨(some 4), .op (.mov (.val (.bool false))), none⟩])
        (.ret))
       (.skip))))
     (.region [⟨(some 39), .op (.mov (.tmp 5)), none⟩,
      ⟨(some 40), .op (.bin .add (.tmp 39) (.val (.int .i64 1))), none⟩,
      ⟨(some 5), .op (.mov (.tmp 40)), none⟩]))))))
  (.seq (.seq (.region [⟨(some 6), .op (.mov (.val (.int .i64 0))), none⟩])
   (.block 2 (.loop (.seq (.seq (.region [⟨(some 70), .op (.mov (.tmp 6)), none⟩,
        ⟨(some 71), .op (.fieldAddr 2 (.tmp 2)), none⟩,
        ⟨(some 72), .op (.load none (.tmp 71)), none⟩,
        ⟨(some 73), .op (.lenS (.tmp 72)), none⟩,
        ⟨(some 74), .op (.bin .lss (.tmp 70) (.tmp 73)), none⟩])
      (.cond (.tmp 74) (.skip)
      (.exit 2)))
     (.seq (.block 3 (.seq (.draw [⟨⟨(some 77), .op (.fieldAddr 2 (.tmp 2)), none⟩, .pure⟩,
         ⟨⟨(some 78), .op (.load none (.tmp 77)), none⟩, .read [11, 12]⟩,
         ⟨⟨(some 79), .op (.mov (.tmp 6)), none⟩, .pure⟩,
         ⟨⟨(some 80), .op (.idxS 4 (.tmp 78) (.tmp 79)), none⟩, .read [11, 12]⟩,
         ⟨⟨(some 81), .op (.load (some 4) (.tmp 80)), none⟩, .read [11, 12]⟩,
         ⟨⟨(some 82), .op (.fieldAddr 2 (.tmp 3)), none⟩, .pure⟩,
         ⟨⟨(some 83), .op (.load none (.tmp 82)), none⟩, .read [11, 12, 13]⟩,
         ⟨⟨(some 84), .op (.mov (.tmp 6)), none⟩, .pure⟩,
         ⟨⟨(some 85), .op (.idxS 4 (.tmp 83) (.tmp 84)), none⟩, .read [11, 12, 13]⟩,
         ⟨⟨(some 86), .op (.load (some 4) (.tmp 85)), none⟩, .read [11, 12, 13]⟩,
         ⟨⟨(some 7), .op (.alloc [(.int .i64 0), .nils, .nils, .nils]), none⟩, .act true⟩,
         ⟨⟨(some 8), .op (.alloc [(.int .i64 0), .nils, .nils, .nils]), none⟩, .act true⟩,
         ⟨⟨none, .op (.store 4 (.tmp 7) (.tmp 81)), none⟩, .act true⟩,
         ⟨⟨none, .op (.store 4 (.tmp 8) (.tmp 86)), none⟩, .act true⟩])
       (.seq (.seq (.region [⟨(some 87), .op (.fieldAddr 0 (.tmp 7)), none⟩,
          ⟨(some 88), .op (.load none (.tmp 87)), none⟩,
          ⟨(some 89), .op (.fieldAddr 0 (.tmp 8)), none⟩,
          ⟨(some 90), .op (.load none (.tmp 89)), none⟩,
          ⟨(some 91), .op (.bin .neq (.tmp 88) (.tmp 90)), none⟩,
          ⟨(some 92), .op (.mov (.tmp 91)), none⟩,
          ⟨(some 93), .op (.fieldAddr 1 (.tmp 7)), (some (92, false))⟩,
          ⟨(some 94), .op (.load none (.tmp 93)), (some (92, false))⟩,
          ⟨(some 95), .op (.fieldAddr 1 (.tmp 8)), (some (92, false))⟩,
          ⟨(some 96), .op (.load none (.tmp 95)), (some (92, false))⟩,
          ⟨(some 97), .call (.fnv 34) [(.tmp 94), (.tmp 96)], (some (92, false))⟩,
          ⟨(some 98), .op (.un .not (.tmp 97)), (some (92, false))⟩,
          ⟨(some 99), .op (.pick (.tmp 92) (.val (.bool true)) (.tmp 98)), none⟩,
          ⟨(some 100), .op (.mov (.tmp 99)), none⟩,
          ⟨(some 101), .op (.fieldAddr 2 (.tmp 7)), (some (100, false))⟩,
          ⟨(some 102), .op (.load none (.tmp 101)), (some (100, false))⟩,
          ⟨(some 103), .op (.fieldAddr 2 (.tmp 8)), (some (100, false))⟩,
          ⟨(some 104), .op (.load none (.tmp 103)), (some (100, false))⟩,
          ⟨(some 105), .call (.fnv 34) [(.tmp 102), (.tmp 104)], (some (100, false))⟩,
          ⟨(some 106), .op (.un .not (.tmp 105)), (some (100, false))⟩,
          ⟨(some 107), .op (.pick (.tmp 100) (.val (.bool true)) (.tmp 106)), none⟩,
          ⟨(some 108), .op (.mov (.tmp 107)), none⟩,
          ⟨(some 109), .op (.fieldAddr 3 (.tmp 7)), (some (108, false))⟩,
          ⟨(some 110), .op (.load none (.tmp 109)), (some (108, false))⟩,
          ⟨(some 111), .op (.lenS (.tmp 110)), (some (108, false))⟩,
          ⟨(some 112), .op (.fieldAddr 3 (.tmp 8)), (some (108, false))⟩,
          ⟨(some 113), .op (.load none (.tmp 112)), (some (108, false))⟩,
          ⟨(some 114), .op (.lenS (.tmp 113)), (some (108, false))⟩,
          ⟨(some 115), .op (.bin .neq (.tmp 111) (.tmp 114)), (some (108, false))⟩,
          ⟨(some 116), .op (.pick (.tmp 108) (.val (.bool true)) (.tmp 115)), none⟩])
        (.cond (.tmp 116) (.seq (.region [⟨(some 4), .op (.mov (.val (.bool false))), none⟩])
         (.ret))
        (.skip)))
       (.seq (.region [⟨(some 9), .op (.mov (.val (.int .i64 0))), none⟩])
       (.block 4 (.loop (.seq (.seq (.region [⟨(some 117), .op (.mov (.tmp 9)), none⟩,
            ⟨(some 118), .op (.fieldAddr 3 (.tmp 7)), none⟩,
            ⟨(some 119), .op (.load none (.tmp 118)), none⟩,
            ⟨(some 120), .op (.lenS (.tmp 119)), none⟩,
            ⟨(some 121), .op (.bin .lss (.tmp 117) (.tmp 120)), none⟩])
          (.cond (.tmp 121) (.skip)
          (.exit 4)))
         (.seq (.block 5 (.seq (.draw [⟨⟨(some 124), .op (.fieldAddr 3 (.tmp 7)), none⟩, .pure⟩,
             ⟨⟨(some 125), .op (.load none (.tmp 124)), none⟩, .read []⟩,
             ⟨⟨(some 126), .op (.mov (.tmp 9)), none⟩, .pure⟩,
             ⟨⟨(some 127), .op (.idxS 6 (.tmp 125) (.tmp 126)), none⟩, .read []⟩,
             ⟨⟨(some 128), .op (.load (some 6) (.tmp 127)), none⟩, .read []⟩,
             ⟨⟨(some 129), .op (.fieldAddr 3 (.tmp 8)), none⟩, .pure⟩,
             ⟨⟨(some 130), .op (.load none (.tmp 129)), none⟩, .read []⟩,
             ⟨⟨(some 131), .op (.mov (.tmp 9)), none⟩, .pure⟩,
             ⟨⟨(some 132), .op (.idxS 6 (.tmp 130) (.tmp 131)), none⟩, .read []⟩,
             ⟨⟨(some 133), .op (.load (some 6) (.tmp 132)), none⟩, .read []⟩,
             ⟨⟨(some 134), .call (.fnv 35) [(.tmp 128), (.tmp 133)], none⟩, .act true⟩,
             ⟨⟨(some 135), .op (.un .not (.tmp 134)), none⟩, .pure⟩])
           (.cond (.tmp 135) (.seq (.region [⟨(some 4), .op (.mov (.val (.bool false))), none⟩])
            (.ret))
           (.skip))))
         (.region [⟨(some 122), .op (.mov (.tmp 9)), none⟩,
          ⟨(some 123), .op (.bin .add (.tmp 122) (.val (.int .i64 1))), none⟩,
          ⟨(some 9), .op (.mov (.tmp 123)), none⟩])))))))))
     (.region [⟨(some 75), .op (.mov (.tmp 6)), none⟩,
      ⟨(some 76), .op (.bin .add (.tmp 75) (.val (.int .i64 1))), none⟩,
      ⟨(some 6), .op (.mov (.tmp 76)), none⟩]))))))
  (.seq (.region [⟨(some 4), .op (.mov (.val (.bool true))), none⟩])
  (.ret))))),
  [.tmp 4], none, none⟩
def A17 : AFun := ⟨.seq (.region [⟨(some 1), .op (.box (.tmp 0)), none⟩])
  (.seq (.seq (.region [⟨(some 11), .op (.fieldAddr 0 (.tmp 1)), none⟩,
     ⟨(some 12), .op (.load none (.tmp 11)), none⟩,
     ⟨(some 13), .op (.lenS (.tmp 12)), none⟩,
     ⟨(some 14), .op (.mov (.val (.int .i64 0))), none⟩])
   (.block 0 (.loop (.seq (.region [⟨(some 15), .op (.bin .lss (.tmp 14) (.tmp 13)), none⟩])
     (.seq (.cond (.tmp 15) (.skip)
      (.exit 0))
     (.seq (.block 1 (.seq (.region [⟨(some 16), .op (.mov (.tmp 14)), none⟩,
         ⟨(some 2), .op (.mov (.tmp 16)), none⟩])
       (.seq (.region [⟨(some 17), .op (.fieldAddr 0 (.tmp 1)), none⟩,
         ⟨(some 18), .op (.load none (.tmp 17)), none⟩,
         ⟨(some 19), .op (.mov (.tmp 2)), none⟩,
         ⟨(some 20), .op (.idxS 2 (.tmp 18) (.tmp 19)), none⟩,
         ⟨(some 21), .op (.fieldAddr 1 (.tmp 20)), none⟩,
         ⟨(some 22), .op (.load none (.tmp 21)), none⟩,
         ⟨(some 23), .op (.lenS (.tmp 22)), none⟩,
         ⟨(some 24), .op (.mov (.val (.int .i64 0))), none⟩])
       (.block 2 (.loop (.seq (.region [⟨(some 25), .op (.bin .lss (.tmp 24) (.tmp 23)), none⟩])
         (.seq (.cond (.tmp 25) (.skip)
          (.exit 2))
         (.seq (.block 3 (.seq (.region [⟨(some 26), .op (.mov (.tmp 24)), none⟩,
             ⟨(some 3), .op (.mov (.tmp 26)), none⟩])
           (.region [⟨(some 27), .op (.fieldAddr 0 (.tmp 1)), none⟩,
            ⟨(some 28), .op (.load none (.tmp 27)), none⟩,
            ⟨(some 29), .op (.mov (.tmp 2)), none⟩,
            ⟨(some 30), .op (.idxS 2 (.tmp 28) (.tmp 29)), none⟩,
            ⟨(some 31), .op (.fieldAddr 1 (.tmp 30)), none⟩,
            ⟨(some 32), .op (.load none (.tmp 31)), none⟩,
            ⟨(some 33), .op (.mov (.tmp 3)), none⟩,
            ⟨(some 34), .op (.idxS 1 (.tmp 32) (.tmp 33)), none⟩,
            ⟨none, .op (.store 1 (.tmp 34) (.val (.int .i64 77))), none⟩])))
         (.region [⟨(some 35), .op (.bin .add (.tmp 24) (.val (.int .i64 1))), none⟩,
          ⟨(some 24), .op (.mov (.tmp 35)), none⟩])))))))))
     (.region [⟨(some 36), .op (.bin .add (.tmp 14) (.val (.int .i64 1))), none⟩,
      ⟨(some 14), .op (.mov (.tmp 36)), none⟩])))))))
  (.seq (.seq (.region [⟨(some 37), .op (.fieldAddr 1 (.tmp 1)), none⟩,
     ⟨(some 38), .op (.load none (.tmp 37)), none⟩,
     ⟨(some 39), .op (.lenS (.tmp 38)), none⟩,
     ⟨(some 40), .op (.mov (.val (.int .i64 0))), none⟩])
   (.block 4 (.loop (.seq (.region [⟨(some 41), .op (.bin .lss (.tmp 40) (.tmp 39)), none⟩])
     (.seq (.cond (.tmp 41) (.skip)
      (.exit 4))
     (.seq (.block 5 (.seq (.region [⟨(some 42), .op (.mov (.tmp 40)), none⟩,
         ⟨(some 4), .op (.mov (.tmp 42)), none⟩])
       (.region [⟨(some 43), .op (.fieldAddr 1 (.tmp 1)), none⟩,
        ⟨(some 44), .op (.load none (.tmp 43)), none⟩,
        ⟨(some 45), .op (.mov (.tmp 4)), none⟩,
        ⟨(some 46), .op (.idxS 1 (.tmp 44) (.tmp 45)), none⟩,
        ⟨none, .op (.store 1 (.tmp 46) (.val (.int .i64 78))), none⟩])))
     (.region [⟨(some 47), .op (.bin .add (.tmp 40) (.val (.int .i64 1))), none⟩,
      ⟨(some 40), .op (.mov (.tmp 47)), none⟩])))))))
  (.seq (.region [⟨(some 48), .op (.fieldAddr 2 (.tmp 1)), none⟩,
    ⟨(some 49), .op (.load none (.tmp 48)), none⟩,
    ⟨(some 50), .op (.lenS (.tmp 49)), none⟩,
    ⟨(some 51), .op (.mov (.val (.int .i64 0))), none⟩])
  (.block 6 (.loop (.seq (.region [⟨(some 52), .op (.bin .lss (.tmp 51) (.tmp 50)), none⟩])
    (.seq (.cond (.tmp 52) (.skip)
     (.exit 6))
    (.seq (.block 7 (.seq (.region [⟨(some 53), .op (.mov (.tmp 51)), none⟩,
        ⟨(some 5), .op (.mov (.tmp 53)), none⟩])
      (.seq (.region [⟨(some 54), .op (.fieldAddr 2 (.tmp 1)), none⟩,
        ⟨(some 55), .op (.load none (.tmp 54)), none⟩,
        ⟨(some 56), .op (.mov (.tmp 5)), none⟩,
        ⟨(some 57), .op (.idxS 4 (.tmp 55) (.tmp 56)), none⟩,
        ⟨(some 58), .op (.load (some 4) (.tmp 57)), none⟩,
        ⟨(some 6), .op (.alloc [(.int .i64 0), .nils, .nils, .nils]), none⟩,
        ⟨none, .op (.store 4 (.tmp 6) (.tmp 58)), none⟩])
      (.seq (.seq (.region [⟨(some 59), .op (.fieldAddr 1 (.tmp 6)), none⟩,
         ⟨(some 60), .op (.load none (.tmp 59)), none⟩,
         ⟨(some 61), .op (.lenS (.tmp 60)), none⟩,
         ⟨(some 62), .op (.mov (.val (.int .i64 0))), none⟩])
       (.block 8 (.loop (.seq (.region [⟨(some 63), .op (.bin .lss (.tmp 62) (.tmp 61)), none⟩])
         (.seq (.cond (.tmp 63) (.skip)
          (.exit 8))
         (.seq (.block 9 (.seq (.region [⟨(some 64), .op (.mov (.tmp 62)), none⟩,
             ⟨(some 7), .op (.mov (.tmp 64)), none⟩])
           (.region [⟨(some 65), .op (.fieldAddr 1 (.tmp 6)), none⟩,
            ⟨(some 66), .op (.load none (.tmp 65)), none⟩,
            ⟨(some 67), .op (.mov (.tmp 7)), none⟩,
            ⟨(some 68), .op (.idxS 1 (.tmp 66) (.tmp 67)), none⟩,
            ⟨none, .op (.store 1 (.tmp 68) (.val (.int .i64 79))), none⟩])))
         (.region [⟨(some 69), .op (.bin .add (.tmp 62) (.val (.int .i64 1))), none⟩,
          ⟨(some 62), .op (.mov (.tmp 69)), none⟩])))))))
      (.seq (.seq (.region [⟨(some 70), .op (.fieldAddr 2 (.tmp 6)), none⟩,
         ⟨(some 71), .op (.load none (.tmp 70)), none⟩,
         ⟨(some 72), .op (.lenS (.tmp 71)), none⟩,
         ⟨(some 73), .op (.mov (.val (.int .i64 0))), none⟩])
       (.block 10 (.loop (.seq (.region [⟨(some 74), .op (.bin .lss (.tmp 73) (.tmp 72)), none⟩])
         (.seq (.cond (.tmp 74) (.skip)
          (.exit 10))
         (.seq (.block 11 (.seq (.region [⟨(some 75), .op (.mov (.tmp 73)), none⟩,
             ⟨(some 8), .op (.mov (.tmp 75)), none⟩])
           (.region [⟨(some 76), .op (.fieldAddr 2 (.tmp 6)), none⟩,
            ⟨(some 77), .op (.load none (.tmp 76)), none⟩,
            ⟨(some 78), .op (.mov (.tmp 8)), none⟩,
            ⟨(some 79), .op (.idxS 1 (.tmp 77) (.tmp 78)), none⟩,
            ⟨none, .op (.store 1 (.tmp 79) (.val (.int .i64 80))), none⟩])))
         (.region [⟨(some 80), .op (.bin .add (.tmp 73) (.val (.int .i64 1))), none⟩,
          ⟨(some 73), .op (.mov (.tmp 80)), none⟩])))))))
      (.seq (.seq (.region [⟨(some 81), .op (.fieldAddr 3 (.tmp 6)), none⟩,
         ⟨(some 82), .op (.load none (.tmp 81)), none⟩,
         ⟨(some 83), .op (.lenS (.tmp 82)), none⟩,
         ⟨(some 84), .op (.mov (.val (.int .i64 0))), none⟩])
       (.block 12 (.loop (.seq (.region [⟨(some 85), .op (.bin .lss (.tmp 84) (.tmp 83)), none⟩])
         (.seq (.cond (.tmp 85) (.skip)
          (.exit 12))
         (.seq (.block 13 (.seq (.region [⟨(some 86), .op (.mov (.tmp 84)), none⟩,
             ⟨(some 9), .op (.mov (.tmp 86)), none⟩])
           (.seq (.seq (.region [⟨(some 87), .op (.fieldAddr 3 (.tmp 6)), none⟩,
              ⟨(some 88), .op (.load none (.tmp 87)), none⟩,
              ⟨(some 89), .op (.mov (.tmp 9)), none⟩,
              ⟨(some 90), .op (.idxS 6 (.tmp 88) (.tmp 89)), none⟩,
              ⟨(some 91), .op (.fieldAddr 5 (.tmp 90)), none⟩,
              ⟨(some 92), .op (.load none (.tmp 91)), none⟩,
              ⟨(some 93), .op (.lenS (.tmp 92)), none⟩,
              ⟨(some 94), .op (.mov (.val (.int .i64 0))), none⟩])
            (.block 14 (.loop (.seq (.region [⟨(some 95), .op (.bin .lss (.tmp 94) (.tmp 93)), none⟩])
              (.seq (.cond (.tmp 95) (.skip)
               (.exit 14))
              (.seq (.block 15 (.seq (.region [⟨(some 96), .op (.mov (.tmp 94)), none⟩,
                  ⟨(some 10), .op (.mov (.tmp 96)), none⟩])
                (.region [⟨(some 97), .op (.fieldAddr 3 (.tmp 6)), none⟩,
                 ⟨(some 98), .op (.load none (.tmp 97)), none⟩,
                 ⟨(some 99), .op (.mov (.tmp 9)), none⟩,
                 ⟨(some 100), .op (.idxS 6 (.tmp 98) (.tmp 99)), none⟩,
                 ⟨(some 101), .op (.fieldAddr 5 (.tmp 100)), none⟩,
                 ⟨(some 102), .op (.load none (.tmp 101)), none⟩,
                 ⟨(some 103), .op (.mov (.tmp 10)), none⟩,
                 ⟨(some 104), .op (.idxS 1 (.tmp 102) (.tmp 103)), none⟩,
                 ⟨none, .op (.store 1 (.tmp 104) (.val (.int .i64 81))), none⟩])))
              (.region [⟨(some 105), .op (.bin .add (.tmp 94) (.val (.int .i64 1))), none⟩,
               ⟨(some 94), .op (.mov (.tmp 105)), none⟩])))))))
           (.region [⟨(some 106), .op (.fieldAddr 3 (.tmp 6)), none⟩,
            ⟨(some 107), .op (.load none (.tmp 106)), none⟩,
            ⟨(some 108), .op (.mov (.tmp 9)), none⟩,
            ⟨(some 109), .op (.build [(.int .i64 0), (.int .i64 0), (.int .i64 0), (.int .i64 0), (.int .u64 0), .nils] [(0, 1, (.val (.int .i64 82)))]), none⟩,
            ⟨(some 110), .op (.idxS 6 (.tmp 107) (.tmp 108)), none⟩,
            ⟨none, .op (.store 6 (.tmp 110) (.tmp 109)), none⟩]))))
         (.region [⟨(some 111), .op (.bin .add (.tmp 84) (.val (.int .i64 1))), none⟩,
          ⟨(some 84), .op (.mov (.tmp 111)), none⟩])))))))
      (.region [⟨(some 112), .op (.fieldAddr 2 (.tmp 1)), none⟩,
       ⟨(some 113), .op (.load none (.tmp 112)), none⟩,
       ⟨(some 114), .op (.mov (.tmp 5)), none⟩,
       ⟨(some 115), .op (.build [(.int .i64 0), .nils, .nils, .nils] [(0, 1, (.val (.int .i64 83)))]), none⟩,
       ⟨(some 116), .op (.idxS 4 (.tmp 113) (.tmp 114)), none⟩,
       ⟨none, .op (.store 4 (.tmp 116) (.tmp 115)), none⟩])))))))
    (.region [⟨(some 117), .op (.bin .add (.tmp 51) (.val (.int .i64 1))), none⟩,
     ⟨(some 51), .op (.mov (.tmp 117)), none⟩]))))))))),
  [], none, none⟩
def A18 : AFun := ⟨.seq (.region [⟨(some 0), .op (.alloc [.nils, .nils, .nils]), none⟩])
  (.seq (.region [⟨(some 1), .op (.buildSlice 1 1 [(.int .i64 0)] [(0, (.val (.int .i64 0)))]), none⟩,
    ⟨(some 2), .op (.build [(.int .i64 0), (.int .i64 0), (.int .i64 0), (.int .i64 0), (.int .u64 0), .nils] [(0, 1, (.val (.int .i64 1))), (4, 1, (.val (.int .u64 300)))]), none⟩,
    ⟨(some 3), .op (.buildSlice 6 1 [(.int .i64 0), (.int .i64 0), (.int .i64 0), (.int .i64 0), (.int .u64 0), .nils] [(0, (.tmp 2))]), none⟩,
    ⟨(some 4), .op (.build [(.int .i64 0), .nils, .nils, .nils] [(1, 1, (.tmp 1)), (3, 1, (.tmp 3))]), none⟩,
    ⟨(some 5), .op (.buildSlice 4 1 [(.int .i64 0), .nils, .nils, .nils] [(0, (.tmp 4))]), none⟩,
    ⟨(some 6), .op (.build [.nils, .nils, .nils] [(2, 1, (.tmp 5))]), none⟩,
    ⟨none, .op (.store 3 (.tmp 0) (.tmp 6)), none⟩])
  (.ret)),
  [.cell 0 (some 3)], none, none⟩
def A19 : AFun := ⟨.seq (.seq (.region [⟨(some 6), .op (.mov (.tmp 1)), none⟩,
     ⟨(some 7), .op (.mov (.tmp 2)), none⟩,
     ⟨(some 8), .op (.bin .gtr (.tmp 6) (.tmp 7)), none⟩])
   (.cond (.tmp 8) (.region [⟨(some 9), .op (.mov (.tmp 0)), none⟩,
     ⟨(some 10), .call (.fnv 36) [(.tmp 9), (.val (.int .i64 16))], none⟩])
   (.skip)))
  (.region [⟨(some 11), .op (.mov (.tmp 0)), none⟩,
   ⟨(some 12), .op (.mov (.tmp 1)), none⟩,
   ⟨(some 13), .op (.min (.tmp 12) (.val (.int .i64 65535))), none⟩,
   ⟨(some 14), .call (.fnv 20) [(.tmp 11), (.tmp 13)], none⟩]),
  [], none, none⟩
def A20 : AFun := ⟨.seq (.seq (.region [⟨(some 4), .op (.mov (.tmp 1)), none⟩,
     ⟨(some 5), .op (.bin .lss (.tmp 4) (.val (.int .i64 0))), none⟩,
     ⟨(some 6), .op (.mov (.tmp 5)), none⟩,
     ⟨(some 7), .op (.mov (.tmp 1)), (some (6, false))⟩,
     ⟨(some 8), .op (.bin .gtr (.tmp 7) (.val (.int .i64 65535))), (some (6, false))⟩,
     ⟨(some 9), .op (.pick (.tmp 6) (.val (.bool true)) (.tmp 8)), none⟩])
   (.cond (.tmp 9) (.seq (.region [⟨(some 10), .op (.mov (.tmp 0)), none⟩,
      ⟨(some 11), .call (.fnv 36) [(.tmp 10), (.val (.int .i64 1))], none⟩])
    (.ret))
   (.skip)))
  (.region [⟨(some 12), .op (.mov (.tmp 0)), none⟩,
   ⟨(some 13), .op (.mov (.tmp 1)), none⟩,
   ⟨(some 14), .op (.conv .u64 (.tmp 13)), none⟩,
   ⟨(some 15), .call (.fnv 37) [(.tmp 12), (.tmp 14)], none⟩]),
  [], none, none⟩
def A21 : AFun := ⟨.seq (.region [⟨(some 2), .op (.mov (.val (.int .i64 0))), none⟩])
  (.seq (.seq (.region [⟨(some 3), .op (.mov (.tmp 0)), none⟩])
   (.cond (.tmp 3) (.seq (.region [⟨(some 2), .op (.mov (.val (.int .i64 1))), none⟩])
    (.ret))
   (.skip)))
  (.seq (.region [⟨(some 2), .op (.mov (.val (.int .i64 0))), none⟩])
  (.ret))),
  [.tmp 2], none, none⟩
def A22 : AFun := ⟨.seq (.region [⟨(some 8), .op (.mov (.tmp 0)), none⟩,
    ⟨(some 9), .op (.mov (.tmp 1)), none⟩,
    ⟨(some 10), .op (.lenS (.tmp 9)), none⟩,
    ⟨(some 11), .op (.mov (.tmp 2)), none⟩,
    ⟨(some 12), .call (.fnv 19) [(.tmp 8), (.tmp 10), (.tmp 11)], none⟩])
  (.seq (.region [⟨(some 13), .op (.mov (.tmp 1)), none⟩,
    ⟨(some 14), .op (.lenS (.tmp 13)), none⟩,
    ⟨(some 15), .op (.mov (.val (.int .i64 0))), none⟩])
  (.block 0 (.loop (.seq (.region [⟨(some 16), .op (.bin .lss (.tmp 15) (.tmp 14)), none⟩])
    (.seq (.cond (.tmp 16) (.skip)
     (.exit 0))
    (.seq (.block 1 (.seq (.region [⟨(some 17), .op (.idxS 1 (.tmp 13) (.tmp 15)), none⟩,
        ⟨(some 18), .op (.load none (.tmp 17)), none⟩,
        ⟨(some 7), .op (.mov (.tmp 18)), none⟩])
      (.region [⟨(some 19), .op (.mov (.tmp 0)), none⟩,
       ⟨(some 20), .op (.mov (.tmp 7)), none⟩,
       ⟨(some 21), .call (.fnv 20) [(.tmp 19), (.tmp 20)], none⟩])))
    (.region [⟨(some 22), .op (.bin .add (.tmp 15) (.val (.int .i64 1))), none⟩,
     ⟨(some 15), .op (.mov (.tmp 22)), none⟩]))))))),
  [], none, none⟩
def A23 : AFun := ⟨.seq (.region [⟨(some 3), .op (.box (.tmp 1)), none⟩])
  (.seq (.seq (.region [⟨(some 8), .op (.fieldAddr 0 (.tmp 3)), none⟩,
     ⟨(some 9), .op (.load none (.tmp 8)), none⟩,
     ⟨(some 10), .op (.fieldAddr 1 (.tmp 3)), none⟩,
     ⟨(some 11), .op (.load none (.tmp 10)), none⟩,
     ⟨(some 12), .op (.fieldAddr 2 (.tmp 3)), none⟩,
     ⟨(some 13), .op (.load none (.tmp 12)), none⟩,
     ⟨(some 14), .op (.fieldAddr 3 (.tmp 3)), none⟩,
     ⟨(some 15), .op (.load none (.tmp 14)), none⟩,
     ⟨(some 16), .op (.buildSlice 1 4 [(.int .i64 0)] [(0, (.tmp 9)), (1, (.tmp 11)), (2, (.tmp 13)), (3, (.tmp 15))]), none⟩,
     ⟨(some 17), .op (.lenS (.tmp 16)), none⟩,
     ⟨(some 18), .op (.mov (.val (.int .i64 0))), none⟩])
   (.block 0 (.loop (.seq (.region [⟨(some 19), .op (.bin .lss (.tmp 18) (.tmp 17)), none⟩])
     (.seq (.cond (.tmp 19) (.skip)
      (.exit 0))
     (.seq (.block 1 (.seq (.region [⟨(some 20), .op (.idxS 1 (.tmp 16) (.tmp 18)), none⟩,
         ⟨(some 21), .op (.load none (.tmp 20)), none⟩,
         ⟨(some 5), .op (.mov (.tmp 21)), none⟩])
       (.region [⟨(some 22), .op (.mov (.tmp 0)), none⟩,
        ⟨(some 23), .op (.mov (.tmp 5)), none⟩,
        ⟨(some 24), .call (.fnv 20) [(.tmp 22), (.tmp 23)], none⟩])))
     (.region [⟨(some 25), .op (.bin .add (.tmp 18) (.val (.int .i64 1))), none⟩,
      ⟨(some 18), .op (.mov (.tmp 25)), none⟩])))))))
  (.seq (.region [⟨(some 26), .op (.mov (.tmp 0)), none⟩,
    ⟨(some 27), .op (.fieldAddr 4 (.tmp 3)), none⟩,
    ⟨(some 28), .op (.load none (.tmp 27)), none⟩,
    ⟨(some 29), .call (.fnv 37) [(.tmp 26), (.tmp 28)], none⟩])
  (.seq (.region [⟨(some 30), .op (.mov (.tmp 0)), none⟩,
    ⟨(some 31), .op (.fieldAddr 5 (.tmp 3)), none⟩,
    ⟨(some 32), .op (.load none (.tmp 31)), none⟩,
    ⟨(some 33), .op (.lenS (.tmp 32)), none⟩,
    ⟨(some 34), .call (.fnv 19) [(.tmp 30), (.tmp 33), (.val (.int .i64 24))], none⟩])
  (.seq (.region [⟨(some 35), .op (.fieldAddr 5 (.tmp 3)), none⟩,
    ⟨(some 36), .op (.load none (.tmp 35)), none⟩,
    ⟨(some 37), .op (.lenS (.tmp 36)), none⟩,
    ⟨(some 38), .op (.mov (.val (.int .i64 0))), none⟩])
  (.block 2 (.loop (.seq (.region [⟨(some 39), .op (.bin .lss (.tmp 38) (.tmp 37)), none⟩])
    (.seq (.cond (.tmp 39) (.skip)
     (.exit 2))
    (.seq (.block 3 (.seq (.region [⟨(some 40), .op (.idxS 1 (.tmp 36) (.tmp 38)), none⟩,
        ⟨(some 41), .op (.load none (.tmp 40)), none⟩,
        ⟨(some 7), .op (.mov (.tmp 41)), none⟩])
      (.region [⟨(some 42), .op (.mov (.tmp 0)), none⟩,
       ⟨(some 43), .op (.mov (.tmp 7)), none⟩,
       ⟨(some 44), .call (.fnv 20) [(.tmp 42), (.tmp 43)], none⟩])))
    (.region [⟨(some 45), .op (.bin .add (.tmp 38) (.val (.int .i64 1))), none⟩,
     ⟨(some 38), .op (.mov (.tmp 45)), none⟩])))))))))),
  [], none, none⟩
def A24 : AFun := ⟨.seq (.seq (.region [⟨(some 6), .op (.mov (.tmp 1)), none⟩,
     ⟨(some 7), .op (.mov (.tmp 2)), none⟩,
     ⟨(some 8), .op (.bin .gtr (.tmp 6) (.tmp 7)), none⟩,
     ⟨(some 9), .op (.mov (.tmp 8)), none⟩,
     ⟨(some 10), .op (.mov (.tmp 0)), (some (9, true))⟩,
     ⟨(some 11), .op (.nilCheck (.tmp 10)), (some (9, true))⟩,
     ⟨(some 12), .op (.fieldAddr 1 (.tmp 11)), (some (9, true))⟩,
     ⟨(some 13), .op (.load none (.tmp 12)), (some (9, true))⟩,
     ⟨(some 14), .op (.bin .eql (.tmp 13) (.val (.int .i64 0))), (some (9, true))⟩,
     ⟨(some 15), .op (.pick (.tmp 9) (.tmp 14) (.val (.bool false))), none⟩])
   (.cond (.tmp 15) (.region [⟨(some 16), .op (.mov (.tmp 0)), none⟩,
     ⟨(some 17), .op (.nilCheck (.tmp 16)), none⟩,
     ⟨(some 18), .op (.fieldAddr 1 (.tmp 17)), none⟩,
     ⟨none, .op (.store 1 (.tmp 18) (.val (.int .i64 16))), none⟩])
   (.skip)))
  (.region [⟨(some 19), .op (.mov (.tmp 0)), none⟩,
   ⟨(some 20), .op (.mov (.tmp 1)), none⟩,
   ⟨(some 21), .call (.fnv 25) [(.tmp 19), (.tmp 20)], none⟩]),
  [], none, none⟩
def A25 : AFun := ⟨.seq (.seq (.region [⟨(some 4), .op (.mov (.tmp 1)), none⟩,
     ⟨(some 5), .op (.bin .lss (.tmp 4) (.val (.int .i64 0))), none⟩,
     ⟨(some 6), .op (.mov (.tmp 5)), none⟩,
     ⟨(some 7), .op (.mov (.tmp 1)), (some (6, false))⟩,
     ⟨(some 8), .op (.bin .gtr (.tmp 7) (.val (.int .i64 65535))), (some (6, false))⟩,
     ⟨(some 9), .op (.pick (.tmp 6) (.val (.bool true)) (.tmp 8)), none⟩,
     ⟨(some 10), .op (.mov (.tmp 9)), none⟩,
     ⟨(some 11), .op (.mov (.tmp 0)), (some (10, true))⟩,
     ⟨(some 12), .op (.nilCheck (.tmp 11)), (some (10, true))⟩,
     ⟨(some 13), .op (.fieldAddr 1 (.tmp 12)), (some (10, true))⟩,
     ⟨(some 14), .op (.load none (.tmp 13)), (some (10, true))⟩,
     ⟨(some 15), .op (.bin .eql (.tmp 14) (.val (.int .i64 0))), (some (10, true))⟩,
     ⟨(some 16), .op (.pick (.tmp 10) (.tmp 15) (.val (.bool false))), none⟩])
   (.cond (.tmp 16) (.region [⟨(some 17), .op (.mov (.tmp 0)), none⟩,
     ⟨(some 18), .op (.nilCheck (.tmp 17)), none⟩,
     ⟨(some 19), .op (.fieldAddr 1 (.tmp 18)), none⟩,
     ⟨none, .op (.store 1 (.tmp 19) (.val (.int .i64 1))), none⟩])
   (.skip)))
  (.seq (.region [⟨(some 20), .op (.mov (.tmp 1)), none⟩,
    ⟨(some 21), .op (.bin .geq (.tmp 20) (.val (.int .i64 0))), none⟩])
  (.cond (.tmp 21) (.draw [⟨⟨(some 22), .op (.mov (.tmp 0)), none⟩, .pure⟩,
    ⟨⟨(some 23), .op (.mov (.tmp 0)), none⟩, .pure⟩,
    ⟨⟨(some 24), .op (.nilCheck (.tmp 23)), none⟩, .pure⟩,
    ⟨⟨(some 25), .op (.fieldAddr 0 (.tmp 24)), none⟩, .pure⟩,
    ⟨⟨(some 26), .op (.load none (.tmp 25)), none⟩, .read [8]⟩,
    ⟨⟨(some 27), .op (.mov (.tmp 1)), none⟩, .pure⟩,
    ⟨⟨(some 28), .op (.conv .u64 (.tmp 27)), none⟩, .pure⟩,
    ⟨⟨(some 29), .call (.fnv 38) [(.tmp 28)], none⟩, .act true⟩,
    ⟨⟨(some 30), .op (.append 1 1 (.tmp 26) (.tmp 29)), none⟩, .act true⟩,
    ⟨⟨(some 31), .op (.nilCheck (.tmp 22)), none⟩, .pure⟩,
    ⟨⟨(some 32), .op (.fieldAddr 0 (.tmp 31)), none⟩, .pure⟩,
    ⟨⟨none, .op (.store 1 (.tmp 32) (.tmp 30)), none⟩, .act true⟩])
  (.skip))),
  [], none, none⟩
def A26 : AFun := ⟨.seq (.region [⟨(some 7), .op (.mov (.tmp 0)), none⟩,
    ⟨(some 8), .op (.mov (.tmp 1)), none⟩,
    ⟨(some 9), .op (.lenS (.tmp 8)), none⟩,
    ⟨(some 10), .op (.mov (.tmp 2)), none⟩,
    ⟨(some 11), .call (.fnv 24) [(.tmp 7), (.tmp 9), (.tmp 10)], none⟩])
  (.seq (.region [⟨(some 6), .op (.mov (.val (.int .i64 0))), none⟩])
  (.block 0 (.loop (.seq (.seq (.region [⟨(some 12), .op (.mov (.tmp 6)), none⟩,
       ⟨(some 13), .op (.mov (.tmp 1)), none⟩,
       ⟨(some 14), .op (.lenS (.tmp 13)), none⟩,
       ⟨(some 15), .op (.bin .lss (.tmp 12) (.tmp 14)), none⟩])
     (.cond (.tmp 15) (.skip)
     (.exit 0)))
    (.seq (.block 1 (.region [⟨(some 18), .op (.mov (.tmp 0)), none⟩,
       ⟨(some 19), .op (.mov (.tmp 1)), none⟩,
       ⟨(some 20), .op (.mov (.tmp 6)), none⟩,
       ⟨(some 21), .op (.idxS 1 (.tmp 19) (.tmp 20)), none⟩,
       ⟨(some 22), .op (.load none (.tmp 21)), none⟩,
       ⟨(some 23), .call (.fnv 25) [(.tmp 18), (.tmp 22)], none⟩]))
    (.region [⟨(some 16), .op (.mov (.tmp 6)), none⟩,
     ⟨(some 17), .op (.bin .add (.tmp 16) (.val (.int .i64 1))), none⟩,
     ⟨(some 6), .op (.mov (.tmp 17)), none⟩])))))),
  [], none, none⟩
def A27 : AFun := ⟨.seq (.region [⟨(some 3), .op (.box (.tmp 1)), none⟩])
  (.seq (.region [⟨(some 5), .op (.mov (.tmp 0)), none⟩,
    ⟨(some 6), .op (.fieldAddr 0 (.tmp 3)), none⟩,
    ⟨(some 7), .op (.load none (.tmp 6)), none⟩,
    ⟨(some 8), .call (.fnv 25) [(.tmp 5), (.tmp 7)], none⟩])
  (.seq (.region [⟨(some 9), .op (.mov (.tmp 0)), none⟩,
    ⟨(some 10), .op (.fieldAddr 1 (.tmp 3)), none⟩,
    ⟨(some 11), .op (.load none (.tmp 10)), none⟩,
    ⟨(some 12), .call (.fnv 25) [(.tmp 9), (.tmp 11)], none⟩])
  (.seq (.region [⟨(some 13), .op (.mov (.tmp 0)), none⟩,
    ⟨(some 14), .op (.fieldAddr 2 (.tmp 3)), none⟩,
    ⟨(some 15), .op (.load none (.tmp 14)), none⟩,
    ⟨(some 16), .call (.fnv 25) [(.tmp 13), (.tmp 15)], none⟩])
  (.seq (.region [⟨(some 17), .op (.mov (.tmp 0)), none⟩,
    ⟨(some 18), .op (.fieldAddr 3 (.tmp 3)), none⟩,
    ⟨(some 19), .op (.load none (.tmp 18)), none⟩,
    ⟨(some 20), .call (.fnv 25) [(.tmp 17), (.tmp 19)], none⟩])
  (.seq (.draw [⟨⟨(some 21), .op (.mov (.tmp 0)), none⟩, .pure⟩,
    ⟨⟨(some 22), .op (.mov (.tmp 0)), none⟩, .pure⟩,
    ⟨⟨(some 23), .op (.nilCheck (.tmp 22)), none⟩, .pure⟩,
    ⟨⟨(some 24), .op (.fieldAddr 0 (.tmp 23)), none⟩, .pure⟩,
    ⟨⟨(some 25), .op (.load none (.tmp 24)), none⟩, .read [8]⟩,
    ⟨⟨(some 26), .op (.fieldAddr 4 (.tmp 3)), none⟩, .pure⟩,
    ⟨⟨(some 27), .op (.load none (.tmp 26)), none⟩, .read []⟩,
    ⟨⟨(some 28), .call (.fnv 38) [(.tmp 27)], none⟩, .act true⟩,
    ⟨⟨(some 29), .op (.append 1 1 (.tmp 25) (.tmp 28)), none⟩, .act true⟩,
    ⟨⟨(some 30), .op (.nilCheck (.tmp 21)), none⟩, .pure⟩,
    ⟨⟨(some 31), .op (.fieldAddr 0 (.tmp 30)), none⟩, .pure⟩,
    ⟨⟨none, .op (.store 1 (.tmp 31) (.tmp 29)), none⟩, .act true⟩])
  (.seq (.region [⟨(some 32), .op (.mov (.tmp 0)), none⟩,
    ⟨(some 33), .op (.fieldAddr 5 (.tmp 3)), none⟩,
    ⟨(some 34), .op (.load none (.tmp 33)), none⟩,
    ⟨(some 35), .op (.lenS (.tmp 34)), none⟩,
    ⟨(some 36), .call (.fnv 24) [(.tmp 32), (.tmp 35), (.val (.int .i64 24))], none⟩])
  (.seq (.region [⟨(some 4), .op (.mov (.val (.int .i64 0))), none⟩])
  (.block 0 (.loop (.seq (.seq (.region [⟨(some 37), .op (.mov (.tmp 4)), none⟩,
       ⟨(some 38), .op (.fieldAddr 5 (.tmp 3)), none⟩,
       ⟨(some 39), .op (.load none (.tmp 38)), none⟩,
       ⟨(some 40), .op (.lenS (.tmp 39)), none⟩,
       ⟨(some 41), .op (.bin .lss (.tmp 37) (.tmp 40)), none⟩])
     (.cond (.tmp 41) (.skip)
     (.exit 0)))
    (.seq (.block 1 (.region [⟨(some 44), .op (.mov (.tmp 0)), none⟩,
       ⟨(some 45), .op (.fieldAddr 5 (.tmp 3)), none⟩,
       ⟨(some 46), .op (.load none (.tmp 45)), none⟩,
       ⟨(some 47), .op (.mov (.tmp 4)), none⟩,
       ⟨(some 48), .op (.idxS 1 (.tmp 46) (.tmp 47)), none⟩,
       ⟨(some 49), .op (.load none (.tmp 48)), none⟩,
       ⟨(some 50), .call (.fnv 25) [(.tmp 44), (.tmp 49)], none⟩]))
    (.region [⟨(some 42), .op (.mov (.tmp 4)), none⟩,
     ⟨(some 43), .op (.bin .add (.tmp 42) (.val (.int .i64 1))), none⟩,
     ⟨(some 4), .op (.mov (.tmp 43)), none⟩])))))))))))),
  [], none, none⟩
def A28 : AFun := ⟨.seq (.region [⟨(some 2), .op (.mov (.tmp 5)), none⟩])
  (.seq (.region [⟨(some 6), .op (.mov (.tmp 2)), none⟩,
    ⟨(some 7), .op (.eql true .iface (.tmp 6) (.val .nili)), none⟩])
  (.cond (.tmp 7) (.seq (.region [⟨(some 9), .op (.mov (.tmp 2)), none⟩,
     ⟨(some 10), .op (.assertT 74 true (.agg [(.int .i64 0), (.int .i64 0), (.int .i64 0)]) (.tmp 9)), none⟩,
     ⟨(some 8), .op (.mov (.tmp 10)), none⟩,
     ⟨(some 11), .op (.extract (.tmp 8) 0), none⟩,
     ⟨(some 12), .op (.extract (.tmp 8) 1), none⟩,
     ⟨(some 3), .op (.alloc [(.int .i64 0), (.int .i64 0), (.int .i64 0)]), none⟩,
     ⟨none, .op (.store 3 (.tmp 3) (.tmp 11)), none⟩,
     ⟨(some 4), .op (.mov (.tmp 12)), none⟩])
   (.seq (.seq (.region [⟨(some 13), .op (.mov (.tmp 4)), none⟩,
      ⟨(some 14), .op (.un .not (.tmp 13)), none⟩])
    (.cond (.tmp 14) (.region [⟨(some 15), .op (.mov (.tmp 2)), none⟩,
      ⟨none, .panic (.tmp 15), none⟩])
    (.skip)))
   (.draw [⟨⟨(some 16), .op (.build [.nils, .nils, .nils] []), none⟩, .pure⟩,
    ⟨⟨(some 17), .op (.fieldAddr 0 (.tmp 3)), none⟩, .pure⟩,
    ⟨⟨(some 18), .op (.load (some 3) (.tmp 17)), none⟩, .read [4]⟩,
    ⟨⟨none, .op (.store 3 (.tmp 0) (.tmp 16)), none⟩, .act true⟩,
    ⟨⟨none, .op (.store 3 (.tmp 1) (.tmp 18)), none⟩, .act true⟩])))
  (.skip))),
  [], none, (some (some 5))⟩
def A29 : AFun := ⟨.seq (.region [⟨(some 2), .op (.alloc [.nils, .nils, .nils]), none⟩])
  (.seq (.region [⟨(some 3), .op (.alloc [.nils, .nils, .nils]), none⟩])
  (.seq (.seq (.region [⟨(some 6), .op (.mov (.tmp 0)), none⟩,
     ⟨(some 7), .call (.fnv 39) [(.tmp 6), (.val (.int .i64 32)), (.val (.int .i64 16))], none⟩,
     ⟨(some 8), .op (.mov (.val (.int .i64 0))), none⟩])
   (.block 0 (.loop (.seq (.region [⟨(some 9), .op (.bin .lss (.tmp 8) (.tmp 7)), none⟩])
     (.seq (.cond (.tmp 9) (.skip)
      (.exit 0))
     (.seq (.block 1 (.seq (.region [⟨(some 10), .op (.mov (.tmp 0)), none⟩,
         ⟨(some 11), .call (.fnv 39) [(.tmp 10), (.val (.int .i64 1)), (.val (.int .i64 8))], none⟩,
         ⟨(some 12), .op (.bin .eql (.tmp 11) (.val (.int .i64 1))), none⟩,
         ⟨(some 13), .op (.build [(.bool false), .nils] [(0, 1, (.tmp 12))]), none⟩,
         ⟨(some 4), .op (.alloc [(.bool false), .nils]), none⟩,
         ⟨none, .op (.store 2 (.tmp 4) (.tmp 13)), none⟩])
       (.seq (.region [⟨(some 14), .op (.mov (.tmp 0)), none⟩,
         ⟨(some 15), .call (.fnv 40) [(.tmp 14), (.val (.int .i64 16))], none⟩,
         ⟨(some 16), .op (.fieldAddr 1 (.tmp 4)), none⟩,
         ⟨none, .op (.store 1 (.tmp 16) (.tmp 15)), none⟩])
       (.region [⟨(some 17), .op (.fieldAddr 0 (.tmp 3)), none⟩,
        ⟨(some 18), .op (.load none (.tmp 17)), none⟩,
        ⟨(some 19), .op (.load (some 2) (.tmp 4)), none⟩,
        ⟨(some 20), .op (.buildSlice 2 1 [(.bool false), .nils] [(0, (.tmp 19))]), none⟩,
        ⟨(some 21), .op (.append 2 32 (.tmp 18) (.tmp 20)), none⟩,
        ⟨(some 22), .op (.fieldAddr 0 (.tmp 3)), none⟩,
        ⟨none, .op (.store 1 (.tmp 22) (.tmp 21)), none⟩]))))
     (.region [⟨(some 23), .op (.bin .add (.tmp 8) (.val (.int .i64 1))), none⟩,
      ⟨(some 8), .op (.mov (.tmp 23)), none⟩])))))))
  (.seq (.region [⟨(some 24), .op (.mov (.tmp 0)), none⟩,
    ⟨(some 25), .call (.fnv 40) [(.tmp 24), (.val (.int .i64 32))], none⟩,
    ⟨(some 26), .op (.fieldAddr 1 (.tmp 3)), none⟩,
    ⟨none, .op (.store 1 (.tmp 26) (.tmp 25)), none⟩])
  (.seq (.seq (.region [⟨(some 27), .op (.mov (.tmp 0)), none⟩,
     ⟨(some 28), .call (.fnv 39) [(.tmp 27), (.val (.int .i64 32)), (.val (.int .i64 16))], none⟩,
     ⟨(some 29), .op (.mov (.val (.int .i64 0))), none⟩])
   (.block 2 (.loop (.seq (.region [⟨(some 30), .op (.bin .lss (.tmp 29) (.tmp 28)), none⟩])
     (.seq (.cond (.tmp 30) (.skip)
      (.exit 2))
     (.seq (.block 3 (.seq (.region [⟨(some 31), .op (.mov (.tmp 0)), none⟩,
         ⟨(some 32), .call (.fnv 39) [(.tmp 31), (.val (.int .i64 65535)), (.val (.int .i64 1))], none⟩,
         ⟨(some 33), .op (.build [(.int .i64 0), .nils, .nils, .nils] [(0, 1, (.tmp 32))]), none⟩,
         ⟨(some 5), .op (.alloc [(.int .i64 0), .nils, .nils, .nils]), none⟩,
         ⟨none, .op (.store 4 (.tmp 5) (.tmp 33)), none⟩])
       (.seq (.region [⟨(some 34), .op (.mov (.tmp 0)), none⟩,
         ⟨(some 35), .call (.fnv 40) [(.tmp 34), (.val (.int .i64 32))], none⟩,
         ⟨(some 36), .op (.fieldAddr 1 (.tmp 5)), none⟩,
         ⟨none, .op (.store 1 (.tmp 36) (.tmp 35)), none⟩])
       (.seq (.region [⟨(some 37), .op (.mov (.tmp 0)), none⟩,
         ⟨(some 38), .call (.fnv 40) [(.tmp 37), (.val (.int .i64 32))], none⟩,
         ⟨(some 39), .op (.fieldAddr 2 (.tmp 5)), none⟩,
         ⟨none, .op (.store 1 (.tmp 39) (.tmp 38)), none⟩])
       (.seq (.seq (.region [⟨(some 40), .op (.mov (.tmp 0)), none⟩,
          ⟨(some 41), .call (.fnv 39) [(.tmp 40), (.val (.int .i64 256)), (.val (.int .i64 16))], none⟩,
          ⟨(some 42), .op (.mov (.val (.int .i64 0))), none⟩])
        (.block 4 (.loop (.seq (.region [⟨(some 43), .op (.bin .lss (.tmp 42) (.tmp 41)), none⟩])
          (.seq (.cond (.tmp 43) (.skip)
           (.exit 4))
          (.seq (.block 5 (.draw [⟨⟨(some 44), .op (.fieldAddr 3 (.tmp 5)), none⟩, .pure⟩,
             ⟨⟨(some 45), .op (.load none (.tmp 44)), none⟩, .read [4, 5]⟩,
             ⟨⟨(some 46), .op (.mov (.tmp 0)), none⟩, .pure⟩,
             ⟨⟨(some 47), .call (.fnv 41) [(.tmp 46)], none⟩, .act true⟩,
             ⟨⟨(some 48), .op (.buildSlice 6 1 [(.int .i64 0), (.int .i64 0), (.int .i64 0), (.int .i64 0), (.int .u64 0), .nils] [(0, (.tmp 47))]), none⟩, .act true⟩,
             ⟨⟨(some 49), .op (.append 6 64 (.tmp 45) (.tmp 48)), none⟩, .act true⟩,
             ⟨⟨(some 50), .op (.fieldAddr 3 (.tmp 5)), none⟩, .pure⟩,
             ⟨⟨none, .op (.store 1 (.tmp 50) (.tmp 49)), none⟩, .act true⟩]))
          (.region [⟨(some 51), .op (.bin .add (.tmp 42) (.val (.int .i64 1))), none⟩,
           ⟨(some 42), .op (.mov (.tmp 51)), none⟩])))))))
       (.region [⟨(some 52), .op (.fieldAddr 2 (.tmp 3)), none⟩,
        ⟨(some 53), .op (.load none (.tmp 52)), none⟩,
        ⟨(some 54), .op (.load (some 4) (.tmp 5)), none⟩,
        ⟨(some 55), .op (.buildSlice 4 1 [(.int .i64 0), .nils, .nils, .nils] [(0, (.tmp 54))]), none⟩,
        ⟨(some 56), .op (.append 4 80 (.tmp 53) (.tmp 55)), none⟩,
        ⟨(some 57), .op (.fieldAddr 2 (.tmp 3)), none⟩,
        ⟨none, .op (.store 1 (.tmp 57) (.tmp 56)), none⟩]))))))
     (.region [⟨(some 58), .op (.bin .add (.tmp 29) (.val (.int .i64 1))), none⟩,
      ⟨(some 29), .op (.mov (.tmp 58)), none⟩])))))))
  (.seq (.seq (.region [⟨(some 59), .op (.mov (.tmp 0)), none⟩,
     ⟨(some 60), .op (.nilCheck (.tmp 59)), none⟩,
     ⟨(some 61), .op (.fieldAddr 1 (.tmp 60)), none⟩,
     ⟨(some 62), .op (.load none (.tmp 61)), none⟩,
     ⟨(some 63), .op (.mov (.tmp 0)), none⟩,
     ⟨(some 64), .op (.nilCheck (.tmp 63)), none⟩,
     ⟨(some 65), .op (.fieldAddr 0 (.tmp 64)), none⟩,
     ⟨(some 66), .op (.load none (.tmp 65)), none⟩,
     ⟨(some 67), .op (.lenS (.tmp 66)), none⟩,
     ⟨(some 68), .op (.bin .lss (.tmp 62) (.tmp 67)), none⟩])
   (.cond (.tmp 68) (.region [⟨(some 69), .op (.mov (.tmp 0)), none⟩,
     ⟨(some 70), .op (.nilCheck (.tmp 69)), none⟩,
     ⟨(some 71), .op (.fieldAddr 1 (.tmp 70)), none⟩,
     ⟨(some 72), .op (.load none (.tmp 71)), none⟩,
     ⟨(some 73), .call (.fnv 42) [(.val (.int .i64 7)), (.tmp 72)], none⟩])
   (.skip)))
  (.seq (.region [⟨(some 74), .op (.load (some 3) (.tmp 3)), none⟩,
    ⟨none, .op (.store 3 (.tmp 2) (.tmp 74)), none⟩])
  (.ret))))))),
  [.cell 2 (some 3)], none, none⟩
def A30 : AFun := ⟨.seq (.region [⟨(some 6), .op (.mov (.val (.int .i64 0))), none⟩])
  (.seq (.region [⟨(some 9), .op (.mov (.tmp 0)), none⟩,
    ⟨(some 10), .op (.nilCheck (.tmp 9)), none⟩,
    ⟨(some 11), .op (.fieldAddr 1 (.tmp 10)), none⟩,
    ⟨(some 12), .op (.load none (.tmp 11)), none⟩,
    ⟨(some 7), .op (.mov (.tmp 12)), none⟩])
  (.seq (.region [⟨(some 13), .op (.mov (.tmp 0)), none⟩,
    ⟨(some 14), .call (.fnv 43) [(.tmp 13)], none⟩,
    ⟨(some 8), .op (.mov (.tmp 14)), none⟩])
  (.seq (.seq (.region [⟨(some 15), .op (.mov (.tmp 8)), none⟩,
     ⟨(some 16), .op (.mov (.tmp 1)), none⟩,
     ⟨(some 17), .op (.conv .u64 (.tmp 16)), none⟩,
     ⟨(some 18), .op (.bin .gtr (.tmp 15) (.tmp 17)), none⟩])
   (.cond (.tmp 18) (.seq (.region [⟨(some 19), .op (.mov (.tmp 0)), none⟩,
      ⟨(some 20), .op (.mov (.tmp 2)), none⟩,
      ⟨(some 21), .op (.mov (.tmp 7)), none⟩,
      ⟨(some 22), .call (.fnv 33) [(.tmp 19), (.tmp 20), (.tmp 21)], none⟩])
    (.seq (.region [⟨(some 6), .op (.mov (.val (.int .i64 0))), none⟩])
    (.ret)))
   (.skip)))
  (.seq (.region [⟨(some 23), .op (.mov (.tmp 8)), none⟩,
    ⟨(some 24), .op (.conv .i64 (.tmp 23)), none⟩,
    ⟨(some 6), .op (.mov (.tmp 24)), none⟩])
  (.ret))))),
  [.tmp 6], none, none⟩
def A31 : AFun := ⟨.seq (.region [⟨(some 4), .op (.mov (.val .nils)), none⟩])
  (.seq (.region [⟨(some 5), .op (.mov (.val .nils)), none⟩])
  (.seq (.region [⟨(some 8), .op (.mov (.tmp 0)), none⟩,
    ⟨(some 9), .op (.mov (.tmp 1)), none⟩,
    ⟨(some 10), .call (.fnv 30) [(.tmp 8), (.tmp 9), (.val (.int .i64 16))], none⟩,
    ⟨(some 6), .op (.mov (.tmp 10)), none⟩])
  (.seq (.seq (.region [⟨(some 7), .op (.mov (.val (.int .i64 0))), none⟩])
   (.block 0 (.loop (.seq (.seq (.region [⟨(some 11), .op (.mov (.tmp 7)), none⟩,
        ⟨(some 12), .op (.mov (.tmp 6)), none⟩,
        ⟨(some 13), .op (.bin .lss (.tmp 11) (.tmp 12)), none⟩,
        ⟨(some 14), .op (.mov (.tmp 13)), none⟩,
        ⟨(some 15), .op (.mov (.tmp 0)), (some (14, true))⟩,
        ⟨(some 16), .op (.nilCheck (.tmp 15)), (some (14, true))⟩,
        ⟨(some 17), .op (.fieldAddr 2 (.tmp 16)), (some (14, true))⟩,
        ⟨(some 18), .op (.load none (.tmp 17)), (some (14, true))⟩,
        ⟨(some 19), .op (.bin .eql (.tmp 18) (.val (.int .i64 0))), (some (14, true))⟩,
        ⟨(some 20), .op (.pick (.tmp 14) (.tmp 19) (.val (.bool false))), none⟩])
      (.cond (.tmp 20) (.skip)
      (.exit 0)))
     (.seq (.block 1 (.region [⟨(some 23), .op (.mov (.tmp 5)), none⟩,
        ⟨(some 24), .op (.mov (.tmp 0)), none⟩,
        ⟨(some 25), .call (.fnv 30) [(.tmp 24), (.val (.int .i64 65535)), (.val (.int .i64 1))], none⟩,
        ⟨(some 26), .op (.buildSlice 1 1 [(.int .i64 0)] [(0, (.tmp 25))]), none⟩,
        ⟨(some 27), .op (.append 1 8 (.tmp 23) (.tmp 26)), none⟩,
        ⟨(some 5), .op (.mov (.tmp 27)), none⟩]))
     (.region [⟨(some 21), .op (.mov (.tmp 7)), none⟩,
      ⟨(some 22), .op (.bin .add (.tmp 21) (.val (.int .i64 1))), none⟩,
      ⟨(some 7), .op (.mov (.tmp 22)), none⟩]))))))
  (.seq (.region [⟨(some 28), .op (.mov (.tmp 5)), none⟩,
    ⟨(some 4), .op (.mov (.tmp 28)), none⟩])
  (.ret))))),
  [.tmp 4], none, none⟩
def A32 : AFun := ⟨.seq (.region [⟨(some 2), .op (.alloc [(.int .i64 0), .nils, .nils, .nils]), none⟩])
  (.seq (.region [⟨(some 3), .op (.alloc [(.int .i64 0), .nils, .nils, .nils]), none⟩])
  (.seq (.region [⟨(some 6), .op (.mov (.tmp 0)), none⟩,
    ⟨(some 7), .call (.fnv 30) [(.tmp 6), (.val (.int .i64 65535)), (.val (.int .i64 1))], none⟩,
    ⟨(some 8), .op (.fieldAddr 0 (.tmp 3)), none⟩,
    ⟨none, .op (.store 1 (.tmp 8) (.tmp 7)), none⟩])
  (.seq (.region [⟨(some 9), .op (.mov (.tmp 0)), none⟩,
    ⟨(some 10), .call (.fnv 31) [(.tmp 9), (.val (.int .i64 32))], none⟩,
    ⟨(some 11), .op (.fieldAddr 1 (.tmp 3)), none⟩,
    ⟨none, .op (.store 1 (.tmp 11) (.tmp 10)), none⟩])
  (.seq (.region [⟨(some 12), .op (.mov (.tmp 0)), none⟩,
    ⟨(some 13), .call (.fnv 31) [(.tmp 12), (.val (.int .i64 32))], none⟩,
    ⟨(some 14), .op (.fieldAddr 2 (.tmp 3)), none⟩,
    ⟨none, .op (.store 1 (.tmp 14) (.tmp 13)), none⟩])
  (.seq (.region [⟨(some 15), .op (.mov (.tmp 0)), none⟩,
    ⟨(some 16), .call (.fnv 30) [(.tmp 15), (.val (.int .i64 256)), (.val (.int .i64 16))], none⟩,
    ⟨(some 4), .op (.mov (.tmp 16)), none⟩])
  (.seq (.seq (.region [⟨(some 5), .op (.mov (.val (.int .i64 0))), none⟩])
   (.block 0 (.loop (.seq (.seq (.region [⟨(some 17), .op (.mov (.tmp 5)), none⟩,
        ⟨(some 18), .op (.mov (.tmp 4)), none⟩,
        ⟨(some 19), .op (.bin .lss (.tmp 17) (.tmp 18)), none⟩,
        ⟨(some 20), .op (.mov (.tmp 19)), none⟩,
        ⟨(some 21), .op (.mov (.tmp 0)), (some (20, true))⟩,
        ⟨(some 22), .op (.nilCheck (.tmp 21)), (some (20, true))⟩,
        ⟨(some 23), .op (.fieldAddr 2 (.tmp 22)), (some (20, true))⟩,
        ⟨(some 24), .op (.load none (.tmp 23)), (some (20, true))⟩,
        ⟨(some 25), .op (.bin .eql (.tmp 24) (.val (.int .i64 0))), (some (20, true))⟩,
        ⟨(some 26), .op (.pick (.tmp 20) (.tmp 25) (.val (.bool false))), none⟩])
      (.cond (.tmp 26) (.skip)
      (.exit 0)))
     (.seq (.block 1 (.draw [⟨⟨(some 29), .op (.fieldAddr 3 (.tmp 3)), none⟩, .pure⟩,
        ⟨⟨(some 30), .op (.load none (.tmp 29)), none⟩, .read [4, 5]⟩,
        ⟨⟨(some 31), .op (.mov (.tmp 0)), none⟩, .pure⟩,
        ⟨⟨(some 32), .call (.fnv 44) [(.tmp 31)], none⟩, .act true⟩,
        ⟨⟨(some 33), .op (.buildSlice 6 1 [(.int .i64 0), (.int .i64 0), (.int .i64 0), (.int .i64 0), (.int .u64 0), .nils] [(0, (.tmp 32))]), none⟩, .act true⟩,
        ⟨⟨(some 34), .op (.append 6 64 (.tmp 30) (.tmp 33)), none⟩, .act true⟩,
        ⟨⟨(some 35), .op (.fieldAddr 3 (.tmp 3)), none⟩, .pure⟩,
        ⟨⟨none, .op (.store 1 (.tmp 35) (.tmp 34)), none⟩, .act true⟩]))
     (.region [⟨(some 27), .op (.mov (.tmp 5)), none⟩,
      ⟨(some 28), .op (.bin .add (.tmp 27) (.val (.int .i64 1))), none⟩,
      ⟨(some 5), .op (.mov (.tmp 28)), none⟩]))))))
  (.seq (.region [⟨(some 36), .op (.load (some 4) (.tmp 3)), none⟩,
    ⟨none, .op (.store 4 (.tmp 2) (.tmp 36)), none⟩])
  (.ret)))))))),
  [.cell 2 (some 4)], none, none⟩
def A33 : AFun := ⟨.seq (.region [⟨(some 6), .op (.mov (.tmp 0)), none⟩,
    ⟨(some 7), .op (.nilCheck (.tmp 6)), none⟩,
    ⟨(some 8), .op (.fieldAddr 2 (.tmp 7)), none⟩,
    ⟨(some 9), .op (.load none (.tmp 8)), none⟩,
    ⟨(some 10), .op (.bin .eql (.tmp 9) (.val (.int .i64 0))), none⟩])
  (.cond (.tmp 10) (.seq (.region [⟨(some 11), .op (.mov (.tmp 0)), none⟩,
     ⟨(some 12), .op (.mov (.tmp 1)), none⟩,
     ⟨(some 13), .op (.nilCheck (.tmp 11)), none⟩,
     ⟨(some 14), .op (.fieldAddr 2 (.tmp 13)), none⟩,
     ⟨none, .op (.store 1 (.tmp 14) (.tmp 12)), none⟩])
   (.region [⟨(some 15), .op (.mov (.tmp 0)), none⟩,
    ⟨(some 16), .op (.mov (.tmp 2)), none⟩,
    ⟨(some 17), .op (.nilCheck (.tmp 15)), none⟩,
    ⟨(some 18), .op (.fieldAddr 3 (.tmp 17)), none⟩,
    ⟨none, .op (.store 1 (.tmp 18) (.tmp 16)), none⟩]))
  (.skip)),
  [], none, none⟩
def A34 : AFun := ⟨.seq (.region [⟨(some 4), .op (.mov (.val (.bool false))), none⟩])
  (.seq (.seq (.region [⟨(some 6), .op (.mov (.tmp 0)), none⟩,
     ⟨(some 7), .op (.lenS (.tmp 6)), none⟩,
     ⟨(some 8), .op (.mov (.tmp 1)), none⟩,
     ⟨(some 9), .op (.lenS (.tmp 8)), none⟩,
     ⟨(some 10), .op (.bin .neq (.tmp 7) (.tmp 9)), none⟩])
   (.cond (.tmp 10) (.seq (.region [⟨(some 4), .op (.mov (.val (.bool false))), none⟩])
    (.ret))
   (.skip)))
  (.seq (.seq (.region [⟨(some 5), .op (.mov (.val (.int .i64 0))), none⟩])
   (.block 0 (.loop (.seq (.seq (.region [⟨(some 11), .op (.mov (.tmp 5)), none⟩,
        ⟨(some 12), .op (.mov (.tmp 0)), none⟩,
        ⟨(some 13), .op (.lenS (.tmp 12)), none⟩,
        ⟨(some 14), .op (.bin .lss (.tmp 11) (.tmp 13)), none⟩])
      (.cond (.tmp 14) (.skip)
      (.exit 0)))
     (.seq (.block 1 (.seq (.region [⟨(some 17), .op (.mov (.tmp 0)), none⟩,
         ⟨(some 18), .op (.mov (.tmp 5)), none⟩,
         ⟨(some 19), .op (.idxS 1 (.tmp 17) (.tmp 18)), none⟩,
         ⟨(some 20), .op (.load none (.tmp 19)), none⟩,
         ⟨(some 21), .op (.mov (.tmp 1)), none⟩,
         ⟨(some 22), .op (.mov (.tmp 5)), none⟩,
         ⟨(some 23), .op (.idxS 1 (.tmp 21) (.tmp 22)), none⟩,
         ⟨(some 24), .op (.load none (.tmp 23)), none⟩,
         ⟨(some 25), .op (.bin .neq (.tmp 20) (.tmp 24)), none⟩])
       (.cond (.tmp 25) (.seq (.region [⟨(some 4), .op (.mov (.val (.bool false))), none⟩])
        (.ret))
       (.skip))))
     (.region [⟨(some 15), .op (.mov (.tmp 5)), none⟩,
      ⟨(some 16), .op (.bin .add (.tmp 15) (.val (.int .i64 1))), none⟩,
      ⟨(some 5), .op (.mov (.tmp 16)), none⟩]))))))
  (.seq (.region [⟨(some 4), .op (.mov (.val (.bool true))), none⟩])
  (.ret)))),
  [.tmp 4], none, none⟩
def A35 : AFun := ⟨.seq (.region [⟨(some 2), .op (.box (.tmp 0)), none⟩,
    ⟨(some 3), .op (.box (.tmp 1)), none⟩,
    ⟨(some 4), .op (.mov (.val (.bool false))), none⟩])
  (.seq (.seq (.region [⟨(some 6), .op (.fieldAddr 0 (.tmp 2)), none⟩,
     ⟨(some 7), .op (.load none (.tmp 6)), none⟩,
     ⟨(some 8), .op (.fieldAddr 0 (.tmp 3)), none⟩,
     ⟨(some 9), .op (.load none (.tmp 8)), none⟩,
     ⟨(some 10), .op (.bin .neq (.tmp 7) (.tmp 9)), none⟩,
     ⟨(some 11), .op (.mov (.tmp 10)), none⟩,
     ⟨(some 12), .op (.fieldAddr 1 (.tmp 2)), (some (11, false))⟩,
     ⟨(some 13), .op (.load none (.tmp 12)), (some (11, false))⟩,
     ⟨(some 14), .op (.fieldAddr 1 (.tmp 3)), (some (11, false))⟩,
     ⟨(some 15), .op (.load none (.tmp 14)), (some (11, false))⟩,
     ⟨(some 16), .op (.bin .neq (.tmp 13) (.tmp 15)), (some (11, false))⟩,
     ⟨(some 17), .op (.pick (.tmp 11) (.val (.bool true)) (.tmp 16)), none⟩,
     ⟨(some 18), .op (.mov (.tmp 17)), none⟩,
     ⟨(some 19), .op (.fieldAddr 2 (.tmp 2)), (some (18, false))⟩,
     ⟨(some 20), .op (.load none (.tmp 19)), (some (18, false))⟩,
     ⟨(some 21), .op (.fieldAddr 2 (.tmp 3)), (some (18, false))⟩,
     ⟨(some 22), .op (.load none (.tmp 21)), (some (18, false))⟩,
     ⟨(some 23), .op (.bin .neq (.tmp 20) (.tmp 22)), (some (18, false))⟩,
     ⟨(some 24), .op (.pick (.tmp 18) (.val (.bool true)) (.tmp 23)), none⟩,
     ⟨(some 25), .op (.mov (.tmp 24)), none⟩,
     ⟨(some 26), .op (.fieldAddr 3 (.tmp 2)), (some (25, false))⟩,
     ⟨(some 27), .op (.load none (.tmp 26)), (some (25, false))⟩,
     ⟨(some 28), .op (.fieldAddr 3 (.tmp 3)), (some (25, false))⟩,
     ⟨(some 29), .op (.load none (.tmp 28)), (some (25, false))⟩,
     ⟨(some 30), .op (.bin .neq (.tmp 27) (.tmp 29)), (some (25, false))⟩,
     ⟨(some 31), .op (.pick (.tmp 25) (.val (.bool true)) (.tmp 30)), none⟩,
     ⟨(some 32), .op (.mov (.tmp 31)), none⟩,
     ⟨(some 33), .op (.fieldAddr 4 (.tmp 2)), (some (32, false))⟩,
     ⟨(some 34), .op (.load none (.tmp 33)), (some (32, false))⟩,
     ⟨(some 35), .op (.fieldAddr 4 (.tmp 3)), (some (32, false))⟩,
     ⟨(some 36), .op (.load none (.tmp 35)), (some (32, false))⟩,
     ⟨(some 37), .op (.bin .neq (.tmp 34) (.tmp 36)), (some (32, false))⟩,
     ⟨(some 38), .op (.pick (.tmp 32) (.val (.bool true)) (.tmp 37)), none⟩,
     ⟨(some 39), .op (.mov (.tmp 38)), none⟩,
     ⟨(some 40), .op (.fieldAddr 5 (.tmp 2)), (some (39, false))⟩,
     ⟨(some 41), .op (.load none (.tmp 40)), (some (39, false))⟩,
     ⟨(some 42), .op (.lenS (.tmp 41)), (some (39, false))⟩,
     ⟨(some 43), .op (.fieldAddr 5 (.tmp 3)), (some (39, false))⟩,
     ⟨(some 44), .op (.load none (.tmp 43)), (some (39, false))⟩,
     ⟨(some 45), .op (.lenS (.tmp 44)), (some (39, false))⟩,
     ⟨(some 46), .op (.bin .neq (.tmp 42) (.tmp 45)), (some (39, false))⟩,
     ⟨(some 47), .op (.pick (.tmp 39) (.val (.bool true)) (.tmp 46)), none⟩])
   (.cond (.tmp 47) (.seq (.region [⟨(some 4), .op (.mov (.val (.bool false))), none⟩])
    (.ret))
   (.skip)))
  (.seq (.seq (.region [⟨(some 5), .op (.mov (.val (.int .i64 0))), none⟩])
   (.block 0 (.loop (.seq (.seq (.region [⟨(some 48), .op (.mov (.tmp 5)), none⟩,
        ⟨(some 49), .op (.fieldAddr 5 (.tmp 2)), none⟩,
        ⟨(some 50), .op (.load none (.tmp 49)), none⟩,
        ⟨(some 51), .op (.lenS (.tmp 50)), none⟩,
        ⟨(some 52), .op (.bin .lss (.tmp 48) (.tmp 51)), none⟩])
      (.cond (.tmp 52) (.skip)
      (.exit 0)))
     (.seq (.block 1 (.seq (.region [⟨(some 55), .op (.fieldAddr 5 (.tmp 2)), none⟩,
         ⟨(some 56), .op (.load none (.tmp 55)), none⟩,
         ⟨(some 57), .op (.mov (.tmp 5)), none⟩,
         ⟨(some 58), .op (.idxS 1 (.tmp 56) (.tmp 57)), none⟩,
         ⟨(some 59), .op (.load none (.tmp 58)), none⟩,
         ⟨(some 60), .op (.fieldAddr 5 (.tmp 3)), none⟩,
         ⟨(some 61), .op (.load none (.tmp 60)), none⟩,
         ⟨(some 62), .op (.mov (.tmp 5)), none⟩,
         ⟨(some 63), .op (.idxS 1 (.tmp 61) (.tmp 62)), none⟩,
         ⟨(some 64), .op (.load none (.tmp 63)), none⟩,
         ⟨(some 65), .op (.bin .neq (.tmp 59) (.tmp 64)), none⟩])
       (.cond (.tmp 65) (.seq (.region [⟨(some 4), .op (.mov (.val (.bool false))), none⟩])
        (.ret))
       (.skip))))
     (.region [⟨(some 53), .op (.mov (.tmp 5)), none⟩,
      ⟨(some 54), .op (.bin .add (.tmp 53) (.val (.int .i64 1))), none⟩,
      ⟨(some 5), .op (.mov (.tmp 54)), none⟩]))))))
  (.seq (.region [⟨(some 4), .op (.mov (.val (.bool true))), none⟩])
  (.ret)))),
  [.tmp 4], none, none⟩
def A36 : AFun := ⟨.seq (.region [⟨(some 4), .op (.mov (.tmp 0)), none⟩,
    ⟨(some 5), .op (.nilCheck (.tmp 4)), none⟩,
    ⟨(some 6), .op (.fieldAddr 1 (.tmp 5)), none⟩,
    ⟨(some 7), .op (.load none (.tmp 6)), none⟩,
    ⟨(some 8), .op (.bin .eql (.tmp 7) (.val (.int .i64 0))), none⟩])
  (.cond (.tmp 8) (.region [⟨(some 9), .op (.mov (.tmp 0)), none⟩,
    ⟨(some 10), .op (.mov (.tmp 1)), none⟩,
    ⟨(some 11), .op (.nilCheck (.tmp 9)), none⟩,
    ⟨(some 12), .op (.fieldAddr 1 (.tmp 11)), none⟩,
    ⟨none, .op (.store 1 (.tmp 12) (.tmp 10)), none⟩])
  (.skip)),
  [], none, none⟩
def A37 : AFun := ⟨.seq (.block 0 (.loop (.seq (.seq (.region [⟨(some 4), .op (.mov (.tmp 1)), none⟩,
        ⟨(some 5), .op (.bin .gtr (.tmp 4) (.val (.int .u64 127))), none⟩])
      (.cond (.tmp 5) (.skip)
      (.exit 0)))
     (.seq (.block 1 (.region [⟨(some 8), .op (.mov (.tmp 0)), none⟩,
        ⟨(some 9), .op (.mov (.tmp 0)), none⟩,
        ⟨(some 10), .op (.nilCheck (.tmp 9)), none⟩,
        ⟨(some 11), .op (.fieldAddr 0 (.tmp 10)), none⟩,
        ⟨(some 12), .op (.load none (.tmp 11)), none⟩,
        ⟨(some 13), .op (.mov (.tmp 1)), none⟩,
        ⟨(some 14), .op (.conv .u8 (.tmp 13)), none⟩,
        ⟨(some 15), .op (.bin .or (.tmp 14) (.val (.int .u8 128))), none⟩,
        ⟨(some 16), .op (.buildSlice 1 1 [(.int .u8 0)] [(0, (.tmp 15))]), none⟩,
        ⟨(some 17), .op (.append 1 1 (.tmp 12) (.tmp 16)), none⟩,
        ⟨(some 18), .op (.nilCheck (.tmp 8)), none⟩,
        ⟨(some 19), .op (.fieldAddr 0 (.tmp 18)), none⟩,
        ⟨none, .op (.store 1 (.tmp 19) (.tmp 17)), none⟩]))
     (.region [⟨(some 6), .op (.mov (.tmp 1)), none⟩,
      ⟨(some 7), .op (.bin .shr (.tmp 6) (.val (.int .u64 7))), none⟩,
      ⟨(some 1), .op (.mov (.tmp 7)), none⟩])))))
  (.region [⟨(some 20), .op (.mov (.tmp 0)), none⟩,
   ⟨(some 21), .op (.mov (.tmp 0)), none⟩,
   ⟨(some 22), .op (.nilCheck (.tmp 21)), none⟩,
   ⟨(some 23), .op (.fieldAddr 0 (.tmp 22)), none⟩,
   ⟨(some 24), .op (.load none (.tmp 23)), none⟩,
   ⟨(some 25), .op (.mov (.tmp 1)), none⟩,
   ⟨(some 26), .op (.conv .u8 (.tmp 25)), none⟩,
   ⟨(some 27), .op (.buildSlice 1 1 [(.int .u8 0)] [(0, (.tmp 26))]), none⟩,
   ⟨(some 28), .op (.append 1 1 (.tmp 24) (.tmp 27)), none⟩,
   ⟨(some 29), .op (.nilCheck (.tmp 20)), none⟩,
   ⟨(some 30), .op (.fieldAddr 0 (.tmp 29)), none⟩,
   ⟨none, .op (.store 1 (.tmp 30) (.tmp 28)), none⟩]),
  [], none, none⟩
def A38 : AFun := ⟨.seq (.region [⟨(some 2), .op (.mov (.val .nils)), none⟩])
  (.seq (.region [⟨(some 3), .op (.mov (.val .nils)), none⟩])
  (.seq (.block 0 (.loop (.seq (.seq (.region [⟨(some 4), .op (.mov (.tmp 0)), none⟩,
        ⟨(some 5), .op (.bin .geq (.tmp 4) (.val (.int .u64 128))), none⟩])
      (.cond (.tmp 5) (.skip)
      (.exit 0)))
     (.block 1 (.seq (.region [⟨(some 6), .op (.mov (.tmp 3)), none⟩,
        ⟨(some 7), .op (.mov (.tmp 0)), none⟩,
        ⟨(some 8), .op (.bin .rem (.tmp 7) (.val (.int .u64 128))), none⟩,
        ⟨(some 9), .op (.bin .add (.tmp 8) (.val (.int .u64 128))), none⟩,
        ⟨(some 10), .op (.conv .u8 (.tmp 9)), none⟩,
        ⟨(some 11), .op (.buildSlice 1 1 [(.int .u8 0)] [(0, (.tmp 10))]), none⟩,
        ⟨(some 12), .op (.append 1 1 (.tmp 6) (.tmp 11)), none⟩,
        ⟨(some 3), .op (.mov (.tmp 12)), none⟩])
      (.region [⟨(some 13), .op (.mov (.tmp 0)), none⟩,
       ⟨(some 14), .op (.bin .quo (.tmp 13) (.val (.int .u64 128))), none⟩,
       ⟨(some 0), .op (.mov (.tmp 14)), none⟩]))))))
  (.seq (.region [⟨(some 15), .op (.mov (.tmp 3)), none⟩,
    ⟨(some 16), .op (.mov (.tmp 0)), none⟩,
    ⟨(some 17), .op (.conv .u8 (.tmp 16)), none⟩,
    ⟨(some 18), .op (.buildSlice 1 1 [(.int .u8 0)] [(0, (.tmp 17))]), none⟩,
    ⟨(some 19), .op (.append 1 1 (.tmp 15) (.tmp 18)), none⟩,
    ⟨(some 3), .op (.mov (.tmp 19)), none⟩])
  (.seq (.region [⟨(some 20), .op (.mov (.tmp 3)), none⟩,
    ⟨(some 2), .op (.mov (.tmp 20)), none⟩])
  (.ret))))),
  [.tmp 2], none, none⟩
def A39 : AFun := ⟨.seq (.region [⟨(some 6), .op (.mov (.val (.int .i64 0))), none⟩])
  (.seq (.region [⟨(some 9), .op (.mov (.tmp 0)), none⟩,
    ⟨(some 10), .op (.nilCheck (.tmp 9)), none⟩,
    ⟨(some 11), .op (.fieldAddr 1 (.tmp 10)), none⟩,
    ⟨(some 12), .op (.load none (.tmp 11)), none⟩,
    ⟨(some 7), .op (.mov (.tmp 12)), none⟩])
  (.seq (.region [⟨(some 13), .op (.mov (.tmp 0)), none⟩,
    ⟨(some 14), .call (.fnv 45) [(.tmp 13)], none⟩,
    ⟨(some 8), .op (.mov (.tmp 14)), none⟩])
  (.seq (.seq (.region [⟨(some 15), .op (.mov (.tmp 8)), none⟩,
     ⟨(some 16), .op (.mov (.tmp 1)), none⟩,
     ⟨(some 17), .op (.conv .u64 (.tmp 16)), none⟩,
     ⟨(some 18), .op (.bin .gtr (.tmp 15) (.tmp 17)), none⟩])
   (.cond (.tmp 18) (.region [⟨(some 19), .op (.mov (.tmp 2)), none⟩,
     ⟨(some 20), .op (.mov (.tmp 7)), none⟩,
     ⟨(some 21), .call (.fnv 42) [(.tmp 19), (.tmp 20)], none⟩])
   (.skip)))
  (.seq (.region [⟨(some 22), .op (.mov (.tmp 8)), none⟩,
    ⟨(some 23), .op (.conv .i64 (.tmp 22)), none⟩,
    ⟨(some 6), .op (.mov (.tmp 23)), none⟩])
  (.ret))))),
  [.tmp 6], none, none⟩
def A40 : AFun := ⟨.seq (.region [⟨(some 4), .op (.mov (.val .nils)), none⟩])
  (.seq (.region [⟨(some 5), .op (.mov (.val .nils)), none⟩])
  (.seq (.seq (.region [⟨(some 6), .op (.mov (.tmp 0)), none⟩,
     ⟨(some 7), .op (.mov (.tmp 1)), none⟩,
     ⟨(some 8), .call (.fnv 39) [(.tmp 6), (.tmp 7), (.val (.int .i64 16))], none⟩,
     ⟨(some 9), .op (.mov (.val (.int .i64 0))), none⟩])
   (.block 0 (.loop (.seq (.region [⟨(some 10), .op (.bin .lss (.tmp 9) (.tmp 8)), none⟩])
     (.seq (.cond (.tmp 10) (.skip)
      (.exit 0))
     (.seq (.block 1 (.region [⟨(some 11), .op (.mov (.tmp 5)), none⟩,
        ⟨(some 12), .op (.mov (.tmp 0)), none⟩,
        ⟨(some 13), .call (.fnv 39) [(.tmp 12), (.val (.int .i64 65535)), (.val (.int .i64 1))], none⟩,
        ⟨(some 14), .op (.buildSlice 1 1 [(.int .i64 0)] [(0, (.tmp 13))]), none⟩,
        ⟨(some 15), .op (.append 1 8 (.tmp 11) (.tmp 14)), none⟩,
        ⟨(some 5), .op (.mov (.tmp 15)), none⟩]))
     (.region [⟨(some 16), .op (.bin .add (.tmp 9) (.val (.int .i64 1))), none⟩,
      ⟨(some 9), .op (.mov (.tmp 16)), none⟩])))))))
  (.seq (.region [⟨(some 17), .op (.mov (.tmp 5)), none⟩,
    ⟨(some 4), .op (.mov (.tmp 17)), none⟩])
  (.ret)))),
  [.tmp 4], none, none⟩
def A41 : AFun := ⟨.seq (.region [⟨(some 2), .op (.alloc [(.int .i64 0), (.int .i64 0), (.int .i64 0), (.int .i64 0), (.int .u64 0), .nils]), none⟩])
  (.seq (.region [⟨(some 3), .op (.alloc [(.int .i64 0), (.int .i64 0), (.int .i64 0), (.int .i64 0)]), none⟩])
  (.seq (.seq (.region [⟨(some 6), .op (.mov (.val (.int .i64 0))), none⟩])
   (.block 0 (.loop (.seq (.region [⟨(some 7), .op (.bin .lss (.tmp 6) (.val (.int .i64 4))), none⟩])
     (.seq (.cond (.tmp 7) (.skip)
      (.exit 0))
     (.seq (.block 1 (.seq (.region [⟨(some 8), .op (.mov (.tmp 6)), none⟩,
         ⟨(some 4), .op (.mov (.tmp 8)), none⟩])
       (.region [⟨(some 9), .op (.mov (.tmp 4)), none⟩,
        ⟨(some 10), .op (.mov (.tmp 0)), none⟩,
        ⟨(some 11), .call (.fnv 39) [(.tmp 10), (.val (.int .i64 65535)), (.val (.int .i64 1))], none⟩,
        ⟨(some 12), .op (.idxA 1 4 (.tmp 3) (.tmp 9)), none⟩,
        ⟨none, .op (.store 1 (.tmp 12) (.tmp 11)), none⟩])))
     (.region [⟨(some 13), .op (.bin .add (.tmp 6) (.val (.int .i64 1))), none⟩,
      ⟨(some 6), .op (.mov (.tmp 13)), none⟩])))))))
  (.seq (.draw [⟨⟨(some 14), .op (.idxA 1 4 (.tmp 3) (.val (.int .i64 0))), none⟩, .pure⟩,
    ⟨⟨(some 15), .op (.load none (.tmp 14)), none⟩, .read [11, 12]⟩,
    ⟨⟨(some 16), .op (.idxA 1 4 (.tmp 3) (.val (.int .i64 1))), none⟩, .pure⟩,
    ⟨⟨(some 17), .op (.load none (.tmp 16)), none⟩, .read [11, 12]⟩,
    ⟨⟨(some 18), .op (.idxA 1 4 (.tmp 3) (.val (.int .i64 2))), none⟩, .pure⟩,
    ⟨⟨(some 19), .op (.load none (.tmp 18)), none⟩, .read [11, 12]⟩,
    ⟨⟨(some 20), .op (.idxA 1 4 (.tmp 3) (.val (.int .i64 3))), none⟩, .pure⟩,
    ⟨⟨(some 21), .op (.load none (.tmp 20)), none⟩, .read [11, 12]⟩,
    ⟨⟨(some 22), .op (.mov (.tmp 0)), none⟩, .pure⟩,
    ⟨⟨(some 23), .call (.fnv 45) [(.tmp 22)], none⟩, .act true⟩,
    ⟨⟨(some 24), .op (.build [(.int .i64 0), (.int .i64 0), (.int .i64 0), (.int .i64 0), (.int .u64 0), .nils] [(0, 1, (.tmp 15)), (1, 1, (.tmp 17)), (2, 1, (.tmp 19)), (3, 1, (.tmp 21)), (4, 1, (.tmp 23))]), none⟩, .pure⟩,
    ⟨⟨(some 5), .op (.alloc [(.int .i64 0), (.int .i64 0), (.int .i64 0), (.int .i64 0), (.int .u64 0), .nils]), none⟩, .act true⟩,
    ⟨⟨none, .op (.store 6 (.tmp 5) (.tmp 24)), none⟩, .act true⟩])
  (.seq (.seq (.region [⟨(some 25), .op (.mov (.tmp 0)), none⟩,
     ⟨(some 26), .call (.fnv 39) [(.tmp 25), (.val (.int .i64 24)), (.val (.int .i64 16))], none⟩,
     ⟨(some 27), .op (.mov (.val (.int .i64 0))), none⟩])
   (.block 2 (.loop (.seq (.region [⟨(some 28), .op (.bin .lss (.tmp 27) (.tmp 26)), none⟩])
     (.seq (.cond (.tmp 28) (.skip)
      (.exit 2))
     (.seq (.block 3 (.draw [⟨⟨(some 29), .op (.fieldAddr 5 (.tmp 5)), none⟩, .pure⟩,
        ⟨⟨(some 30), .op (.load none (.tmp 29)), none⟩, .read [4, 5]⟩,
        ⟨⟨(some 31), .op (.mov (.tmp 0)), none⟩, .pure⟩,
        ⟨⟨(some 32), .call (.fnv 39) [(.tmp 31), (.val (.int .i64 65535)), (.val (.int .i64 1))], none⟩, .act true⟩,
        ⟨⟨(some 33), .op (.buildSlice 1 1 [(.int .i64 0)] [(0, (.tmp 32))]), none⟩, .act true⟩,
        ⟨⟨(some 34), .op (.append 1 8 (.tmp 30) (.tmp 33)), none⟩, .act true⟩,
        ⟨⟨(some 35), .op (.fieldAddr 5 (.tmp 5)), none⟩, .pure⟩,
        ⟨⟨none, .op (.store 1 (.tmp 35) (.tmp 34)), none⟩, .act true⟩]))
     (.region [⟨(some 36), .op (.bin .add (.tmp 27) (.val (.int .i64 1))), none⟩,
      ⟨(some 27), .op (.mov (.tmp 36)), none⟩])))))))
  (.seq (.region [⟨(some 37), .op (.load (some 6) (.tmp 5)), none⟩,
    ⟨none, .op (.store 6 (.tmp 2) (.tmp 37)), none⟩])
  (.ret)))))),
  [.cell 2 (some 6)], none, none⟩
def A42 : AFun := ⟨.region [⟨(some 4), .op (.mov (.tmp 0)), none⟩,
   ⟨(some 5), .op (.mov (.tmp 1)), none⟩,
   ⟨(some 6), .op (.build [(.int .i64 0), (.int .i64 0), (.int .i64 0)] [(0, 1, (.tmp 4)), (1, 1, (.val (.int .i64 (-1)))), (2, 1, (.tmp 5))]), none⟩,
   ⟨(some 7), .op (.build [(.int .i64 0), (.int .i64 0), (.int .i64 0)] [(0, 3, (.tmp 6))]), none⟩,
   ⟨(some 8), .op (.mkIface 74 (.tmp 7)), none⟩,
   ⟨none, .panic (.tmp 8), none⟩],
  [], none, none⟩
def A43 : AFun := ⟨.seq (.region [⟨(some 2), .op (.mov (.val (.int .u64 0))), none⟩])
  (.seq (.region [⟨(some 7), .op (.mov (.tmp 0)), none⟩,
    ⟨(some 8), .op (.nilCheck (.tmp 7)), none⟩,
    ⟨(some 9), .op (.fieldAddr 1 (.tmp 8)), none⟩,
    ⟨(some 10), .op (.load none (.tmp 9)), none⟩,
    ⟨(some 3), .op (.mov (.tmp 10)), none⟩])
  (.seq (.region [⟨(some 4), .op (.mov (.val (.int .u64 0))), none⟩])
  (.seq (.seq (.region [⟨(some 5), .op (.mov (.val (.int .i64 0))), none⟩])
   (.block 0 (.loop (.seq (.seq (.region [⟨(some 11), .op (.mov (.tmp 0)), none⟩,
        ⟨(some 12), .op (.nilCheck (.tmp 11)), none⟩,
        ⟨(some 13), .op (.fieldAddr 2 (.tmp 12)), none⟩,
        ⟨(some 14), .op (.load none (.tmp 13)), none⟩,
        ⟨(some 15), .op (.bin .eql (.tmp 14) (.val (.int .i64 0))), none⟩])
      (.cond (.tmp 15) (.skip)
      (.exit 0)))
     (.seq (.block 1 (.seq (.seq (.region [⟨(some 18), .op (.mov (.tmp 0)), none⟩,
          ⟨(some 19), .op (.nilCheck (.tmp 18)), none⟩,
          ⟨(some 20), .op (.fieldAddr 1 (.tmp 19)), none⟩,
          ⟨(some 21), .op (.load none (.tmp 20)), none⟩,
          ⟨(some 22), .op (.mov (.tmp 0)), none⟩,
          ⟨(some 23), .op (.nilCheck (.tmp 22)), none⟩,
          ⟨(some 24), .op (.fieldAddr 0 (.tmp 23)), none⟩,
          ⟨(some 25), .op (.load none (.tmp 24)), none⟩,
          ⟨(some 26), .op (.lenS (.tmp 25)), none⟩,
          ⟨(some 27), .op (.bin .geq (.tmp 21) (.tmp 26)), none⟩])
        (.cond (.tmp 27) (.seq (.region [⟨(some 28), .op (.mov (.tmp 0)), none⟩,
           ⟨(some 29), .op (.mov (.tmp 3)), none⟩,
           ⟨(some 30), .call (.fnv 33) [(.tmp 28), (.val (.int .i64 7)), (.tmp 29)], none⟩])
         (.seq (.region [⟨(some 2), .op (.mov (.val (.int .u64 0))), none⟩])
         (.ret)))
        (.skip)))
       (.seq (.region [⟨(some 31), .op (.mov (.tmp 0)), none⟩,
         ⟨(some 32), .op (.nilCheck (.tmp 31)), none⟩,
         ⟨(some 33), .op (.fieldAddr 0 (.tmp 32)), none⟩,
         ⟨(some 34), .op (.load none (.tmp 33)), none⟩,
         ⟨(some 35), .op (.mov (.tmp 0)), none⟩,
         ⟨(some 36), .op (.nilCheck (.tmp 35)), none⟩,
         ⟨(some 37), .op (.fieldAddr 1 (.tmp 36)), none⟩,
         ⟨(some 38), .op (.load none (.tmp 37)), none⟩,
         ⟨(some 39), .op (.idxS 1 (.tmp 34) (.tmp 38)), none⟩,
         ⟨(some 40), .op (.load none (.tmp 39)), none⟩,
         ⟨(some 6), .op (.mov (.tmp 40)), none⟩])
       (.seq (.region [⟨(some 41), .op (.mov (.tmp 0)), none⟩,
         ⟨(some 42), .op (.nilCheck (.tmp 41)), none⟩,
         ⟨(some 43), .op (.fieldAddr 1 (.tmp 42)), none⟩,
         ⟨(some 44), .op (.load none (.tmp 43)), none⟩,
         ⟨(some 45), .op (.bin .add (.tmp 44) (.val (.int .i64 1))), none⟩,
         ⟨(some 46), .op (.nilCheck (.tmp 41)), none⟩,
         ⟨(some 47), .op (.fieldAddr 1 (.tmp 46)), none⟩,
         ⟨none, .op (.store 1 (.tmp 47) (.tmp 45)), none⟩])
       (.seq (.seq (.region [⟨(some 48), .op (.mov (.tmp 5)), none⟩,
          ⟨(some 49), .op (.bin .eql (.tmp 48) (.val (.int .i64 9))), none⟩,
          ⟨(some 50), .op (.mov (.tmp 49)), none⟩,
          ⟨(some 51), .op (.mov (.tmp 6)), (some (50, true))⟩,
          ⟨(some 52), .op (.bin .gtr (.tmp 51) (.val (.int .u8 1))), (some (50, true))⟩,
          ⟨(some 53), .op (.pick (.tmp 50) (.tmp 52) (.val (.bool false))), none⟩,
          ⟨(some 54), .op (.mov (.tmp 53)), none⟩,
          ⟨(some 55), .op (.mov (.tmp 5)), (some (54, false))⟩,
          ⟨(some 56), .op (.bin .gtr (.tmp 55) (.val (.int .i64 0))), (some (54, false))⟩,
          ⟨(some 57), .op (.mov (.tmp 56)), (some (54, false))⟩,
          ⟨(some 58), .op (.mov (.tmp 6)), (some (57, true))⟩,
          ⟨(some 59), .op (.bin .eql (.tmp 58) (.val (.int .u8 0))), (some (57, true))⟩,
          ⟨(some 60), .op (.pick (.tmp 57) (.tmp 59) (.val (.bool false))), (some (54, false))⟩,
          ⟨(some 61), .op (.pick (.tmp 54) (.val (.bool true)) (.tmp 60)), none⟩])
        (.cond (.tmp 61) (.seq (.region [⟨(some 62), .op (.mov (.tmp 0)), none⟩,
           ⟨(some 63), .op (.mov (.tmp 3)), none⟩,
           ⟨(some 64), .call (.fnv 33) [(.tmp 62), (.val (.int .i64 8)), (.tmp 63)], none⟩])
         (.seq (.region [⟨(some 2), .op (.mov (.val (.int .u64 0))), none⟩])
         (.ret)))
        (.skip)))
       (.seq (.region [⟨(some 65), .op (.mov (.tmp 4)), none⟩,
         ⟨(some 66), .op (.mov (.tmp 6)), none⟩,
         ⟨(some 67), .op (.bin .rem (.tmp 66) (.val (.int .u8 128))), none⟩,
         ⟨(some 68), .op (.conv .u64 (.tmp 67)), none⟩,
         ⟨(some 69), .op (.mov (.tmp 5)), none⟩,
         ⟨(some 70), .op (.bin .mul (.val (.int .i64 7)) (.tmp 69)), none⟩,
         ⟨(some 71), .op (.conv .u64 (.tmp 70)), none⟩,
         ⟨(some 72), .op (.bin .shl (.tmp 68) (.tmp 71)), none⟩,
         ⟨(some 73), .op (.bin .add (.tmp 65) (.tmp 72)), none⟩,
         ⟨(some 4), .op (.mov (.tmp 73)), none⟩])
       (.seq (.region [⟨(some 74), .op (.mov (.tmp 6)), none⟩,
         ⟨(some 75), .op (.bin .lss (.tmp 74) (.val (.int .u8 128))), none⟩])
       (.cond (.tmp 75) (.seq (.region [⟨(some 76), .op (.mov (.tmp 4)), none⟩,
          ⟨(some 2), .op (.mov (.tmp 76)), none⟩])
        (.ret))
       (.skip)))))))))
     (.region [⟨(some 16), .op (.mov (.tmp 5)), none⟩,
      ⟨(some 17), .op (.bin .add (.tmp 16) (.val (.int .i64 1))), none⟩,
      ⟨(some 5), .op (.mov (.tmp 17)), none⟩]))))))
  (.seq (.region [⟨(some 2), .op (.mov (.val (.int .u64 0))), none⟩])
  (.ret))))),
  [.tmp 2], none, none⟩
def A44 : AFun := ⟨.seq (.region [⟨(some 2), .op (.alloc [(.int .i64 0), (.int .i64 0), (.int .i64 0), (.int .i64 0), (.int .u64 0), .nils]), none⟩])
  (.seq (.region [⟨(some 3), .op (.alloc [(.int .i64 0), (.int .i64 0), (.int .i64 0), (.int .i64 0), (.int .u64 0), .nils]), none⟩])
  (.seq (.region [⟨(some 6), .op (.mov (.tmp 0)), none⟩,
    ⟨(some 7), .call (.fnv 30) [(.tmp 6), (.val (.int .i64 65535)), (.val (.int .i64 1))], none⟩,
    ⟨(some 8), .op (.fieldAddr 0 (.tmp 3)), none⟩,
    ⟨none, .op (.store 1 (.tmp 8) (.tmp 7)), none⟩])
  (.seq (.region [⟨(some 9), .op (.mov (.tmp 0)), none⟩,
    ⟨(some 10), .call (.fnv 30) [(.tmp 9), (.val (.int .i64 65535)), (.val (.int .i64 1))], none⟩,
    ⟨(some 11), .op (.fieldAddr 1 (.tmp 3)), none⟩,
    ⟨none, .op (.store 1 (.tmp 11) (.tmp 10)), none⟩])
  (.seq (.region [⟨(some 12), .op (.mov (.tmp 0)), none⟩,
    ⟨(some 13), .call (.fnv 30) [(.tmp 12), (.val (.int .i64 65535)), (.val (.int .i64 1))], none⟩,
    ⟨(some 14), .op (.fieldAddr 2 (.tmp 3)), none⟩,
    ⟨none, .op (.store 1 (.tmp 14) (.tmp 13)), none⟩])
  (.seq (.region [⟨(some 15), .op (.mov (.tmp 0)), none⟩,
    ⟨(some 16), .call (.fnv 30) [(.tmp 15), (.val (.int .i64 65535)), (.val (.int .i64 1))], none⟩,
    ⟨(some 17), .op (.fieldAddr 3 (.tmp 3)), none⟩,
    ⟨none, .op (.store 1 (.tmp 17) (.tmp 16)), none⟩])
  (.seq (.region [⟨(some 18), .op (.mov (.tmp 0)), none⟩,
    ⟨(some 19), .call (.fnv 43) [(.tmp 18)], none⟩,
    ⟨(some 20), .op (.fieldAddr 4 (.tmp 3)), none⟩,
    ⟨none, .op (.store 1 (.tmp 20) (.tmp 19)), none⟩])
  (.seq (.region [⟨(some 21), .op (.mov (.tmp 0)), none⟩,
    ⟨(some 22), .call (.fnv 30) [(.tmp 21), (.val (.int .i64 24)), (.val (.int .i64 16))], none⟩,
    ⟨(some 4), .op (.mov (.tmp 22)), none⟩])
  (.seq (.seq (.region [⟨(some 5), .op (.mov (.val (.int .i64 0))), none⟩])
   (.block 0 (.loop (.seq (.seq (.region [⟨(some 23), .op (.mov (.tmp 5)), none⟩,
        ⟨(some 24), .op (.mov (.tmp 4)), none⟩,
        ⟨(some 25), .op (.bin .lss (.tmp 23) (.tmp 24)), none⟩,
        ⟨(some 26), .op (.mov (.tmp 25)), none⟩,
        ⟨(some 27), .op (.mov (.tmp 0)), (some (26, true))⟩,
        ⟨(some 28), .op (.nilCheck (.tmp 27)), (some (26, true))⟩,
        ⟨(some 29), .op (.fieldAddr 2 (.tmp 28)), (some (26, true))⟩,
        ⟨(some 30), .op (.load none (.tmp 29)), (some (26, true))⟩,
        ⟨(some 31), .op (.bin .eql (.tmp 30) (.val (.int .i64 0))), (some (26, true))⟩,
        ⟨(some 32), .op (.pick (.tmp 26) (.tmp 31) (.val (.bool false))), none⟩])
      (.cond (.tmp 32) (.skip)
      (.exit 0)))
     (.seq (.block 1 (.draw [⟨⟨(some 35), .op (.fieldAddr 5 (.tmp 3)), none⟩, .pure⟩,
        ⟨⟨(some 36), .op (.load none (.tmp 35)), none⟩, .read [4, 5]⟩,
        ⟨⟨(some 37), .op (.mov (.tmp 0)), none⟩, .pure⟩,
        ⟨⟨(some 38), .call (.fnv 30) [(.tmp 37), (.val (.int .i64 65535)), (.val (.int .i64 1))], none⟩, .act true⟩,
        ⟨⟨(some 39), .op (.buildSlice 1 1 [(.int .i64 0)] [(0, (.tmp 38))]), none⟩, .act true⟩,
        ⟨⟨(some 40), .op (.append 1 8 (.tmp 36) (.tmp 39)), none⟩, .act true⟩,
        ⟨⟨(some 41), .op (.fieldAddr 5 (.tmp 3)), none⟩, .pure⟩,
        ⟨⟨none, .op (.store 1 (.tmp 41) (.tmp 40)), none⟩, .act true⟩]))
     (.region [⟨(some 33), .op (.mov (.tmp 5)), none⟩,
      ⟨(some 34), .op (.bin .add (.tmp 33) (.val (.int .i64 1))), none⟩,
      ⟨(some 5), .op (.mov (.tmp 34)), none⟩]))))))
  (.seq (.region [⟨(some 42), .op (.load (some 6) (.tmp 3)), none⟩,
    ⟨none, .op (.store 6 (.tmp 2) (.tmp 42)), none⟩])
  (.ret)))))))))),
  [.cell 2 (some 6)], none, none⟩
def A45 : AFun := ⟨.seq (.region [⟨(some 2), .op (.mov (.val (.int .u64 0))), none⟩])
  (.seq (.region [⟨(some 7), .op (.mov (.tmp 0)), none⟩,
    ⟨(some 8), .op (.nilCheck (.tmp 7)), none⟩,
    ⟨(some 9), .op (.fieldAddr 1 (.tmp 8)), none⟩,
    ⟨(some 10), .op (.load none (.tmp 9)), none⟩,
    ⟨(some 3), .op (.mov (.tmp 10)), none⟩])
  (.seq (.region [⟨(some 4), .op (.mov (.val (.int .u64 0))), none⟩])
  (.seq (.region [⟨(some 5), .op (.mov (.val (.int .i64 0))), none⟩])
  (.block 0 (.loop (.seq (.block 1 (.seq (.seq (.region [⟨(some 13), .op (.mov (.tmp 0)), none⟩,
         ⟨(some 14), .op (.nilCheck (.tmp 13)), none⟩,
         ⟨(some 15), .op (.fieldAddr 1 (.tmp 14)), none⟩,
         ⟨(some 16), .op (.load none (.tmp 15)), none⟩,
         ⟨(some 17), .op (.mov (.tmp 0)), none⟩,
         ⟨(some 18), .op (.nilCheck (.tmp 17)), none⟩,
         ⟨(some 19), .op (.fieldAddr 0 (.tmp 18)), none⟩,
         ⟨(some 20), .op (.load none (.tmp 19)), none⟩,
         ⟨(some 21), .op (.lenS (.tmp 20)), none⟩,
         ⟨(some 22), .op (.bin .eql (.tmp 16) (.tmp 21)), none⟩])
       (.cond (.tmp 22) (.region [⟨(some 23), .op (.mov (.tmp 3)), none⟩,
         ⟨(some 24), .call (.fnv 42) [(.val (.int .i64 7)), (.tmp 23)], none⟩])
       (.skip)))
      (.seq (.region [⟨(some 25), .op (.mov (.tmp 0)), none⟩,
        ⟨(some 26), .op (.nilCheck (.tmp 25)), none⟩,
        ⟨(some 27), .op (.fieldAddr 0 (.tmp 26)), none⟩,
        ⟨(some 28), .op (.load none (.tmp 27)), none⟩,
        ⟨(some 29), .op (.mov (.tmp 0)), none⟩,
        ⟨(some 30), .op (.nilCheck (.tmp 29)), none⟩,
        ⟨(some 31), .op (.fieldAddr 1 (.tmp 30)), none⟩,
        ⟨(some 32), .op (.load none (.tmp 31)), none⟩,
        ⟨(some 33), .op (.idxS 1 (.tmp 28) (.tmp 32)), none⟩,
        ⟨(some 34), .op (.load none (.tmp 33)), none⟩,
        ⟨(some 6), .op (.mov (.tmp 34)), none⟩])
      (.seq (.region [⟨(some 35), .op (.mov (.tmp 0)), none⟩,
        ⟨(some 36), .op (.nilCheck (.tmp 35)), none⟩,
        ⟨(some 37), .op (.fieldAddr 1 (.tmp 36)), none⟩,
        ⟨(some 38), .op (.load none (.tmp 37)), none⟩,
        ⟨(some 39), .op (.bin .add (.tmp 38) (.val (.int .i64 1))), none⟩,
        ⟨(some 40), .op (.nilCheck (.tmp 35)), none⟩,
        ⟨(some 41), .op (.fieldAddr 1 (.tmp 40)), none⟩,
        ⟨none, .op (.store 1 (.tmp 41) (.tmp 39)), none⟩])
      (.seq (.seq (.region [⟨(some 42), .op (.mov (.tmp 5)), none⟩,
         ⟨(some 43), .op (.bin .eql (.tmp 42) (.val (.int .i64 63))), none⟩,
         ⟨(some 44), .op (.mov (.tmp 43)), none⟩,
         ⟨(some 45), .op (.mov (.tmp 6)), (some (44, true))⟩,
         ⟨(some 46), .op (.bin .gtr (.tmp 45) (.val (.int .u8 1))), (some (44, true))⟩,
         ⟨(some 47), .op (.pick (.tmp 44) (.tmp 46) (.val (.bool false))), none⟩,
         ⟨(some 48), .op (.mov (.tmp 47)), none⟩,
         ⟨(some 49), .op (.mov (.tmp 6)), (some (48, false))⟩,
         ⟨(some 50), .op (.bin .eql (.tmp 49) (.val (.int .u8 0))), (some (48, false))⟩,
         ⟨(some 51), .op (.mov (.tmp 50)), (some (48, false))⟩,
         ⟨(some 52), .op (.mov (.tmp 5)), (some (51, true))⟩,
         ⟨(some 53), .op (.bin .gtr (.tmp 52) (.val (.int .i64 0))), (some (51, true))⟩,
         ⟨(some 54), .op (.pick (.tmp 51) (.tmp 53) (.val (.bool false))), (some (48, false))⟩,
         ⟨(some 55), .op (.pick (.tmp 48) (.val (.bool true)) (.tmp 54)), none⟩])
       (.cond (.tmp 55) (.region [⟨(some 56), .op (.mov (.tmp 3)), none⟩,
         ⟨(some 57), .call (.fnv 42) [(.val (.int .i64 8)), (.tmp 56)], none⟩])
       (.skip)))
      (.seq (.region [⟨(some 58), .op (.mov (.tmp 4)), none⟩,
        ⟨(some 59), .op (.mov (.tmp 6)), none⟩,
        ⟨(some 60), .op (.bin .and (.tmp 59) (.val (.int .u8 127))), none⟩,
        ⟨(some 61), .op (.conv .u64 (.tmp 60)), none⟩,
        ⟨(some 62), .op (.mov (.tmp 5)), none⟩,
        ⟨(some 63), .op (.bin .shl (.tmp 61) (.tmp 62)), none⟩,
        ⟨(some 64), .op (.bin .or (.tmp 58) (.tmp 63)), none⟩,
        ⟨(some 4), .op (.mov (.tmp 64)), none⟩])
      (.seq (.region [⟨(some 65), .op (.mov (.tmp 6)), none⟩,
        ⟨(some 66), .op (.bin .lss (.tmp 65) (.val (.int .u8 128))), none⟩])
      (.cond (.tmp 66) (.seq (.region [⟨(some 67), .op (.mov (.tmp 4)), none⟩,
         ⟨(some 2), .op (.mov (.tmp 67)), none⟩])
       (.ret))
      (.skip)))))))))
    (.region [⟨(some 11), .op (.mov (.tmp 5)), none⟩,
     ⟨(some 12), .op (.bin .add (.tmp 11) (.val (.int .i64 7))), none⟩,
     ⟨(some 5), .op (.mov (.tmp 12)), none⟩]))))))),
  [.tmp 2], none, none⟩
end Go.Proofs.Ytfagngiceofoeaa.AmGC
