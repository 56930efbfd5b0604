/-
  The machine's form of the functions, printed by program off the translation.
-/
import Derived.Test.YtofcnjglnnoimabAmIR
namespace Go.Proofs.Ytofcnjglnnoimab.AmGN
open Go Go.AM
set_option maxRecDepth 100000
def A6 : AFun := ⟨.seq (.region [⟨(some 2), .op (.mov (.val (.bool false))), none⟩])
  (.seq (.region [⟨(some 3), .op (.mov (.val .nilp)), none⟩])
  (.seq (.region [⟨(some 9), .op (.mov (.tmp 3)), none⟩,
    ⟨(some 10), .call (.fnv 24) [(.tmp 9)], none⟩,
    ⟨(some 8), .op (.mov (.tmp 10)), none⟩,
    ⟨(some 11), .op (.extract (.tmp 8) 0), none⟩,
    ⟨(some 12), .op (.extract (.tmp 8) 1), none⟩,
    ⟨(some 4), .op (.mov (.tmp 11)), none⟩,
    ⟨(some 5), .op (.mov (.tmp 12)), none⟩])
  (.seq (.region [⟨(some 14), .op (.mov (.tmp 3)), none⟩,
    ⟨(some 15), .op (.mov (.tmp 0)), none⟩,
    ⟨(some 16), .call (.fnv 18) [(.tmp 14), (.tmp 15)], none⟩,
    ⟨(some 13), .op (.mov (.tmp 16)), none⟩,
    ⟨(some 17), .op (.extract (.tmp 13) 0), none⟩,
    ⟨(some 18), .op (.extract (.tmp 13) 1), none⟩,
    ⟨(some 6), .op (.alloc [(.int .i64 0), (.int .i64 0), (.int .i64 0), (.int .i64 0), (.int .u64 0), .nils]), none⟩,
    ⟨none, .op (.store 6 (.tmp 6) (.tmp 17)), none⟩,
    ⟨(some 7), .op (.mov (.tmp 18)), none⟩])
  (.seq (.region [⟨(some 19), .call (.fnv 13) [], none⟩,
    ⟨(some 20), .op (.mov (.tmp 19)), none⟩,
    ⟨(some 21), .op (.mov (.tmp 3)), (some (20, true))⟩,
    ⟨(some 22), .op (.mov (.tmp 0)), (some (20, true))⟩,
    ⟨(some 23), .call (.fnv 22) [(.tmp 21), (.tmp 22), (.val (.int .u64 0))], (some (20, true))⟩,
    ⟨(some 24), .op (.bin .eql (.tmp 23) (.val (.int .i64 5))), (some (20, true))⟩,
    ⟨(some 25), .op (.pick (.tmp 20) (.tmp 24) (.val (.bool false))), none⟩,
    ⟨(some 26), .op (.mov (.tmp 25)), none⟩,
    ⟨(some 27), .op (.mov (.tmp 3)), (some (26, true))⟩,
    ⟨(some 28), .call (.fnv 21) [(.tmp 27), (.val (.int .u64 1))], (some (26, true))⟩,
    ⟨(some 29), .op (.bin .eql (.tmp 28) (.val (.int .i64 5))), (some (26, true))⟩,
    ⟨(some 30), .op (.pick (.tmp 26) (.tmp 29) (.val (.bool false))), none⟩,
    ⟨(some 31), .op (.mov (.tmp 30)), none⟩,
    ⟨(some 32), .op (.mov (.tmp 3)), (some (31, true))⟩,
    ⟨(some 33), .call (.fnv 23) [(.tmp 32)], (some (31, true))⟩,
    ⟨(some 34), .op (.lenS (.tmp 33)), (some (31, true))⟩,
    ⟨(some 35), .op (.bin .eql (.tmp 34) (.val (.int .i64 0))), (some (31, true))⟩,
    ⟨(some 36), .op (.pick (.tmp 31) (.tmp 35) (.val (.bool false))), none⟩,
    ⟨(some 37), .op (.mov (.tmp 36)), none⟩,
    ⟨(some 38), .op (.mov (.tmp 3)), (some (37, true))⟩,
    ⟨(some 39), .call (.fnv 20) [(.tmp 38)], (some (37, true))⟩,
    ⟨(some 40), .op (.un .not (.tmp 39)), (some (37, true))⟩,
    ⟨(some 41), .op (.pick (.tmp 37) (.tmp 40) (.val (.bool false))), none⟩,
    ⟨(some 42), .op (.mov (.tmp 41)), none⟩,
    ⟨(some 43), .op (.mov (.tmp 3)), (some (42, true))⟩,
    ⟨(some 44), .call (.fnv 25) [(.tmp 43)], (some (42, true))⟩,
    ⟨(some 45), .op (.bin .eql (.tmp 44) (.val (.int .i64 0))), (some (42, true))⟩,
    ⟨(some 46), .op (.pick (.tmp 42) (.tmp 45) (.val (.bool false))), none⟩,
    ⟨(some 47), .op (.mov (.tmp 46)), none⟩,
    ⟨(some 48), .op (.mov (.tmp 3)), (some (47, true))⟩,
    ⟨(some 49), .op (.mov (.tmp 0)), (some (47, true))⟩,
    ⟨(some 50), .call (.fnv 19) [(.tmp 48), (.tmp 49)], (some (47, true))⟩,
    ⟨(some 51), .op (.bin .eql (.tmp 50) (.val (.int .i64 0))), (some (47, true))⟩,
    ⟨(some 52), .op (.pick (.tmp 47) (.tmp 51) (.val (.bool false))), none⟩,
    ⟨(some 53), .op (.mov (.tmp 52)), none⟩,
    ⟨(some 54), .op (.mov (.tmp 3)), (some (53, true))⟩,
    ⟨(some 55), .op (.mov (.tmp 0)), (some (53, true))⟩,
    ⟨(some 56), .call (.fnv 26) [(.tmp 54), (.tmp 55)], (some (53, true))⟩,
    ⟨(some 57), .op (.bin .eql (.tmp 56) (.val (.int .i64 0))), (some (53, true))⟩,
    ⟨(some 58), .op (.pick (.tmp 53) (.tmp 57) (.val (.bool false))), none⟩,
    ⟨(some 59), .op (.mov (.tmp 58)), none⟩,
    ⟨(some 60), .op (.mov (.tmp 4)), (some (59, true))⟩,
    ⟨(some 61), .op (.bin .eql (.tmp 60) (.val (.int .i64 0))), (some (59, true))⟩,
    ⟨(some 62), .op (.pick (.tmp 59) (.tmp 61) (.val (.bool false))), none⟩,
    ⟨(some 63), .op (.mov (.tmp 62)), none⟩,
    ⟨(some 64), .op (.mov (.tmp 5)), (some (63, true))⟩,
    ⟨(some 65), .op (.bin .eql (.tmp 64) (.val (.int .u64 0))), (some (63, true))⟩,
    ⟨(some 66), .op (.pick (.tmp 63) (.tmp 65) (.val (.bool false))), none⟩,
    ⟨(some 67), .op (.mov (.tmp 66)), none⟩,
    ⟨(some 68), .op (.mov (.tmp 7)), (some (67, true))⟩,
    ⟨(some 69), .op (.un .not (.tmp 68)), (some (67, true))⟩,
    ⟨(some 70), .op (.pick (.tmp 67) (.tmp 69) (.val (.bool false))), none⟩,
    ⟨(some 71), .op (.mov (.tmp 70)), none⟩,
    ⟨(some 72), .op (.fieldAddr 0 (.tmp 6)), (some (71, true))⟩,
    ⟨(some 73), .op (.load none (.tmp 72)), (some (71, true))⟩,
    ⟨(some 74), .op (.bin .eql (.tmp 73) (.val (.int .i64 0))), (some (71, true))⟩,
    ⟨(some 75), .op (.pick (.tmp 71) (.tmp 74) (.val (.bool false))), none⟩,
    ⟨(some 2), .op (.mov (.tmp 75)), none⟩])
  (.ret))))),
  [.tmp 2], none, none⟩
def A8 : AFun := ⟨.seq (.region [⟨(some 4), .op (.mov (.val (.int .u64 0))), none⟩])
  (.seq (.region [⟨(some 5), .op (.mov (.tmp 0)), none⟩,
    ⟨(some 6), .call (.fnv 28) [(.tmp 5)], none⟩,
    ⟨(some 7), .op (.mov (.tmp 1)), none⟩,
    ⟨(some 8), .call (.fnv 28) [(.tmp 7)], none⟩,
    ⟨(some 9), .op (.bin .add (.tmp 6) (.tmp 8)), none⟩,
    ⟨(some 10), .call (.fnv 27) [(.tmp 9)], none⟩,
    ⟨(some 4), .op (.mov (.tmp 10)), none⟩])
  (.ret)),
  [.tmp 4], none, none⟩
def A9 : AFun := ⟨.seq (.region [⟨(some 4), .op (.mov (.val (.int .u64 0))), none⟩])
  (.seq (.region [⟨(some 5), .op (.mov (.tmp 0)), none⟩,
    ⟨(some 6), .call (.fnv 28) [(.tmp 5)], none⟩,
    ⟨(some 7), .op (.mov (.tmp 1)), none⟩,
    ⟨(some 8), .call (.fnv 28) [(.tmp 7)], none⟩,
    ⟨(some 9), .op (.bin .sub (.tmp 6) (.tmp 8)), none⟩,
    ⟨(some 10), .call (.fnv 27) [(.tmp 9)], none⟩,
    ⟨(some 4), .op (.mov (.tmp 10)), none⟩])
  (.ret)),
  [.tmp 4], none, none⟩
def A10 : AFun := ⟨.seq (.region [⟨(some 4), .op (.mov (.val (.int .u64 0))), none⟩])
  (.seq (.region [⟨(some 5), .op (.mov (.tmp 0)), none⟩,
    ⟨(some 6), .call (.fnv 28) [(.tmp 5)], none⟩,
    ⟨(some 7), .op (.mov (.tmp 1)), none⟩,
    ⟨(some 8), .call (.fnv 28) [(.tmp 7)], none⟩,
    ⟨(some 9), .op (.bin .mul (.tmp 6) (.tmp 8)), none⟩,
    ⟨(some 10), .call (.fnv 27) [(.tmp 9)], none⟩,
    ⟨(some 4), .op (.mov (.tmp 10)), none⟩])
  (.ret)),
  [.tmp 4], none, none⟩
def A11 : AFun := ⟨.seq (.region [⟨(some 4), .op (.mov (.val (.int .u64 0))), none⟩])
  (.seq (.region [⟨(some 5), .op (.mov (.tmp 0)), none⟩,
    ⟨(some 6), .call (.fnv 28) [(.tmp 5)], none⟩,
    ⟨(some 7), .op (.mov (.tmp 1)), none⟩,
    ⟨(some 8), .call (.fnv 28) [(.tmp 7)], none⟩,
    ⟨(some 9), .op (.bin .quo (.tmp 6) (.tmp 8)), none⟩,
    ⟨(some 10), .call (.fnv 27) [(.tmp 9)], none⟩,
    ⟨(some 4), .op (.mov (.tmp 10)), none⟩])
  (.ret)),
  [.tmp 4], none, none⟩
def A13 : AFun := ⟨.seq (.region [⟨(some 0), .op (.mov (.val (.bool false))), none⟩])
  (.seq (.region [⟨(some 4), .op (.buildSlice 1 1 [(.int .i64 0)] [(0, (.val (.int .i64 0)))]), none⟩,
    ⟨(some 5), .op (.build [(.int .i64 0), (.int .i64 0), (.int .i64 0), (.int .i64 0), (.int .u64 0), .nils] [(0, 1, (.val (.int .i64 1))), (4, 1, (.val (.int .u64 7)))]), none⟩,
    ⟨(some 6), .op (.build [(.int .i64 0), (.int .i64 0), (.int .i64 0), (.int .i64 0), (.int .u64 0), .nils] [(0, 1, (.val (.int .i64 48)))]), none⟩,
    ⟨(some 7), .op (.build [(.int .i64 0), (.int .i64 0), (.int .i64 0), (.int .i64 0), (.int .u64 0), .nils] [(0, 1, (.val (.int .i64 36)))]), none⟩,
    ⟨(some 8), .op (.buildSlice 6 3 [(.int .i64 0), (.int .i64 0), (.int .i64 0), (.int .i64 0), (.int .u64 0), .nils] [(0, (.tmp 5)), (1, (.tmp 6)), (2, (.tmp 7))]), none⟩,
    ⟨(some 9), .op (.build [(.int .i64 0), .nils, .nils, .nils] [(1, 1, (.tmp 4)), (3, 1, (.tmp 8))]), none⟩,
    ⟨(some 10), .op (.buildSlice 4 1 [(.int .i64 0), .nils, .nils, .nils] [(0, (.tmp 9))]), none⟩,
    ⟨(some 11), .op (.build [.nils, .nils, .nils] [(2, 1, (.tmp 10))]), none⟩,
    ⟨(some 12), .call (.fnv 17) [(.tmp 11)], none⟩,
    ⟨(some 3), .op (.mov (.tmp 12)), none⟩,
    ⟨(some 13), .op (.extract (.tmp 3) 0), none⟩,
    ⟨(some 14), .op (.extract (.tmp 3) 1), none⟩,
    ⟨(some 2), .op (.alloc [(.int .i64 0), (.int .i64 0), (.int .i64 0)]), none⟩,
    ⟨(some 1), .op (.mov (.tmp 13)), none⟩,
    ⟨none, .op (.store 3 (.tmp 2) (.tmp 14)), none⟩])
  (.seq (.seq (.region [⟨(some 15), .op (.mov (.tmp 1)), none⟩,
     ⟨(some 16), .op (.eql false .ptr (.tmp 15) (.val .nilp)), none⟩,
     ⟨(some 17), .op (.mov (.tmp 16)), none⟩,
     ⟨(some 18), .op (.fieldAddr 0 (.tmp 2)), (some (17, false))⟩,
     ⟨(some 19), .op (.load none (.tmp 18)), (some (17, false))⟩,
     ⟨(some 20), .op (.bin .neq (.tmp 19) (.val (.int .i64 0))), (some (17, false))⟩,
     ⟨(some 21), .op (.pick (.tmp 17) (.val (.bool true)) (.tmp 20)), none⟩,
     ⟨(some 22), .op (.mov (.tmp 21)), none⟩,
     ⟨(some 23), .op (.mov (.tmp 1)), (some (22, false))⟩,
     ⟨(some 24), .call (.fnv 22) [(.tmp 23), (.val (.int .i64 0)), (.val (.int .u64 0))], (some (22, false))⟩,
     ⟨(some 25), .op (.bin .neq (.tmp 24) (.val (.int .i64 0))), (some (22, false))⟩,
     ⟨(some 26), .op (.pick (.tmp 22) (.val (.bool true)) (.tmp 25)), none⟩,
     ⟨(some 27), .op (.mov (.tmp 26)), none⟩,
     ⟨(some 28), .op (.mov (.tmp 1)), (some (27, false))⟩,
     ⟨(some 29), .call (.fnv 22) [(.tmp 28), (.val (.int .i64 0)), (.val (.int .u64 0))], (some (27, false))⟩,
     ⟨(some 30), .op (.bin .neq (.tmp 29) (.val (.int .i64 0))), (some (27, false))⟩,
     ⟨(some 31), .op (.pick (.tmp 27) (.val (.bool true)) (.tmp 30)), none⟩,
     ⟨(some 32), .op (.mov (.tmp 31)), none⟩,
     ⟨(some 33), .op (.mov (.tmp 1)), (some (32, false))⟩,
     ⟨(some 34), .call (.fnv 22) [(.tmp 33), (.val (.int .i64 1)), (.val (.int .u64 0))], (some (32, false))⟩,
     ⟨(some 35), .op (.bin .neq (.tmp 34) (.val (.int .i64 4))), (some (32, false))⟩,
     ⟨(some 36), .op (.pick (.tmp 32) (.val (.bool true)) (.tmp 35)), none⟩,
     ⟨(some 37), .op (.mov (.tmp 36)), none⟩,
     ⟨(some 38), .op (.mov (.tmp 1)), (some (37, false))⟩,
     ⟨(some 39), .call (.fnv 22) [(.tmp 38), (.val (.int .i64 0)), (.val (.int .u64 0))], (some (37, false))⟩,
     ⟨(some 40), .op (.bin .neq (.tmp 39) (.val (.int .i64 0))), (some (37, false))⟩,
     ⟨(some 41), .op (.pick (.tmp 37) (.val (.bool true)) (.tmp 40)), none⟩])
   (.cond (.tmp 41) (.seq (.region [⟨(some 0), .op (.mov (.val (.bool false))), none⟩])
    (.ret))
   (.skip)))
  (.seq (.region [⟨(some 42), .op (.mov (.tmp 1)), none⟩,
    ⟨(some 43), .call (.fnv 20) [(.tmp 42)], none⟩,
    ⟨(some 44), .op (.mov (.tmp 43)), none⟩,
    ⟨(some 45), .op (.mov (.tmp 1)), (some (44, true))⟩,
    ⟨(some 46), .call (.fnv 23) [(.tmp 45)], (some (44, true))⟩,
    ⟨(some 47), .op (.build [(.int .i64 0), (.int .i64 0), (.int .u64 0)] [(0, 1, (.val (.int .i64 1))), (2, 1, (.val (.int .u64 7)))]), (some (44, true))⟩,
    ⟨(some 48), .op (.build [(.int .i64 0), (.int .i64 0), (.int .u64 0)] [(0, 1, (.val (.int .i64 3)))]), (some (44, true))⟩,
    ⟨(some 49), .op (.buildSlice 3 2 [(.int .i64 0), (.int .i64 0), (.int .u64 0)] [(0, (.tmp 47)), (1, (.tmp 48))]), (some (44, true))⟩,
    ⟨(some 50), .call (.fnv 14) [(.tmp 46), (.tmp 49)], (some (44, true))⟩,
    ⟨(some 51), .op (.pick (.tmp 44) (.tmp 50) (.val (.bool false))), none⟩,
    ⟨(some 0), .op (.mov (.tmp 51)), none⟩])
  (.ret)))),
  [.tmp 0], none, none⟩
def A14 : AFun := ⟨.seq (.region [⟨(some 4), .op (.mov (.val (.bool false))), none⟩])
  (.seq (.seq (.region [⟨(some 6), .op (.mov (.tmp 0)), none⟩,
     ⟨(some 7), .op (.lenS (.tmp 6)), none⟩,
     ⟨(some 8), .op (.mov (.tmp 1)), none⟩,
     ⟨(some 9), .op (.lenS (.tmp 8)), none⟩,
     ⟨(some 10), .op (.bin .neq (.tmp 7) (.tmp 9)), none⟩])
   (.cond (.tmp 10) (.seq (.region [⟨(some 4), .op (.mov (.val (.bool false))), none⟩])
    (.ret))
   (.skip)))
  (.seq (.seq (.region [⟨(some 5), .op (.mov (.val (.int .i64 0))), none⟩])
   (.block 0 (.loop (.seq (.seq (.region [⟨(some 11), .op (.mov (.tmp 5)), none⟩,
        ⟨(some 12), .op (.mov (.tmp 0)), none⟩,
        ⟨(some 13), .op (.lenS (.tmp 12)), none⟩,
        ⟨(some 14), .op (.bin .lss (.tmp 11) (.tmp 13)), none⟩])
      (.cond (.tmp 14) (.skip)
      (.exit 0)))
     (.seq (.block 1 (.seq (.region [⟨(some 17), .op (.mov (.tmp 0)), none⟩,
         ⟨(some 18), .op (.mov (.tmp 5)), none⟩,
         ⟨(some 19), .op (.idxS 3 (.tmp 17) (.tmp 18)), none⟩,
         ⟨(some 20), .op (.load (some 3) (.tmp 19)), none⟩,
         ⟨(some 21), .op (.mov (.tmp 1)), none⟩,
         ⟨(some 22), .op (.mov (.tmp 5)), none⟩,
         ⟨(some 23), .op (.idxS 3 (.tmp 21) (.tmp 22)), none⟩,
         ⟨(some 24), .op (.load (some 3) (.tmp 23)), none⟩,
         ⟨(some 25), .op (.eql true (.flat [.int, .int, .int]) (.tmp 20) (.tmp 24)), none⟩])
       (.cond (.tmp 25) (.seq (.region [⟨(some 4), .op (.mov (.val (.bool false))), none⟩])
        (.ret))
       (.skip))))
     (.region [⟨(some 15), .op (.mov (.tmp 5)), none⟩,
      ⟨(some 16), .op (.bin .add (.tmp 15) (.val (.int .i64 1))), none⟩,
      ⟨(some 5), .op (.mov (.tmp 16)), none⟩]))))))
  (.seq (.region [⟨(some 4), .op (.mov (.val (.bool true))), none⟩])
  (.ret)))),
  [.tmp 4], none, none⟩
def A17 : AFun := ⟨.seq (.region [⟨(some 1), .op (.box (.tmp 0)), none⟩,
    ⟨(some 2), .op (.mov (.val .nilp)), none⟩,
    ⟨(some 3), .op (.alloc [(.int .i64 0), (.int .i64 0), (.int .i64 0)]), none⟩])
  (.seq (.seq (.region [⟨(some 6), .op (.load (some 3) (.tmp 1)), none⟩,
     ⟨(some 7), .call (.fnv 29) [(.tmp 6)], none⟩,
     ⟨(some 4), .op (.alloc [(.int .i64 0), (.int .i64 0), (.int .i64 0)]), none⟩,
     ⟨none, .op (.store 3 (.tmp 4) (.tmp 7)), none⟩])
   (.seq (.region [⟨(some 8), .op (.fieldAddr 0 (.tmp 4)), none⟩,
     ⟨(some 9), .op (.load none (.tmp 8)), none⟩,
     ⟨(some 10), .op (.bin .neq (.tmp 9) (.val (.int .i64 0))), none⟩])
   (.cond (.tmp 10) (.seq (.draw [⟨⟨(some 11), .op (.load (some 3) (.tmp 4)), none⟩, .read []⟩,
      ⟨⟨(some 2), .op (.mov (.val .nilp)), none⟩, .pure⟩,
      ⟨⟨none, .op (.store 3 (.tmp 3) (.tmp 11)), none⟩, .act true⟩])
    (.ret))
   (.skip))))
  (.seq (.draw [⟨⟨(some 12), .op (.load (some 3) (.tmp 1)), none⟩, .read []⟩,
    ⟨⟨(some 13), .call (.fnv 30) [(.tmp 12)], none⟩, .act false⟩,
    ⟨⟨(some 14), .op (.fieldAddr 1 (.tmp 1)), none⟩, .pure⟩,
    ⟨⟨(some 15), .op (.load none (.tmp 14)), none⟩, .read [1]⟩,
    ⟨⟨(some 16), .op (.lenS (.tmp 15)), none⟩, .pure⟩,
    ⟨⟨(some 17), .op (.mkSlice 1 8 [(.int .u64 0)] (.tmp 16)), none⟩, .act false⟩,
    ⟨⟨(some 18), .op (.mkSlice 3 40 [(.int .i64 0), .nils, .nilp] (.val (.int .i64 1))), none⟩, .act true⟩,
    ⟨⟨(some 19), .op (.build [.nils, .nils, .nils, .nils, .nils, .nils, (.int .u64 0), .nils, (.bool false), (.int .i64 0)] [(0, 3, (.tmp 13)), (3, 1, (.tmp 17)), (4, 1, (.tmp 18))]), none⟩, .pure⟩,
    ⟨⟨(some 20), .op (.box (.tmp 19)), none⟩, .act true⟩,
    ⟨⟨(some 5), .op (.mov (.tmp 20)), none⟩, .pure⟩])
  (.seq (.region [⟨(some 21), .op (.mov (.tmp 5)), none⟩,
    ⟨(some 22), .call (.fnv 31) [(.tmp 21), (.val (.int .i64 0)), (.val .nils)], none⟩])
  (.seq (.region [⟨(some 23), .op (.mov (.tmp 5)), none⟩,
    ⟨(some 24), .op (.build [(.int .i64 0), (.int .i64 0), (.int .i64 0)] []), none⟩,
    ⟨(some 2), .op (.mov (.tmp 23)), none⟩,
    ⟨none, .op (.store 3 (.tmp 3) (.tmp 24)), none⟩])
  (.ret))))),
  [.tmp 2, .cell 3 (some 3)], none, none⟩
def A18 : AFun := ⟨.seq (.region [⟨(some 4), .op (.alloc [(.int .i64 0), (.int .i64 0), (.int .i64 0), (.int .i64 0), (.int .u64 0), .nils]), none⟩,
    ⟨(some 5), .op (.mov (.val (.bool false))), none⟩])
  (.seq (.seq (.region [⟨(some 8), .op (.mov (.tmp 0)), none⟩,
     ⟨(some 9), .op (.mov (.tmp 1)), none⟩,
     ⟨(some 10), .call (.fnv 19) [(.tmp 8), (.tmp 9)], none⟩,
     ⟨(some 11), .op (.bin .neq (.tmp 10) (.val (.int .i64 1))), none⟩,
     ⟨(some 12), .op (.mov (.tmp 11)), none⟩,
     ⟨(some 13), .op (.mov (.tmp 0)), (some (12, false))⟩,
     ⟨(some 14), .op (.nilCheck (.tmp 13)), (some (12, false))⟩,
     ⟨(some 15), .op (.fieldAddr 8 (.tmp 14)), (some (12, false))⟩,
     ⟨(some 16), .op (.load none (.tmp 15)), (some (12, false))⟩,
     ⟨(some 17), .op (.pick (.tmp 12) (.val (.bool true)) (.tmp 16)), none⟩,
     ⟨(some 18), .op (.mov (.tmp 17)), none⟩,
     ⟨(some 19), .op (.mov (.tmp 0)), (some (18, false))⟩,
     ⟨(some 20), .op (.nilCheck (.tmp 19)), (some (18, false))⟩,
     ⟨(some 21), .op (.fieldAddr 5 (.tmp 20)), (some (18, false))⟩,
     ⟨(some 22), .op (.load none (.tmp 21)), (some (18, false))⟩,
     ⟨(some 23), .op (.mov (.tmp 1)), (some (18, false))⟩,
     ⟨(some 24), .op (.idxS 1 (.tmp 22) (.tmp 23)), (some (18, false))⟩,
     ⟨(some 25), .op (.load none (.tmp 24)), (some (18, false))⟩,
     ⟨(some 26), .op (.nilCheck (.tmp 25)), (some (18, false))⟩,
     ⟨(some 27), .op (.fieldAddr 7 (.tmp 26)), (some (18, false))⟩,
     ⟨(some 28), .op (.load none (.tmp 27)), (some (18, false))⟩,
     ⟨(some 29), .op (.pick (.tmp 18) (.val (.bool true)) (.tmp 28)), none⟩])
   (.cond (.tmp 29) (.seq (.region [⟨(some 30), .op (.build [(.int .i64 0), (.int .i64 0), (.int .i64 0), (.int .i64 0), (.int .u64 0), .nils] []), none⟩,
      ⟨none, .op (.store 6 (.tmp 4) (.tmp 30)), none⟩,
      ⟨(some 5), .op (.mov (.val (.bool false))), none⟩])
    (.ret))
   (.skip)))
  (.seq (.region [⟨(some 31), .op (.mov (.tmp 0)), none⟩,
    ⟨(some 32), .op (.nilCheck (.tmp 31)), none⟩,
    ⟨(some 33), .op (.fieldAddr 5 (.tmp 32)), none⟩,
    ⟨(some 34), .op (.load none (.tmp 33)), none⟩,
    ⟨(some 35), .op (.mov (.tmp 1)), none⟩,
    ⟨(some 36), .op (.idxS 1 (.tmp 34) (.tmp 35)), none⟩,
    ⟨(some 37), .op (.load none (.tmp 36)), none⟩,
    ⟨(some 38), .call (.fnv 32) [(.tmp 37)], none⟩,
    ⟨(some 6), .op (.mov (.tmp 38)), none⟩])
  (.seq (.draw [⟨⟨(some 39), .op (.mov (.tmp 0)), none⟩, .pure⟩,
    ⟨⟨(some 40), .op (.nilCheck (.tmp 39)), none⟩, .pure⟩,
    ⟨⟨(some 41), .op (.fieldAddr 0 (.tmp 40)), none⟩, .pure⟩,
    ⟨⟨(some 42), .op (.fieldAddr 2 (.tmp 41)), none⟩, .pure⟩,
    ⟨⟨(some 43), .op (.load none (.tmp 42)), none⟩, .read [19]⟩,
    ⟨⟨(some 44), .op (.mov (.tmp 6)), none⟩, .pure⟩,
    ⟨⟨(some 45), .op (.nilCheck (.tmp 44)), none⟩, .pure⟩,
    ⟨⟨(some 46), .op (.fieldAddr 0 (.tmp 45)), none⟩, .pure⟩,
    ⟨⟨(some 47), .op (.load none (.tmp 46)), none⟩, .read [19]⟩,
    ⟨⟨(some 48), .op (.idxS 4 (.tmp 43) (.tmp 47)), none⟩, .read [19]⟩,
    ⟨⟨(some 49), .op (.fieldAddr 3 (.tmp 48)), none⟩, .pure⟩,
    ⟨⟨(some 50), .op (.load none (.tmp 49)), none⟩, .read [19]⟩,
    ⟨⟨(some 51), .op (.mov (.tmp 6)), none⟩, .pure⟩,
    ⟨⟨(some 52), .op (.nilCheck (.tmp 51)), none⟩, .pure⟩,
    ⟨⟨(some 53), .op (.fieldAddr 1 (.tmp 52)), none⟩, .pure⟩,
    ⟨⟨(some 54), .op (.load none (.tmp 53)), none⟩, .read [19]⟩,
    ⟨⟨(some 55), .op (.idxS 6 (.tmp 50) (.tmp 54)), none⟩, .read [19]⟩,
    ⟨⟨(some 56), .op (.load (some 6) (.tmp 55)), none⟩, .read [19]⟩,
    ⟨⟨(some 7), .op (.alloc [(.int .i64 0), (.int .i64 0), (.int .i64 0), (.int .i64 0), (.int .u64 0), .nils]), none⟩, .act true⟩,
    ⟨⟨none, .op (.store 6 (.tmp 7) (.tmp 56)), none⟩, .act true⟩])
  (.seq (.region [⟨(some 57), .op (.fieldAddr 5 (.tmp 7)), none⟩,
    ⟨(some 58), .op (.load none (.tmp 57)), none⟩,
    ⟨(some 59), .op (.append 1 8 (.val .nils) (.tmp 58)), none⟩,
    ⟨(some 60), .op (.fieldAddr 5 (.tmp 7)), none⟩,
    ⟨none, .op (.store 1 (.tmp 60) (.tmp 59)), none⟩])
  (.seq (.region [⟨(some 61), .op (.load (some 6) (.tmp 7)), none⟩,
    ⟨none, .op (.store 6 (.tmp 4) (.tmp 61)), none⟩,
    ⟨(some 5), .op (.mov (.val (.bool true))), none⟩])
  (.ret)))))),
  [.cell 4 (some 6), .tmp 5], none, none⟩
def A19 : AFun := ⟨.seq (.region [⟨(some 4), .op (.mov (.val (.int .i64 0))), none⟩])
  (.seq (.seq (.region [⟨(some 5), .op (.mov (.tmp 0)), none⟩,
     ⟨(some 6), .op (.eql false .ptr (.tmp 5) (.val .nilp)), none⟩,
     ⟨(some 7), .op (.mov (.tmp 6)), none⟩,
     ⟨(some 8), .op (.mov (.tmp 1)), (some (7, false))⟩,
     ⟨(some 9), .op (.bin .lss (.tmp 8) (.val (.int .i64 0))), (some (7, false))⟩,
     ⟨(some 10), .op (.pick (.tmp 7) (.val (.bool true)) (.tmp 9)), none⟩,
     ⟨(some 11), .op (.mov (.tmp 10)), none⟩,
     ⟨(some 12), .op (.mov (.tmp 1)), (some (11, false))⟩,
     ⟨(some 13), .op (.mov (.tmp 0)), (some (11, false))⟩,
     ⟨(some 14), .op (.nilCheck (.tmp 13)), (some (11, false))⟩,
     ⟨(some 15), .op (.fieldAddr 5 (.tmp 14)), (some (11, false))⟩,
     ⟨(some 16), .op (.load none (.tmp 15)), (some (11, false))⟩,
     ⟨(some 17), .op (.lenS (.tmp 16)), (some (11, false))⟩,
     ⟨(some 18), .op (.bin .geq (.tmp 12) (.tmp 17)), (some (11, false))⟩,
     ⟨(some 19), .op (.pick (.tmp 11) (.val (.bool true)) (.tmp 18)), none⟩])
   (.cond (.tmp 19) (.seq (.region [⟨(some 4), .op (.mov (.val (.int .i64 0))), none⟩])
    (.ret))
   (.skip)))
  (.seq (.region [⟨(some 20), .op (.mov (.tmp 0)), none⟩,
    ⟨(some 21), .op (.nilCheck (.tmp 20)), none⟩,
    ⟨(some 22), .op (.fieldAddr 5 (.tmp 21)), none⟩,
    ⟨(some 23), .op (.load none (.tmp 22)), none⟩,
    ⟨(some 24), .op (.mov (.tmp 1)), none⟩,
    ⟨(some 25), .op (.idxS 1 (.tmp 23) (.tmp 24)), none⟩,
    ⟨(some 26), .op (.load none (.tmp 25)), none⟩,
    ⟨(some 27), .op (.nilCheck (.tmp 26)), none⟩,
    ⟨(some 28), .op (.fieldAddr 0 (.tmp 27)), none⟩,
    ⟨(some 29), .op (.load none (.tmp 28)), none⟩,
    ⟨(some 4), .op (.mov (.tmp 29)), none⟩])
  (.ret))),
  [.tmp 4], none, none⟩
def A20 : AFun := ⟨.seq (.region [⟨(some 2), .op (.mov (.val (.bool false))), none⟩])
  (.seq (.region [⟨(some 3), .op (.mov (.tmp 0)), none⟩,
    ⟨(some 4), .op (.eql true .ptr (.tmp 3) (.val .nilp)), none⟩,
    ⟨(some 5), .op (.mov (.tmp 4)), none⟩,
    ⟨(some 6), .op (.mov (.tmp 0)), (some (5, true))⟩,
    ⟨(some 7), .op (.nilCheck (.tmp 6)), (some (5, true))⟩,
    ⟨(some 8), .op (.fieldAddr 8 (.tmp 7)), (some (5, true))⟩,
    ⟨(some 9), .op (.load none (.tmp 8)), (some (5, true))⟩,
    ⟨(some 10), .op (.pick (.tmp 5) (.tmp 9) (.val (.bool false))), none⟩,
    ⟨(some 2), .op (.mov (.tmp 10)), none⟩])
  (.ret)),
  [.tmp 2], none, none⟩
def A21 : AFun := ⟨.seq (.region [⟨(some 4), .op (.mov (.val (.int .i64 0))), none⟩])
  (.seq (.seq (.region [⟨(some 7), .op (.mov (.tmp 0)), none⟩,
     ⟨(some 8), .op (.eql false .ptr (.tmp 7) (.val .nilp)), none⟩,
     ⟨(some 9), .op (.mov (.tmp 8)), none⟩,
     ⟨(some 10), .op (.mov (.tmp 0)), (some (9, false))⟩,
     ⟨(some 11), .op (.nilCheck (.tmp 10)), (some (9, false))⟩,
     ⟨(some 12), .op (.fieldAddr 8 (.tmp 11)), (some (9, false))⟩,
     ⟨(some 13), .op (.load none (.tmp 12)), (some (9, false))⟩,
     ⟨(some 14), .op (.pick (.tmp 9) (.val (.bool true)) (.tmp 13)), none⟩])
   (.cond (.tmp 14) (.seq (.region [⟨(some 4), .op (.mov (.val (.int .i64 5))), none⟩])
    (.ret))
   (.skip)))
  (.seq (.region [⟨(some 15), .op (.mov (.tmp 0)), none⟩,
    ⟨(some 16), .op (.mov (.tmp 0)), none⟩,
    ⟨(some 17), .op (.nilCheck (.tmp 16)), none⟩,
    ⟨(some 18), .op (.fieldAddr 6 (.tmp 17)), none⟩,
    ⟨(some 19), .op (.load none (.tmp 18)), none⟩,
    ⟨(some 20), .op (.mov (.tmp 1)), none⟩,
    ⟨(some 21), .op (.min (.tmp 20) (.val (.int .u64 1099511627776))), none⟩,
    ⟨(some 22), .op (.bin .add (.tmp 19) (.tmp 21)), none⟩,
    ⟨(some 23), .op (.min (.tmp 22) (.val (.int .u64 1099511627776))), none⟩,
    ⟨(some 24), .op (.nilCheck (.tmp 15)), none⟩,
    ⟨(some 25), .op (.fieldAddr 6 (.tmp 24)), none⟩,
    ⟨none, .op (.store 1 (.tmp 25) (.tmp 23)), none⟩])
  (.seq (.seq (.region [⟨(some 26), .op (.mov (.tmp 0)), none⟩,
     ⟨(some 27), .op (.nilCheck (.tmp 26)), none⟩,
     ⟨(some 28), .op (.fieldAddr 5 (.tmp 27)), none⟩,
     ⟨(some 29), .op (.load none (.tmp 28)), none⟩,
     ⟨(some 30), .op (.lenS (.tmp 29)), none⟩,
     ⟨(some 31), .op (.mov (.val (.int .i64 0))), none⟩])
   (.block 0 (.loop (.seq (.region [⟨(some 32), .op (.bin .lss (.tmp 31) (.tmp 30)), none⟩])
     (.seq (.cond (.tmp 32) (.skip)
      (.exit 0))
     (.seq (.block 1 (.seq (.region [⟨(some 33), .op (.idxS 1 (.tmp 29) (.tmp 31)), none⟩,
         ⟨(some 34), .op (.load none (.tmp 33)), none⟩,
         ⟨(some 6), .op (.mov (.tmp 34)), none⟩])
       (.seq (.region [⟨(some 35), .op (.mov (.tmp 6)), none⟩,
         ⟨(some 36), .op (.nilCheck (.tmp 35)), none⟩,
         ⟨(some 37), .op (.fieldAddr 2 (.tmp 36)), none⟩,
         ⟨(some 38), .op (.load none (.tmp 37)), none⟩,
         ⟨(some 39), .op (.mov (.tmp 38)), none⟩,
         ⟨(some 40), .op (.mov (.tmp 6)), (some (39, true))⟩,
         ⟨(some 41), .op (.nilCheck (.tmp 40)), (some (39, true))⟩,
         ⟨(some 42), .op (.fieldAddr 1 (.tmp 41)), (some (39, true))⟩,
         ⟨(some 43), .op (.load none (.tmp 42)), (some (39, true))⟩,
         ⟨(some 44), .op (.mov (.tmp 0)), (some (39, true))⟩,
         ⟨(some 45), .op (.nilCheck (.tmp 44)), (some (39, true))⟩,
         ⟨(some 46), .op (.fieldAddr 6 (.tmp 45)), (some (39, true))⟩,
         ⟨(some 47), .op (.load none (.tmp 46)), (some (39, true))⟩,
         ⟨(some 48), .op (.bin .leq (.tmp 43) (.tmp 47)), (some (39, true))⟩,
         ⟨(some 49), .op (.pick (.tmp 39) (.tmp 48) (.val (.bool false))), none⟩])
       (.cond (.tmp 49) (.region [⟨(some 50), .op (.mov (.tmp 6)), none⟩,
         ⟨(some 51), .op (.mov (.tmp 6)), none⟩,
         ⟨(some 52), .op (.nilCheck (.tmp 50)), none⟩,
         ⟨(some 53), .op (.fieldAddr 2 (.tmp 52)), none⟩,
         ⟨none, .op (.store 1 (.tmp 53) (.val (.bool false))), none⟩,
         ⟨(some 54), .op (.nilCheck (.tmp 51)), none⟩,
         ⟨(some 55), .op (.fieldAddr 0 (.tmp 54)), none⟩,
         ⟨none, .op (.store 1 (.tmp 55) (.val (.int .i64 1))), none⟩])
       (.skip)))))
     (.region [⟨(some 56), .op (.bin .add (.tmp 31) (.val (.int .i64 1))), none⟩,
      ⟨(some 31), .op (.mov (.tmp 56)), none⟩])))))))
  (.seq (.region [⟨(some 4), .op (.mov (.val (.int .i64 0))), none⟩])
  (.ret))))),
  [.tmp 4], none, none⟩
def A22 : AFun := ⟨.seq (.region [⟨(some 6), .op (.mov (.val (.int .i64 0))), none⟩])
  (.seq (.block 0 (.seq (.region [⟨(some 11), .op (.mov (.tmp 0)), none⟩,
      ⟨(some 12), .op (.eql false .ptr (.tmp 11) (.val .nilp)), none⟩,
      ⟨(some 10), .op (.mov (.tmp 12)), none⟩])
    (.cond (.tmp 10) (.seq (.region [⟨(some 6), .op (.mov (.val (.int .i64 5))), none⟩])
     (.ret))
    (.seq (.region [⟨(some 14), .op (.mov (.tmp 1)), none⟩,
      ⟨(some 15), .op (.bin .lss (.tmp 14) (.val (.int .i64 0))), none⟩,
      ⟨(some 16), .op (.mov (.tmp 15)), none⟩,
      ⟨(some 17), .op (.mov (.tmp 1)), (some (16, false))⟩,
      ⟨(some 18), .op (.mov (.tmp 0)), (some (16, false))⟩,
      ⟨(some 19), .op (.nilCheck (.tmp 18)), (some (16, false))⟩,
      ⟨(some 20), .op (.fieldAddr 5 (.tmp 19)), (some (16, false))⟩,
      ⟨(some 21), .op (.load none (.tmp 20)), (some (16, false))⟩,
      ⟨(some 22), .op (.lenS (.tmp 21)), (some (16, false))⟩,
      ⟨(some 23), .op (.bin .geq (.tmp 17) (.tmp 22)), (some (16, false))⟩,
      ⟨(some 24), .op (.pick (.tmp 16) (.val (.bool true)) (.tmp 23)), none⟩,
      ⟨(some 13), .op (.mov (.tmp 24)), none⟩])
    (.cond (.tmp 13) (.seq (.region [⟨(some 6), .op (.mov (.val (.int .i64 4))), none⟩])
     (.ret))
    (.seq (.region [⟨(some 26), .op (.mov (.tmp 0)), none⟩,
      ⟨(some 27), .op (.nilCheck (.tmp 26)), none⟩,
      ⟨(some 28), .op (.fieldAddr 8 (.tmp 27)), none⟩,
      ⟨(some 29), .op (.load none (.tmp 28)), none⟩,
      ⟨(some 30), .op (.mov (.tmp 29)), none⟩,
      ⟨(some 31), .op (.mov (.tmp 0)), (some (30, false))⟩,
      ⟨(some 32), .op (.nilCheck (.tmp 31)), (some (30, false))⟩,
      ⟨(some 33), .op (.fieldAddr 5 (.tmp 32)), (some (30, false))⟩,
      ⟨(some 34), .op (.load none (.tmp 33)), (some (30, false))⟩,
      ⟨(some 35), .op (.mov (.tmp 1)), (some (30, false))⟩,
      ⟨(some 36), .op (.idxS 1 (.tmp 34) (.tmp 35)), (some (30, false))⟩,
      ⟨(some 37), .op (.load none (.tmp 36)), (some (30, false))⟩,
      ⟨(some 38), .op (.nilCheck (.tmp 37)), (some (30, false))⟩,
      ⟨(some 39), .op (.fieldAddr 0 (.tmp 38)), (some (30, false))⟩,
      ⟨(some 40), .op (.load none (.tmp 39)), (some (30, false))⟩,
      ⟨(some 41), .op (.bin .neq (.tmp 40) (.val (.int .i64 1))), (some (30, false))⟩,
      ⟨(some 42), .op (.pick (.tmp 30) (.val (.bool true)) (.tmp 41)), none⟩,
      ⟨(some 25), .op (.mov (.tmp 42)), none⟩])
    (.cond (.tmp 25) (.seq (.region [⟨(some 6), .op (.mov (.val (.int .i64 5))), none⟩])
     (.ret))
    (.skip))))))))
  (.seq (.region [⟨(some 43), .op (.mov (.tmp 0)), none⟩,
    ⟨(some 44), .op (.mov (.tmp 1)), none⟩,
    ⟨(some 45), .op (.nilCheck (.tmp 43)), none⟩,
    ⟨(some 46), .op (.fieldAddr 9 (.tmp 45)), none⟩,
    ⟨none, .op (.store 1 (.tmp 46) (.tmp 44)), none⟩])
  (.seq (.region [⟨(some 47), .op (.mov (.tmp 0)), none⟩,
    ⟨(some 48), .op (.nilCheck (.tmp 47)), none⟩,
    ⟨(some 49), .op (.fieldAddr 5 (.tmp 48)), none⟩,
    ⟨(some 50), .op (.load none (.tmp 49)), none⟩,
    ⟨(some 51), .op (.mov (.tmp 1)), none⟩,
    ⟨(some 52), .op (.idxS 1 (.tmp 50) (.tmp 51)), none⟩,
    ⟨(some 53), .op (.load none (.tmp 52)), none⟩,
    ⟨(some 7), .op (.mov (.tmp 53)), none⟩])
  (.seq (.seq (.region [⟨(some 54), .op (.mov (.tmp 7)), none⟩,
     ⟨(some 55), .op (.nilCheck (.tmp 54)), none⟩,
     ⟨(some 56), .op (.fieldAddr 7 (.tmp 55)), none⟩,
     ⟨(some 57), .op (.load none (.tmp 56)), none⟩])
   (.cond (.tmp 57) (.seq (.region [⟨(some 58), .op (.mov (.tmp 7)), none⟩,
      ⟨(some 59), .op (.nilCheck (.tmp 58)), none⟩,
      ⟨(some 60), .op (.fieldAddr 7 (.tmp 59)), none⟩,
      ⟨none, .op (.store 1 (.tmp 60) (.val (.bool false))), none⟩])
    (.region [⟨(some 61), .op (.mov (.tmp 0)), none⟩,
     ⟨(some 62), .call (.fnv 33) [(.tmp 61), (.val (.int .i64 (-4)))], none⟩]))
   (.seq (.region [⟨(some 63), .op (.mov (.tmp 7)), none⟩,
     ⟨(some 64), .call (.fnv 32) [(.tmp 63)], none⟩,
     ⟨(some 8), .op (.mov (.tmp 64)), none⟩])
   (.seq (.draw [⟨⟨(some 65), .op (.mov (.tmp 0)), none⟩, .pure⟩,
     ⟨⟨(some 66), .op (.nilCheck (.tmp 65)), none⟩, .pure⟩,
     ⟨⟨(some 67), .op (.fieldAddr 0 (.tmp 66)), none⟩, .pure⟩,
     ⟨⟨(some 68), .op (.fieldAddr 2 (.tmp 67)), none⟩, .pure⟩,
     ⟨⟨(some 69), .op (.load none (.tmp 68)), none⟩, .read [19]⟩,
     ⟨⟨(some 70), .op (.mov (.tmp 8)), none⟩, .pure⟩,
     ⟨⟨(some 71), .op (.nilCheck (.tmp 70)), none⟩, .pure⟩,
     ⟨⟨(some 72), .op (.fieldAddr 0 (.tmp 71)), none⟩, .pure⟩,
     ⟨⟨(some 73), .op (.load none (.tmp 72)), none⟩, .read [19]⟩,
     ⟨⟨(some 74), .op (.idxS 4 (.tmp 69) (.tmp 73)), none⟩, .read [19]⟩,
     ⟨⟨(some 75), .op (.fieldAddr 3 (.tmp 74)), none⟩, .pure⟩,
     ⟨⟨(some 76), .op (.load none (.tmp 75)), none⟩, .read [19]⟩,
     ⟨⟨(some 77), .op (.mov (.tmp 8)), none⟩, .pure⟩,
     ⟨⟨(some 78), .op (.nilCheck (.tmp 77)), none⟩, .pure⟩,
     ⟨⟨(some 79), .op (.fieldAddr 1 (.tmp 78)), none⟩, .pure⟩,
     ⟨⟨(some 80), .op (.load none (.tmp 79)), none⟩, .read [19]⟩,
     ⟨⟨(some 81), .op (.idxS 6 (.tmp 76) (.tmp 80)), none⟩, .read [19]⟩,
     ⟨⟨(some 82), .op (.load (some 6) (.tmp 81)), none⟩, .read [19]⟩,
     ⟨⟨(some 9), .op (.alloc [(.int .i64 0), (.int .i64 0), (.int .i64 0), (.int .i64 0), (.int .u64 0), .nils]), none⟩, .act true⟩,
     ⟨⟨none, .op (.store 6 (.tmp 9) (.tmp 82)), none⟩, .act true⟩])
   (.seq (.region [⟨(some 83), .op (.mov (.tmp 8)), none⟩,
     ⟨(some 84), .op (.nilCheck (.tmp 83)), none⟩,
     ⟨(some 85), .op (.fieldAddr 1 (.tmp 84)), none⟩,
     ⟨(some 86), .op (.load none (.tmp 85)), none⟩,
     ⟨(some 87), .op (.bin .add (.tmp 86) (.val (.int .i64 1))), none⟩,
     ⟨(some 88), .op (.nilCheck (.tmp 83)), none⟩,
     ⟨(some 89), .op (.fieldAddr 1 (.tmp 88)), none⟩,
     ⟨none, .op (.store 1 (.tmp 89) (.tmp 87)), none⟩])
   (.region [⟨(some 90), .op (.mov (.tmp 0)), none⟩,
    ⟨(some 91), .op (.mov (.tmp 7)), none⟩,
    ⟨(some 92), .op (.mov (.tmp 8)), none⟩,
    ⟨(some 93), .op (.load (some 6) (.tmp 9)), none⟩,
    ⟨(some 94), .op (.mov (.tmp 2)), none⟩,
    ⟨(some 95), .call (.fnv 34) [(.tmp 90), (.tmp 91), (.tmp 92), (.tmp 93), (.tmp 94)], none⟩]))))))
  (.seq (.seq (.region [⟨(some 96), .op (.mov (.tmp 0)), none⟩,
     ⟨(some 97), .op (.nilCheck (.tmp 96)), none⟩,
     ⟨(some 98), .op (.fieldAddr 8 (.tmp 97)), none⟩,
     ⟨(some 99), .op (.load none (.tmp 98)), none⟩,
     ⟨(some 100), .op (.un .not (.tmp 99)), none⟩,
     ⟨(some 101), .op (.mov (.tmp 100)), none⟩,
     ⟨(some 102), .op (.mov (.tmp 0)), (some (101, true))⟩,
     ⟨(some 103), .call (.fnv 35) [(.tmp 102)], (some (101, true))⟩,
     ⟨(some 104), .op (.pick (.tmp 101) (.tmp 103) (.val (.bool false))), none⟩])
   (.cond (.tmp 104) (.region [⟨(some 105), .op (.mov (.tmp 0)), none⟩,
     ⟨(some 106), .call (.fnv 36) [(.tmp 105), (.val (.int .i64 5)), (.val (.int .u64 0))], none⟩])
   (.skip)))
  (.seq (.region [⟨(some 6), .op (.mov (.val (.int .i64 0))), none⟩])
  (.ret))))))),
  [.tmp 6], none, none⟩
def A23 : AFun := ⟨.seq (.region [⟨(some 2), .op (.mov (.val .nils)), none⟩])
  (.seq (.seq (.region [⟨(some 3), .op (.mov (.tmp 0)), none⟩,
     ⟨(some 4), .op (.eql false .ptr (.tmp 3) (.val .nilp)), none⟩])
   (.cond (.tmp 4) (.seq (.region [⟨(some 2), .op (.mov (.val .nils)), none⟩])
    (.ret))
   (.skip)))
  (.seq (.region [⟨(some 5), .op (.mov (.tmp 0)), none⟩,
    ⟨(some 6), .op (.nilCheck (.tmp 5)), none⟩,
    ⟨(some 7), .op (.fieldAddr 7 (.tmp 6)), none⟩,
    ⟨(some 8), .op (.load none (.tmp 7)), none⟩,
    ⟨(some 9), .op (.append 3 24 (.val .nils) (.tmp 8)), none⟩,
    ⟨(some 2), .op (.mov (.tmp 9)), none⟩])
  (.ret))),
  [.tmp 2], none, none⟩
def A24 : AFun := ⟨.seq (.region [⟨(some 2), .op (.mov (.val (.int .i64 0))), none⟩,
    ⟨(some 3), .op (.mov (.val (.int .u64 0))), none⟩])
  (.seq (.seq (.region [⟨(some 10), .op (.mov (.tmp 0)), none⟩,
     ⟨(some 11), .op (.eql false .ptr (.tmp 10) (.val .nilp)), none⟩])
   (.cond (.tmp 11) (.seq (.region [⟨(some 2), .op (.mov (.val (.int .i64 0))), none⟩,
      ⟨(some 3), .op (.mov (.val (.int .u64 0))), none⟩])
    (.ret))
   (.skip)))
  (.seq (.region [⟨(some 12), .op (.mov (.tmp 0)), none⟩,
    ⟨(some 13), .op (.nilCheck (.tmp 12)), none⟩,
    ⟨(some 14), .op (.fieldAddr 4 (.tmp 13)), none⟩,
    ⟨(some 15), .op (.load none (.tmp 14)), none⟩,
    ⟨(some 16), .op (.lenS (.tmp 15)), none⟩,
    ⟨(some 17), .op (.mkSlice 1 1 [(.bool false)] (.tmp 16)), none⟩,
    ⟨(some 4), .op (.alloc [.nils]), none⟩,
    ⟨none, .op (.store 1 (.tmp 4) (.tmp 17)), none⟩])
  (.seq (.region [⟨(some 5), .op (.alloc [.nils]), none⟩])
  (.seq (.region [⟨(some 18), .op (.mkFn (.func 37) [] [(.tmp 4), (.tmp 5)]), none⟩,
    ⟨(some 6), .op (.mov (.tmp 18)), none⟩])
  (.seq (.region [⟨(some 19), .op (.mov (.tmp 0)), none⟩,
    ⟨(some 20), .op (.mov (.tmp 6)), none⟩,
    ⟨(some 21), .call (.fnv 39) [(.tmp 19), (.tmp 20)], none⟩])
  (.seq (.region [⟨(some 7), .op (.mov (.val (.int .i64 0))), none⟩,
    ⟨(some 8), .op (.mov (.val (.int .u64 0))), none⟩])
  (.seq (.block 0 (.loop (.seq (.seq (.region [⟨(some 22), .op (.load none (.tmp 5)), none⟩,
        ⟨(some 23), .op (.lenS (.tmp 22)), none⟩,
        ⟨(some 24), .op (.bin .gtr (.tmp 23) (.val (.int .i64 0))), none⟩])
      (.cond (.tmp 24) (.skip)
      (.exit 0)))
     (.block 1 (.seq (.draw [⟨⟨(some 25), .op (.mov (.tmp 0)), none⟩, .pure⟩,
        ⟨⟨(some 26), .op (.nilCheck (.tmp 25)), none⟩, .pure⟩,
        ⟨⟨(some 27), .op (.fieldAddr 4 (.tmp 26)), none⟩, .pure⟩,
        ⟨⟨(some 28), .op (.load none (.tmp 27)), none⟩, .read [13]⟩,
        ⟨⟨(some 29), .op (.load none (.tmp 5)), none⟩, .read [13]⟩,
        ⟨⟨(some 30), .op (.load none (.tmp 5)), none⟩, .read [13]⟩,
        ⟨⟨(some 31), .op (.lenS (.tmp 30)), none⟩, .pure⟩,
        ⟨⟨(some 32), .op (.bin .sub (.tmp 31) (.val (.int .i64 1))), none⟩, .pure⟩,
        ⟨⟨(some 33), .op (.idxS 1 (.tmp 29) (.tmp 32)), none⟩, .read [13]⟩,
        ⟨⟨(some 34), .op (.load none (.tmp 33)), none⟩, .read [13]⟩,
        ⟨⟨(some 35), .op (.idxS 3 (.tmp 28) (.tmp 34)), none⟩, .read [13]⟩,
        ⟨⟨(some 36), .op (.load (some 3) (.tmp 35)), none⟩, .read [13]⟩,
        ⟨⟨(some 9), .op (.alloc [(.int .i64 0), .nils, .nilp]), none⟩, .act true⟩,
        ⟨⟨none, .op (.store 3 (.tmp 9) (.tmp 36)), none⟩, .act true⟩])
      (.seq (.region [⟨(some 37), .op (.load none (.tmp 5)), none⟩,
        ⟨(some 38), .op (.load none (.tmp 5)), none⟩,
        ⟨(some 39), .op (.lenS (.tmp 38)), none⟩,
        ⟨(some 40), .op (.bin .sub (.tmp 39) (.val (.int .i64 1))), none⟩,
        ⟨(some 41), .op (.slice 1 (.tmp 37) none (some (.tmp 40))), none⟩,
        ⟨none, .op (.store 1 (.tmp 5) (.tmp 41)), none⟩])
      (.seq (.region [⟨(some 42), .op (.mov (.tmp 7)), none⟩,
        ⟨(some 43), .op (.bin .add (.tmp 42) (.val (.int .i64 1))), none⟩,
        ⟨(some 7), .op (.mov (.tmp 43)), none⟩])
      (.seq (.region [⟨(some 44), .op (.mov (.tmp 8)), none⟩,
        ⟨(some 45), .op (.mov (.tmp 0)), none⟩,
        ⟨(some 46), .op (.load (some 3) (.tmp 9)), none⟩,
        ⟨(some 47), .call (.fnv 40) [(.tmp 45), (.tmp 46)], none⟩,
        ⟨(some 48), .op (.bin .add (.tmp 44) (.tmp 47)), none⟩,
        ⟨(some 8), .op (.mov (.tmp 48)), none⟩])
      (.region [⟨(some 49), .op (.mov (.tmp 0)), none⟩,
       ⟨(some 50), .op (.load (some 3) (.tmp 9)), none⟩,
       ⟨(some 51), .op (.mov (.tmp 6)), none⟩,
       ⟨(some 52), .call (.fnv 41) [(.tmp 49), (.tmp 50), (.tmp 51)], none⟩])))))))))
  (.seq (.region [⟨(some 53), .op (.mov (.tmp 7)), none⟩,
    ⟨(some 54), .op (.mov (.tmp 8)), none⟩,
    ⟨(some 2), .op (.mov (.tmp 53)), none⟩,
    ⟨(some 3), .op (.mov (.tmp 54)), none⟩])
  (.ret))))))))),
  [.tmp 2, .tmp 3], none, none⟩
def A25 : AFun := ⟨.seq (.region [⟨(some 2), .op (.mov (.val (.int .i64 0))), none⟩])
  (.seq (.seq (.region [⟨(some 3), .op (.mov (.tmp 0)), none⟩,
     ⟨(some 4), .op (.eql false .ptr (.tmp 3) (.val .nilp)), none⟩])
   (.cond (.tmp 4) (.seq (.region [⟨(some 2), .op (.mov (.val (.int .i64 0))), none⟩])
    (.ret))
   (.skip)))
  (.seq (.region [⟨(some 5), .op (.mov (.tmp 0)), none⟩,
    ⟨(some 6), .op (.nilCheck (.tmp 5)), none⟩,
    ⟨(some 7), .op (.fieldAddr 5 (.tmp 6)), none⟩,
    ⟨(some 8), .op (.load none (.tmp 7)), none⟩,
    ⟨(some 9), .op (.lenS (.tmp 8)), none⟩,
    ⟨(some 2), .op (.mov (.tmp 9)), none⟩])
  (.ret))),
  [.tmp 2], none, none⟩
def A26 : AFun := ⟨.seq (.region [⟨(some 4), .op (.mov (.val (.int .i64 0))), none⟩])
  (.seq (.seq (.region [⟨(some 5), .op (.mov (.tmp 0)), none⟩,
     ⟨(some 6), .op (.mov (.tmp 1)), none⟩,
     ⟨(some 7), .call (.fnv 19) [(.tmp 5), (.tmp 6)], none⟩,
     ⟨(some 8), .op (.bin .eql (.tmp 7) (.val (.int .i64 0))), none⟩])
   (.cond (.tmp 8) (.seq (.region [⟨(some 4), .op (.mov (.val (.int .i64 0))), none⟩])
    (.ret))
   (.skip)))
  (.seq (.region [⟨(some 9), .op (.mov (.tmp 0)), none⟩,
    ⟨(some 10), .op (.nilCheck (.tmp 9)), none⟩,
    ⟨(some 11), .op (.fieldAddr 5 (.tmp 10)), none⟩,
    ⟨(some 12), .op (.load none (.tmp 11)), none⟩,
    ⟨(some 13), .op (.mov (.tmp 1)), none⟩,
    ⟨(some 14), .op (.idxS 1 (.tmp 12) (.tmp 13)), none⟩,
    ⟨(some 15), .op (.load none (.tmp 14)), none⟩,
    ⟨(some 16), .op (.nilCheck (.tmp 15)), none⟩,
    ⟨(some 17), .op (.fieldAddr 3 (.tmp 16)), none⟩,
    ⟨(some 18), .op (.load none (.tmp 17)), none⟩,
    ⟨(some 19), .op (.lenS (.tmp 18)), none⟩,
    ⟨(some 4), .op (.mov (.tmp 19)), none⟩])
  (.ret))),
  [.tmp 4], none, none⟩
def A27 : AFun := ⟨.seq (.region [⟨(some 2), .op (.mov (.val (.int .u64 0))), none⟩])
  (.seq (.seq (.region [⟨(some 3), .op (.mov (.tmp 0)), none⟩,
     ⟨(some 4), .op (.mov (.tmp 0)), none⟩,
     ⟨(some 5), .op (.bin .neq (.tmp 3) (.tmp 4)), none⟩])
   (.cond (.tmp 5) (.seq (.region [⟨(some 2), .op (.mov (.val (.int .u64 9221120237041090561))), none⟩])
    (.ret))
   (.skip)))
  (.seq (.region [⟨(some 6), .op (.mov (.tmp 0)), none⟩,
    ⟨(some 7), .call (.fnv 42) [(.tmp 6)], none⟩,
    ⟨(some 2), .op (.mov (.tmp 7)), none⟩])
  (.ret))),
  [.tmp 2], none, none⟩
def A28 : AFun := ⟨.seq (.region [⟨(some 2), .op (.mov (.val (.flt .f64 0))), none⟩])
  (.seq (.region [⟨(some 3), .op (.mov (.tmp 0)), none⟩,
    ⟨(some 4), .call (.fnv 43) [(.tmp 3)], none⟩,
    ⟨(some 2), .op (.mov (.tmp 4)), none⟩])
  (.ret)),
  [.tmp 2], none, none⟩
def A29 : AFun := ⟨.seq (.region [⟨(some 1), .op (.box (.tmp 0)), none⟩,
    ⟨(some 2), .op (.alloc [(.int .i64 0), (.int .i64 0), (.int .i64 0)]), none⟩])
  (.seq (.region [⟨(some 14), .op (.load (some 3) (.tmp 1)), none⟩,
    ⟨(some 15), .op (.build [.nils, .nils, .nils, (.int .i64 0), .nils, .nils, .nils, (.int .i64 0), (.int .i64 0), (.int .i64 0), (.int .i64 0), (.int .i64 0), (.int .u64 0), .nils] [(0, 3, (.tmp 14))]), none⟩,
    ⟨(some 16), .op (.box (.tmp 15)), none⟩,
    ⟨(some 3), .op (.mov (.tmp 16)), none⟩])
  (.seq (.seq (.region [⟨(some 18), .op (.mov (.tmp 3)), none⟩,
     ⟨(some 19), .call (.fnv 44) [(.tmp 18)], none⟩,
     ⟨(some 17), .op (.mov (.tmp 19)), none⟩,
     ⟨(some 20), .op (.extract (.tmp 17) 0), none⟩,
     ⟨(some 21), .op (.extract (.tmp 17) 1), none⟩,
     ⟨(some 4), .op (.mov (.tmp 20)), none⟩,
     ⟨(some 5), .op (.mov (.tmp 21)), none⟩])
   (.seq (.region [⟨(some 22), .op (.mov (.tmp 4)), none⟩,
     ⟨(some 23), .op (.bin .neq (.tmp 22) (.val (.int .i64 0))), none⟩])
   (.cond (.tmp 23) (.seq (.region [⟨(some 24), .op (.mov (.tmp 4)), none⟩,
      ⟨(some 25), .op (.mov (.tmp 5)), none⟩,
      ⟨(some 26), .op (.build [(.int .i64 0), (.int .i64 0), (.int .i64 0)] [(0, 1, (.tmp 24)), (1, 1, (.val (.int .i64 (-1)))), (2, 1, (.tmp 25))]), none⟩,
      ⟨none, .op (.store 3 (.tmp 2) (.tmp 26)), none⟩])
    (.ret))
   (.skip))))
  (.seq (.seq (.region [⟨(some 27), .op (.fieldAddr 2 (.tmp 1)), none⟩,
     ⟨(some 28), .op (.load none (.tmp 27)), none⟩,
     ⟨(some 29), .op (.lenS (.tmp 28)), none⟩,
     ⟨(some 30), .op (.mov (.val (.int .i64 0))), none⟩])
   (.block 0 (.loop (.seq (.region [⟨(some 31), .op (.bin .lss (.tmp 30) (.tmp 29)), none⟩])
     (.seq (.cond (.tmp 31) (.skip)
      (.exit 0))
     (.seq (.block 1 (.seq (.region [⟨(some 32), .op (.mov (.tmp 30)), none⟩,
         ⟨(some 33), .op (.idxS 4 (.tmp 28) (.tmp 30)), none⟩,
         ⟨(some 34), .op (.load (some 4) (.tmp 33)), none⟩,
         ⟨(some 7), .op (.alloc [(.int .i64 0), .nils, .nils, .nils]), none⟩,
         ⟨(some 6), .op (.mov (.tmp 32)), none⟩,
         ⟨none, .op (.store 4 (.tmp 7) (.tmp 34)), none⟩])
       (.seq (.region [⟨(some 35), .op (.mov (.tmp 3)), none⟩,
         ⟨(some 36), .op (.load (some 4) (.tmp 7)), none⟩,
         ⟨(some 37), .op (.nilCheck (.tmp 35)), none⟩,
         ⟨(some 38), .op (.fieldAddr 3 (.tmp 37)), none⟩,
         ⟨none, .op (.store 4 (.tmp 38) (.tmp 36)), none⟩])
       (.seq (.region [⟨(some 39), .op (.mov (.tmp 3)), none⟩,
         ⟨(some 40), .op (.mov (.tmp 6)), none⟩,
         ⟨(some 41), .op (.bin .eql (.tmp 40) (.val (.int .i64 0))), none⟩,
         ⟨(some 42), .call (.fnv 45) [(.tmp 39), (.tmp 41)], none⟩,
         ⟨(some 8), .op (.mov (.tmp 42)), none⟩])
       (.seq (.region [⟨(some 43), .op (.mov (.tmp 8)), none⟩,
         ⟨(some 44), .op (.bin .neq (.tmp 43) (.val (.int .i64 0))), none⟩])
       (.cond (.tmp 44) (.seq (.region [⟨(some 45), .op (.mov (.tmp 8)), none⟩,
          ⟨(some 46), .op (.mov (.tmp 6)), none⟩,
          ⟨(some 47), .op (.build [(.int .i64 0), (.int .i64 0), (.int .i64 0)] [(0, 1, (.tmp 45)), (1, 1, (.tmp 46))]), none⟩,
          ⟨none, .op (.store 3 (.tmp 2) (.tmp 47)), none⟩])
        (.ret))
       (.skip)))))))
     (.region [⟨(some 48), .op (.bin .add (.tmp 30) (.val (.int .i64 1))), none⟩,
      ⟨(some 30), .op (.mov (.tmp 48)), none⟩])))))))
  (.seq (.seq (.region [⟨(some 49), .op (.fieldAddr 2 (.tmp 1)), none⟩,
     ⟨(some 50), .op (.load none (.tmp 49)), none⟩,
     ⟨(some 51), .op (.lenS (.tmp 50)), none⟩,
     ⟨(some 52), .op (.mov (.val (.int .i64 0))), none⟩])
   (.block 2 (.loop (.seq (.region [⟨(some 53), .op (.bin .lss (.tmp 52) (.tmp 51)), none⟩])
     (.seq (.cond (.tmp 53) (.skip)
      (.exit 2))
     (.seq (.block 3 (.seq (.region [⟨(some 54), .op (.mov (.tmp 52)), none⟩,
         ⟨(some 55), .op (.idxS 4 (.tmp 50) (.tmp 52)), none⟩,
         ⟨(some 56), .op (.load (some 4) (.tmp 55)), none⟩,
         ⟨(some 10), .op (.alloc [(.int .i64 0), .nils, .nils, .nils]), none⟩,
         ⟨(some 9), .op (.mov (.tmp 54)), none⟩,
         ⟨none, .op (.store 4 (.tmp 10) (.tmp 56)), none⟩])
       (.seq (.region [⟨(some 57), .op (.mov (.tmp 3)), none⟩,
         ⟨(some 58), .op (.load (some 4) (.tmp 10)), none⟩,
         ⟨(some 59), .op (.nilCheck (.tmp 57)), none⟩,
         ⟨(some 60), .op (.fieldAddr 3 (.tmp 59)), none⟩,
         ⟨none, .op (.store 4 (.tmp 60) (.tmp 58)), none⟩])
       (.seq (.region [⟨(some 61), .op (.fieldAddr 3 (.tmp 10)), none⟩,
         ⟨(some 62), .op (.load none (.tmp 61)), none⟩,
         ⟨(some 63), .op (.lenS (.tmp 62)), none⟩,
         ⟨(some 64), .op (.mov (.val (.int .i64 0))), none⟩])
       (.block 4 (.loop (.seq (.region [⟨(some 65), .op (.bin .lss (.tmp 64) (.tmp 63)), none⟩])
         (.seq (.cond (.tmp 65) (.skip)
          (.exit 4))
         (.seq (.block 5 (.seq (.region [⟨(some 66), .op (.mov (.tmp 64)), none⟩,
             ⟨(some 67), .op (.idxS 6 (.tmp 62) (.tmp 64)), none⟩,
             ⟨(some 68), .op (.load (some 6) (.tmp 67)), none⟩,
             ⟨(some 12), .op (.alloc [(.int .i64 0), (.int .i64 0), (.int .i64 0), (.int .i64 0), (.int .u64 0), .nils]), none⟩,
             ⟨(some 11), .op (.mov (.tmp 66)), none⟩,
             ⟨none, .op (.store 6 (.tmp 12) (.tmp 68)), none⟩])
           (.seq (.draw [⟨⟨(some 69), .op (.mov (.tmp 3)), none⟩, .pure⟩,
             ⟨⟨(some 70), .op (.mov (.tmp 3)), none⟩, .pure⟩,
             ⟨⟨(some 71), .op (.mov (.tmp 11)), none⟩, .pure⟩,
             ⟨⟨(some 72), .op (.load (some 6) (.tmp 12)), none⟩, .read [9]⟩,
             ⟨⟨(some 73), .op (.nilCheck (.tmp 69)), none⟩, .pure⟩,
             ⟨⟨(some 74), .op (.fieldAddr 7 (.tmp 73)), none⟩, .pure⟩,
             ⟨⟨none, .op (.store 1 (.tmp 74) (.tmp 71)), none⟩, .act true⟩,
             ⟨⟨(some 75), .op (.nilCheck (.tmp 70)), none⟩, .pure⟩,
             ⟨⟨(some 76), .op (.fieldAddr 8 (.tmp 75)), none⟩, .pure⟩,
             ⟨⟨none, .op (.store 6 (.tmp 76) (.tmp 72)), none⟩, .act true⟩])
           (.seq (.region [⟨(some 77), .op (.mov (.tmp 3)), none⟩,
             ⟨(some 78), .call (.fnv 46) [(.tmp 77)], none⟩,
             ⟨(some 13), .op (.mov (.tmp 78)), none⟩])
           (.seq (.region [⟨(some 79), .op (.mov (.tmp 13)), none⟩,
             ⟨(some 80), .op (.bin .neq (.tmp 79) (.val (.int .i64 0))), none⟩])
           (.cond (.tmp 80) (.seq (.region [⟨(some 81), .op (.mov (.tmp 13)), none⟩,
              ⟨(some 82), .op (.mov (.tmp 9)), none⟩,
              ⟨(some 83), .op (.mov (.tmp 11)), none⟩,
              ⟨(some 84), .op (.build [(.int .i64 0), (.int .i64 0), (.int .i64 0)] [(0, 1, (.tmp 81)), (1, 1, (.tmp 82)), (2, 1, (.tmp 83))]), none⟩,
              ⟨none, .op (.store 3 (.tmp 2) (.tmp 84)), none⟩])
            (.ret))
           (.skip)))))))
         (.region [⟨(some 85), .op (.bin .add (.tmp 64) (.val (.int .i64 1))), none⟩,
          ⟨(some 64), .op (.mov (.tmp 85)), none⟩]))))))))))
     (.region [⟨(some 86), .op (.bin .add (.tmp 52) (.val (.int .i64 1))), none⟩,
      ⟨(some 52), .op (.mov (.tmp 86)), none⟩])))))))
  (.seq (.region [⟨(some 87), .op (.build [(.int .i64 0), (.int .i64 0), (.int .i64 0)] []), none⟩,
    ⟨none, .op (.store 3 (.tmp 2) (.tmp 87)), none⟩])
  (.ret)))))),
  [.cell 2 (some 3)], none, none⟩
def A30 : AFun := ⟨.seq (.region [⟨(some 1), .op (.box (.tmp 0)), none⟩,
    ⟨(some 2), .op (.alloc [.nils, .nils, .nils]), none⟩])
  (.seq (.region [⟨(some 9), .op (.fieldAddr 1 (.tmp 1)), none⟩,
    ⟨(some 10), .op (.load none (.tmp 9)), none⟩,
    ⟨(some 11), .op (.append 1 8 (.val .nils) (.tmp 10)), none⟩,
    ⟨(some 12), .op (.build [.nils, .nils, .nils] [(1, 1, (.tmp 11))]), none⟩,
    ⟨(some 3), .op (.alloc [.nils, .nils, .nils]), none⟩,
    ⟨none, .op (.store 3 (.tmp 3) (.tmp 12)), none⟩])
  (.seq (.seq (.region [⟨(some 13), .op (.fieldAddr 0 (.tmp 1)), none⟩,
     ⟨(some 14), .op (.load none (.tmp 13)), none⟩,
     ⟨(some 15), .op (.lenS (.tmp 14)), none⟩,
     ⟨(some 16), .op (.mov (.val (.int .i64 0))), none⟩])
   (.block 0 (.loop (.seq (.region [⟨(some 17), .op (.bin .lss (.tmp 16) (.tmp 15)), none⟩])
     (.seq (.cond (.tmp 17) (.skip)
      (.exit 0))
     (.seq (.block 1 (.seq (.region [⟨(some 18), .op (.idxS 2 (.tmp 14) (.tmp 16)), none⟩,
         ⟨(some 19), .op (.load (some 2) (.tmp 18)), none⟩,
         ⟨(some 5), .op (.alloc [(.bool false), .nils]), none⟩,
         ⟨none, .op (.store 2 (.tmp 5) (.tmp 19)), none⟩])
       (.seq (.region [⟨(some 20), .op (.fieldAddr 1 (.tmp 5)), none⟩,
         ⟨(some 21), .op (.load none (.tmp 20)), none⟩,
         ⟨(some 22), .op (.append 1 8 (.val .nils) (.tmp 21)), none⟩,
         ⟨(some 23), .op (.fieldAddr 1 (.tmp 5)), none⟩,
         ⟨none, .op (.store 1 (.tmp 23) (.tmp 22)), none⟩])
       (.region [⟨(some 24), .op (.fieldAddr 0 (.tmp 3)), none⟩,
        ⟨(some 25), .op (.load none (.tmp 24)), none⟩,
        ⟨(some 26), .op (.load (some 2) (.tmp 5)), none⟩,
        ⟨(some 27), .op (.buildSlice 2 1 [(.bool false), .nils] [(0, (.tmp 26))]), none⟩,
        ⟨(some 28), .op (.append 2 32 (.tmp 25) (.tmp 27)), none⟩,
        ⟨(some 29), .op (.fieldAddr 0 (.tmp 3)), none⟩,
        ⟨none, .op (.store 1 (.tmp 29) (.tmp 28)), none⟩]))))
     (.region [⟨(some 30), .op (.bin .add (.tmp 16) (.val (.int .i64 1))), none⟩,
      ⟨(some 16), .op (.mov (.tmp 30)), none⟩])))))))
  (.seq (.seq (.region [⟨(some 31), .op (.fieldAddr 2 (.tmp 1)), none⟩,
     ⟨(some 32), .op (.load none (.tmp 31)), none⟩,
     ⟨(some 33), .op (.lenS (.tmp 32)), none⟩,
     ⟨(some 34), .op (.mov (.val (.int .i64 0))), none⟩])
   (.block 2 (.loop (.seq (.region [⟨(some 35), .op (.bin .lss (.tmp 34) (.tmp 33)), none⟩])
     (.seq (.cond (.tmp 35) (.skip)
      (.exit 2))
     (.seq (.block 3 (.seq (.region [⟨(some 36), .op (.idxS 4 (.tmp 32) (.tmp 34)), none⟩,
         ⟨(some 37), .op (.load (some 4) (.tmp 36)), none⟩,
         ⟨(some 7), .op (.alloc [(.int .i64 0), .nils, .nils, .nils]), none⟩,
         ⟨none, .op (.store 4 (.tmp 7) (.tmp 37)), none⟩])
       (.seq (.region [⟨(some 38), .op (.fieldAddr 1 (.tmp 7)), none⟩,
         ⟨(some 39), .op (.load none (.tmp 38)), none⟩,
         ⟨(some 40), .op (.append 1 8 (.val .nils) (.tmp 39)), none⟩,
         ⟨(some 41), .op (.fieldAddr 1 (.tmp 7)), none⟩,
         ⟨none, .op (.store 1 (.tmp 41) (.tmp 40)), none⟩])
       (.seq (.region [⟨(some 42), .op (.fieldAddr 2 (.tmp 7)), none⟩,
         ⟨(some 43), .op (.load none (.tmp 42)), none⟩,
         ⟨(some 44), .op (.append 1 8 (.val .nils) (.tmp 43)), none⟩,
         ⟨(some 45), .op (.fieldAddr 2 (.tmp 7)), none⟩,
         ⟨none, .op (.store 1 (.tmp 45) (.tmp 44)), none⟩])
       (.seq (.region [⟨(some 46), .op (.fieldAddr 3 (.tmp 7)), none⟩,
         ⟨(some 47), .op (.load none (.tmp 46)), none⟩,
         ⟨(some 48), .op (.append 6 64 (.val .nils) (.tmp 47)), none⟩,
         ⟨(some 49), .op (.fieldAddr 3 (.tmp 7)), none⟩,
         ⟨none, .op (.store 1 (.tmp 49) (.tmp 48)), none⟩])
       (.seq (.seq (.region [⟨(some 50), .op (.fieldAddr 3 (.tmp 7)), none⟩,
          ⟨(some 51), .op (.load none (.tmp 50)), none⟩,
          ⟨(some 52), .op (.lenS (.tmp 51)), none⟩,
          ⟨(some 53), .op (.mov (.val (.int .i64 0))), none⟩])
        (.block 4 (.loop (.seq (.region [⟨(some 54), .op (.bin .lss (.tmp 53) (.tmp 52)), none⟩])
          (.seq (.cond (.tmp 54) (.skip)
           (.exit 4))
          (.seq (.block 5 (.seq (.region [⟨(some 55), .op (.mov (.tmp 53)), none⟩,
              ⟨(some 8), .op (.mov (.tmp 55)), none⟩])
            (.draw [⟨⟨(some 56), .op (.fieldAddr 3 (.tmp 7)), none⟩, .pure⟩,
             ⟨⟨(some 57), .op (.load none (.tmp 56)), none⟩, .read [12]⟩,
             ⟨⟨(some 58), .op (.mov (.tmp 8)), none⟩, .pure⟩,
             ⟨⟨(some 59), .op (.fieldAddr 3 (.tmp 7)), none⟩, .pure⟩,
             ⟨⟨(some 60), .op (.load none (.tmp 59)), none⟩, .read []⟩,
             ⟨⟨(some 61), .op (.mov (.tmp 8)), none⟩, .pure⟩,
             ⟨⟨(some 62), .op (.idxS 6 (.tmp 60) (.tmp 61)), none⟩, .read []⟩,
             ⟨⟨(some 63), .op (.fieldAddr 5 (.tmp 62)), none⟩, .pure⟩,
             ⟨⟨(some 64), .op (.load none (.tmp 63)), none⟩, .read []⟩,
             ⟨⟨(some 65), .op (.append 1 8 (.val .nils) (.tmp 64)), none⟩, .act true⟩,
             ⟨⟨(some 66), .op (.idxS 6 (.tmp 57) (.tmp 58)), none⟩, .read []⟩,
             ⟨⟨(some 67), .op (.fieldAddr 5 (.tmp 66)), none⟩, .pure⟩,
             ⟨⟨none, .op (.store 1 (.tmp 67) (.tmp 65)), none⟩, .act true⟩])))
          (.region [⟨(some 68), .op (.bin .add (.tmp 53) (.val (.int .i64 1))), none⟩,
           ⟨(some 53), .op (.mov (.tmp 68)), none⟩])))))))
       (.region [⟨(some 69), .op (.fieldAddr 2 (.tmp 3)), none⟩,
        ⟨(some 70), .op (.load none (.tmp 69)), none⟩,
        ⟨(some 71), .op (.load (some 4) (.tmp 7)), none⟩,
        ⟨(some 72), .op (.buildSlice 4 1 [(.int .i64 0), .nils, .nils, .nils] [(0, (.tmp 71))]), none⟩,
        ⟨(some 73), .op (.append 4 80 (.tmp 70) (.tmp 72)), none⟩,
        ⟨(some 74), .op (.fieldAddr 2 (.tmp 3)), none⟩,
        ⟨none, .op (.store 1 (.tmp 74) (.tmp 73)), none⟩])))))))
     (.region [⟨(some 75), .op (.bin .add (.tmp 34) (.val (.int .i64 1))), none⟩,
      ⟨(some 34), .op (.mov (.tmp 75)), none⟩])))))))
  (.seq (.region [⟨(some 76), .op (.load (some 3) (.tmp 3)), none⟩,
    ⟨none, .op (.store 3 (.tmp 2) (.tmp 76)), none⟩])
  (.ret))))),
  [.cell 2 (some 3)], none, none⟩
def A31 : AFun := ⟨.seq (.region [⟨(some 7), .op (.build [(.int .i64 0), (.int .u64 0), (.bool false), .nils, (.int .u64 0), (.bool false), (.int .i64 0), (.bool false)] [(0, 1, (.val (.int .i64 1)))]), none⟩,
    ⟨(some 8), .op (.box (.tmp 7)), none⟩,
    ⟨(some 6), .op (.mov (.tmp 8)), none⟩])
  (.seq (.region [⟨(some 9), .op (.mov (.tmp 6)), none⟩,
    ⟨(some 10), .op (.mov (.tmp 0)), none⟩,
    ⟨(some 11), .op (.mov (.tmp 1)), none⟩,
    ⟨(some 12), .op (.mov (.tmp 2)), none⟩,
    ⟨(some 13), .call (.fnv 48) [(.tmp 10), (.tmp 11), (.tmp 12)], none⟩,
    ⟨(some 14), .call (.fnv 47) [(.tmp 9), (.tmp 13)], none⟩])
  (.region [⟨(some 15), .op (.mov (.tmp 0)), none⟩,
   ⟨(some 16), .op (.mov (.tmp 0)), none⟩,
   ⟨(some 17), .op (.nilCheck (.tmp 16)), none⟩,
   ⟨(some 18), .op (.fieldAddr 5 (.tmp 17)), none⟩,
   ⟨(some 19), .op (.load none (.tmp 18)), none⟩,
   ⟨(some 20), .op (.mov (.tmp 6)), none⟩,
   ⟨(some 21), .op (.buildSlice 1 1 [.nilp] [(0, (.tmp 20))]), none⟩,
   ⟨(some 22), .op (.append 1 8 (.tmp 19) (.tmp 21)), none⟩,
   ⟨(some 23), .op (.nilCheck (.tmp 15)), none⟩,
   ⟨(some 24), .op (.fieldAddr 5 (.tmp 23)), none⟩,
   ⟨none, .op (.store 1 (.tmp 24) (.tmp 22)), none⟩])),
  [], none, none⟩
def A32 : AFun := ⟨.seq (.region [⟨(some 2), .op (.mov (.val .nilp)), none⟩])
  (.seq (.region [⟨(some 3), .op (.mov (.tmp 0)), none⟩,
    ⟨(some 4), .op (.nilCheck (.tmp 3)), none⟩,
    ⟨(some 5), .op (.fieldAddr 3 (.tmp 4)), none⟩,
    ⟨(some 6), .op (.load none (.tmp 5)), none⟩,
    ⟨(some 7), .op (.mov (.tmp 0)), none⟩,
    ⟨(some 8), .op (.nilCheck (.tmp 7)), none⟩,
    ⟨(some 9), .op (.fieldAddr 3 (.tmp 8)), none⟩,
    ⟨(some 10), .op (.load none (.tmp 9)), none⟩,
    ⟨(some 11), .op (.lenS (.tmp 10)), none⟩,
    ⟨(some 12), .op (.bin .sub (.tmp 11) (.val (.int .i64 1))), none⟩,
    ⟨(some 13), .op (.idxS 1 (.tmp 6) (.tmp 12)), none⟩,
    ⟨(some 14), .op (.load none (.tmp 13)), none⟩,
    ⟨(some 2), .op (.mov (.tmp 14)), none⟩])
  (.ret)),
  [.tmp 2], none, none⟩
def A33 : AFun := ⟨.seq (.region [⟨(some 5), .op (.mov (.tmp 0)), none⟩,
    ⟨(some 6), .op (.nilCheck (.tmp 5)), none⟩,
    ⟨(some 7), .op (.fieldAddr 5 (.tmp 6)), none⟩,
    ⟨(some 8), .op (.load none (.tmp 7)), none⟩,
    ⟨(some 9), .op (.mov (.tmp 0)), none⟩,
    ⟨(some 10), .op (.nilCheck (.tmp 9)), none⟩,
    ⟨(some 11), .op (.fieldAddr 9 (.tmp 10)), none⟩,
    ⟨(some 12), .op (.load none (.tmp 11)), none⟩,
    ⟨(some 13), .op (.idxS 1 (.tmp 8) (.tmp 12)), none⟩,
    ⟨(some 14), .op (.load none (.tmp 13)), none⟩,
    ⟨(some 4), .op (.mov (.tmp 14)), none⟩])
  (.seq (.region [⟨(some 15), .op (.mov (.tmp 4)), none⟩,
    ⟨(some 16), .op (.mov (.tmp 4)), none⟩,
    ⟨(some 17), .op (.mov (.tmp 1)), none⟩,
    ⟨(some 18), .op (.nilCheck (.tmp 15)), none⟩,
    ⟨(some 19), .op (.fieldAddr 5 (.tmp 18)), none⟩,
    ⟨none, .op (.store 1 (.tmp 19) (.val (.bool true))), none⟩,
    ⟨(some 20), .op (.nilCheck (.tmp 16)), none⟩,
    ⟨(some 21), .op (.fieldAddr 6 (.tmp 20)), none⟩,
    ⟨none, .op (.store 1 (.tmp 21) (.tmp 17)), none⟩])
  (.region [⟨(some 22), .op (.mov (.tmp 0)), none⟩,
   ⟨(some 23), .op (.mov (.tmp 4)), none⟩,
   ⟨(some 24), .call (.fnv 49) [(.tmp 22), (.tmp 23)], none⟩])),
  [], none, none⟩
def A34 : AFun := ⟨.seq (.region [⟨(some 8), .op (.box (.tmp 3)), none⟩])
  (.seq (.region [⟨(some 16), .op (.mov (.tmp 2)), none⟩,
    ⟨(some 17), .op (.nilCheck (.tmp 16)), none⟩,
    ⟨(some 18), .op (.fieldAddr 3 (.tmp 17)), none⟩,
    ⟨(some 19), .op (.load none (.tmp 18)), none⟩,
    ⟨(some 10), .op (.mov (.tmp 19)), none⟩])
  (.seq (.region [⟨(some 20), .op (.fieldAddr 0 (.tmp 8)), none⟩,
    ⟨(some 21), .op (.load none (.tmp 20)), none⟩])
  (.block 0 (.seq (.region [⟨(some 29), .op (.bin .eql (.tmp 21) (.val (.int .i64 1))), none⟩,
     ⟨(some 28), .op (.mov (.tmp 29)), none⟩])
   (.cond (.tmp 28) (.seq (.region [⟨(some 30), .op (.mov (.tmp 10)), none⟩,
      ⟨(some 31), .op (.fieldAddr 1 (.tmp 8)), none⟩,
      ⟨(some 32), .op (.load none (.tmp 31)), none⟩,
      ⟨(some 33), .op (.fieldAddr 4 (.tmp 8)), none⟩,
      ⟨(some 34), .op (.load none (.tmp 33)), none⟩,
      ⟨(some 35), .op (.idxS 1 (.tmp 30) (.tmp 32)), none⟩,
      ⟨none, .op (.store 1 (.tmp 35) (.tmp 34)), none⟩])
    (.seq (.region [⟨(some 36), .op (.mov (.tmp 0)), none⟩,
      ⟨(some 37), .op (.nilCheck (.tmp 36)), none⟩,
      ⟨(some 38), .op (.fieldAddr 0 (.tmp 37)), none⟩,
      ⟨(some 39), .op (.fieldAddr 2 (.tmp 38)), none⟩,
      ⟨(some 40), .op (.load none (.tmp 39)), none⟩,
      ⟨(some 41), .op (.mov (.tmp 2)), none⟩,
      ⟨(some 42), .op (.nilCheck (.tmp 41)), none⟩,
      ⟨(some 43), .op (.fieldAddr 0 (.tmp 42)), none⟩,
      ⟨(some 44), .op (.load none (.tmp 43)), none⟩,
      ⟨(some 45), .op (.idxS 4 (.tmp 40) (.tmp 44)), none⟩,
      ⟨(some 46), .op (.fieldAddr 1 (.tmp 45)), none⟩,
      ⟨(some 47), .op (.load none (.tmp 46)), none⟩,
      ⟨(some 48), .op (.fieldAddr 1 (.tmp 8)), none⟩,
      ⟨(some 49), .op (.load none (.tmp 48)), none⟩,
      ⟨(some 50), .op (.idxS 1 (.tmp 47) (.tmp 49)), none⟩,
      ⟨(some 51), .op (.load none (.tmp 50)), none⟩,
      ⟨(some 52), .op (.bin .eql (.tmp 51) (.val (.int .i64 1))), none⟩])
    (.cond (.tmp 52) (.draw [⟨⟨(some 53), .op (.mov (.tmp 10)), none⟩, .pure⟩,
      ⟨⟨(some 54), .op (.fieldAddr 1 (.tmp 8)), none⟩, .pure⟩,
      ⟨⟨(some 55), .op (.load none (.tmp 54)), none⟩, .read [7]⟩,
      ⟨⟨(some 56), .op (.fieldAddr 4 (.tmp 8)), none⟩, .pure⟩,
      ⟨⟨(some 57), .op (.load none (.tmp 56)), none⟩, .read []⟩,
      ⟨⟨(some 58), .call (.fnv 50) [(.tmp 57)], none⟩, .act true⟩,
      ⟨⟨(some 59), .op (.idxS 1 (.tmp 53) (.tmp 55)), none⟩, .read []⟩,
      ⟨⟨none, .op (.store 1 (.tmp 59) (.tmp 58)), none⟩, .act true⟩])
    (.skip))))
   (.seq (.region [⟨(some 61), .op (.bin .eql (.tmp 21) (.val (.int .i64 2))), none⟩,
     ⟨(some 60), .op (.mov (.tmp 61)), none⟩])
   (.cond (.tmp 60) (.draw [⟨⟨(some 62), .op (.mov (.tmp 10)), none⟩, .pure⟩,
     ⟨⟨(some 63), .op (.fieldAddr 1 (.tmp 8)), none⟩, .pure⟩,
     ⟨⟨(some 64), .op (.load none (.tmp 63)), none⟩, .read []⟩,
     ⟨⟨(some 65), .op (.mov (.tmp 10)), none⟩, .pure⟩,
     ⟨⟨(some 66), .op (.fieldAddr 2 (.tmp 8)), none⟩, .pure⟩,
     ⟨⟨(some 67), .op (.load none (.tmp 66)), none⟩, .read []⟩,
     ⟨⟨(some 68), .op (.idxS 1 (.tmp 65) (.tmp 67)), none⟩, .read []⟩,
     ⟨⟨(some 69), .op (.load none (.tmp 68)), none⟩, .read []⟩,
     ⟨⟨(some 70), .op (.idxS 1 (.tmp 62) (.tmp 64)), none⟩, .read []⟩,
     ⟨⟨none, .op (.store 1 (.tmp 70) (.tmp 69)), none⟩, .act true⟩])
   (.seq (.seq (.region [⟨(some 72), .op (.bin .eql (.tmp 21) (.val (.int .i64 3))), none⟩,
      ⟨(some 71), .op (.mov (.tmp 72)), none⟩])
    (.cond (.tmp 71) (.skip)
    (.seq (.region [⟨(some 73), .op (.bin .eql (.tmp 21) (.val (.int .i64 4))), none⟩,
      ⟨(some 71), .op (.mov (.tmp 73)), none⟩])
    (.cond (.tmp 71) (.skip)
    (.seq (.region [⟨(some 74), .op (.bin .eql (.tmp 21) (.val (.int .i64 5))), none⟩,
      ⟨(some 71), .op (.mov (.tmp 74)), none⟩])
    (.cond (.tmp 71) (.skip)
    (.seq (.region [⟨(some 75), .op (.bin .eql (.tmp 21) (.val (.int .i64 6))), none⟩,
      ⟨(some 71), .op (.mov (.tmp 75)), none⟩])
    (.cond (.tmp 71) (.skip)
    (.seq (.region [⟨(some 76), .op (.bin .eql (.tmp 21) (.val (.int .i64 7))), none⟩,
      ⟨(some 71), .op (.mov (.tmp 76)), none⟩])
    (.cond (.tmp 71) (.skip)
    (.seq (.region [⟨(some 77), .op (.bin .eql (.tmp 21) (.val (.int .i64 8))), none⟩,
      ⟨(some 71), .op (.mov (.tmp 77)), none⟩])
    (.cond (.tmp 71) (.skip)
    (.seq (.region [⟨(some 78), .op (.bin .eql (.tmp 21) (.val (.int .i64 9))), none⟩,
      ⟨(some 71), .op (.mov (.tmp 78)), none⟩])
    (.cond (.tmp 71) (.skip)
    (.seq (.region [⟨(some 79), .op (.bin .eql (.tmp 21) (.val (.int .i64 10))), none⟩,
      ⟨(some 71), .op (.mov (.tmp 79)), none⟩])
    (.cond (.tmp 71) (.skip)
    (.seq (.region [⟨(some 80), .op (.bin .eql (.tmp 21) (.val (.int .i64 11))), none⟩,
      ⟨(some 71), .op (.mov (.tmp 80)), none⟩])
    (.cond (.tmp 71) (.skip)
    (.seq (.region [⟨(some 81), .op (.bin .eql (.tmp 21) (.val (.int .i64 12))), none⟩,
      ⟨(some 71), .op (.mov (.tmp 81)), none⟩])
    (.cond (.tmp 71) (.skip)
    (.seq (.region [⟨(some 82), .op (.bin .eql (.tmp 21) (.val (.int .i64 13))), none⟩,
      ⟨(some 71), .op (.mov (.tmp 82)), none⟩])
    (.cond (.tmp 71) (.skip)
    (.seq (.region [⟨(some 83), .op (.bin .eql (.tmp 21) (.val (.int .i64 14))), none⟩,
      ⟨(some 71), .op (.mov (.tmp 83)), none⟩])
    (.cond (.tmp 71) (.skip)
    (.region [⟨(some 84), .op (.bin .eql (.tmp 21) (.val (.int .i64 23))), none⟩,
     ⟨(some 71), .op (.mov (.tmp 84)), none⟩])))))))))))))))))))))))))
   (.cond (.tmp 71) (.seq (.draw [⟨⟨(some 86), .op (.fieldAddr 0 (.tmp 8)), none⟩, .pure⟩,
      ⟨⟨(some 87), .op (.load none (.tmp 86)), none⟩, .read []⟩,
      ⟨⟨(some 88), .op (.mov (.tmp 10)), none⟩, .pure⟩,
      ⟨⟨(some 89), .op (.fieldAddr 2 (.tmp 8)), none⟩, .pure⟩,
      ⟨⟨(some 90), .op (.load none (.tmp 89)), none⟩, .read []⟩,
      ⟨⟨(some 91), .op (.idxS 1 (.tmp 88) (.tmp 90)), none⟩, .read []⟩,
      ⟨⟨(some 92), .op (.load none (.tmp 91)), none⟩, .read []⟩,
      ⟨⟨(some 93), .op (.mov (.tmp 10)), none⟩, .pure⟩,
      ⟨⟨(some 94), .op (.fieldAddr 3 (.tmp 8)), none⟩, .pure⟩,
      ⟨⟨(some 95), .op (.load none (.tmp 94)), none⟩, .read []⟩,
      ⟨⟨(some 96), .op (.idxS 1 (.tmp 93) (.tmp 95)), none⟩, .read []⟩,
      ⟨⟨(some 97), .op (.load none (.tmp 96)), none⟩, .read []⟩,
      ⟨⟨(some 98), .call (.fnv 51) [(.tmp 87), (.tmp 92), (.tmp 97)], none⟩, .act true⟩,
      ⟨⟨(some 85), .op (.mov (.tmp 98)), none⟩, .pure⟩,
      ⟨⟨(some 99), .op (.extract (.tmp 85) 0), none⟩, .pure⟩,
      ⟨⟨(some 100), .op (.extract (.tmp 85) 1), none⟩, .pure⟩,
      ⟨⟨(some 11), .op (.mov (.tmp 99)), none⟩, .pure⟩,
      ⟨⟨(some 12), .op (.mov (.tmp 100)), none⟩, .pure⟩])
    (.seq (.seq (.region [⟨(some 101), .op (.mov (.tmp 12)), none⟩,
       ⟨(some 102), .op (.un .not (.tmp 101)), none⟩])
     (.cond (.tmp 102) (.seq (.region [⟨(some 103), .op (.mov (.tmp 0)), none⟩,
        ⟨(some 104), .call (.fnv 33) [(.tmp 103), (.val (.int .i64 (-3)))], none⟩])
      (.ret))
     (.skip)))
    (.region [⟨(some 105), .op (.mov (.tmp 10)), none⟩,
     ⟨(some 106), .op (.fieldAddr 1 (.tmp 8)), none⟩,
     ⟨(some 107), .op (.load none (.tmp 106)), none⟩,
     ⟨(some 108), .op (.mov (.tmp 11)), none⟩,
     ⟨(some 109), .op (.idxS 1 (.tmp 105) (.tmp 107)), none⟩,
     ⟨none, .op (.store 1 (.tmp 109) (.tmp 108)), none⟩])))
   (.seq (.seq (.region [⟨(some 111), .op (.bin .eql (.tmp 21) (.val (.int .i64 15))), none⟩,
      ⟨(some 110), .op (.mov (.tmp 111)), none⟩])
    (.cond (.tmp 110) (.skip)
    (.seq (.region [⟨(some 112), .op (.bin .eql (.tmp 21) (.val (.int .i64 16))), none⟩,
      ⟨(some 110), .op (.mov (.tmp 112)), none⟩])
    (.cond (.tmp 110) (.skip)
    (.seq (.region [⟨(some 113), .op (.bin .eql (.tmp 21) (.val (.int .i64 17))), none⟩,
      ⟨(some 110), .op (.mov (.tmp 113)), none⟩])
    (.cond (.tmp 110) (.skip)
    (.seq (.region [⟨(some 114), .op (.bin .eql (.tmp 21) (.val (.int .i64 18))), none⟩,
      ⟨(some 110), .op (.mov (.tmp 114)), none⟩])
    (.cond (.tmp 110) (.skip)
    (.seq (.region [⟨(some 115), .op (.bin .eql (.tmp 21) (.val (.int .i64 19))), none⟩,
      ⟨(some 110), .op (.mov (.tmp 115)), none⟩])
    (.cond (.tmp 110) (.skip)
    (.region [⟨(some 116), .op (.bin .eql (.tmp 21) (.val (.int .i64 20))), none⟩,
     ⟨(some 110), .op (.mov (.tmp 116)), none⟩])))))))))))
   (.cond (.tmp 110) (.draw [⟨⟨(some 117), .op (.mov (.tmp 10)), none⟩, .pure⟩,
     ⟨⟨(some 118), .op (.fieldAddr 1 (.tmp 8)), none⟩, .pure⟩,
     ⟨⟨(some 119), .op (.load none (.tmp 118)), none⟩, .read [17]⟩,
     ⟨⟨(some 120), .op (.fieldAddr 0 (.tmp 8)), none⟩, .pure⟩,
     ⟨⟨(some 121), .op (.load none (.tmp 120)), none⟩, .read []⟩,
     ⟨⟨(some 122), .op (.mov (.tmp 10)), none⟩, .pure⟩,
     ⟨⟨(some 123), .op (.fieldAddr 2 (.tmp 8)), none⟩, .pure⟩,
     ⟨⟨(some 124), .op (.load none (.tmp 123)), none⟩, .read []⟩,
     ⟨⟨(some 125), .op (.idxS 1 (.tmp 122) (.tmp 124)), none⟩, .read []⟩,
     ⟨⟨(some 126), .op (.load none (.tmp 125)), none⟩, .read []⟩,
     ⟨⟨(some 127), .op (.mov (.tmp 10)), none⟩, .pure⟩,
     ⟨⟨(some 128), .op (.fieldAddr 3 (.tmp 8)), none⟩, .pure⟩,
     ⟨⟨(some 129), .op (.load none (.tmp 128)), none⟩, .read []⟩,
     ⟨⟨(some 130), .op (.idxS 1 (.tmp 127) (.tmp 129)), none⟩, .read []⟩,
     ⟨⟨(some 131), .op (.load none (.tmp 130)), none⟩, .read []⟩,
     ⟨⟨(some 132), .call (.fnv 52) [(.tmp 121), (.tmp 126), (.tmp 131)], none⟩, .act true⟩,
     ⟨⟨(some 133), .op (.idxS 1 (.tmp 117) (.tmp 119)), none⟩, .read []⟩,
     ⟨⟨none, .op (.store 1 (.tmp 133) (.tmp 132)), none⟩, .act true⟩])
   (.seq (.region [⟨(some 135), .op (.bin .eql (.tmp 21) (.val (.int .i64 21))), none⟩,
     ⟨(some 134), .op (.mov (.tmp 135)), none⟩])
   (.cond (.tmp 134) (.draw [⟨⟨(some 136), .op (.mov (.tmp 10)), none⟩, .pure⟩,
     ⟨⟨(some 137), .op (.fieldAddr 1 (.tmp 8)), none⟩, .pure⟩,
     ⟨⟨(some 138), .op (.load none (.tmp 137)), none⟩, .read [11]⟩,
     ⟨⟨(some 139), .op (.mov (.tmp 10)), none⟩, .pure⟩,
     ⟨⟨(some 140), .op (.fieldAddr 2 (.tmp 8)), none⟩, .pure⟩,
     ⟨⟨(some 141), .op (.load none (.tmp 140)), none⟩, .read []⟩,
     ⟨⟨(some 142), .op (.idxS 1 (.tmp 139) (.tmp 141)), none⟩, .read []⟩,
     ⟨⟨(some 143), .op (.load none (.tmp 142)), none⟩, .read []⟩,
     ⟨⟨(some 144), .op (.conv .i64 (.tmp 143)), none⟩, .pure⟩,
     ⟨⟨(some 145), .call (.fnv 53) [(.tmp 144)], none⟩, .act true⟩,
     ⟨⟨(some 146), .op (.idxS 1 (.tmp 136) (.tmp 138)), none⟩, .read []⟩,
     ⟨⟨none, .op (.store 1 (.tmp 146) (.tmp 145)), none⟩, .act true⟩])
   (.seq (.region [⟨(some 148), .op (.bin .eql (.tmp 21) (.val (.int .i64 22))), none⟩,
     ⟨(some 147), .op (.mov (.tmp 148)), none⟩])
   (.cond (.tmp 147) (.draw [⟨⟨(some 149), .op (.mov (.tmp 10)), none⟩, .pure⟩,
     ⟨⟨(some 150), .op (.fieldAddr 1 (.tmp 8)), none⟩, .pure⟩,
     ⟨⟨(some 151), .op (.load none (.tmp 150)), none⟩, .read [11]⟩,
     ⟨⟨(some 152), .op (.mov (.tmp 10)), none⟩, .pure⟩,
     ⟨⟨(some 153), .op (.fieldAddr 2 (.tmp 8)), none⟩, .pure⟩,
     ⟨⟨(some 154), .op (.load none (.tmp 153)), none⟩, .read []⟩,
     ⟨⟨(some 155), .op (.idxS 1 (.tmp 152) (.tmp 154)), none⟩, .read []⟩,
     ⟨⟨(some 156), .op (.load none (.tmp 155)), none⟩, .read []⟩,
     ⟨⟨(some 157), .call (.fnv 16) [(.tmp 156)], none⟩, .act true⟩,
     ⟨⟨(some 158), .op (.conv .u64 (.tmp 157)), none⟩, .pure⟩,
     ⟨⟨(some 159), .op (.idxS 1 (.tmp 149) (.tmp 151)), none⟩, .read []⟩,
     ⟨⟨none, .op (.store 1 (.tmp 159) (.tmp 158)), none⟩, .act true⟩])
   (.seq (.region [⟨(some 161), .op (.bin .eql (.tmp 21) (.val (.int .i64 24))), none⟩,
     ⟨(some 160), .op (.mov (.tmp 161)), none⟩])
   (.cond (.tmp 160) (.region [⟨(some 162), .op (.mov (.tmp 2)), none⟩,
     ⟨(some 163), .op (.fieldAddr 1 (.tmp 8)), none⟩,
     ⟨(some 164), .op (.load none (.tmp 163)), none⟩,
     ⟨(some 165), .op (.nilCheck (.tmp 162)), none⟩,
     ⟨(some 166), .op (.fieldAddr 1 (.tmp 165)), none⟩,
     ⟨none, .op (.store 1 (.tmp 166) (.tmp 164)), none⟩])
   (.seq (.region [⟨(some 168), .op (.bin .eql (.tmp 21) (.val (.int .i64 25))), none⟩,
     ⟨(some 167), .op (.mov (.tmp 168)), none⟩])
   (.cond (.tmp 167) (.seq (.region [⟨(some 169), .op (.mov (.tmp 10)), none⟩,
      ⟨(some 170), .op (.fieldAddr 1 (.tmp 8)), none⟩,
      ⟨(some 171), .op (.load none (.tmp 170)), none⟩,
      ⟨(some 172), .op (.idxS 1 (.tmp 169) (.tmp 171)), none⟩,
      ⟨(some 173), .op (.load none (.tmp 172)), none⟩,
      ⟨(some 174), .op (.bin .eql (.tmp 173) (.val (.int .u64 0))), none⟩])
    (.cond (.tmp 174) (.region [⟨(some 175), .op (.mov (.tmp 2)), none⟩,
      ⟨(some 176), .op (.fieldAddr 2 (.tmp 8)), none⟩,
      ⟨(some 177), .op (.load none (.tmp 176)), none⟩,
      ⟨(some 178), .op (.nilCheck (.tmp 175)), none⟩,
      ⟨(some 179), .op (.fieldAddr 1 (.tmp 178)), none⟩,
      ⟨none, .op (.store 1 (.tmp 179) (.tmp 177)), none⟩])
    (.skip)))
   (.seq (.region [⟨(some 181), .op (.bin .eql (.tmp 21) (.val (.int .i64 47))), none⟩,
     ⟨(some 180), .op (.mov (.tmp 181)), none⟩])
   (.cond (.tmp 180) (.skip)
   (.seq (.region [⟨(some 183), .op (.bin .eql (.tmp 21) (.val (.int .i64 52))), none⟩,
     ⟨(some 182), .op (.mov (.tmp 183)), none⟩])
   (.cond (.tmp 182) (.region [⟨(some 184), .op (.mov (.tmp 0)), none⟩,
     ⟨(some 185), .op (.mov (.tmp 10)), none⟩,
     ⟨(some 186), .op (.fieldAddr 1 (.tmp 8)), none⟩,
     ⟨(some 187), .op (.load none (.tmp 186)), none⟩,
     ⟨(some 188), .op (.idxS 1 (.tmp 185) (.tmp 187)), none⟩,
     ⟨(some 189), .op (.load none (.tmp 188)), none⟩,
     ⟨(some 190), .call (.fnv 36) [(.tmp 184), (.val (.int .i64 3)), (.tmp 189)], none⟩])
   (.seq (.region [⟨(some 192), .op (.bin .eql (.tmp 21) (.val (.int .i64 46))), none⟩,
     ⟨(some 191), .op (.mov (.tmp 192)), none⟩])
   (.cond (.tmp 191) (.region [⟨(some 193), .op (.mov (.tmp 0)), none⟩,
     ⟨(some 194), .op (.mov (.tmp 1)), none⟩,
     ⟨(some 195), .op (.mov (.tmp 10)), none⟩,
     ⟨(some 196), .op (.fieldAddr 1 (.tmp 8)), none⟩,
     ⟨(some 197), .op (.load none (.tmp 196)), none⟩,
     ⟨(some 198), .op (.idxS 1 (.tmp 195) (.tmp 197)), none⟩,
     ⟨(some 199), .op (.load none (.tmp 198)), none⟩,
     ⟨(some 200), .op (.conv .i64 (.tmp 199)), none⟩,
     ⟨(some 201), .call (.fnv 54) [(.tmp 193), (.tmp 194), (.tmp 200)], none⟩])
   (.seq (.region [⟨(some 203), .op (.bin .eql (.tmp 21) (.val (.int .i64 48))), none⟩,
     ⟨(some 202), .op (.mov (.tmp 203)), none⟩])
   (.cond (.tmp 202) (.seq (.region [⟨(some 13), .op (.mov (.val (.int .i64 1))), none⟩])
    (.seq (.seq (.region [⟨(some 204), .op (.mov (.tmp 0)), none⟩,
       ⟨(some 205), .op (.nilCheck (.tmp 204)), none⟩,
       ⟨(some 206), .op (.fieldAddr 0 (.tmp 205)), none⟩,
       ⟨(some 207), .op (.fieldAddr 2 (.tmp 206)), none⟩,
       ⟨(some 208), .op (.load none (.tmp 207)), none⟩,
       ⟨(some 209), .op (.mov (.tmp 2)), none⟩,
       ⟨(some 210), .op (.nilCheck (.tmp 209)), none⟩,
       ⟨(some 211), .op (.fieldAddr 0 (.tmp 210)), none⟩,
       ⟨(some 212), .op (.load none (.tmp 211)), none⟩,
       ⟨(some 213), .op (.idxS 4 (.tmp 208) (.tmp 212)), none⟩,
       ⟨(some 214), .op (.fieldAddr 1 (.tmp 213)), none⟩,
       ⟨(some 215), .op (.load none (.tmp 214)), none⟩,
       ⟨(some 216), .op (.fieldAddr 1 (.tmp 8)), none⟩,
       ⟨(some 217), .op (.load none (.tmp 216)), none⟩,
       ⟨(some 218), .op (.idxS 1 (.tmp 215) (.tmp 217)), none⟩,
       ⟨(some 219), .op (.load none (.tmp 218)), none⟩,
       ⟨(some 220), .op (.bin .eql (.tmp 219) (.val (.int .i64 1))), none⟩])
     (.cond (.tmp 220) (.region [⟨(some 13), .op (.mov (.val (.int .i64 2))), none⟩])
     (.skip)))
    (.region [⟨(some 221), .op (.mov (.tmp 0)), none⟩,
     ⟨(some 222), .op (.mov (.tmp 13)), none⟩,
     ⟨(some 223), .op (.mov (.tmp 10)), none⟩,
     ⟨(some 224), .op (.fieldAddr 1 (.tmp 8)), none⟩,
     ⟨(some 225), .op (.load none (.tmp 224)), none⟩,
     ⟨(some 226), .op (.idxS 1 (.tmp 223) (.tmp 225)), none⟩,
     ⟨(some 227), .op (.load none (.tmp 226)), none⟩,
     ⟨(some 228), .call (.fnv 36) [(.tmp 221), (.tmp 222), (.tmp 227)], none⟩])))
   (.seq (.region [⟨(some 230), .op (.bin .eql (.tmp 21) (.val (.int .i64 49))), none⟩,
     ⟨(some 229), .op (.mov (.tmp 230)), none⟩])
   (.cond (.tmp 229) (.draw [⟨⟨(some 231), .op (.mov (.tmp 10)), none⟩, .pure⟩,
     ⟨⟨(some 232), .op (.fieldAddr 1 (.tmp 8)), none⟩, .pure⟩,
     ⟨⟨(some 233), .op (.load none (.tmp 232)), none⟩, .read []⟩,
     ⟨⟨(some 234), .op (.mov (.tmp 2)), none⟩, .pure⟩,
     ⟨⟨(some 235), .op (.nilCheck (.tmp 234)), none⟩, .pure⟩,
     ⟨⟨(some 236), .op (.fieldAddr 2 (.tmp 235)), none⟩, .pure⟩,
     ⟨⟨(some 237), .op (.load none (.tmp 236)), none⟩, .read []⟩,
     ⟨⟨(some 238), .op (.bin .mul (.tmp 237) (.val (.int .u64 64))), none⟩, .pure⟩,
     ⟨⟨(some 239), .op (.fieldAddr 2 (.tmp 8)), none⟩, .pure⟩,
     ⟨⟨(some 240), .op (.load none (.tmp 239)), none⟩, .read []⟩,
     ⟨⟨(some 241), .op (.conv .u64 (.tmp 240)), none⟩, .pure⟩,
     ⟨⟨(some 242), .op (.bin .add (.tmp 238) (.tmp 241)), none⟩, .pure⟩,
     ⟨⟨(some 243), .op (.idxS 1 (.tmp 231) (.tmp 233)), none⟩, .read []⟩,
     ⟨⟨none, .op (.store 1 (.tmp 243) (.tmp 242)), none⟩, .act true⟩])
   (.seq (.region [⟨(some 245), .op (.bin .eql (.tmp 21) (.val (.int .i64 50))), none⟩,
     ⟨(some 244), .op (.mov (.tmp 245)), none⟩])
   (.cond (.tmp 244) (.seq (.region [⟨(some 246), .op (.mov (.tmp 1)), none⟩,
      ⟨(some 247), .op (.mov (.tmp 10)), none⟩,
      ⟨(some 248), .op (.fieldAddr 2 (.tmp 8)), none⟩,
      ⟨(some 249), .op (.load none (.tmp 248)), none⟩,
      ⟨(some 250), .op (.idxS 1 (.tmp 247) (.tmp 249)), none⟩,
      ⟨(some 251), .op (.load none (.tmp 250)), none⟩,
      ⟨(some 252), .call (.fnv 55) [(.tmp 246), (.tmp 251)], none⟩,
      ⟨(some 14), .op (.mov (.tmp 252)), none⟩])
    (.seq (.region [⟨(some 253), .op (.mov (.tmp 14)), none⟩,
      ⟨(some 254), .op (.eql true .ptr (.tmp 253) (.val .nilp)), none⟩])
    (.cond (.tmp 254) (.draw [⟨⟨(some 255), .op (.mov (.tmp 10)), none⟩, .pure⟩,
      ⟨⟨(some 256), .op (.fieldAddr 1 (.tmp 8)), none⟩, .pure⟩,
      ⟨⟨(some 257), .op (.load none (.tmp 256)), none⟩, .read []⟩,
      ⟨⟨(some 258), .op (.mov (.tmp 14)), none⟩, .pure⟩,
      ⟨⟨(some 259), .op (.nilCheck (.tmp 258)), none⟩, .pure⟩,
      ⟨⟨(some 260), .op (.load none (.tmp 259)), none⟩, .read []⟩,
      ⟨⟨(some 261), .op (.idxS 1 (.tmp 255) (.tmp 257)), none⟩, .read []⟩,
      ⟨⟨none, .op (.store 1 (.tmp 261) (.tmp 260)), none⟩, .act true⟩])
    (.region [⟨(some 262), .op (.mov (.tmp 0)), none⟩,
     ⟨(some 263), .call (.fnv 33) [(.tmp 262), (.val (.int .i64 (-1)))], none⟩]))))
   (.seq (.region [⟨(some 265), .op (.bin .eql (.tmp 21) (.val (.int .i64 51))), none⟩,
     ⟨(some 264), .op (.mov (.tmp 265)), none⟩])
   (.cond (.tmp 264) (.seq (.region [⟨(some 266), .op (.mov (.tmp 1)), none⟩,
      ⟨(some 267), .op (.mov (.tmp 10)), none⟩,
      ⟨(some 268), .op (.fieldAddr 1 (.tmp 8)), none⟩,
      ⟨(some 269), .op (.load none (.tmp 268)), none⟩,
      ⟨(some 270), .op (.idxS 1 (.tmp 267) (.tmp 269)), none⟩,
      ⟨(some 271), .op (.load none (.tmp 270)), none⟩,
      ⟨(some 272), .call (.fnv 55) [(.tmp 266), (.tmp 271)], none⟩,
      ⟨(some 15), .op (.mov (.tmp 272)), none⟩])
    (.seq (.region [⟨(some 273), .op (.mov (.tmp 15)), none⟩,
      ⟨(some 274), .op (.eql true .ptr (.tmp 273) (.val .nilp)), none⟩])
    (.cond (.tmp 274) (.region [⟨(some 275), .op (.mov (.tmp 15)), none⟩,
      ⟨(some 276), .op (.mov (.tmp 10)), none⟩,
      ⟨(some 277), .op (.fieldAddr 2 (.tmp 8)), none⟩,
      ⟨(some 278), .op (.load none (.tmp 277)), none⟩,
      ⟨(some 279), .op (.idxS 1 (.tmp 276) (.tmp 278)), none⟩,
      ⟨(some 280), .op (.load none (.tmp 279)), none⟩,
      ⟨(some 281), .op (.nilCheck (.tmp 275)), none⟩,
      ⟨none, .op (.store 1 (.tmp 281) (.tmp 280)), none⟩])
    (.region [⟨(some 282), .op (.mov (.tmp 0)), none⟩,
     ⟨(some 283), .call (.fnv 33) [(.tmp 282), (.val (.int .i64 (-1)))], none⟩]))))
   (.seq (.seq (.region [⟨(some 285), .op (.bin .eql (.tmp 21) (.val (.int .i64 26))), none⟩,
      ⟨(some 284), .op (.mov (.tmp 285)), none⟩])
    (.cond (.tmp 284) (.skip)
    (.seq (.region [⟨(some 286), .op (.bin .eql (.tmp 21) (.val (.int .i64 27))), none⟩,
      ⟨(some 284), .op (.mov (.tmp 286)), none⟩])
    (.cond (.tmp 284) (.skip)
    (.seq (.region [⟨(some 287), .op (.bin .eql (.tmp 21) (.val (.int .i64 28))), none⟩,
      ⟨(some 284), .op (.mov (.tmp 287)), none⟩])
    (.cond (.tmp 284) (.skip)
    (.seq (.region [⟨(some 288), .op (.bin .eql (.tmp 21) (.val (.int .i64 29))), none⟩,
      ⟨(some 284), .op (.mov (.tmp 288)), none⟩])
    (.cond (.tmp 284) (.skip)
    (.seq (.region [⟨(some 289), .op (.bin .eql (.tmp 21) (.val (.int .i64 30))), none⟩,
      ⟨(some 284), .op (.mov (.tmp 289)), none⟩])
    (.cond (.tmp 284) (.skip)
    (.seq (.region [⟨(some 290), .op (.bin .eql (.tmp 21) (.val (.int .i64 31))), none⟩,
      ⟨(some 284), .op (.mov (.tmp 290)), none⟩])
    (.cond (.tmp 284) (.skip)
    (.seq (.region [⟨(some 291), .op (.bin .eql (.tmp 21) (.val (.int .i64 32))), none⟩,
      ⟨(some 284), .op (.mov (.tmp 291)), none⟩])
    (.cond (.tmp 284) (.skip)
    (.seq (.region [⟨(some 292), .op (.bin .eql (.tmp 21) (.val (.int .i64 33))), none⟩,
      ⟨(some 284), .op (.mov (.tmp 292)), none⟩])
    (.cond (.tmp 284) (.skip)
    (.region [⟨(some 293), .op (.bin .eql (.tmp 21) (.val (.int .i64 34))), none⟩,
     ⟨(some 284), .op (.mov (.tmp 293)), none⟩])))))))))))))))))
   (.cond (.tmp 284) (.region [⟨(some 294), .op (.mov (.tmp 0)), none⟩,
     ⟨(some 295), .op (.mov (.tmp 10)), none⟩,
     ⟨(some 296), .op (.load (some 6) (.tmp 8)), none⟩,
     ⟨(some 297), .call (.fnv 56) [(.tmp 294), (.tmp 295), (.tmp 296)], none⟩])
   (.seq (.seq (.region [⟨(some 299), .op (.bin .eql (.tmp 21) (.val (.int .i64 35))), none⟩,
      ⟨(some 298), .op (.mov (.tmp 299)), none⟩])
    (.cond (.tmp 298) (.skip)
    (.seq (.region [⟨(some 300), .op (.bin .eql (.tmp 21) (.val (.int .i64 36))), none⟩,
      ⟨(some 298), .op (.mov (.tmp 300)), none⟩])
    (.cond (.tmp 298) (.skip)
    (.seq (.region [⟨(some 301), .op (.bin .eql (.tmp 21) (.val (.int .i64 37))), none⟩,
      ⟨(some 298), .op (.mov (.tmp 301)), none⟩])
    (.cond (.tmp 298) (.skip)
    (.seq (.region [⟨(some 302), .op (.bin .eql (.tmp 21) (.val (.int .i64 38))), none⟩,
      ⟨(some 298), .op (.mov (.tmp 302)), none⟩])
    (.cond (.tmp 298) (.skip)
    (.seq (.region [⟨(some 303), .op (.bin .eql (.tmp 21) (.val (.int .i64 39))), none⟩,
      ⟨(some 298), .op (.mov (.tmp 303)), none⟩])
    (.cond (.tmp 298) (.skip)
    (.region [⟨(some 304), .op (.bin .eql (.tmp 21) (.val (.int .i64 40))), none⟩,
     ⟨(some 298), .op (.mov (.tmp 304)), none⟩])))))))))))
   (.cond (.tmp 298) (.region [⟨(some 305), .op (.mov (.tmp 0)), none⟩,
     ⟨(some 306), .op (.mov (.tmp 1)), none⟩,
     ⟨(some 307), .op (.mov (.tmp 2)), none⟩,
     ⟨(some 308), .op (.load (some 6) (.tmp 8)), none⟩,
     ⟨(some 309), .call (.fnv 57) [(.tmp 305), (.tmp 306), (.tmp 307), (.tmp 308)], none⟩])
   (.region [⟨(some 22), .op (.mov (.tmp 0)), none⟩,
    ⟨(some 23), .op (.mov (.tmp 1)), none⟩,
    ⟨(some 24), .op (.mov (.tmp 2)), none⟩,
    ⟨(some 25), .op (.load (some 6) (.tmp 8)), none⟩,
    ⟨(some 26), .op (.mov (.tmp 4)), none⟩,
    ⟨(some 27), .call (.fnv 58) [(.tmp 22), (.tmp 23), (.tmp 24), (.tmp 25), (.tmp 26)], none⟩])))))))))))))))))))))))))))))))))))))),
  [], none, none⟩
def A35 : AFun := ⟨.seq (.region [⟨(some 2), .op (.mov (.val (.bool false))), none⟩])
  (.seq (.seq (.region [⟨(some 5), .op (.mov (.tmp 0)), none⟩,
     ⟨(some 6), .op (.nilCheck (.tmp 5)), none⟩,
     ⟨(some 7), .op (.fieldAddr 5 (.tmp 6)), none⟩,
     ⟨(some 8), .op (.load none (.tmp 7)), none⟩,
     ⟨(some 9), .op (.lenS (.tmp 8)), none⟩,
     ⟨(some 10), .op (.mov (.val (.int .i64 0))), none⟩])
   (.block 0 (.loop (.seq (.region [⟨(some 11), .op (.bin .lss (.tmp 10) (.tmp 9)), none⟩])
     (.seq (.cond (.tmp 11) (.skip)
      (.exit 0))
     (.seq (.block 1 (.seq (.region [⟨(some 12), .op (.idxS 1 (.tmp 8) (.tmp 10)), none⟩,
         ⟨(some 13), .op (.load none (.tmp 12)), none⟩,
         ⟨(some 4), .op (.mov (.tmp 13)), none⟩])
       (.seq (.region [⟨(some 14), .op (.mov (.tmp 4)), none⟩,
         ⟨(some 15), .op (.nilCheck (.tmp 14)), none⟩,
         ⟨(some 16), .op (.fieldAddr 0 (.tmp 15)), none⟩,
         ⟨(some 17), .op (.load none (.tmp 16)), none⟩,
         ⟨(some 18), .op (.bin .eql (.tmp 17) (.val (.int .i64 1))), none⟩,
         ⟨(some 19), .op (.mov (.tmp 18)), none⟩,
         ⟨(some 20), .op (.mov (.tmp 4)), (some (19, false))⟩,
         ⟨(some 21), .op (.nilCheck (.tmp 20)), (some (19, false))⟩,
         ⟨(some 22), .op (.fieldAddr 2 (.tmp 21)), (some (19, false))⟩,
         ⟨(some 23), .op (.load none (.tmp 22)), (some (19, false))⟩,
         ⟨(some 24), .op (.pick (.tmp 19) (.val (.bool true)) (.tmp 23)), none⟩])
       (.cond (.tmp 24) (.seq (.region [⟨(some 2), .op (.mov (.val (.bool false))), none⟩])
        (.ret))
       (.skip)))))
     (.region [⟨(some 25), .op (.bin .add (.tmp 10) (.val (.int .i64 1))), none⟩,
      ⟨(some 10), .op (.mov (.tmp 25)), none⟩])))))))
  (.seq (.region [⟨(some 2), .op (.mov (.val (.bool true))), none⟩])
  (.ret))),
  [.tmp 2], none, none⟩
def A36 : AFun := ⟨.seq (.seq (.region [⟨(some 6), .op (.mov (.tmp 1)), none⟩,
     ⟨(some 7), .op (.bin .leq (.tmp 6) (.val (.int .i64 2))), none⟩,
     ⟨(some 8), .op (.mov (.tmp 7)), none⟩,
     ⟨(some 9), .op (.mov (.tmp 0)), (some (8, true))⟩,
     ⟨(some 10), .op (.nilCheck (.tmp 9)), (some (8, true))⟩,
     ⟨(some 11), .op (.fieldAddr 7 (.tmp 10)), (some (8, true))⟩,
     ⟨(some 12), .op (.load none (.tmp 11)), (some (8, true))⟩,
     ⟨(some 13), .op (.lenS (.tmp 12)), (some (8, true))⟩,
     ⟨(some 14), .op (.bin .eql (.tmp 13) (.val (.int .i64 4095))), (some (8, true))⟩,
     ⟨(some 15), .op (.pick (.tmp 8) (.tmp 14) (.val (.bool false))), none⟩])
   (.cond (.tmp 15) (.region [⟨(some 1), .op (.mov (.val (.int .i64 7))), none⟩,
     ⟨(some 2), .op (.mov (.val (.int .u64 0))), none⟩])
   (.skip)))
  (.seq (.draw [⟨⟨(some 16), .op (.mov (.tmp 0)), none⟩, .pure⟩,
    ⟨⟨(some 17), .op (.mov (.tmp 0)), none⟩, .pure⟩,
    ⟨⟨(some 18), .op (.nilCheck (.tmp 17)), none⟩, .pure⟩,
    ⟨⟨(some 19), .op (.fieldAddr 7 (.tmp 18)), none⟩, .pure⟩,
    ⟨⟨(some 20), .op (.load none (.tmp 19)), none⟩, .read [13]⟩,
    ⟨⟨(some 21), .op (.mov (.tmp 1)), none⟩, .pure⟩,
    ⟨⟨(some 22), .op (.mov (.tmp 0)), none⟩, .pure⟩,
    ⟨⟨(some 23), .op (.nilCheck (.tmp 22)), none⟩, .pure⟩,
    ⟨⟨(some 24), .op (.fieldAddr 9 (.tmp 23)), none⟩, .pure⟩,
    ⟨⟨(some 25), .op (.load none (.tmp 24)), none⟩, .read []⟩,
    ⟨⟨(some 26), .op (.mov (.tmp 2)), none⟩, .pure⟩,
    ⟨⟨(some 27), .op (.build [(.int .i64 0), (.int .i64 0), (.int .u64 0)] [(0, 1, (.tmp 21)), (1, 1, (.tmp 25)), (2, 1, (.tmp 26))]), none⟩, .pure⟩,
    ⟨⟨(some 28), .op (.buildSlice 3 1 [(.int .i64 0), (.int .i64 0), (.int .u64 0)] [(0, (.tmp 27))]), none⟩, .act true⟩,
    ⟨⟨(some 29), .op (.append 3 24 (.tmp 20) (.tmp 28)), none⟩, .act true⟩,
    ⟨⟨(some 30), .op (.nilCheck (.tmp 16)), none⟩, .pure⟩,
    ⟨⟨(some 31), .op (.fieldAddr 7 (.tmp 30)), none⟩, .pure⟩,
    ⟨⟨none, .op (.store 1 (.tmp 31) (.tmp 29)), none⟩, .act true⟩])
  (.region [⟨(some 32), .op (.mov (.tmp 0)), none⟩,
   ⟨(some 33), .op (.mov (.tmp 1)), none⟩,
   ⟨(some 34), .op (.bin .gtr (.tmp 33) (.val (.int .i64 2))), none⟩,
   ⟨(some 35), .op (.nilCheck (.tmp 32)), none⟩,
   ⟨(some 36), .op (.fieldAddr 8 (.tmp 35)), none⟩,
   ⟨none, .op (.store 1 (.tmp 36) (.tmp 34)), none⟩])),
  [], none, none⟩
def A37 : AFun := ⟨.seq (.region [⟨(some 6), .op (.mov (.tmp 0)), none⟩,
    ⟨(some 7), .call (.fnv 38) [(.tmp 6)], none⟩,
    ⟨(some 8), .op (.mov (.tmp 7)), none⟩,
    ⟨(some 9), .op (.mov (.tmp 1)), (some (8, true))⟩,
    ⟨(some 10), .op (.bin .neq (.tmp 9) (.val (.int .u64 0))), (some (8, true))⟩,
    ⟨(some 11), .op (.pick (.tmp 8) (.tmp 10) (.val (.bool false))), none⟩,
    ⟨(some 12), .op (.mov (.tmp 11)), none⟩,
    ⟨(some 13), .op (.load none (.tmp 2)), (some (12, true))⟩,
    ⟨(some 14), .op (.mov (.tmp 1)), (some (12, true))⟩,
    ⟨(some 15), .op (.idxS 1 (.tmp 13) (.tmp 14)), (some (12, true))⟩,
    ⟨(some 16), .op (.load none (.tmp 15)), (some (12, true))⟩,
    ⟨(some 17), .op (.un .not (.tmp 16)), (some (12, true))⟩,
    ⟨(some 18), .op (.pick (.tmp 12) (.tmp 17) (.val (.bool false))), none⟩])
  (.cond (.tmp 18) (.seq (.region [⟨(some 19), .op (.load none (.tmp 2)), none⟩,
     ⟨(some 20), .op (.mov (.tmp 1)), none⟩,
     ⟨(some 21), .op (.idxS 1 (.tmp 19) (.tmp 20)), none⟩,
     ⟨none, .op (.store 1 (.tmp 21) (.val (.bool true))), none⟩])
   (.region [⟨(some 22), .op (.load none (.tmp 3)), none⟩,
    ⟨(some 23), .op (.mov (.tmp 1)), none⟩,
    ⟨(some 24), .op (.buildSlice 1 1 [(.int .u64 0)] [(0, (.tmp 23))]), none⟩,
    ⟨(some 25), .op (.append 1 8 (.tmp 22) (.tmp 24)), none⟩,
    ⟨none, .op (.store 1 (.tmp 3) (.tmp 25)), none⟩]))
  (.skip)),
  [], none, none⟩
def A38 : AFun := ⟨.seq (.region [⟨(some 2), .op (.mov (.val (.bool false))), none⟩])
  (.seq (.region [⟨(some 3), .op (.mov (.tmp 0)), none⟩,
    ⟨(some 4), .op (.bin .geq (.tmp 3) (.val (.int .i64 16))), none⟩,
    ⟨(some 2), .op (.mov (.tmp 4)), none⟩])
  (.ret)),
  [.tmp 2], none, none⟩
def A39 : AFun := ⟨.seq (.seq (.region [⟨(some 19), .op (.mov (.tmp 0)), none⟩,
     ⟨(some 20), .op (.nilCheck (.tmp 19)), none⟩,
     ⟨(some 21), .op (.fieldAddr 3 (.tmp 20)), none⟩,
     ⟨(some 22), .op (.load none (.tmp 21)), none⟩,
     ⟨(some 23), .op (.lenS (.tmp 22)), none⟩,
     ⟨(some 24), .op (.mov (.val (.int .i64 0))), none⟩])
   (.block 0 (.loop (.seq (.region [⟨(some 25), .op (.bin .lss (.tmp 24) (.tmp 23)), none⟩])
     (.seq (.cond (.tmp 25) (.skip)
      (.exit 0))
     (.seq (.block 1 (.seq (.region [⟨(some 26), .op (.mov (.tmp 24)), none⟩,
         ⟨(some 27), .op (.idxS 1 (.tmp 22) (.tmp 24)), none⟩,
         ⟨(some 28), .op (.load none (.tmp 27)), none⟩,
         ⟨(some 4), .op (.mov (.tmp 26)), none⟩,
         ⟨(some 5), .op (.mov (.tmp 28)), none⟩])
       (.region [⟨(some 29), .op (.mov (.tmp 1)), none⟩,
        ⟨(some 30), .op (.mov (.tmp 0)), none⟩,
        ⟨(some 31), .op (.nilCheck (.tmp 30)), none⟩,
        ⟨(some 32), .op (.fieldAddr 0 (.tmp 31)), none⟩,
        ⟨(some 33), .op (.fieldAddr 1 (.tmp 32)), none⟩,
        ⟨(some 34), .op (.load none (.tmp 33)), none⟩,
        ⟨(some 35), .op (.mov (.tmp 4)), none⟩,
        ⟨(some 36), .op (.idxS 1 (.tmp 34) (.tmp 35)), none⟩,
        ⟨(some 37), .op (.load none (.tmp 36)), none⟩,
        ⟨(some 38), .op (.mov (.tmp 5)), none⟩,
        ⟨(some 39), .call (.tmp 29) [(.tmp 37), (.tmp 38)], none⟩])))
     (.region [⟨(some 40), .op (.bin .add (.tmp 24) (.val (.int .i64 1))), none⟩,
      ⟨(some 24), .op (.mov (.tmp 40)), none⟩])))))))
  (.seq (.region [⟨(some 41), .op (.mov (.tmp 0)), none⟩,
    ⟨(some 42), .op (.nilCheck (.tmp 41)), none⟩,
    ⟨(some 43), .op (.fieldAddr 5 (.tmp 42)), none⟩,
    ⟨(some 44), .op (.load none (.tmp 43)), none⟩,
    ⟨(some 45), .op (.lenS (.tmp 44)), none⟩,
    ⟨(some 46), .op (.mov (.val (.int .i64 0))), none⟩])
  (.block 2 (.loop (.seq (.region [⟨(some 47), .op (.bin .lss (.tmp 46) (.tmp 45)), none⟩])
    (.seq (.cond (.tmp 47) (.skip)
     (.exit 2))
    (.seq (.block 3 (.seq (.region [⟨(some 48), .op (.idxS 1 (.tmp 44) (.tmp 46)), none⟩,
        ⟨(some 49), .op (.load none (.tmp 48)), none⟩,
        ⟨(some 7), .op (.mov (.tmp 49)), none⟩])
      (.seq (.region [⟨(some 50), .op (.mov (.tmp 7)), none⟩,
        ⟨(some 51), .op (.nilCheck (.tmp 50)), none⟩,
        ⟨(some 52), .op (.fieldAddr 3 (.tmp 51)), none⟩,
        ⟨(some 53), .op (.load none (.tmp 52)), none⟩,
        ⟨(some 54), .op (.lenS (.tmp 53)), none⟩,
        ⟨(some 55), .op (.mov (.val (.int .i64 0))), none⟩])
      (.block 4 (.loop (.seq (.region [⟨(some 56), .op (.bin .lss (.tmp 55) (.tmp 54)), none⟩])
        (.seq (.cond (.tmp 56) (.skip)
         (.exit 4))
        (.seq (.block 5 (.seq (.region [⟨(some 57), .op (.idxS 1 (.tmp 53) (.tmp 55)), none⟩,
            ⟨(some 58), .op (.load none (.tmp 57)), none⟩,
            ⟨(some 9), .op (.mov (.tmp 58)), none⟩])
          (.seq (.draw [⟨⟨(some 59), .op (.mov (.tmp 0)), none⟩, .pure⟩,
            ⟨⟨(some 60), .op (.nilCheck (.tmp 59)), none⟩, .pure⟩,
            ⟨⟨(some 61), .op (.fieldAddr 0 (.tmp 60)), none⟩, .pure⟩,
            ⟨⟨(some 62), .op (.fieldAddr 2 (.tmp 61)), none⟩, .pure⟩,
            ⟨⟨(some 63), .op (.load none (.tmp 62)), none⟩, .read [12]⟩,
            ⟨⟨(some 64), .op (.mov (.tmp 9)), none⟩, .pure⟩,
            ⟨⟨(some 65), .op (.nilCheck (.tmp 64)), none⟩, .pure⟩,
            ⟨⟨(some 66), .op (.fieldAddr 0 (.tmp 65)), none⟩, .pure⟩,
            ⟨⟨(some 67), .op (.load none (.tmp 66)), none⟩, .read [12]⟩,
            ⟨⟨(some 68), .op (.idxS 4 (.tmp 63) (.tmp 67)), none⟩, .read [12]⟩,
            ⟨⟨(some 69), .op (.load (some 4) (.tmp 68)), none⟩, .read [12]⟩,
            ⟨⟨(some 10), .op (.alloc [(.int .i64 0), .nils, .nils, .nils]), none⟩, .act true⟩,
            ⟨⟨none, .op (.store 4 (.tmp 10) (.tmp 69)), none⟩, .act true⟩])
          (.seq (.seq (.region [⟨(some 70), .op (.mov (.tmp 9)), none⟩,
             ⟨(some 71), .op (.nilCheck (.tmp 70)), none⟩,
             ⟨(some 72), .op (.fieldAddr 3 (.tmp 71)), none⟩,
             ⟨(some 73), .op (.load none (.tmp 72)), none⟩,
             ⟨(some 74), .op (.lenS (.tmp 73)), none⟩,
             ⟨(some 75), .op (.mov (.val (.int .i64 0))), none⟩])
           (.block 6 (.loop (.seq (.region [⟨(some 76), .op (.bin .lss (.tmp 75) (.tmp 74)), none⟩])
             (.seq (.cond (.tmp 76) (.skip)
              (.exit 6))
             (.seq (.block 7 (.seq (.region [⟨(some 77), .op (.mov (.tmp 75)), none⟩,
                 ⟨(some 78), .op (.idxS 1 (.tmp 73) (.tmp 75)), none⟩,
                 ⟨(some 79), .op (.load none (.tmp 78)), none⟩,
                 ⟨(some 11), .op (.mov (.tmp 77)), none⟩,
                 ⟨(some 12), .op (.mov (.tmp 79)), none⟩])
               (.region [⟨(some 80), .op (.mov (.tmp 1)), none⟩,
                ⟨(some 81), .op (.fieldAddr 1 (.tmp 10)), none⟩,
                ⟨(some 82), .op (.load none (.tmp 81)), none⟩,
                ⟨(some 83), .op (.mov (.tmp 11)), none⟩,
                ⟨(some 84), .op (.idxS 1 (.tmp 82) (.tmp 83)), none⟩,
                ⟨(some 85), .op (.load none (.tmp 84)), none⟩,
                ⟨(some 86), .op (.mov (.tmp 12)), none⟩,
                ⟨(some 87), .call (.tmp 80) [(.tmp 85), (.tmp 86)], none⟩])))
             (.region [⟨(some 88), .op (.bin .add (.tmp 75) (.val (.int .i64 1))), none⟩,
              ⟨(some 75), .op (.mov (.tmp 88)), none⟩])))))))
          (.seq (.seq (.region [⟨(some 89), .op (.mov (.tmp 9)), none⟩,
             ⟨(some 90), .op (.nilCheck (.tmp 89)), none⟩,
             ⟨(some 91), .op (.fieldAddr 8 (.tmp 90)), none⟩,
             ⟨(some 92), .op (.load none (.tmp 91)), none⟩,
             ⟨(some 93), .op (.lenS (.tmp 92)), none⟩,
             ⟨(some 94), .op (.mov (.val (.int .i64 0))), none⟩])
           (.block 8 (.loop (.seq (.region [⟨(some 95), .op (.bin .lss (.tmp 94) (.tmp 93)), none⟩])
             (.seq (.cond (.tmp 95) (.skip)
              (.exit 8))
             (.seq (.block 9 (.seq (.region [⟨(some 96), .op (.mov (.tmp 94)), none⟩,
                 ⟨(some 97), .op (.idxS 1 (.tmp 92) (.tmp 94)), none⟩,
                 ⟨(some 98), .op (.load none (.tmp 97)), none⟩,
                 ⟨(some 13), .op (.mov (.tmp 96)), none⟩,
                 ⟨(some 14), .op (.mov (.tmp 98)), none⟩])
               (.region [⟨(some 99), .op (.mov (.tmp 1)), none⟩,
                ⟨(some 100), .op (.fieldAddr 2 (.tmp 10)), none⟩,
                ⟨(some 101), .op (.load none (.tmp 100)), none⟩,
                ⟨(some 102), .op (.mov (.tmp 13)), none⟩,
                ⟨(some 103), .op (.idxS 1 (.tmp 101) (.tmp 102)), none⟩,
                ⟨(some 104), .op (.load none (.tmp 103)), none⟩,
                ⟨(some 105), .op (.mov (.tmp 14)), none⟩,
                ⟨(some 106), .call (.tmp 99) [(.tmp 104), (.tmp 105)], none⟩])))
             (.region [⟨(some 107), .op (.bin .add (.tmp 94) (.val (.int .i64 1))), none⟩,
              ⟨(some 94), .op (.mov (.tmp 107)), none⟩])))))))
          (.seq (.region [⟨(some 108), .op (.mov (.tmp 9)), none⟩,
            ⟨(some 109), .op (.nilCheck (.tmp 108)), none⟩,
            ⟨(some 110), .op (.fieldAddr 5 (.tmp 109)), none⟩,
            ⟨(some 111), .op (.load none (.tmp 110)), none⟩,
            ⟨(some 112), .op (.lenS (.tmp 111)), none⟩,
            ⟨(some 113), .op (.mov (.val (.int .i64 0))), none⟩])
          (.block 10 (.loop (.seq (.region [⟨(some 114), .op (.bin .lss (.tmp 113) (.tmp 112)), none⟩])
            (.seq (.cond (.tmp 114) (.skip)
             (.exit 10))
            (.seq (.block 11 (.seq (.region [⟨(some 115), .op (.idxS 2 (.tmp 111) (.tmp 113)), none⟩,
                ⟨(some 116), .op (.load (some 2) (.tmp 115)), none⟩,
                ⟨(some 16), .op (.alloc [(.int .i64 0), .nils]), none⟩,
                ⟨none, .op (.store 2 (.tmp 16) (.tmp 116)), none⟩])
              (.seq (.region [⟨(some 117), .op (.fieldAddr 1 (.tmp 16)), none⟩,
                ⟨(some 118), .op (.load none (.tmp 117)), none⟩,
                ⟨(some 119), .op (.lenS (.tmp 118)), none⟩,
                ⟨(some 120), .op (.mov (.val (.int .i64 0))), none⟩])
              (.block 12 (.loop (.seq (.region [⟨(some 121), .op (.bin .lss (.tmp 120) (.tmp 119)), none⟩])
                (.seq (.cond (.tmp 121) (.skip)
                 (.exit 12))
                (.seq (.block 13 (.seq (.region [⟨(some 122), .op (.mov (.tmp 120)), none⟩,
                    ⟨(some 123), .op (.idxS 1 (.tmp 118) (.tmp 120)), none⟩,
                    ⟨(some 124), .op (.load none (.tmp 123)), none⟩,
                    ⟨(some 17), .op (.mov (.tmp 122)), none⟩,
                    ⟨(some 18), .op (.mov (.tmp 124)), none⟩])
                  (.draw [⟨⟨(some 125), .op (.mov (.tmp 1)), none⟩, .pure⟩,
                   ⟨⟨(some 126), .op (.mov (.tmp 0)), none⟩, .pure⟩,
                   ⟨⟨(some 127), .op (.nilCheck (.tmp 126)), none⟩, .pure⟩,
                   ⟨⟨(some 128), .op (.fieldAddr 0 (.tmp 127)), none⟩, .pure⟩,
                   ⟨⟨(some 129), .op (.fieldAddr 2 (.tmp 128)), none⟩, .pure⟩,
                   ⟨⟨(some 130), .op (.load none (.tmp 129)), none⟩, .read []⟩,
                   ⟨⟨(some 131), .op (.fieldAddr 0 (.tmp 16)), none⟩, .pure⟩,
                   ⟨⟨(some 132), .op (.load none (.tmp 131)), none⟩, .read []⟩,
                   ⟨⟨(some 133), .op (.idxS 4 (.tmp 130) (.tmp 132)), none⟩, .read []⟩,
                   ⟨⟨(some 134), .op (.fieldAddr 1 (.tmp 133)), none⟩, .pure⟩,
                   ⟨⟨(some 135), .op (.load none (.tmp 134)), none⟩, .read []⟩,
                   ⟨⟨(some 136), .op (.mov (.tmp 17)), none⟩, .pure⟩,
                   ⟨⟨(some 137), .op (.idxS 1 (.tmp 135) (.tmp 136)), none⟩, .read []⟩,
                   ⟨⟨(some 138), .op (.load none (.tmp 137)), none⟩, .read []⟩,
                   ⟨⟨(some 139), .op (.mov (.tmp 18)), none⟩, .pure⟩,
                   ⟨⟨(some 140), .call (.tmp 125) [(.tmp 138), (.tmp 139)], none⟩, .act true⟩])))
                (.region [⟨(some 141), .op (.bin .add (.tmp 120) (.val (.int .i64 1))), none⟩,
                 ⟨(some 120), .op (.mov (.tmp 141)), none⟩])))))))))
            (.region [⟨(some 142), .op (.bin .add (.tmp 113) (.val (.int .i64 1))), none⟩,
             ⟨(some 113), .op (.mov (.tmp 142)), none⟩]))))))))))))
        (.region [⟨(some 143), .op (.bin .add (.tmp 55) (.val (.int .i64 1))), none⟩,
         ⟨(some 55), .op (.mov (.tmp 143)), none⟩])))))))))
    (.region [⟨(some 144), .op (.bin .add (.tmp 46) (.val (.int .i64 1))), none⟩,
     ⟨(some 46), .op (.mov (.tmp 144)), none⟩]))))))),
  [], none, none⟩
def A40 : AFun := ⟨.seq (.region [⟨(some 3), .op (.box (.tmp 1)), none⟩,
    ⟨(some 4), .op (.mov (.val (.int .u64 0))), none⟩])
  (.seq (.seq (.region [⟨(some 5), .op (.fieldAddr 0 (.tmp 3)), none⟩,
     ⟨(some 6), .op (.load none (.tmp 5)), none⟩,
     ⟨(some 7), .op (.bin .lss (.tmp 6) (.val (.int .i64 64))), none⟩,
     ⟨(some 8), .op (.mov (.tmp 7)), none⟩,
     ⟨(some 9), .op (.mov (.tmp 0)), (some (8, true))⟩,
     ⟨(some 10), .op (.nilCheck (.tmp 9)), (some (8, true))⟩,
     ⟨(some 11), .op (.fieldAddr 0 (.tmp 10)), (some (8, true))⟩,
     ⟨(some 12), .op (.fieldAddr 0 (.tmp 11)), (some (8, true))⟩,
     ⟨(some 13), .op (.load none (.tmp 12)), (some (8, true))⟩,
     ⟨(some 14), .op (.fieldAddr 0 (.tmp 3)), (some (8, true))⟩,
     ⟨(some 15), .op (.load none (.tmp 14)), (some (8, true))⟩,
     ⟨(some 16), .op (.bin .sub (.tmp 15) (.val (.int .i64 16))), (some (8, true))⟩,
     ⟨(some 17), .op (.idxS 2 (.tmp 13) (.tmp 16)), (some (8, true))⟩,
     ⟨(some 18), .op (.fieldAddr 0 (.tmp 17)), (some (8, true))⟩,
     ⟨(some 19), .op (.load none (.tmp 18)), (some (8, true))⟩,
     ⟨(some 20), .op (.pick (.tmp 8) (.tmp 19) (.val (.bool false))), none⟩])
   (.cond (.tmp 20) (.seq (.region [⟨(some 21), .op (.fieldAddr 1 (.tmp 3)), none⟩,
      ⟨(some 22), .op (.load none (.tmp 21)), none⟩,
      ⟨(some 23), .op (.lenS (.tmp 22)), none⟩,
      ⟨(some 24), .op (.bin .add (.tmp 23) (.val (.int .i64 1))), none⟩,
      ⟨(some 25), .op (.conv .u64 (.tmp 24)), none⟩,
      ⟨(some 4), .op (.mov (.tmp 25)), none⟩])
    (.ret))
   (.skip)))
  (.seq (.region [⟨(some 26), .op (.fieldAddr 1 (.tmp 3)), none⟩,
    ⟨(some 27), .op (.load none (.tmp 26)), none⟩,
    ⟨(some 28), .op (.lenS (.tmp 27)), none⟩,
    ⟨(some 29), .op (.conv .u64 (.tmp 28)), none⟩,
    ⟨(some 4), .op (.mov (.tmp 29)), none⟩])
  (.ret))),
  [.tmp 4], none, none⟩
def A41 : AFun := ⟨.seq (.region [⟨(some 4), .op (.box (.tmp 1)), none⟩])
  (.seq (.seq (.region [⟨(some 11), .op (.fieldAddr 2 (.tmp 4)), none⟩,
     ⟨(some 12), .op (.load none (.tmp 11)), none⟩,
     ⟨(some 13), .op (.eql true .ptr (.tmp 12) (.val .nilp)), none⟩])
   (.cond (.tmp 13) (.seq (.seq (.region [⟨(some 14), .op (.fieldAddr 2 (.tmp 4)), none⟩,
       ⟨(some 15), .op (.load none (.tmp 14)), none⟩,
       ⟨(some 16), .call (.fnv 59) [(.tmp 15)], none⟩,
       ⟨(some 17), .op (.lenS (.tmp 16)), none⟩,
       ⟨(some 18), .op (.mov (.val (.int .i64 0))), none⟩])
     (.block 0 (.loop (.seq (.region [⟨(some 19), .op (.bin .lss (.tmp 18) (.tmp 17)), none⟩])
       (.seq (.cond (.tmp 19) (.skip)
        (.exit 0))
       (.seq (.block 1 (.seq (.region [⟨(some 20), .op (.idxS 1 (.tmp 16) (.tmp 18)), none⟩,
           ⟨(some 21), .op (.load none (.tmp 20)), none⟩,
           ⟨(some 7), .op (.mov (.tmp 21)), none⟩])
         (.region [⟨(some 22), .op (.mov (.tmp 2)), none⟩,
          ⟨(some 23), .op (.fieldAddr 0 (.tmp 4)), none⟩,
          ⟨(some 24), .op (.load none (.tmp 23)), none⟩,
          ⟨(some 25), .op (.bin .sub (.tmp 24) (.val (.int .i64 64))), none⟩,
          ⟨(some 26), .op (.mov (.tmp 7)), none⟩,
          ⟨(some 27), .call (.tmp 22) [(.tmp 25), (.tmp 26)], none⟩])))
       (.region [⟨(some 28), .op (.bin .add (.tmp 18) (.val (.int .i64 1))), none⟩,
        ⟨(some 18), .op (.mov (.tmp 28)), none⟩])))))))
    (.ret))
   (.skip)))
  (.seq (.draw [⟨⟨(some 29), .op (.mov (.tmp 0)), none⟩, .pure⟩,
    ⟨⟨(some 30), .op (.nilCheck (.tmp 29)), none⟩, .pure⟩,
    ⟨⟨(some 31), .op (.fieldAddr 0 (.tmp 30)), none⟩, .pure⟩,
    ⟨⟨(some 32), .op (.fieldAddr 0 (.tmp 31)), none⟩, .pure⟩,
    ⟨⟨(some 33), .op (.load none (.tmp 32)), none⟩, .read [11]⟩,
    ⟨⟨(some 34), .op (.fieldAddr 0 (.tmp 4)), none⟩, .pure⟩,
    ⟨⟨(some 35), .op (.load none (.tmp 34)), none⟩, .read [11]⟩,
    ⟨⟨(some 36), .op (.bin .sub (.tmp 35) (.val (.int .i64 16))), none⟩, .pure⟩,
    ⟨⟨(some 37), .op (.idxS 2 (.tmp 33) (.tmp 36)), none⟩, .read [11]⟩,
    ⟨⟨(some 38), .op (.load (some 2) (.tmp 37)), none⟩, .read [11]⟩,
    ⟨⟨(some 8), .op (.alloc [(.bool false), .nils]), none⟩, .act true⟩,
    ⟨⟨none, .op (.store 2 (.tmp 8) (.tmp 38)), none⟩, .act true⟩])
  (.seq (.region [⟨(some 39), .op (.fieldAddr 1 (.tmp 4)), none⟩,
    ⟨(some 40), .op (.load none (.tmp 39)), none⟩,
    ⟨(some 41), .op (.lenS (.tmp 40)), none⟩,
    ⟨(some 42), .op (.mov (.val (.int .i64 0))), none⟩])
  (.block 2 (.loop (.seq (.region [⟨(some 43), .op (.bin .lss (.tmp 42) (.tmp 41)), none⟩])
    (.seq (.cond (.tmp 43) (.skip)
     (.exit 2))
    (.seq (.block 3 (.seq (.region [⟨(some 44), .op (.mov (.tmp 42)), none⟩,
        ⟨(some 45), .op (.idxS 1 (.tmp 40) (.tmp 42)), none⟩,
        ⟨(some 46), .op (.load none (.tmp 45)), none⟩,
        ⟨(some 9), .op (.mov (.tmp 44)), none⟩,
        ⟨(some 10), .op (.mov (.tmp 46)), none⟩])
      (.seq (.seq (.region [⟨(some 47), .op (.fieldAddr 0 (.tmp 8)), none⟩,
         ⟨(some 48), .op (.load none (.tmp 47)), none⟩])
       (.cond (.tmp 48) (.region [⟨(some 9), .op (.mov (.val (.int .i64 0))), none⟩])
       (.skip)))
      (.region [⟨(some 49), .op (.mov (.tmp 2)), none⟩,
       ⟨(some 50), .op (.fieldAddr 1 (.tmp 8)), none⟩,
       ⟨(some 51), .op (.load none (.tmp 50)), none⟩,
       ⟨(some 52), .op (.mov (.tmp 9)), none⟩,
       ⟨(some 53), .op (.idxS 1 (.tmp 51) (.tmp 52)), none⟩,
       ⟨(some 54), .op (.load none (.tmp 53)), none⟩,
       ⟨(some 55), .op (.mov (.tmp 10)), none⟩,
       ⟨(some 56), .call (.tmp 49) [(.tmp 54), (.tmp 55)], none⟩]))))
    (.region [⟨(some 57), .op (.bin .add (.tmp 42) (.val (.int .i64 1))), none⟩,
     ⟨(some 42), .op (.mov (.tmp 57)), none⟩]))))))))),
  [], none, none⟩
def A44 : AFun := ⟨.seq (.region [⟨(some 2), .op (.mov (.val (.int .i64 0))), none⟩,
    ⟨(some 3), .op (.mov (.val (.int .i64 0))), none⟩])
  (.seq (.seq (.region [⟨(some 10), .op (.mov (.tmp 0)), none⟩,
     ⟨(some 11), .op (.nilCheck (.tmp 10)), none⟩,
     ⟨(some 12), .op (.fieldAddr 0 (.tmp 11)), none⟩,
     ⟨(some 13), .op (.fieldAddr 0 (.tmp 12)), none⟩,
     ⟨(some 14), .op (.load none (.tmp 13)), none⟩,
     ⟨(some 15), .op (.lenS (.tmp 14)), none⟩,
     ⟨(some 16), .op (.bin .gtr (.tmp 15) (.val (.int .i64 32))), none⟩,
     ⟨(some 17), .op (.mov (.tmp 16)), none⟩,
     ⟨(some 18), .op (.mov (.tmp 0)), (some (17, false))⟩,
     ⟨(some 19), .op (.nilCheck (.tmp 18)), (some (17, false))⟩,
     ⟨(some 20), .op (.fieldAddr 0 (.tmp 19)), (some (17, false))⟩,
     ⟨(some 21), .op (.fieldAddr 1 (.tmp 20)), (some (17, false))⟩,
     ⟨(some 22), .op (.load none (.tmp 21)), (some (17, false))⟩,
     ⟨(some 23), .op (.lenS (.tmp 22)), (some (17, false))⟩,
     ⟨(some 24), .op (.bin .gtr (.tmp 23) (.val (.int .i64 32))), (some (17, false))⟩,
     ⟨(some 25), .op (.pick (.tmp 17) (.val (.bool true)) (.tmp 24)), none⟩,
     ⟨(some 26), .op (.mov (.tmp 25)), none⟩,
     ⟨(some 27), .op (.mov (.tmp 0)), (some (26, false))⟩,
     ⟨(some 28), .op (.nilCheck (.tmp 27)), (some (26, false))⟩,
     ⟨(some 29), .op (.fieldAddr 0 (.tmp 28)), (some (26, false))⟩,
     ⟨(some 30), .op (.fieldAddr 2 (.tmp 29)), (some (26, false))⟩,
     ⟨(some 31), .op (.load none (.tmp 30)), (some (26, false))⟩,
     ⟨(some 32), .op (.lenS (.tmp 31)), (some (26, false))⟩,
     ⟨(some 33), .op (.bin .gtr (.tmp 32) (.val (.int .i64 32))), (some (26, false))⟩,
     ⟨(some 34), .op (.pick (.tmp 26) (.val (.bool true)) (.tmp 33)), none⟩,
     ⟨(some 35), .op (.mov (.tmp 34)), none⟩,
     ⟨(some 36), .op (.mov (.tmp 0)), (some (35, false))⟩,
     ⟨(some 37), .op (.nilCheck (.tmp 36)), (some (35, false))⟩,
     ⟨(some 38), .op (.fieldAddr 0 (.tmp 37)), (some (35, false))⟩,
     ⟨(some 39), .op (.fieldAddr 2 (.tmp 38)), (some (35, false))⟩,
     ⟨(some 40), .op (.load none (.tmp 39)), (some (35, false))⟩,
     ⟨(some 41), .op (.lenS (.tmp 40)), (some (35, false))⟩,
     ⟨(some 42), .op (.bin .lss (.tmp 41) (.val (.int .i64 1))), (some (35, false))⟩,
     ⟨(some 43), .op (.pick (.tmp 35) (.val (.bool true)) (.tmp 42)), none⟩])
   (.cond (.tmp 43) (.seq (.region [⟨(some 2), .op (.mov (.val (.int .i64 16))), none⟩,
      ⟨(some 3), .op (.mov (.val (.int .i64 0))), none⟩])
    (.ret))
   (.skip)))
  (.seq (.seq (.region [⟨(some 44), .op (.mov (.tmp 0)), none⟩,
     ⟨(some 45), .op (.nilCheck (.tmp 44)), none⟩,
     ⟨(some 46), .op (.fieldAddr 0 (.tmp 45)), none⟩,
     ⟨(some 47), .op (.fieldAddr 0 (.tmp 46)), none⟩,
     ⟨(some 48), .op (.load none (.tmp 47)), none⟩,
     ⟨(some 49), .op (.lenS (.tmp 48)), none⟩,
     ⟨(some 50), .op (.mov (.val (.int .i64 0))), none⟩])
   (.block 0 (.loop (.seq (.region [⟨(some 51), .op (.bin .lss (.tmp 50) (.tmp 49)), none⟩])
     (.seq (.cond (.tmp 51) (.skip)
      (.exit 0))
     (.seq (.block 1 (.seq (.region [⟨(some 52), .op (.mov (.tmp 50)), none⟩,
         ⟨(some 53), .op (.idxS 2 (.tmp 48) (.tmp 50)), none⟩,
         ⟨(some 54), .op (.load (some 2) (.tmp 53)), none⟩,
         ⟨(some 5), .op (.alloc [(.bool false), .nils]), none⟩,
         ⟨(some 4), .op (.mov (.tmp 52)), none⟩,
         ⟨none, .op (.store 2 (.tmp 5) (.tmp 54)), none⟩])
       (.seq (.seq (.region [⟨(some 55), .op (.fieldAddr 1 (.tmp 5)), none⟩,
          ⟨(some 56), .op (.load none (.tmp 55)), none⟩,
          ⟨(some 57), .op (.lenS (.tmp 56)), none⟩,
          ⟨(some 58), .op (.bin .gtr (.tmp 57) (.val (.int .i64 16))), none⟩,
          ⟨(some 59), .op (.mov (.tmp 58)), none⟩,
          ⟨(some 60), .op (.fieldAddr 1 (.tmp 5)), (some (59, false))⟩,
          ⟨(some 61), .op (.load none (.tmp 60)), (some (59, false))⟩,
          ⟨(some 62), .op (.lenS (.tmp 61)), (some (59, false))⟩,
          ⟨(some 63), .op (.bin .lss (.tmp 62) (.val (.int .i64 1))), (some (59, false))⟩,
          ⟨(some 64), .op (.pick (.tmp 59) (.val (.bool true)) (.tmp 63)), none⟩,
          ⟨(some 65), .op (.mov (.tmp 64)), none⟩,
          ⟨(some 66), .op (.fieldAddr 0 (.tmp 5)), (some (65, false))⟩,
          ⟨(some 67), .op (.load none (.tmp 66)), (some (65, false))⟩,
          ⟨(some 68), .op (.mov (.tmp 67)), (some (65, false))⟩,
          ⟨(some 69), .op (.fieldAddr 1 (.tmp 5)), (some (68, true))⟩,
          ⟨(some 70), .op (.load none (.tmp 69)), (some (68, true))⟩,
          ⟨(some 71), .op (.lenS (.tmp 70)), (some (68, true))⟩,
          ⟨(some 72), .op (.bin .neq (.tmp 71) (.val (.int .i64 1))), (some (68, true))⟩,
          ⟨(some 73), .op (.pick (.tmp 68) (.tmp 72) (.val (.bool false))), (some (65, false))⟩,
          ⟨(some 74), .op (.pick (.tmp 65) (.val (.bool true)) (.tmp 73)), none⟩])
        (.cond (.tmp 74) (.seq (.region [⟨(some 75), .op (.mov (.tmp 4)), none⟩,
           ⟨(some 2), .op (.mov (.val (.int .i64 16))), none⟩,
           ⟨(some 3), .op (.mov (.tmp 75)), none⟩])
         (.ret))
        (.skip)))
       (.seq (.region [⟨(some 76), .op (.fieldAddr 1 (.tmp 5)), none⟩,
         ⟨(some 77), .op (.load none (.tmp 76)), none⟩,
         ⟨(some 78), .op (.lenS (.tmp 77)), none⟩,
         ⟨(some 79), .op (.mov (.val (.int .i64 0))), none⟩])
       (.block 2 (.loop (.seq (.region [⟨(some 80), .op (.bin .lss (.tmp 79) (.tmp 78)), none⟩])
         (.seq (.cond (.tmp 80) (.skip)
          (.exit 2))
         (.seq (.block 3 (.seq (.region [⟨(some 81), .op (.idxS 1 (.tmp 77) (.tmp 79)), none⟩,
             ⟨(some 82), .op (.load none (.tmp 81)), none⟩,
             ⟨(some 7), .op (.mov (.tmp 82)), none⟩])
           (.seq (.region [⟨(some 83), .op (.mov (.tmp 0)), none⟩,
             ⟨(some 84), .op (.mov (.tmp 7)), none⟩,
             ⟨(some 85), .call (.fnv 60) [(.tmp 83), (.tmp 84)], none⟩,
             ⟨(some 86), .op (.un .not (.tmp 85)), none⟩])
           (.cond (.tmp 86) (.seq (.region [⟨(some 87), .op (.mov (.tmp 4)), none⟩,
              ⟨(some 2), .op (.mov (.val (.int .i64 10))), none⟩,
              ⟨(some 3), .op (.mov (.tmp 87)), none⟩])
            (.ret))
           (.skip)))))
         (.region [⟨(some 88), .op (.bin .add (.tmp 79) (.val (.int .i64 1))), none⟩,
          ⟨(some 79), .op (.mov (.tmp 88)), none⟩]))))))))))
     (.region [⟨(some 89), .op (.bin .add (.tmp 50) (.val (.int .i64 1))), none⟩,
      ⟨(some 50), .op (.mov (.tmp 89)), none⟩])))))))
  (.seq (.seq (.region [⟨(some 90), .op (.mov (.tmp 0)), none⟩,
     ⟨(some 91), .op (.nilCheck (.tmp 90)), none⟩,
     ⟨(some 92), .op (.fieldAddr 0 (.tmp 91)), none⟩,
     ⟨(some 93), .op (.fieldAddr 1 (.tmp 92)), none⟩,
     ⟨(some 94), .op (.load none (.tmp 93)), none⟩,
     ⟨(some 95), .op (.lenS (.tmp 94)), none⟩,
     ⟨(some 96), .op (.mov (.val (.int .i64 0))), none⟩])
   (.block 4 (.loop (.seq (.region [⟨(some 97), .op (.bin .lss (.tmp 96) (.tmp 95)), none⟩])
     (.seq (.cond (.tmp 97) (.skip)
      (.exit 4))
     (.seq (.block 5 (.seq (.region [⟨(some 98), .op (.mov (.tmp 96)), none⟩,
         ⟨(some 99), .op (.idxS 1 (.tmp 94) (.tmp 96)), none⟩,
         ⟨(some 100), .op (.load none (.tmp 99)), none⟩,
         ⟨(some 8), .op (.mov (.tmp 98)), none⟩,
         ⟨(some 9), .op (.mov (.tmp 100)), none⟩])
       (.seq (.region [⟨(some 101), .op (.mov (.tmp 0)), none⟩,
         ⟨(some 102), .op (.mov (.tmp 9)), none⟩,
         ⟨(some 103), .call (.fnv 60) [(.tmp 101), (.tmp 102)], none⟩,
         ⟨(some 104), .op (.un .not (.tmp 103)), none⟩])
       (.cond (.tmp 104) (.seq (.region [⟨(some 105), .op (.mov (.tmp 8)), none⟩,
          ⟨(some 2), .op (.mov (.val (.int .i64 15))), none⟩,
          ⟨(some 3), .op (.mov (.tmp 105)), none⟩])
        (.ret))
       (.skip)))))
     (.region [⟨(some 106), .op (.bin .add (.tmp 96) (.val (.int .i64 1))), none⟩,
      ⟨(some 96), .op (.mov (.tmp 106)), none⟩])))))))
  (.seq (.region [⟨(some 2), .op (.mov (.val (.int .i64 0))), none⟩,
    ⟨(some 3), .op (.mov (.val (.int .i64 0))), none⟩])
  (.ret))))),
  [.tmp 2, .tmp 3], none, none⟩
def A45 : AFun := ⟨.seq (.region [⟨(some 4), .op (.mov (.val (.int .i64 0))), none⟩])
  (.seq (.region [⟨(some 10), .op (.mov (.tmp 0)), none⟩,
    ⟨(some 11), .op (.nilCheck (.tmp 10)), none⟩,
    ⟨(some 12), .op (.fieldAddr 3 (.tmp 11)), none⟩,
    ⟨(some 13), .op (.load (some 4) (.tmp 12)), none⟩,
    ⟨(some 5), .op (.alloc [(.int .i64 0), .nils, .nils, .nils]), none⟩,
    ⟨none, .op (.store 4 (.tmp 5) (.tmp 13)), none⟩])
  (.seq (.seq (.region [⟨(some 14), .op (.fieldAddr 1 (.tmp 5)), none⟩,
     ⟨(some 15), .op (.load none (.tmp 14)), none⟩,
     ⟨(some 16), .op (.lenS (.tmp 15)), none⟩,
     ⟨(some 17), .op (.bin .gtr (.tmp 16) (.val (.int .i64 32))), none⟩,
     ⟨(some 18), .op (.mov (.tmp 17)), none⟩,
     ⟨(some 19), .op (.fieldAddr 2 (.tmp 5)), (some (18, false))⟩,
     ⟨(some 20), .op (.load none (.tmp 19)), (some (18, false))⟩,
     ⟨(some 21), .op (.lenS (.tmp 20)), (some (18, false))⟩,
     ⟨(some 22), .op (.bin .gtr (.tmp 21) (.val (.int .i64 32))), (some (18, false))⟩,
     ⟨(some 23), .op (.pick (.tmp 18) (.val (.bool true)) (.tmp 22)), none⟩,
     ⟨(some 24), .op (.mov (.tmp 23)), none⟩,
     ⟨(some 25), .op (.fieldAddr 3 (.tmp 5)), (some (24, false))⟩,
     ⟨(some 26), .op (.load none (.tmp 25)), (some (24, false))⟩,
     ⟨(some 27), .op (.lenS (.tmp 26)), (some (24, false))⟩,
     ⟨(some 28), .op (.bin .gtr (.tmp 27) (.val (.int .i64 256))), (some (24, false))⟩,
     ⟨(some 29), .op (.pick (.tmp 24) (.val (.bool true)) (.tmp 28)), none⟩,
     ⟨(some 30), .op (.mov (.tmp 29)), none⟩,
     ⟨(some 31), .op (.fieldAddr 0 (.tmp 5)), (some (30, false))⟩,
     ⟨(some 32), .op (.load none (.tmp 31)), (some (30, false))⟩,
     ⟨(some 33), .op (.bin .lss (.tmp 32) (.val (.int .i64 0))), (some (30, false))⟩,
     ⟨(some 34), .op (.pick (.tmp 30) (.val (.bool true)) (.tmp 33)), none⟩,
     ⟨(some 35), .op (.mov (.tmp 34)), none⟩,
     ⟨(some 36), .op (.fieldAddr 0 (.tmp 5)), (some (35, false))⟩,
     ⟨(some 37), .op (.load none (.tmp 36)), (some (35, false))⟩,
     ⟨(some 38), .op (.fieldAddr 1 (.tmp 5)), (some (35, false))⟩,
     ⟨(some 39), .op (.load none (.tmp 38)), (some (35, false))⟩,
     ⟨(some 40), .op (.lenS (.tmp 39)), (some (35, false))⟩,
     ⟨(some 41), .op (.bin .gtr (.tmp 37) (.tmp 40)), (some (35, false))⟩,
     ⟨(some 42), .op (.pick (.tmp 35) (.val (.bool true)) (.tmp 41)), none⟩])
   (.cond (.tmp 42) (.seq (.region [⟨(some 4), .op (.mov (.val (.int .i64 16))), none⟩])
    (.ret))
   (.skip)))
  (.seq (.seq (.region [⟨(some 43), .op (.mov (.tmp 1)), none⟩,
     ⟨(some 44), .op (.mov (.tmp 43)), none⟩,
     ⟨(some 45), .op (.fieldAddr 0 (.tmp 5)), (some (44, true))⟩,
     ⟨(some 46), .op (.load none (.tmp 45)), (some (44, true))⟩,
     ⟨(some 47), .op (.bin .neq (.tmp 46) (.val (.int .i64 0))), (some (44, true))⟩,
     ⟨(some 48), .op (.mov (.tmp 47)), (some (44, true))⟩,
     ⟨(some 49), .op (.fieldAddr 2 (.tmp 5)), (some (48, false))⟩,
     ⟨(some 50), .op (.load none (.tmp 49)), (some (48, false))⟩,
     ⟨(some 51), .op (.lenS (.tmp 50)), (some (48, false))⟩,
     ⟨(some 52), .op (.bin .neq (.tmp 51) (.val (.int .i64 0))), (some (48, false))⟩,
     ⟨(some 53), .op (.pick (.tmp 48) (.val (.bool true)) (.tmp 52)), (some (44, true))⟩,
     ⟨(some 54), .op (.pick (.tmp 44) (.tmp 53) (.val (.bool false))), none⟩])
   (.cond (.tmp 54) (.seq (.region [⟨(some 4), .op (.mov (.val (.int .i64 13))), none⟩])
    (.ret))
   (.skip)))
  (.seq (.seq (.region [⟨(some 55), .op (.fieldAddr 1 (.tmp 5)), none⟩,
     ⟨(some 56), .op (.load none (.tmp 55)), none⟩,
     ⟨(some 57), .op (.lenS (.tmp 56)), none⟩,
     ⟨(some 58), .op (.mov (.val (.int .i64 0))), none⟩])
   (.block 0 (.loop (.seq (.region [⟨(some 59), .op (.bin .lss (.tmp 58) (.tmp 57)), none⟩])
     (.seq (.cond (.tmp 59) (.skip)
      (.exit 0))
     (.seq (.block 1 (.seq (.region [⟨(some 60), .op (.idxS 1 (.tmp 56) (.tmp 58)), none⟩,
         ⟨(some 61), .op (.load none (.tmp 60)), none⟩,
         ⟨(some 7), .op (.mov (.tmp 61)), none⟩])
       (.seq (.region [⟨(some 62), .op (.mov (.tmp 7)), none⟩,
         ⟨(some 63), .op (.bin .neq (.tmp 62) (.val (.int .i64 2))), none⟩,
         ⟨(some 64), .op (.mov (.tmp 63)), none⟩,
         ⟨(some 65), .op (.mov (.tmp 0)), (some (64, true))⟩,
         ⟨(some 66), .op (.mov (.tmp 7)), (some (64, true))⟩,
         ⟨(some 67), .call (.fnv 60) [(.tmp 65), (.tmp 66)], (some (64, true))⟩,
         ⟨(some 68), .op (.un .not (.tmp 67)), (some (64, true))⟩,
         ⟨(some 69), .op (.pick (.tmp 64) (.tmp 68) (.val (.bool false))), none⟩])
       (.cond (.tmp 69) (.seq (.region [⟨(some 4), .op (.mov (.val (.int .i64 10))), none⟩])
        (.ret))
       (.skip)))))
     (.region [⟨(some 70), .op (.bin .add (.tmp 58) (.val (.int .i64 1))), none⟩,
      ⟨(some 58), .op (.mov (.tmp 70)), none⟩])))))))
  (.seq (.seq (.region [⟨(some 71), .op (.fieldAddr 2 (.tmp 5)), none⟩,
     ⟨(some 72), .op (.load none (.tmp 71)), none⟩,
     ⟨(some 73), .op (.lenS (.tmp 72)), none⟩,
     ⟨(some 74), .op (.mov (.val (.int .i64 0))), none⟩])
   (.block 2 (.loop (.seq (.region [⟨(some 75), .op (.bin .lss (.tmp 74) (.tmp 73)), none⟩])
     (.seq (.cond (.tmp 75) (.skip)
      (.exit 2))
     (.seq (.block 3 (.seq (.region [⟨(some 76), .op (.idxS 1 (.tmp 72) (.tmp 74)), none⟩,
         ⟨(some 77), .op (.load none (.tmp 76)), none⟩,
         ⟨(some 9), .op (.mov (.tmp 77)), none⟩])
       (.seq (.region [⟨(some 78), .op (.mov (.tmp 0)), none⟩,
         ⟨(some 79), .op (.mov (.tmp 9)), none⟩,
         ⟨(some 80), .call (.fnv 60) [(.tmp 78), (.tmp 79)], none⟩,
         ⟨(some 81), .op (.un .not (.tmp 80)), none⟩])
       (.cond (.tmp 81) (.seq (.region [⟨(some 4), .op (.mov (.val (.int .i64 10))), none⟩])
        (.ret))
       (.skip)))))
     (.region [⟨(some 82), .op (.bin .add (.tmp 74) (.val (.int .i64 1))), none⟩,
      ⟨(some 74), .op (.mov (.tmp 82)), none⟩])))))))
  (.seq (.seq (.region [⟨(some 83), .op (.fieldAddr 3 (.tmp 5)), none⟩,
     ⟨(some 84), .op (.load none (.tmp 83)), none⟩,
     ⟨(some 85), .op (.lenS (.tmp 84)), none⟩,
     ⟨(some 86), .op (.bin .eql (.tmp 85) (.val (.int .i64 0))), none⟩])
   (.cond (.tmp 86) (.seq (.region [⟨(some 4), .op (.mov (.val (.int .i64 7))), none⟩])
    (.ret))
   (.skip)))
  (.seq (.seq (.region [⟨(some 87), .op (.fieldAddr 3 (.tmp 5)), none⟩,
     ⟨(some 88), .op (.load none (.tmp 87)), none⟩,
     ⟨(some 89), .op (.fieldAddr 3 (.tmp 5)), none⟩,
     ⟨(some 90), .op (.load none (.tmp 89)), none⟩,
     ⟨(some 91), .op (.lenS (.tmp 90)), none⟩,
     ⟨(some 92), .op (.bin .sub (.tmp 91) (.val (.int .i64 1))), none⟩,
     ⟨(some 93), .op (.idxS 6 (.tmp 88) (.tmp 92)), none⟩,
     ⟨(some 94), .op (.fieldAddr 0 (.tmp 93)), none⟩,
     ⟨(some 95), .op (.load none (.tmp 94)), none⟩])
   (.block 4 (.seq (.seq (.region [⟨(some 97), .op (.bin .eql (.tmp 95) (.val (.int .i64 36))), none⟩,
       ⟨(some 96), .op (.mov (.tmp 97)), none⟩])
     (.cond (.tmp 96) (.skip)
     (.seq (.region [⟨(some 98), .op (.bin .eql (.tmp 95) (.val (.int .i64 24))), none⟩,
       ⟨(some 96), .op (.mov (.tmp 98)), none⟩])
     (.cond (.tmp 96) (.skip)
     (.seq (.region [⟨(some 99), .op (.bin .eql (.tmp 95) (.val (.int .i64 52))), none⟩,
       ⟨(some 96), .op (.mov (.tmp 99)), none⟩])
     (.cond (.tmp 96) (.skip)
     (.region [⟨(some 100), .op (.bin .eql (.tmp 95) (.val (.int .i64 39))), none⟩,
      ⟨(some 96), .op (.mov (.tmp 100)), none⟩])))))))
    (.cond (.tmp 96) (.seq (.region [⟨(some 4), .op (.mov (.val (.int .i64 0))), none⟩])
     (.ret))
    (.skip)))))
  (.seq (.region [⟨(some 4), .op (.mov (.val (.int .i64 7))), none⟩])
  (.ret))))))))),
  [.tmp 4], none, none⟩
def A46 : AFun := ⟨.seq (.region [⟨(some 2), .op (.mov (.val (.int .i64 0))), none⟩])
  (.seq (.seq (.region [⟨(some 6), .op (.mov (.tmp 0)), none⟩,
     ⟨(some 7), .op (.nilCheck (.tmp 6)), none⟩,
     ⟨(some 8), .op (.fieldAddr 8 (.tmp 7)), none⟩,
     ⟨(some 9), .op (.fieldAddr 0 (.tmp 8)), none⟩,
     ⟨(some 10), .op (.load none (.tmp 9)), none⟩,
     ⟨(some 11), .op (.bin .lss (.tmp 10) (.val (.int .i64 1))), none⟩,
     ⟨(some 12), .op (.mov (.tmp 11)), none⟩,
     ⟨(some 13), .op (.mov (.tmp 0)), (some (12, false))⟩,
     ⟨(some 14), .op (.nilCheck (.tmp 13)), (some (12, false))⟩,
     ⟨(some 15), .op (.fieldAddr 8 (.tmp 14)), (some (12, false))⟩,
     ⟨(some 16), .op (.fieldAddr 0 (.tmp 15)), (some (12, false))⟩,
     ⟨(some 17), .op (.load none (.tmp 16)), (some (12, false))⟩,
     ⟨(some 18), .op (.bin .gtr (.tmp 17) (.val (.int .i64 52))), (some (12, false))⟩,
     ⟨(some 19), .op (.pick (.tmp 12) (.val (.bool true)) (.tmp 18)), none⟩])
   (.cond (.tmp 19) (.seq (.region [⟨(some 2), .op (.mov (.val (.int .i64 9))), none⟩])
    (.ret))
   (.skip)))
  (.seq (.seq (.region [⟨(some 20), .op (.mov (.tmp 0)), none⟩,
     ⟨(some 21), .op (.mov (.tmp 0)), none⟩,
     ⟨(some 22), .op (.nilCheck (.tmp 21)), none⟩,
     ⟨(some 23), .op (.fieldAddr 8 (.tmp 22)), none⟩,
     ⟨(some 24), .op (.fieldAddr 0 (.tmp 23)), none⟩,
     ⟨(some 25), .op (.load none (.tmp 24)), none⟩,
     ⟨(some 26), .call (.fnv 62) [(.tmp 25)], none⟩,
     ⟨(some 27), .op (.extract (.tmp 26) 0), none⟩,
     ⟨(some 28), .op (.extract (.tmp 26) 1), none⟩,
     ⟨(some 29), .op (.extract (.tmp 26) 2), none⟩,
     ⟨(some 30), .call (.fnv 61) [(.tmp 20), (.tmp 27), (.tmp 28), (.tmp 29)], none⟩,
     ⟨(some 3), .op (.mov (.tmp 30)), none⟩])
   (.seq (.region [⟨(some 31), .op (.mov (.tmp 3)), none⟩,
     ⟨(some 32), .op (.bin .neq (.tmp 31) (.val (.int .i64 0))), none⟩])
   (.cond (.tmp 32) (.seq (.region [⟨(some 33), .op (.mov (.tmp 3)), none⟩,
      ⟨(some 2), .op (.mov (.tmp 33)), none⟩])
    (.ret))
   (.skip))))
  (.seq (.region [⟨(some 34), .op (.mov (.tmp 0)), none⟩,
    ⟨(some 35), .op (.nilCheck (.tmp 34)), none⟩,
    ⟨(some 36), .op (.fieldAddr 8 (.tmp 35)), none⟩,
    ⟨(some 37), .op (.load (some 6) (.tmp 36)), none⟩,
    ⟨(some 4), .op (.alloc [(.int .i64 0), (.int .i64 0), (.int .i64 0), (.int .i64 0), (.int .u64 0), .nils]), none⟩,
    ⟨none, .op (.store 6 (.tmp 4) (.tmp 37)), none⟩])
  (.seq (.seq (.region [⟨(some 38), .op (.fieldAddr 0 (.tmp 4)), none⟩,
     ⟨(some 39), .op (.load none (.tmp 38)), none⟩])
   (.block 0 (.seq (.seq (.region [⟨(some 41), .op (.bin .eql (.tmp 39) (.val (.int .i64 1))), none⟩,
       ⟨(some 40), .op (.mov (.tmp 41)), none⟩])
     (.cond (.tmp 40) (.skip)
     (.region [⟨(some 42), .op (.bin .eql (.tmp 39) (.val (.int .i64 48))), none⟩,
      ⟨(some 40), .op (.mov (.tmp 42)), none⟩])))
    (.cond (.tmp 40) (.seq (.region [⟨(some 43), .op (.mov (.tmp 0)), none⟩,
       ⟨(some 44), .op (.fieldAddr 1 (.tmp 4)), none⟩,
       ⟨(some 45), .op (.load none (.tmp 44)), none⟩,
       ⟨(some 46), .op (.buildSlice 1 1 [(.int .i64 0)] [(0, (.tmp 45))]), none⟩,
       ⟨(some 47), .call (.fnv 63) [(.tmp 43), (.fnv 64), (.tmp 46)], none⟩,
       ⟨(some 2), .op (.mov (.tmp 47)), none⟩])
     (.ret))
    (.seq (.region [⟨(some 49), .op (.bin .eql (.tmp 39) (.val (.int .i64 2))), none⟩,
      ⟨(some 48), .op (.mov (.tmp 49)), none⟩])
    (.cond (.tmp 48) (.seq (.region [⟨(some 50), .op (.mov (.tmp 0)), none⟩,
       ⟨(some 51), .op (.fieldAddr 1 (.tmp 4)), none⟩,
       ⟨(some 52), .op (.load none (.tmp 51)), none⟩,
       ⟨(some 53), .op (.fieldAddr 2 (.tmp 4)), none⟩,
       ⟨(some 54), .op (.load none (.tmp 53)), none⟩,
       ⟨(some 55), .op (.buildSlice 1 2 [(.int .i64 0)] [(0, (.tmp 52)), (1, (.tmp 54))]), none⟩,
       ⟨(some 56), .call (.fnv 63) [(.tmp 50), (.fnv 65), (.tmp 55)], none⟩,
       ⟨(some 2), .op (.mov (.tmp 56)), none⟩])
     (.ret))
    (.seq (.seq (.region [⟨(some 58), .op (.bin .eql (.tmp 39) (.val (.int .i64 3))), none⟩,
       ⟨(some 57), .op (.mov (.tmp 58)), none⟩])
     (.cond (.tmp 57) (.skip)
     (.seq (.region [⟨(some 59), .op (.bin .eql (.tmp 39) (.val (.int .i64 4))), none⟩,
       ⟨(some 57), .op (.mov (.tmp 59)), none⟩])
     (.cond (.tmp 57) (.skip)
     (.seq (.region [⟨(some 60), .op (.bin .eql (.tmp 39) (.val (.int .i64 5))), none⟩,
       ⟨(some 57), .op (.mov (.tmp 60)), none⟩])
     (.cond (.tmp 57) (.skip)
     (.seq (.region [⟨(some 61), .op (.bin .eql (.tmp 39) (.val (.int .i64 6))), none⟩,
       ⟨(some 57), .op (.mov (.tmp 61)), none⟩])
     (.cond (.tmp 57) (.skip)
     (.seq (.region [⟨(some 62), .op (.bin .eql (.tmp 39) (.val (.int .i64 7))), none⟩,
       ⟨(some 57), .op (.mov (.tmp 62)), none⟩])
     (.cond (.tmp 57) (.skip)
     (.seq (.region [⟨(some 63), .op (.bin .eql (.tmp 39) (.val (.int .i64 8))), none⟩,
       ⟨(some 57), .op (.mov (.tmp 63)), none⟩])
     (.cond (.tmp 57) (.skip)
     (.seq (.region [⟨(some 64), .op (.bin .eql (.tmp 39) (.val (.int .i64 9))), none⟩,
       ⟨(some 57), .op (.mov (.tmp 64)), none⟩])
     (.cond (.tmp 57) (.skip)
     (.seq (.region [⟨(some 65), .op (.bin .eql (.tmp 39) (.val (.int .i64 10))), none⟩,
       ⟨(some 57), .op (.mov (.tmp 65)), none⟩])
     (.cond (.tmp 57) (.skip)
     (.seq (.region [⟨(some 66), .op (.bin .eql (.tmp 39) (.val (.int .i64 11))), none⟩,
       ⟨(some 57), .op (.mov (.tmp 66)), none⟩])
     (.cond (.tmp 57) (.skip)
     (.seq (.region [⟨(some 67), .op (.bin .eql (.tmp 39) (.val (.int .i64 12))), none⟩,
       ⟨(some 57), .op (.mov (.tmp 67)), none⟩])
     (.cond (.tmp 57) (.skip)
     (.seq (.region [⟨(some 68), .op (.bin .eql (.tmp 39) (.val (.int .i64 13))), none⟩,
       ⟨(some 57), .op (.mov (.tmp 68)), none⟩])
     (.cond (.tmp 57) (.skip)
     (.region [⟨(some 69), .op (.bin .eql (.tmp 39) (.val (.int .i64 14))), none⟩,
      ⟨(some 57), .op (.mov (.tmp 69)), none⟩])))))))))))))))))))))))
    (.cond (.tmp 57) (.seq (.region [⟨(some 70), .op (.mov (.tmp 0)), none⟩,
       ⟨(some 71), .op (.fieldAddr 1 (.tmp 4)), none⟩,
       ⟨(some 72), .op (.load none (.tmp 71)), none⟩,
       ⟨(some 73), .op (.fieldAddr 2 (.tmp 4)), none⟩,
       ⟨(some 74), .op (.load none (.tmp 73)), none⟩,
       ⟨(some 75), .op (.fieldAddr 3 (.tmp 4)), none⟩,
       ⟨(some 76), .op (.load none (.tmp 75)), none⟩,
       ⟨(some 77), .op (.buildSlice 1 6 [(.int .i64 0)] [(0, (.tmp 72)), (1, (.val (.int .i64 0))), (2, (.tmp 74)), (3, (.val (.int .i64 0))), (4, (.tmp 76)), (5, (.val (.int .i64 0)))]), none⟩,
       ⟨(some 78), .call (.fnv 66) [(.tmp 70), (.tmp 77)], none⟩,
       ⟨(some 2), .op (.mov (.tmp 78)), none⟩])
     (.ret))
    (.seq (.seq (.region [⟨(some 80), .op (.bin .eql (.tmp 39) (.val (.int .i64 15))), none⟩,
       ⟨(some 79), .op (.mov (.tmp 80)), none⟩])
     (.cond (.tmp 79) (.skip)
     (.seq (.region [⟨(some 81), .op (.bin .eql (.tmp 39) (.val (.int .i64 16))), none⟩,
       ⟨(some 79), .op (.mov (.tmp 81)), none⟩])
     (.cond (.tmp 79) (.skip)
     (.seq (.region [⟨(some 82), .op (.bin .eql (.tmp 39) (.val (.int .i64 17))), none⟩,
       ⟨(some 79), .op (.mov (.tmp 82)), none⟩])
     (.cond (.tmp 79) (.skip)
     (.region [⟨(some 83), .op (.bin .eql (.tmp 39) (.val (.int .i64 18))), none⟩,
      ⟨(some 79), .op (.mov (.tmp 83)), none⟩])))))))
    (.cond (.tmp 79) (.seq (.region [⟨(some 84), .op (.mov (.tmp 0)), none⟩,
       ⟨(some 85), .op (.fieldAddr 1 (.tmp 4)), none⟩,
       ⟨(some 86), .op (.load none (.tmp 85)), none⟩,
       ⟨(some 87), .op (.fieldAddr 2 (.tmp 4)), none⟩,
       ⟨(some 88), .op (.load none (.tmp 87)), none⟩,
       ⟨(some 89), .op (.fieldAddr 3 (.tmp 4)), none⟩,
       ⟨(some 90), .op (.load none (.tmp 89)), none⟩,
       ⟨(some 91), .op (.buildSlice 1 6 [(.int .i64 0)] [(0, (.tmp 86)), (1, (.val (.int .i64 1))), (2, (.tmp 88)), (3, (.val (.int .i64 1))), (4, (.tmp 90)), (5, (.val (.int .i64 1)))]), none⟩,
       ⟨(some 92), .call (.fnv 66) [(.tmp 84), (.tmp 91)], none⟩,
       ⟨(some 2), .op (.mov (.tmp 92)), none⟩])
     (.ret))
    (.seq (.seq (.region [⟨(some 94), .op (.bin .eql (.tmp 39) (.val (.int .i64 19))), none⟩,
       ⟨(some 93), .op (.mov (.tmp 94)), none⟩])
     (.cond (.tmp 93) (.skip)
     (.region [⟨(some 95), .op (.bin .eql (.tmp 39) (.val (.int .i64 20))), none⟩,
      ⟨(some 93), .op (.mov (.tmp 95)), none⟩])))
    (.cond (.tmp 93) (.seq (.region [⟨(some 96), .op (.mov (.tmp 0)), none⟩,
       ⟨(some 97), .op (.fieldAddr 1 (.tmp 4)), none⟩,
       ⟨(some 98), .op (.load none (.tmp 97)), none⟩,
       ⟨(some 99), .op (.fieldAddr 2 (.tmp 4)), none⟩,
       ⟨(some 100), .op (.load none (.tmp 99)), none⟩,
       ⟨(some 101), .op (.fieldAddr 3 (.tmp 4)), none⟩,
       ⟨(some 102), .op (.load none (.tmp 101)), none⟩,
       ⟨(some 103), .op (.buildSlice 1 6 [(.int .i64 0)] [(0, (.tmp 98)), (1, (.val (.int .i64 0))), (2, (.tmp 100)), (3, (.val (.int .i64 1))), (4, (.tmp 102)), (5, (.val (.int .i64 1)))]), none⟩,
       ⟨(some 104), .call (.fnv 66) [(.tmp 96), (.tmp 103)], none⟩,
       ⟨(some 2), .op (.mov (.tmp 104)), none⟩])
     (.ret))
    (.seq (.region [⟨(some 106), .op (.bin .eql (.tmp 39) (.val (.int .i64 21))), none⟩,
      ⟨(some 105), .op (.mov (.tmp 106)), none⟩])
    (.cond (.tmp 105) (.seq (.region [⟨(some 107), .op (.mov (.tmp 0)), none⟩,
       ⟨(some 108), .op (.fieldAddr 1 (.tmp 4)), none⟩,
       ⟨(some 109), .op (.load none (.tmp 108)), none⟩,
       ⟨(some 110), .op (.fieldAddr 2 (.tmp 4)), none⟩,
       ⟨(some 111), .op (.load none (.tmp 110)), none⟩,
       ⟨(some 112), .op (.buildSlice 1 4 [(.int .i64 0)] [(0, (.tmp 109)), (1, (.val (.int .i64 1))), (2, (.tmp 111)), (3, (.val (.int .i64 0)))]), none⟩,
       ⟨(some 113), .call (.fnv 66) [(.tmp 107), (.tmp 112)], none⟩,
       ⟨(some 2), .op (.mov (.tmp 113)), none⟩])
     (.ret))
    (.seq (.seq (.region [⟨(some 115), .op (.bin .eql (.tmp 39) (.val (.int .i64 22))), none⟩,
       ⟨(some 114), .op (.mov (.tmp 115)), none⟩])
     (.cond (.tmp 114) (.skip)
     (.region [⟨(some 116), .op (.bin .eql (.tmp 39) (.val (.int .i64 40))), none⟩,
      ⟨(some 114), .op (.mov (.tmp 116)), none⟩])))
    (.cond (.tmp 114) (.seq (.seq (.region [⟨(some 117), .op (.fieldAddr 0 (.tmp 4)), none⟩,
        ⟨(some 118), .op (.load none (.tmp 117)), none⟩,
        ⟨(some 119), .op (.bin .eql (.tmp 118) (.val (.int .i64 40))), none⟩])
      (.cond (.tmp 119) (.seq (.region [⟨(some 120), .op (.mov (.tmp 0)), none⟩,
         ⟨(some 121), .op (.fieldAddr 1 (.tmp 4)), none⟩,
         ⟨(some 122), .op (.load none (.tmp 121)), none⟩,
         ⟨(some 123), .op (.fieldAddr 2 (.tmp 4)), none⟩,
         ⟨(some 124), .op (.load none (.tmp 123)), none⟩,
         ⟨(some 125), .op (.buildSlice 1 4 [(.int .i64 0)] [(0, (.tmp 122)), (1, (.val (.int .i64 0))), (2, (.tmp 124)), (3, (.val (.int .i64 0)))]), none⟩,
         ⟨(some 126), .call (.fnv 66) [(.tmp 120), (.tmp 125)], none⟩,
         ⟨(some 2), .op (.mov (.tmp 126)), none⟩])
       (.ret))
      (.skip)))
     (.seq (.region [⟨(some 127), .op (.mov (.tmp 0)), none⟩,
       ⟨(some 128), .op (.fieldAddr 1 (.tmp 4)), none⟩,
       ⟨(some 129), .op (.load none (.tmp 128)), none⟩,
       ⟨(some 130), .op (.fieldAddr 2 (.tmp 4)), none⟩,
       ⟨(some 131), .op (.load none (.tmp 130)), none⟩,
       ⟨(some 132), .op (.buildSlice 1 4 [(.int .i64 0)] [(0, (.tmp 129)), (1, (.val (.int .i64 0))), (2, (.tmp 131)), (3, (.val (.int .i64 1)))]), none⟩,
       ⟨(some 133), .call (.fnv 66) [(.tmp 127), (.tmp 132)], none⟩,
       ⟨(some 2), .op (.mov (.tmp 133)), none⟩])
     (.ret)))
    (.seq (.region [⟨(some 135), .op (.bin .eql (.tmp 39) (.val (.int .i64 23))), none⟩,
      ⟨(some 134), .op (.mov (.tmp 135)), none⟩])
    (.cond (.tmp 134) (.seq (.seq (.region [⟨(some 136), .op (.mov (.tmp 0)), none⟩,
        ⟨(some 137), .op (.fieldAddr 1 (.tmp 4)), none⟩,
        ⟨(some 138), .op (.load none (.tmp 137)), none⟩,
        ⟨(some 139), .op (.buildSlice 1 2 [(.int .i64 0)] [(0, (.tmp 138)), (1, (.val (.int .i64 0)))]), none⟩,
        ⟨(some 140), .call (.fnv 66) [(.tmp 136), (.tmp 139)], none⟩,
        ⟨(some 5), .op (.mov (.tmp 140)), none⟩])
      (.seq (.region [⟨(some 141), .op (.mov (.tmp 5)), none⟩,
        ⟨(some 142), .op (.bin .neq (.tmp 141) (.val (.int .i64 0))), none⟩])
      (.cond (.tmp 142) (.seq (.region [⟨(some 143), .op (.mov (.tmp 5)), none⟩,
         ⟨(some 2), .op (.mov (.tmp 143)), none⟩])
       (.ret))
      (.skip))))
     (.seq (.region [⟨(some 144), .op (.mov (.tmp 0)), none⟩,
       ⟨(some 145), .op (.fieldAddr 2 (.tmp 4)), none⟩,
       ⟨(some 146), .op (.load none (.tmp 145)), none⟩,
       ⟨(some 147), .op (.fieldAddr 3 (.tmp 4)), none⟩,
       ⟨(some 148), .op (.load none (.tmp 147)), none⟩,
       ⟨(some 149), .op (.buildSlice 1 2 [(.int .i64 0)] [(0, (.tmp 146)), (1, (.tmp 148))]), none⟩,
       ⟨(some 150), .call (.fnv 63) [(.tmp 144), (.fnv 38), (.tmp 149)], none⟩,
       ⟨(some 2), .op (.mov (.tmp 150)), none⟩])
     (.ret)))
    (.seq (.seq (.region [⟨(some 152), .op (.bin .eql (.tmp 39) (.val (.int .i64 24))), none⟩,
       ⟨(some 151), .op (.mov (.tmp 152)), none⟩])
     (.cond (.tmp 151) (.skip)
     (.region [⟨(some 153), .op (.bin .eql (.tmp 39) (.val (.int .i64 25))), none⟩,
      ⟨(some 151), .op (.mov (.tmp 153)), none⟩])))
    (.cond (.tmp 151) (.seq (.region [⟨(some 154), .op (.mov (.tmp 0)), none⟩,
       ⟨(some 155), .op (.load (some 6) (.tmp 4)), none⟩,
       ⟨(some 156), .call (.fnv 67) [(.tmp 154), (.tmp 155)], none⟩,
       ⟨(some 2), .op (.mov (.tmp 156)), none⟩])
     (.ret))
    (.seq (.seq (.region [⟨(some 158), .op (.bin .eql (.tmp 39) (.val (.int .i64 39))), none⟩,
       ⟨(some 157), .op (.mov (.tmp 158)), none⟩])
     (.cond (.tmp 157) (.skip)
     (.seq (.region [⟨(some 159), .op (.bin .eql (.tmp 39) (.val (.int .i64 46))), none⟩,
       ⟨(some 157), .op (.mov (.tmp 159)), none⟩])
     (.cond (.tmp 157) (.skip)
     (.region [⟨(some 160), .op (.bin .eql (.tmp 39) (.val (.int .i64 52))), none⟩,
      ⟨(some 157), .op (.mov (.tmp 160)), none⟩])))))
    (.cond (.tmp 157) (.seq (.region [⟨(some 161), .op (.mov (.tmp 0)), none⟩,
       ⟨(some 162), .op (.fieldAddr 1 (.tmp 4)), none⟩,
       ⟨(some 163), .op (.load none (.tmp 162)), none⟩,
       ⟨(some 164), .op (.buildSlice 1 2 [(.int .i64 0)] [(0, (.tmp 163)), (1, (.val (.int .i64 0)))]), none⟩,
       ⟨(some 165), .call (.fnv 66) [(.tmp 161), (.tmp 164)], none⟩,
       ⟨(some 2), .op (.mov (.tmp 165)), none⟩])
     (.ret))
    (.seq (.region [⟨(some 167), .op (.bin .eql (.tmp 39) (.val (.int .i64 47))), none⟩,
      ⟨(some 166), .op (.mov (.tmp 167)), none⟩])
    (.cond (.tmp 166) (.seq (.region [⟨(some 2), .op (.mov (.val (.int .i64 0))), none⟩])
     (.ret))
    (.seq (.seq (.region [⟨(some 169), .op (.bin .eql (.tmp 39) (.val (.int .i64 49))), none⟩,
       ⟨(some 168), .op (.mov (.tmp 169)), none⟩])
     (.cond (.tmp 168) (.skip)
     (.region [⟨(some 170), .op (.bin .eql (.tmp 39) (.val (.int .i64 51))), none⟩,
      ⟨(some 168), .op (.mov (.tmp 170)), none⟩])))
    (.cond (.tmp 168) (.seq (.region [⟨(some 171), .op (.mov (.tmp 0)), none⟩,
       ⟨(some 172), .op (.fieldAddr 1 (.tmp 4)), none⟩,
       ⟨(some 173), .op (.load none (.tmp 172)), none⟩,
       ⟨(some 174), .op (.fieldAddr 2 (.tmp 4)), none⟩,
       ⟨(some 175), .op (.load none (.tmp 174)), none⟩,
       ⟨(some 176), .op (.buildSlice 1 4 [(.int .i64 0)] [(0, (.tmp 173)), (1, (.val (.int .i64 2))), (2, (.tmp 175)), (3, (.val (.int .i64 0)))]), none⟩,
       ⟨(some 177), .call (.fnv 66) [(.tmp 171), (.tmp 176)], none⟩,
       ⟨(some 2), .op (.mov (.tmp 177)), none⟩])
     (.ret))
    (.seq (.region [⟨(some 179), .op (.bin .eql (.tmp 39) (.val (.int .i64 50))), none⟩,
      ⟨(some 178), .op (.mov (.tmp 179)), none⟩])
    (.cond (.tmp 178) (.seq (.region [⟨(some 180), .op (.mov (.tmp 0)), none⟩,
       ⟨(some 181), .op (.fieldAddr 1 (.tmp 4)), none⟩,
       ⟨(some 182), .op (.load none (.tmp 181)), none⟩,
       ⟨(some 183), .op (.fieldAddr 2 (.tmp 4)), none⟩,
       ⟨(some 184), .op (.load none (.tmp 183)), none⟩,
       ⟨(some 185), .op (.buildSlice 1 4 [(.int .i64 0)] [(0, (.tmp 182)), (1, (.val (.int .i64 0))), (2, (.tmp 184)), (3, (.val (.int .i64 2)))]), none⟩,
       ⟨(some 186), .call (.fnv 66) [(.tmp 180), (.tmp 185)], none⟩,
       ⟨(some 2), .op (.mov (.tmp 186)), none⟩])
     (.ret))
    (.seq (.seq (.region [⟨(some 188), .op (.bin .eql (.tmp 39) (.val (.int .i64 26))), none⟩,
       ⟨(some 187), .op (.mov (.tmp 188)), none⟩])
     (.cond (.tmp 187) (.skip)
     (.seq (.region [⟨(some 189), .op (.bin .eql (.tmp 39) (.val (.int .i64 27))), none⟩,
       ⟨(some 187), .op (.mov (.tmp 189)), none⟩])
     (.cond (.tmp 187) (.skip)
     (.seq (.region [⟨(some 190), .op (.bin .eql (.tmp 39) (.val (.int .i64 28))), none⟩,
       ⟨(some 187), .op (.mov (.tmp 190)), none⟩])
     (.cond (.tmp 187) (.skip)
     (.seq (.region [⟨(some 191), .op (.bin .eql (.tmp 39) (.val (.int .i64 29))), none⟩,
       ⟨(some 187), .op (.mov (.tmp 191)), none⟩])
     (.cond (.tmp 187) (.skip)
     (.seq (.region [⟨(some 192), .op (.bin .eql (.tmp 39) (.val (.int .i64 30))), none⟩,
       ⟨(some 187), .op (.mov (.tmp 192)), none⟩])
     (.cond (.tmp 187) (.skip)
     (.seq (.region [⟨(some 193), .op (.bin .eql (.tmp 39) (.val (.int .i64 31))), none⟩,
       ⟨(some 187), .op (.mov (.tmp 193)), none⟩])
     (.cond (.tmp 187) (.skip)
     (.seq (.region [⟨(some 194), .op (.bin .eql (.tmp 39) (.val (.int .i64 32))), none⟩,
       ⟨(some 187), .op (.mov (.tmp 194)), none⟩])
     (.cond (.tmp 187) (.skip)
     (.seq (.region [⟨(some 195), .op (.bin .eql (.tmp 39) (.val (.int .i64 33))), none⟩,
       ⟨(some 187), .op (.mov (.tmp 195)), none⟩])
     (.cond (.tmp 187) (.skip)
     (.region [⟨(some 196), .op (.bin .eql (.tmp 39) (.val (.int .i64 34))), none⟩,
      ⟨(some 187), .op (.mov (.tmp 196)), none⟩])))))))))))))))))
    (.cond (.tmp 187) (.seq (.region [⟨(some 197), .op (.mov (.tmp 0)), none⟩,
       ⟨(some 198), .op (.load (some 6) (.tmp 4)), none⟩,
       ⟨(some 199), .call (.fnv 68) [(.tmp 197), (.tmp 198)], none⟩,
       ⟨(some 2), .op (.mov (.tmp 199)), none⟩])
     (.ret))
    (.seq (.seq (.region [⟨(some 201), .op (.bin .eql (.tmp 39) (.val (.int .i64 35))), none⟩,
       ⟨(some 200), .op (.mov (.tmp 201)), none⟩])
     (.cond (.tmp 200) (.skip)
     (.seq (.region [⟨(some 202), .op (.bin .eql (.tmp 39) (.val (.int .i64 36))), none⟩,
       ⟨(some 200), .op (.mov (.tmp 202)), none⟩])
     (.cond (.tmp 200) (.skip)
     (.seq (.region [⟨(some 203), .op (.bin .eql (.tmp 39) (.val (.int .i64 37))), none⟩,
       ⟨(some 200), .op (.mov (.tmp 203)), none⟩])
     (.cond (.tmp 200) (.skip)
     (.region [⟨(some 204), .op (.bin .eql (.tmp 39) (.val (.int .i64 38))), none⟩,
      ⟨(some 200), .op (.mov (.tmp 204)), none⟩])))))))
    (.cond (.tmp 200) (.seq (.region [⟨(some 205), .op (.mov (.tmp 0)), none⟩,
       ⟨(some 206), .op (.load (some 6) (.tmp 4)), none⟩,
       ⟨(some 207), .call (.fnv 69) [(.tmp 205), (.tmp 206)], none⟩,
       ⟨(some 2), .op (.mov (.tmp 207)), none⟩])
     (.ret))
    (.skip)))))))))))))))))))))))))))))))))
  (.seq (.region [⟨(some 208), .op (.mov (.tmp 0)), none⟩,
    ⟨(some 209), .op (.load (some 6) (.tmp 4)), none⟩,
    ⟨(some 210), .call (.fnv 70) [(.tmp 208), (.tmp 209)], none⟩,
    ⟨(some 2), .op (.mov (.tmp 210)), none⟩])
  (.ret)))))),
  [.tmp 2], none, none⟩
def A47 : AFun := ⟨.seq (.region [⟨(some 4), .op (.mov (.tmp 0)), none⟩,
    ⟨(some 5), .op (.nilCheck (.tmp 4)), none⟩,
    ⟨(some 6), .op (.fieldAddr 4 (.tmp 5)), none⟩,
    ⟨(some 7), .op (.load none (.tmp 6)), none⟩,
    ⟨(some 8), .op (.bin .add (.tmp 7) (.val (.int .u64 1))), none⟩,
    ⟨(some 9), .op (.nilCheck (.tmp 4)), none⟩,
    ⟨(some 10), .op (.fieldAddr 4 (.tmp 9)), none⟩,
    ⟨none, .op (.store 1 (.tmp 10) (.tmp 8)), none⟩])
  (.seq (.region [⟨(some 11), .op (.mov (.tmp 1)), none⟩,
    ⟨(some 12), .op (.mov (.tmp 0)), none⟩,
    ⟨(some 13), .op (.nilCheck (.tmp 12)), none⟩,
    ⟨(some 14), .op (.fieldAddr 4 (.tmp 13)), none⟩,
    ⟨(some 15), .op (.load none (.tmp 14)), none⟩,
    ⟨(some 16), .op (.nilCheck (.tmp 11)), none⟩,
    ⟨(some 17), .op (.fieldAddr 2 (.tmp 16)), none⟩,
    ⟨none, .op (.store 1 (.tmp 17) (.tmp 15)), none⟩])
  (.region [⟨(some 18), .op (.mov (.tmp 0)), none⟩,
   ⟨(some 19), .op (.mov (.tmp 0)), none⟩,
   ⟨(some 20), .op (.nilCheck (.tmp 19)), none⟩,
   ⟨(some 21), .op (.fieldAddr 3 (.tmp 20)), none⟩,
   ⟨(some 22), .op (.load none (.tmp 21)), none⟩,
   ⟨(some 23), .op (.mov (.tmp 1)), none⟩,
   ⟨(some 24), .op (.buildSlice 1 1 [.nilp] [(0, (.tmp 23))]), none⟩,
   ⟨(some 25), .op (.append 1 8 (.tmp 22) (.tmp 24)), none⟩,
   ⟨(some 26), .op (.nilCheck (.tmp 18)), none⟩,
   ⟨(some 27), .op (.fieldAddr 3 (.tmp 26)), none⟩,
   ⟨none, .op (.store 1 (.tmp 27) (.tmp 25)), none⟩])),
  [], none, none⟩
def A48 : AFun := ⟨.seq (.region [⟨(some 6), .op (.mov (.val .nilp)), none⟩])
  (.seq (.region [⟨(some 8), .op (.mov (.tmp 1)), none⟩,
    ⟨(some 9), .op (.mov (.tmp 0)), none⟩,
    ⟨(some 10), .op (.nilCheck (.tmp 9)), none⟩,
    ⟨(some 11), .op (.fieldAddr 0 (.tmp 10)), none⟩,
    ⟨(some 12), .op (.fieldAddr 2 (.tmp 11)), none⟩,
    ⟨(some 13), .op (.load none (.tmp 12)), none⟩,
    ⟨(some 14), .op (.mov (.tmp 1)), none⟩,
    ⟨(some 15), .op (.idxS 4 (.tmp 13) (.tmp 14)), none⟩,
    ⟨(some 16), .op (.fieldAddr 1 (.tmp 15)), none⟩,
    ⟨(some 17), .op (.load none (.tmp 16)), none⟩,
    ⟨(some 18), .op (.lenS (.tmp 17)), none⟩,
    ⟨(some 19), .op (.mkSlice 1 8 [(.int .u64 0)] (.tmp 18)), none⟩,
    ⟨(some 20), .op (.build [(.int .i64 0), (.int .i64 0), (.int .u64 0), .nils, .nils, .nils, (.int .i64 0), (.bool false), .nils] [(0, 1, (.tmp 8)), (3, 1, (.tmp 19))]), none⟩,
    ⟨(some 21), .op (.box (.tmp 20)), none⟩,
    ⟨(some 7), .op (.mov (.tmp 21)), none⟩])
  (.seq (.region [⟨(some 22), .op (.mov (.tmp 7)), none⟩,
    ⟨(some 23), .op (.nilCheck (.tmp 22)), none⟩,
    ⟨(some 24), .op (.fieldAddr 3 (.tmp 23)), none⟩,
    ⟨(some 25), .op (.load none (.tmp 24)), none⟩,
    ⟨(some 26), .op (.mov (.tmp 2)), none⟩,
    ⟨(some 27), .op (.copy 1 (.tmp 25) (.tmp 26)), none⟩])
  (.seq (.region [⟨(some 28), .op (.mov (.tmp 7)), none⟩,
    ⟨(some 6), .op (.mov (.tmp 28)), none⟩])
  (.ret)))),
  [.tmp 6], none, none⟩
def A49 : AFun := ⟨.seq (.block 0 (.loop (.seq (.seq (.region [⟨(some 5), .op (.mov (.tmp 1)), none⟩,
        ⟨(some 6), .op (.nilCheck (.tmp 5)), none⟩,
        ⟨(some 7), .op (.fieldAddr 3 (.tmp 6)), none⟩,
        ⟨(some 8), .op (.load none (.tmp 7)), none⟩,
        ⟨(some 9), .op (.lenS (.tmp 8)), none⟩,
        ⟨(some 10), .op (.bin .gtr (.tmp 9) (.val (.int .i64 0))), none⟩])
      (.cond (.tmp 10) (.skip)
      (.exit 0)))
     (.block 1 (.seq (.region [⟨(some 11), .op (.mov (.tmp 1)), none⟩,
        ⟨(some 12), .call (.fnv 32) [(.tmp 11)], none⟩,
        ⟨(some 4), .op (.mov (.tmp 12)), none⟩])
      (.seq (.seq (.region [⟨(some 13), .op (.mov (.tmp 4)), none⟩,
         ⟨(some 14), .op (.nilCheck (.tmp 13)), none⟩,
         ⟨(some 15), .op (.fieldAddr 5 (.tmp 14)), none⟩,
         ⟨(some 16), .op (.load none (.tmp 15)), none⟩,
         ⟨(some 17), .op (.lenS (.tmp 16)), none⟩,
         ⟨(some 18), .op (.bin .gtr (.tmp 17) (.val (.int .i64 0))), none⟩])
       (.cond (.tmp 18) (.seq (.region [⟨(some 19), .op (.mov (.tmp 0)), none⟩,
          ⟨(some 20), .op (.mov (.tmp 1)), none⟩,
          ⟨(some 21), .op (.mov (.tmp 4)), none⟩,
          ⟨(some 22), .call (.fnv 71) [(.tmp 19), (.tmp 20), (.tmp 21), (.val (.int .i64 2))], none⟩])
        (.ret))
       (.skip)))
      (.draw [⟨⟨(some 23), .op (.mov (.tmp 1)), none⟩, .pure⟩,
       ⟨⟨(some 24), .op (.mov (.tmp 1)), none⟩, .pure⟩,
       ⟨⟨(some 25), .op (.nilCheck (.tmp 24)), none⟩, .pure⟩,
       ⟨⟨(some 26), .op (.fieldAddr 3 (.tmp 25)), none⟩, .pure⟩,
       ⟨⟨(some 27), .op (.load none (.tmp 26)), none⟩, .read []⟩,
       ⟨⟨(some 28), .op (.mov (.tmp 1)), none⟩, .pure⟩,
       ⟨⟨(some 29), .op (.nilCheck (.tmp 28)), none⟩, .pure⟩,
       ⟨⟨(some 30), .op (.fieldAddr 3 (.tmp 29)), none⟩, .pure⟩,
       ⟨⟨(some 31), .op (.load none (.tmp 30)), none⟩, .read []⟩,
       ⟨⟨(some 32), .op (.lenS (.tmp 31)), none⟩, .pure⟩,
       ⟨⟨(some 33), .op (.bin .sub (.tmp 32) (.val (.int .i64 1))), none⟩, .pure⟩,
       ⟨⟨(some 34), .op (.slice 1 (.tmp 27) none (some (.tmp 33))), none⟩, .read []⟩,
       ⟨⟨(some 35), .op (.nilCheck (.tmp 23)), none⟩, .pure⟩,
       ⟨⟨(some 36), .op (.fieldAddr 3 (.tmp 35)), none⟩, .pure⟩,
       ⟨⟨none, .op (.store 1 (.tmp 36) (.tmp 34)), none⟩, .act true⟩])))))))
  (.seq (.region [⟨(some 37), .op (.mov (.tmp 1)), none⟩,
    ⟨(some 38), .op (.nilCheck (.tmp 37)), none⟩,
    ⟨(some 39), .op (.fieldAddr 0 (.tmp 38)), none⟩,
    ⟨none, .op (.store 1 (.tmp 39) (.val (.int .i64 3))), none⟩])
  (.region [⟨(some 40), .op (.mov (.tmp 0)), none⟩,
   ⟨(some 41), .op (.mov (.tmp 1)), none⟩,
   ⟨(some 42), .op (.nilCheck (.tmp 41)), none⟩,
   ⟨(some 43), .op (.fieldAddr 6 (.tmp 42)), none⟩,
   ⟨(some 44), .op (.load none (.tmp 43)), none⟩,
   ⟨(some 45), .op (.conv .u64 (.tmp 44)), none⟩,
   ⟨(some 46), .call (.fnv 36) [(.tmp 40), (.val (.int .i64 4)), (.tmp 45)], none⟩])),
  [], none, none⟩
def A50 : AFun := ⟨.seq (.region [⟨(some 2), .op (.mov (.val (.int .u64 0))), none⟩])
  (.seq (.region [⟨(some 3), .op (.mov (.tmp 0)), none⟩,
    ⟨(some 4), .call (.fnv 28) [(.tmp 3)], none⟩,
    ⟨(some 5), .call (.fnv 27) [(.tmp 4)], none⟩,
    ⟨(some 2), .op (.mov (.tmp 5)), none⟩])
  (.ret)),
  [.tmp 2], none, none⟩
def A51 : AFun := ⟨.seq (.region [⟨(some 6), .op (.mov (.val (.int .u64 0))), none⟩,
    ⟨(some 7), .op (.mov (.val (.bool false))), none⟩])
  (.seq (.seq (.region [⟨(some 8), .op (.mov (.tmp 0)), none⟩])
   (.block 0 (.seq (.region [⟨(some 10), .op (.bin .eql (.tmp 8) (.val (.int .i64 3))), none⟩,
      ⟨(some 9), .op (.mov (.tmp 10)), none⟩])
    (.cond (.tmp 9) (.seq (.region [⟨(some 11), .op (.mov (.tmp 1)), none⟩,
       ⟨(some 12), .op (.mov (.tmp 2)), none⟩,
       ⟨(some 13), .op (.bin .add (.tmp 11) (.tmp 12)), none⟩,
       ⟨(some 6), .op (.mov (.tmp 13)), none⟩,
       ⟨(some 7), .op (.mov (.val (.bool true))), none⟩])
     (.ret))
    (.seq (.region [⟨(some 15), .op (.bin .eql (.tmp 8) (.val (.int .i64 4))), none⟩,
      ⟨(some 14), .op (.mov (.tmp 15)), none⟩])
    (.cond (.tmp 14) (.seq (.region [⟨(some 16), .op (.mov (.tmp 1)), none⟩,
       ⟨(some 17), .op (.mov (.tmp 2)), none⟩,
       ⟨(some 18), .op (.bin .sub (.tmp 16) (.tmp 17)), none⟩,
       ⟨(some 6), .op (.mov (.tmp 18)), none⟩,
       ⟨(some 7), .op (.mov (.val (.bool true))), none⟩])
     (.ret))
    (.seq (.region [⟨(some 20), .op (.bin .eql (.tmp 8) (.val (.int .i64 5))), none⟩,
      ⟨(some 19), .op (.mov (.tmp 20)), none⟩])
    (.cond (.tmp 19) (.seq (.region [⟨(some 21), .op (.mov (.tmp 1)), none⟩,
       ⟨(some 22), .op (.mov (.tmp 2)), none⟩,
       ⟨(some 23), .op (.bin .mul (.tmp 21) (.tmp 22)), none⟩,
       ⟨(some 6), .op (.mov (.tmp 23)), none⟩,
       ⟨(some 7), .op (.mov (.val (.bool true))), none⟩])
     (.ret))
    (.seq (.region [⟨(some 25), .op (.bin .eql (.tmp 8) (.val (.int .i64 8))), none⟩,
      ⟨(some 24), .op (.mov (.tmp 25)), none⟩])
    (.cond (.tmp 24) (.seq (.region [⟨(some 26), .op (.mov (.tmp 1)), none⟩,
       ⟨(some 27), .op (.mov (.tmp 2)), none⟩,
       ⟨(some 28), .op (.bin .and (.tmp 26) (.tmp 27)), none⟩,
       ⟨(some 6), .op (.mov (.tmp 28)), none⟩,
       ⟨(some 7), .op (.mov (.val (.bool true))), none⟩])
     (.ret))
    (.seq (.region [⟨(some 30), .op (.bin .eql (.tmp 8) (.val (.int .i64 9))), none⟩,
      ⟨(some 29), .op (.mov (.tmp 30)), none⟩])
    (.cond (.tmp 29) (.seq (.region [⟨(some 31), .op (.mov (.tmp 1)), none⟩,
       ⟨(some 32), .op (.mov (.tmp 2)), none⟩,
       ⟨(some 33), .op (.bin .or (.tmp 31) (.tmp 32)), none⟩,
       ⟨(some 6), .op (.mov (.tmp 33)), none⟩,
       ⟨(some 7), .op (.mov (.val (.bool true))), none⟩])
     (.ret))
    (.seq (.region [⟨(some 35), .op (.bin .eql (.tmp 8) (.val (.int .i64 10))), none⟩,
      ⟨(some 34), .op (.mov (.tmp 35)), none⟩])
    (.cond (.tmp 34) (.seq (.region [⟨(some 36), .op (.mov (.tmp 1)), none⟩,
       ⟨(some 37), .op (.mov (.tmp 2)), none⟩,
       ⟨(some 38), .op (.bin .xor (.tmp 36) (.tmp 37)), none⟩,
       ⟨(some 6), .op (.mov (.tmp 38)), none⟩,
       ⟨(some 7), .op (.mov (.val (.bool true))), none⟩])
     (.ret))
    (.seq (.region [⟨(some 40), .op (.bin .eql (.tmp 8) (.val (.int .i64 11))), none⟩,
      ⟨(some 39), .op (.mov (.tmp 40)), none⟩])
    (.cond (.tmp 39) (.seq (.region [⟨(some 41), .op (.mov (.tmp 1)), none⟩,
       ⟨(some 42), .op (.mov (.tmp 2)), none⟩,
       ⟨(some 43), .op (.bin .and (.tmp 42) (.val (.int .u64 63))), none⟩,
       ⟨(some 44), .op (.bin .shl (.tmp 41) (.tmp 43)), none⟩,
       ⟨(some 6), .op (.mov (.tmp 44)), none⟩,
       ⟨(some 7), .op (.mov (.val (.bool true))), none⟩])
     (.ret))
    (.seq (.region [⟨(some 46), .op (.bin .eql (.tmp 8) (.val (.int .i64 12))), none⟩,
      ⟨(some 45), .op (.mov (.tmp 46)), none⟩])
    (.cond (.tmp 45) (.seq (.region [⟨(some 47), .op (.mov (.tmp 1)), none⟩,
       ⟨(some 48), .op (.conv .i64 (.tmp 47)), none⟩,
       ⟨(some 49), .op (.mov (.tmp 2)), none⟩,
       ⟨(some 50), .op (.bin .and (.tmp 49) (.val (.int .u64 63))), none⟩,
       ⟨(some 51), .op (.bin .shr (.tmp 48) (.tmp 50)), none⟩,
       ⟨(some 52), .op (.conv .u64 (.tmp 51)), none⟩,
       ⟨(some 6), .op (.mov (.tmp 52)), none⟩,
       ⟨(some 7), .op (.mov (.val (.bool true))), none⟩])
     (.ret))
    (.seq (.seq (.region [⟨(some 54), .op (.bin .eql (.tmp 8) (.val (.int .i64 13))), none⟩,
       ⟨(some 53), .op (.mov (.tmp 54)), none⟩])
     (.cond (.tmp 53) (.skip)
     (.region [⟨(some 55), .op (.bin .eql (.tmp 8) (.val (.int .i64 23))), none⟩,
      ⟨(some 53), .op (.mov (.tmp 55)), none⟩])))
    (.cond (.tmp 53) (.seq (.region [⟨(some 56), .op (.mov (.tmp 1)), none⟩,
       ⟨(some 57), .op (.mov (.tmp 2)), none⟩,
       ⟨(some 58), .op (.bin .eql (.tmp 56) (.tmp 57)), none⟩,
       ⟨(some 59), .call (.fnv 72) [(.tmp 58)], none⟩,
       ⟨(some 6), .op (.mov (.tmp 59)), none⟩,
       ⟨(some 7), .op (.mov (.val (.bool true))), none⟩])
     (.ret))
    (.seq (.region [⟨(some 61), .op (.bin .eql (.tmp 8) (.val (.int .i64 14))), none⟩,
      ⟨(some 60), .op (.mov (.tmp 61)), none⟩])
    (.cond (.tmp 60) (.seq (.region [⟨(some 62), .op (.mov (.tmp 1)), none⟩,
       ⟨(some 63), .op (.conv .i64 (.tmp 62)), none⟩,
       ⟨(some 64), .op (.mov (.tmp 2)), none⟩,
       ⟨(some 65), .op (.conv .i64 (.tmp 64)), none⟩,
       ⟨(some 66), .op (.bin .lss (.tmp 63) (.tmp 65)), none⟩,
       ⟨(some 67), .call (.fnv 72) [(.tmp 66)], none⟩,
       ⟨(some 6), .op (.mov (.tmp 67)), none⟩,
       ⟨(some 7), .op (.mov (.val (.bool true))), none⟩])
     (.ret))
    (.skip)))))))))))))))))))))))
  (.seq (.seq (.region [⟨(some 68), .op (.mov (.tmp 2)), none⟩,
     ⟨(some 69), .op (.bin .eql (.tmp 68) (.val (.int .u64 0))), none⟩])
   (.cond (.tmp 69) (.seq (.region [⟨(some 6), .op (.mov (.val (.int .u64 0))), none⟩,
      ⟨(some 7), .op (.mov (.val (.bool false))), none⟩])
    (.ret))
   (.skip)))
  (.seq (.seq (.region [⟨(some 70), .op (.mov (.tmp 0)), none⟩,
     ⟨(some 71), .op (.bin .eql (.tmp 70) (.val (.int .i64 6))), none⟩])
   (.cond (.tmp 71) (.seq (.region [⟨(some 72), .op (.mov (.tmp 1)), none⟩,
      ⟨(some 73), .op (.conv .i64 (.tmp 72)), none⟩,
      ⟨(some 74), .op (.mov (.tmp 2)), none⟩,
      ⟨(some 75), .op (.conv .i64 (.tmp 74)), none⟩,
      ⟨(some 76), .op (.bin .quo (.tmp 73) (.tmp 75)), none⟩,
      ⟨(some 77), .op (.conv .u64 (.tmp 76)), none⟩,
      ⟨(some 6), .op (.mov (.tmp 77)), none⟩,
      ⟨(some 7), .op (.mov (.val (.bool true))), none⟩])
    (.ret))
   (.skip)))
  (.seq (.region [⟨(some 78), .op (.mov (.tmp 1)), none⟩,
    ⟨(some 79), .op (.conv .i64 (.tmp 78)), none⟩,
    ⟨(some 80), .op (.mov (.tmp 2)), none⟩,
    ⟨(some 81), .op (.conv .i64 (.tmp 80)), none⟩,
    ⟨(some 82), .op (.bin .rem (.tmp 79) (.tmp 81)), none⟩,
    ⟨(some 83), .op (.conv .u64 (.tmp 82)), none⟩,
    ⟨(some 6), .op (.mov (.tmp 83)), none⟩,
    ⟨(some 7), .op (.mov (.val (.bool true))), none⟩])
  (.ret))))),
  [.tmp 6, .tmp 7], none, none⟩
def A52 : AFun := ⟨.seq (.region [⟨(some 6), .op (.mov (.val (.int .u64 0))), none⟩])
  (.seq (.seq (.region [⟨(some 7), .op (.mov (.tmp 0)), none⟩])
   (.block 0 (.seq (.region [⟨(some 9), .op (.bin .eql (.tmp 7) (.val (.int .i64 15))), none⟩,
      ⟨(some 8), .op (.mov (.tmp 9)), none⟩])
    (.cond (.tmp 8) (.seq (.region [⟨(some 10), .op (.mov (.tmp 1)), none⟩,
       ⟨(some 11), .op (.mov (.tmp 2)), none⟩,
       ⟨(some 12), .call (.fnv 8) [(.tmp 10), (.tmp 11)], none⟩,
       ⟨(some 6), .op (.mov (.tmp 12)), none⟩])
     (.ret))
    (.seq (.region [⟨(some 14), .op (.bin .eql (.tmp 7) (.val (.int .i64 16))), none⟩,
      ⟨(some 13), .op (.mov (.tmp 14)), none⟩])
    (.cond (.tmp 13) (.seq (.region [⟨(some 15), .op (.mov (.tmp 1)), none⟩,
       ⟨(some 16), .op (.mov (.tmp 2)), none⟩,
       ⟨(some 17), .call (.fnv 9) [(.tmp 15), (.tmp 16)], none⟩,
       ⟨(some 6), .op (.mov (.tmp 17)), none⟩])
     (.ret))
    (.seq (.region [⟨(some 19), .op (.bin .eql (.tmp 7) (.val (.int .i64 17))), none⟩,
      ⟨(some 18), .op (.mov (.tmp 19)), none⟩])
    (.cond (.tmp 18) (.seq (.region [⟨(some 20), .op (.mov (.tmp 1)), none⟩,
       ⟨(some 21), .op (.mov (.tmp 2)), none⟩,
       ⟨(some 22), .call (.fnv 10) [(.tmp 20), (.tmp 21)], none⟩,
       ⟨(some 6), .op (.mov (.tmp 22)), none⟩])
     (.ret))
    (.seq (.region [⟨(some 24), .op (.bin .eql (.tmp 7) (.val (.int .i64 18))), none⟩,
      ⟨(some 23), .op (.mov (.tmp 24)), none⟩])
    (.cond (.tmp 23) (.seq (.region [⟨(some 25), .op (.mov (.tmp 1)), none⟩,
       ⟨(some 26), .op (.mov (.tmp 2)), none⟩,
       ⟨(some 27), .call (.fnv 11) [(.tmp 25), (.tmp 26)], none⟩,
       ⟨(some 6), .op (.mov (.tmp 27)), none⟩])
     (.ret))
    (.seq (.region [⟨(some 29), .op (.bin .eql (.tmp 7) (.val (.int .i64 19))), none⟩,
      ⟨(some 28), .op (.mov (.tmp 29)), none⟩])
    (.cond (.tmp 28) (.seq (.region [⟨(some 30), .op (.mov (.tmp 1)), none⟩,
       ⟨(some 31), .op (.mov (.tmp 2)), none⟩,
       ⟨(some 32), .call (.fnv 73) [(.tmp 30), (.tmp 31)], none⟩,
       ⟨(some 33), .call (.fnv 72) [(.tmp 32)], none⟩,
       ⟨(some 6), .op (.mov (.tmp 33)), none⟩])
     (.ret))
    (.skip)))))))))))))
  (.seq (.region [⟨(some 34), .op (.mov (.tmp 1)), none⟩,
    ⟨(some 35), .op (.mov (.tmp 2)), none⟩,
    ⟨(some 36), .call (.fnv 74) [(.tmp 34), (.tmp 35)], none⟩,
    ⟨(some 37), .call (.fnv 72) [(.tmp 36)], none⟩,
    ⟨(some 6), .op (.mov (.tmp 37)), none⟩])
  (.ret))),
  [.tmp 6], none, none⟩
def A54 : AFun := ⟨.seq (.seq (.region [⟨(some 6), .op (.mov (.tmp 2)), none⟩,
     ⟨(some 7), .op (.bin .leq (.tmp 6) (.val (.int .i64 0))), none⟩,
     ⟨(some 8), .op (.mov (.tmp 7)), none⟩,
     ⟨(some 9), .op (.mov (.tmp 0)), (some (8, false))⟩,
     ⟨(some 10), .op (.nilCheck (.tmp 9)), (some (8, false))⟩,
     ⟨(some 11), .op (.fieldAddr 6 (.tmp 10)), (some (8, false))⟩,
     ⟨(some 12), .op (.load none (.tmp 11)), (some (8, false))⟩,
     ⟨(some 13), .op (.bin .eql (.tmp 12) (.val (.int .u64 1099511627776))), (some (8, false))⟩,
     ⟨(some 14), .op (.pick (.tmp 8) (.val (.bool true)) (.tmp 13)), none⟩])
   (.cond (.tmp 14) (.ret)
   (.skip)))
  (.seq (.region [⟨(some 15), .op (.mov (.tmp 1)), none⟩,
    ⟨(some 16), .op (.mov (.tmp 0)), none⟩,
    ⟨(some 17), .op (.nilCheck (.tmp 16)), none⟩,
    ⟨(some 18), .op (.fieldAddr 6 (.tmp 17)), none⟩,
    ⟨(some 19), .op (.load none (.tmp 18)), none⟩,
    ⟨(some 20), .op (.mov (.tmp 2)), none⟩,
    ⟨(some 21), .op (.conv .u64 (.tmp 20)), none⟩,
    ⟨(some 22), .op (.min (.tmp 21) (.val (.int .u64 1099511627776))), none⟩,
    ⟨(some 23), .op (.bin .add (.tmp 19) (.tmp 22)), none⟩,
    ⟨(some 24), .op (.min (.tmp 23) (.val (.int .u64 1099511627776))), none⟩,
    ⟨(some 25), .op (.nilCheck (.tmp 15)), none⟩,
    ⟨(some 26), .op (.fieldAddr 1 (.tmp 25)), none⟩,
    ⟨none, .op (.store 1 (.tmp 26) (.tmp 24)), none⟩])
  (.region [⟨(some 27), .op (.mov (.tmp 1)), none⟩,
   ⟨(some 28), .op (.mov (.tmp 1)), none⟩,
   ⟨(some 29), .op (.nilCheck (.tmp 27)), none⟩,
   ⟨(some 30), .op (.fieldAddr 2 (.tmp 29)), none⟩,
   ⟨none, .op (.store 1 (.tmp 30) (.val (.bool true))), none⟩,
   ⟨(some 31), .op (.nilCheck (.tmp 28)), none⟩,
   ⟨(some 32), .op (.fieldAddr 0 (.tmp 31)), none⟩,
   ⟨none, .op (.store 1 (.tmp 32) (.val (.int .i64 2))), none⟩])),
  [], none, none⟩
def A55 : AFun := ⟨.seq (.region [⟨(some 4), .op (.mov (.val .nilp)), none⟩])
  (.seq (.seq (.region [⟨(some 7), .op (.mov (.tmp 0)), none⟩,
     ⟨(some 8), .op (.nilCheck (.tmp 7)), none⟩,
     ⟨(some 9), .op (.fieldAddr 3 (.tmp 8)), none⟩,
     ⟨(some 10), .op (.load none (.tmp 9)), none⟩,
     ⟨(some 11), .op (.lenS (.tmp 10)), none⟩,
     ⟨(some 12), .op (.mov (.val (.int .i64 0))), none⟩])
   (.block 0 (.loop (.seq (.region [⟨(some 13), .op (.bin .lss (.tmp 12) (.tmp 11)), none⟩])
     (.seq (.cond (.tmp 13) (.skip)
      (.exit 0))
     (.seq (.block 1 (.seq (.region [⟨(some 14), .op (.idxS 1 (.tmp 10) (.tmp 12)), none⟩,
         ⟨(some 15), .op (.load none (.tmp 14)), none⟩,
         ⟨(some 6), .op (.mov (.tmp 15)), none⟩])
       (.seq (.region [⟨(some 16), .op (.mov (.tmp 6)), none⟩,
         ⟨(some 17), .op (.nilCheck (.tmp 16)), none⟩,
         ⟨(some 18), .op (.fieldAddr 2 (.tmp 17)), none⟩,
         ⟨(some 19), .op (.load none (.tmp 18)), none⟩,
         ⟨(some 20), .op (.mov (.tmp 1)), none⟩,
         ⟨(some 21), .op (.bin .quo (.tmp 20) (.val (.int .u64 64))), none⟩,
         ⟨(some 22), .op (.bin .eql (.tmp 19) (.tmp 21)), none⟩,
         ⟨(some 23), .op (.mov (.tmp 22)), none⟩,
         ⟨(some 24), .op (.mov (.tmp 1)), (some (23, true))⟩,
         ⟨(some 25), .op (.bin .gtr (.tmp 24) (.val (.int .u64 0))), (some (23, true))⟩,
         ⟨(some 26), .op (.pick (.tmp 23) (.tmp 25) (.val (.bool false))), none⟩])
       (.cond (.tmp 26) (.seq (.region [⟨(some 27), .op (.mov (.tmp 6)), none⟩,
          ⟨(some 28), .op (.nilCheck (.tmp 27)), none⟩,
          ⟨(some 29), .op (.fieldAddr 3 (.tmp 28)), none⟩,
          ⟨(some 30), .op (.load none (.tmp 29)), none⟩,
          ⟨(some 31), .op (.mov (.tmp 1)), none⟩,
          ⟨(some 32), .op (.bin .rem (.tmp 31) (.val (.int .u64 64))), none⟩,
          ⟨(some 33), .op (.idxS 1 (.tmp 30) (.tmp 32)), none⟩,
          ⟨(some 4), .op (.mov (.tmp 33)), none⟩])
        (.ret))
       (.skip)))))
     (.region [⟨(some 34), .op (.bin .add (.tmp 12) (.val (.int .i64 1))), none⟩,
      ⟨(some 12), .op (.mov (.tmp 34)), none⟩])))))))
  (.seq (.region [⟨(some 4), .op (.mov (.val .nilp)), none⟩])
  (.ret))),
  [.tmp 4], none, none⟩
def A56 : AFun := ⟨.seq (.region [⟨(some 5), .op (.box (.tmp 2)), none⟩])
  (.seq (.seq (.region [⟨(some 10), .op (.fieldAddr 0 (.tmp 5)), none⟩,
     ⟨(some 11), .op (.load none (.tmp 10)), none⟩])
   (.block 0 (.seq (.region [⟨(some 13), .op (.bin .eql (.tmp 11) (.val (.int .i64 33))), none⟩,
      ⟨(some 12), .op (.mov (.tmp 13)), none⟩])
    (.cond (.tmp 12) (.seq (.draw [⟨⟨(some 14), .op (.mov (.tmp 1)), none⟩, .pure⟩,
       ⟨⟨(some 15), .op (.fieldAddr 1 (.tmp 5)), none⟩, .pure⟩,
       ⟨⟨(some 16), .op (.load none (.tmp 15)), none⟩, .read []⟩,
       ⟨⟨(some 17), .op (.mov (.tmp 0)), none⟩, .pure⟩,
       ⟨⟨(some 18), .op (.nilCheck (.tmp 17)), none⟩, .pure⟩,
       ⟨⟨(some 19), .op (.fieldAddr 3 (.tmp 18)), none⟩, .pure⟩,
       ⟨⟨(some 20), .op (.load none (.tmp 19)), none⟩, .read []⟩,
       ⟨⟨(some 21), .op (.fieldAddr 2 (.tmp 5)), none⟩, .pure⟩,
       ⟨⟨(some 22), .op (.load none (.tmp 21)), none⟩, .read []⟩,
       ⟨⟨(some 23), .op (.idxS 1 (.tmp 20) (.tmp 22)), none⟩, .read []⟩,
       ⟨⟨(some 24), .op (.load none (.tmp 23)), none⟩, .read []⟩,
       ⟨⟨(some 25), .op (.idxS 1 (.tmp 14) (.tmp 16)), none⟩, .read []⟩,
       ⟨⟨none, .op (.store 1 (.tmp 25) (.tmp 24)), none⟩, .act true⟩])
     (.ret))
    (.seq (.region [⟨(some 27), .op (.bin .eql (.tmp 11) (.val (.int .i64 34))), none⟩,
      ⟨(some 26), .op (.mov (.tmp 27)), none⟩])
    (.cond (.tmp 26) (.seq (.draw [⟨⟨(some 28), .op (.mov (.tmp 0)), none⟩, .pure⟩,
       ⟨⟨(some 29), .op (.nilCheck (.tmp 28)), none⟩, .pure⟩,
       ⟨⟨(some 30), .op (.fieldAddr 3 (.tmp 29)), none⟩, .pure⟩,
       ⟨⟨(some 31), .op (.load none (.tmp 30)), none⟩, .read []⟩,
       ⟨⟨(some 32), .op (.fieldAddr 1 (.tmp 5)), none⟩, .pure⟩,
       ⟨⟨(some 33), .op (.load none (.tmp 32)), none⟩, .read []⟩,
       ⟨⟨(some 34), .op (.mov (.tmp 1)), none⟩, .pure⟩,
       ⟨⟨(some 35), .op (.fieldAddr 2 (.tmp 5)), none⟩, .pure⟩,
       ⟨⟨(some 36), .op (.load none (.tmp 35)), none⟩, .read []⟩,
       ⟨⟨(some 37), .op (.idxS 1 (.tmp 34) (.tmp 36)), none⟩, .read []⟩,
       ⟨⟨(some 38), .op (.load none (.tmp 37)), none⟩, .read []⟩,
       ⟨⟨(some 39), .op (.idxS 1 (.tmp 31) (.tmp 33)), none⟩, .read []⟩,
       ⟨⟨none, .op (.store 1 (.tmp 39) (.tmp 38)), none⟩, .act true⟩])
     (.ret))
    (.seq (.region [⟨(some 41), .op (.bin .eql (.tmp 11) (.val (.int .i64 26))), none⟩,
      ⟨(some 40), .op (.mov (.tmp 41)), none⟩])
    (.cond (.tmp 40) (.seq (.draw [⟨⟨(some 42), .op (.mov (.tmp 1)), none⟩, .pure⟩,
       ⟨⟨(some 43), .op (.fieldAddr 1 (.tmp 5)), none⟩, .pure⟩,
       ⟨⟨(some 44), .op (.load none (.tmp 43)), none⟩, .read [20, 22]⟩,
       ⟨⟨(some 45), .op (.mov (.tmp 0)), none⟩, .pure⟩,
       ⟨⟨(some 46), .op (.fieldAddr 2 (.tmp 5)), none⟩, .pure⟩,
       ⟨⟨(some 47), .op (.load none (.tmp 46)), none⟩, .read [20]⟩,
       ⟨⟨(some 48), .op (.bin .add (.val (.int .i64 16)) (.tmp 47)), none⟩, .pure⟩,
       ⟨⟨(some 49), .op (.mov (.tmp 0)), none⟩, .pure⟩,
       ⟨⟨(some 50), .op (.nilCheck (.tmp 49)), none⟩, .pure⟩,
       ⟨⟨(some 51), .op (.fieldAddr 0 (.tmp 50)), none⟩, .pure⟩,
       ⟨⟨(some 52), .op (.fieldAddr 0 (.tmp 51)), none⟩, .pure⟩,
       ⟨⟨(some 53), .op (.load none (.tmp 52)), none⟩, .read []⟩,
       ⟨⟨(some 54), .op (.fieldAddr 2 (.tmp 5)), none⟩, .pure⟩,
       ⟨⟨(some 55), .op (.load none (.tmp 54)), none⟩, .read []⟩,
       ⟨⟨(some 56), .op (.idxS 2 (.tmp 53) (.tmp 55)), none⟩, .read []⟩,
       ⟨⟨(some 57), .op (.fieldAddr 1 (.tmp 56)), none⟩, .pure⟩,
       ⟨⟨(some 58), .op (.load none (.tmp 57)), none⟩, .read []⟩,
       ⟨⟨(some 59), .op (.lenS (.tmp 58)), none⟩, .pure⟩,
       ⟨⟨(some 60), .op (.mkSlice 1 8 [(.int .u64 0)] (.tmp 59)), none⟩, .act true⟩,
       ⟨⟨(some 61), .op (.build [(.int .i64 0), .nils, .nilp] [(0, 1, (.tmp 48)), (1, 1, (.tmp 60))]), none⟩, .pure⟩,
       ⟨⟨(some 62), .call (.fnv 75) [(.tmp 45), (.tmp 61)], none⟩, .act true⟩,
       ⟨⟨(some 63), .op (.idxS 1 (.tmp 42) (.tmp 44)), none⟩, .read []⟩,
       ⟨⟨none, .op (.store 1 (.tmp 63) (.tmp 62)), none⟩, .act true⟩])
     (.ret))
    (.seq (.region [⟨(some 65), .op (.bin .eql (.tmp 11) (.val (.int .i64 27))), none⟩,
      ⟨(some 64), .op (.mov (.tmp 65)), none⟩])
    (.cond (.tmp 64) (.seq (.seq (.region [⟨(some 66), .op (.mov (.tmp 1)), none⟩,
        ⟨(some 67), .op (.fieldAddr 3 (.tmp 5)), none⟩,
        ⟨(some 68), .op (.load none (.tmp 67)), none⟩,
        ⟨(some 69), .op (.idxS 1 (.tmp 66) (.tmp 68)), none⟩,
        ⟨(some 70), .op (.load none (.tmp 69)), none⟩,
        ⟨(some 71), .op (.conv .i64 (.tmp 70)), none⟩,
        ⟨(some 6), .op (.mov (.tmp 71)), none⟩])
      (.seq (.region [⟨(some 72), .op (.mov (.tmp 6)), none⟩,
        ⟨(some 73), .op (.bin .lss (.tmp 72) (.val (.int .i64 0))), none⟩,
        ⟨(some 74), .op (.mov (.tmp 73)), none⟩,
        ⟨(some 75), .op (.mov (.tmp 6)), (some (74, false))⟩,
        ⟨(some 76), .op (.bin .gtr (.tmp 75) (.val (.int .i64 1023))), (some (74, false))⟩,
        ⟨(some 77), .op (.pick (.tmp 74) (.val (.bool true)) (.tmp 76)), none⟩])
      (.cond (.tmp 77) (.region [⟨(some 78), .op (.mov (.tmp 0)), none⟩,
        ⟨(some 79), .call (.fnv 33) [(.tmp 78), (.val (.int .i64 (-2)))], none⟩])
      (.draw [⟨⟨(some 80), .op (.mov (.tmp 1)), none⟩, .pure⟩,
       ⟨⟨(some 81), .op (.fieldAddr 1 (.tmp 5)), none⟩, .pure⟩,
       ⟨⟨(some 82), .op (.load none (.tmp 81)), none⟩, .read [10, 12]⟩,
       ⟨⟨(some 83), .op (.mov (.tmp 0)), none⟩, .pure⟩,
       ⟨⟨(some 84), .op (.fieldAddr 2 (.tmp 5)), none⟩, .pure⟩,
       ⟨⟨(some 85), .op (.load none (.tmp 84)), none⟩, .read [10]⟩,
       ⟨⟨(some 86), .op (.bin .add (.val (.int .i64 16)) (.tmp 85)), none⟩, .pure⟩,
       ⟨⟨(some 87), .op (.mov (.tmp 6)), none⟩, .pure⟩,
       ⟨⟨(some 88), .op (.mkSlice 1 8 [(.int .u64 0)] (.tmp 87)), none⟩, .act true⟩,
       ⟨⟨(some 89), .op (.build [(.int .i64 0), .nils, .nilp] [(0, 1, (.tmp 86)), (1, 1, (.tmp 88))]), none⟩, .pure⟩,
       ⟨⟨(some 90), .call (.fnv 75) [(.tmp 83), (.tmp 89)], none⟩, .act true⟩,
       ⟨⟨(some 91), .op (.idxS 1 (.tmp 80) (.tmp 82)), none⟩, .read []⟩,
       ⟨⟨none, .op (.store 1 (.tmp 91) (.tmp 90)), none⟩, .act true⟩]))))
     (.ret))
    (.skip)))))))))))
  (.seq (.region [⟨(some 92), .op (.fieldAddr 2 (.tmp 5)), none⟩,
    ⟨(some 93), .op (.load none (.tmp 92)), none⟩,
    ⟨(some 7), .op (.mov (.tmp 93)), none⟩])
  (.seq (.seq (.region [⟨(some 94), .op (.fieldAddr 0 (.tmp 5)), none⟩,
     ⟨(some 95), .op (.load none (.tmp 94)), none⟩,
     ⟨(some 96), .op (.bin .eql (.tmp 95) (.val (.int .i64 30))), none⟩,
     ⟨(some 97), .op (.mov (.tmp 96)), none⟩,
     ⟨(some 98), .op (.fieldAddr 0 (.tmp 5)), (some (97, false))⟩,
     ⟨(some 99), .op (.load none (.tmp 98)), (some (97, false))⟩,
     ⟨(some 100), .op (.bin .eql (.tmp 99) (.val (.int .i64 32))), (some (97, false))⟩,
     ⟨(some 101), .op (.pick (.tmp 97) (.val (.bool true)) (.tmp 100)), none⟩])
   (.cond (.tmp 101) (.region [⟨(some 102), .op (.fieldAddr 1 (.tmp 5)), none⟩,
     ⟨(some 103), .op (.load none (.tmp 102)), none⟩,
     ⟨(some 7), .op (.mov (.tmp 103)), none⟩])
   (.skip)))
  (.seq (.seq (.region [⟨(some 104), .op (.mov (.tmp 1)), none⟩,
     ⟨(some 105), .op (.mov (.tmp 7)), none⟩,
     ⟨(some 106), .op (.idxS 1 (.tmp 104) (.tmp 105)), none⟩,
     ⟨(some 107), .op (.load none (.tmp 106)), none⟩,
     ⟨(some 108), .op (.bin .eql (.tmp 107) (.val (.int .u64 0))), none⟩])
   (.cond (.tmp 108) (.seq (.region [⟨(some 109), .op (.mov (.tmp 0)), none⟩,
      ⟨(some 110), .call (.fnv 33) [(.tmp 109), (.val (.int .i64 (-1)))], none⟩])
    (.ret))
   (.skip)))
  (.seq (.region [⟨(some 111), .op (.mov (.tmp 0)), none⟩,
    ⟨(some 112), .op (.nilCheck (.tmp 111)), none⟩,
    ⟨(some 113), .op (.fieldAddr 4 (.tmp 112)), none⟩,
    ⟨(some 114), .op (.load none (.tmp 113)), none⟩,
    ⟨(some 115), .op (.mov (.tmp 1)), none⟩,
    ⟨(some 116), .op (.mov (.tmp 7)), none⟩,
    ⟨(some 117), .op (.idxS 1 (.tmp 115) (.tmp 116)), none⟩,
    ⟨(some 118), .op (.load none (.tmp 117)), none⟩,
    ⟨(some 119), .op (.idxS 3 (.tmp 114) (.tmp 118)), none⟩,
    ⟨(some 120), .op (.fieldAddr 1 (.tmp 119)), none⟩,
    ⟨(some 121), .op (.load none (.tmp 120)), none⟩,
    ⟨(some 8), .op (.mov (.tmp 121)), none⟩])
  (.seq (.region [⟨(some 122), .op (.fieldAddr 3 (.tmp 5)), none⟩,
    ⟨(some 123), .op (.load none (.tmp 122)), none⟩,
    ⟨(some 9), .op (.mov (.tmp 123)), none⟩])
  (.seq (.seq (.region [⟨(some 124), .op (.fieldAddr 0 (.tmp 5)), none⟩,
     ⟨(some 125), .op (.load none (.tmp 124)), none⟩,
     ⟨(some 126), .op (.bin .eql (.tmp 125) (.val (.int .i64 31))), none⟩,
     ⟨(some 127), .op (.mov (.tmp 126)), none⟩,
     ⟨(some 128), .op (.fieldAddr 0 (.tmp 5)), (some (127, false))⟩,
     ⟨(some 129), .op (.load none (.tmp 128)), (some (127, false))⟩,
     ⟨(some 130), .op (.bin .eql (.tmp 129) (.val (.int .i64 32))), (some (127, false))⟩,
     ⟨(some 131), .op (.pick (.tmp 127) (.val (.bool true)) (.tmp 130)), none⟩])
   (.cond (.tmp 131) (.seq (.region [⟨(some 132), .op (.mov (.tmp 1)), none⟩,
      ⟨(some 133), .op (.fieldAddr 3 (.tmp 5)), none⟩,
      ⟨(some 134), .op (.load none (.tmp 133)), none⟩,
      ⟨(some 135), .op (.idxS 1 (.tmp 132) (.tmp 134)), none⟩,
      ⟨(some 136), .op (.load none (.tmp 135)), none⟩,
      ⟨(some 137), .op (.conv .i64 (.tmp 136)), none⟩,
      ⟨(some 9), .op (.mov (.tmp 137)), none⟩])
    (.seq (.region [⟨(some 138), .op (.mov (.tmp 9)), none⟩,
      ⟨(some 139), .op (.bin .lss (.tmp 138) (.val (.int .i64 0))), none⟩,
      ⟨(some 140), .op (.mov (.tmp 139)), none⟩,
      ⟨(some 141), .op (.mov (.tmp 9)), (some (140, false))⟩,
      ⟨(some 142), .op (.mov (.tmp 8)), (some (140, false))⟩,
      ⟨(some 143), .op (.lenS (.tmp 142)), (some (140, false))⟩,
      ⟨(some 144), .op (.bin .geq (.tmp 141) (.tmp 143)), (some (140, false))⟩,
      ⟨(some 145), .op (.pick (.tmp 140) (.val (.bool true)) (.tmp 144)), none⟩])
    (.cond (.tmp 145) (.seq (.region [⟨(some 146), .op (.mov (.tmp 0)), none⟩,
       ⟨(some 147), .call (.fnv 33) [(.tmp 146), (.val (.int .i64 (-2)))], none⟩])
     (.ret))
    (.skip))))
   (.skip)))
  (.seq (.region [⟨(some 148), .op (.fieldAddr 0 (.tmp 5)), none⟩,
    ⟨(some 149), .op (.load none (.tmp 148)), none⟩])
  (.block 1 (.seq (.region [⟨(some 159), .op (.bin .eql (.tmp 149) (.val (.int .i64 28))), none⟩,
     ⟨(some 158), .op (.mov (.tmp 159)), none⟩])
   (.cond (.tmp 158) (.region [⟨(some 160), .op (.mov (.tmp 1)), none⟩,
     ⟨(some 161), .op (.fieldAddr 1 (.tmp 5)), none⟩,
     ⟨(some 162), .op (.load none (.tmp 161)), none⟩,
     ⟨(some 163), .op (.mov (.tmp 8)), none⟩,
     ⟨(some 164), .op (.lenS (.tmp 163)), none⟩,
     ⟨(some 165), .op (.conv .u64 (.tmp 164)), none⟩,
     ⟨(some 166), .op (.idxS 1 (.tmp 160) (.tmp 162)), none⟩,
     ⟨none, .op (.store 1 (.tmp 166) (.tmp 165)), none⟩])
   (.seq (.seq (.region [⟨(some 168), .op (.bin .eql (.tmp 149) (.val (.int .i64 29))), none⟩,
      ⟨(some 167), .op (.mov (.tmp 168)), none⟩])
    (.cond (.tmp 167) (.skip)
    (.region [⟨(some 169), .op (.bin .eql (.tmp 149) (.val (.int .i64 31))), none⟩,
     ⟨(some 167), .op (.mov (.tmp 169)), none⟩])))
   (.cond (.tmp 167) (.draw [⟨⟨(some 170), .op (.mov (.tmp 1)), none⟩, .pure⟩,
     ⟨⟨(some 171), .op (.fieldAddr 1 (.tmp 5)), none⟩, .pure⟩,
     ⟨⟨(some 172), .op (.load none (.tmp 171)), none⟩, .read []⟩,
     ⟨⟨(some 173), .op (.mov (.tmp 8)), none⟩, .pure⟩,
     ⟨⟨(some 174), .op (.mov (.tmp 9)), none⟩, .pure⟩,
     ⟨⟨(some 175), .op (.idxS 1 (.tmp 173) (.tmp 174)), none⟩, .read []⟩,
     ⟨⟨(some 176), .op (.load none (.tmp 175)), none⟩, .read []⟩,
     ⟨⟨(some 177), .op (.idxS 1 (.tmp 170) (.tmp 172)), none⟩, .read []⟩,
     ⟨⟨none, .op (.store 1 (.tmp 177) (.tmp 176)), none⟩, .act true⟩])
   (.region [⟨(some 150), .op (.mov (.tmp 8)), none⟩,
    ⟨(some 151), .op (.mov (.tmp 9)), none⟩,
    ⟨(some 152), .op (.mov (.tmp 1)), none⟩,
    ⟨(some 153), .op (.fieldAddr 2 (.tmp 5)), none⟩,
    ⟨(some 154), .op (.load none (.tmp 153)), none⟩,
    ⟨(some 155), .op (.idxS 1 (.tmp 152) (.tmp 154)), none⟩,
    ⟨(some 156), .op (.load none (.tmp 155)), none⟩,
    ⟨(some 157), .op (.idxS 1 (.tmp 150) (.tmp 151)), none⟩,
    ⟨none, .op (.store 1 (.tmp 157) (.tmp 156)), none⟩])))))))))))))),
  [], none, none⟩
def A57 : AFun := ⟨.seq (.region [⟨(some 7), .op (.box (.tmp 3)), none⟩])
  (.seq (.region [⟨(some 10), .op (.fieldAddr 0 (.tmp 7)), none⟩,
    ⟨(some 11), .op (.load none (.tmp 10)), none⟩])
  (.block 0 (.seq (.region [⟨(some 13), .op (.bin .eql (.tmp 11) (.val (.int .i64 35))), none⟩,
     ⟨(some 12), .op (.mov (.tmp 13)), none⟩])
   (.cond (.tmp 12) (.seq (.seq (.region [⟨(some 14), .op (.mov (.tmp 1)), none⟩,
       ⟨(some 15), .op (.nilCheck (.tmp 14)), none⟩,
       ⟨(some 16), .op (.fieldAddr 3 (.tmp 15)), none⟩,
       ⟨(some 17), .op (.load none (.tmp 16)), none⟩,
       ⟨(some 18), .op (.lenS (.tmp 17)), none⟩,
       ⟨(some 19), .op (.bin .geq (.tmp 18) (.val (.int .i64 64))), none⟩])
     (.cond (.tmp 19) (.seq (.region [⟨(some 20), .op (.mov (.tmp 0)), none⟩,
        ⟨(some 21), .call (.fnv 33) [(.tmp 20), (.val (.int .i64 (-5)))], none⟩])
      (.ret))
     (.skip)))
    (.seq (.region [⟨(some 22), .op (.mov (.tmp 0)), none⟩,
      ⟨(some 23), .op (.nilCheck (.tmp 22)), none⟩,
      ⟨(some 24), .op (.fieldAddr 0 (.tmp 23)), none⟩,
      ⟨(some 25), .op (.fieldAddr 2 (.tmp 24)), none⟩,
      ⟨(some 26), .op (.load none (.tmp 25)), none⟩,
      ⟨(some 27), .op (.fieldAddr 1 (.tmp 7)), none⟩,
      ⟨(some 28), .op (.load none (.tmp 27)), none⟩,
      ⟨(some 29), .op (.idxS 4 (.tmp 26) (.tmp 28)), none⟩,
      ⟨(some 30), .op (.fieldAddr 0 (.tmp 29)), none⟩,
      ⟨(some 31), .op (.load none (.tmp 30)), none⟩,
      ⟨(some 8), .op (.mov (.tmp 31)), none⟩])
    (.seq (.draw [⟨⟨(some 32), .op (.mov (.tmp 0)), none⟩, .pure⟩,
      ⟨⟨(some 33), .op (.fieldAddr 1 (.tmp 7)), none⟩, .pure⟩,
      ⟨⟨(some 34), .op (.load none (.tmp 33)), none⟩, .read [12]⟩,
      ⟨⟨(some 35), .op (.mov (.tmp 2)), none⟩, .pure⟩,
      ⟨⟨(some 36), .op (.nilCheck (.tmp 35)), none⟩, .pure⟩,
      ⟨⟨(some 37), .op (.fieldAddr 3 (.tmp 36)), none⟩, .pure⟩,
      ⟨⟨(some 38), .op (.load none (.tmp 37)), none⟩, .read []⟩,
      ⟨⟨(some 39), .op (.fieldAddr 5 (.tmp 7)), none⟩, .pure⟩,
      ⟨⟨(some 40), .op (.load none (.tmp 39)), none⟩, .read []⟩,
      ⟨⟨(some 41), .op (.mov (.tmp 8)), none⟩, .pure⟩,
      ⟨⟨(some 42), .op (.slice 1 (.tmp 40) none (some (.tmp 41))), none⟩, .read []⟩,
      ⟨⟨(some 43), .call (.fnv 76) [(.tmp 38), (.tmp 42)], none⟩, .act true⟩,
      ⟨⟨(some 44), .call (.fnv 48) [(.tmp 32), (.tmp 34), (.tmp 43)], none⟩, .act true⟩,
      ⟨⟨(some 9), .op (.mov (.tmp 44)), none⟩, .pure⟩])
    (.seq (.region [⟨(some 45), .op (.mov (.tmp 9)), none⟩,
      ⟨(some 46), .op (.fieldAddr 5 (.tmp 7)), none⟩,
      ⟨(some 47), .op (.load none (.tmp 46)), none⟩,
      ⟨(some 48), .op (.mov (.tmp 8)), none⟩,
      ⟨(some 49), .op (.slice 1 (.tmp 47) (some (.tmp 48)) none), none⟩,
      ⟨(some 50), .op (.nilCheck (.tmp 45)), none⟩,
      ⟨(some 51), .op (.fieldAddr 4 (.tmp 50)), none⟩,
      ⟨none, .op (.store 1 (.tmp 51) (.tmp 49)), none⟩])
    (.region [⟨(some 52), .op (.mov (.tmp 1)), none⟩,
     ⟨(some 53), .op (.mov (.tmp 9)), none⟩,
     ⟨(some 54), .call (.fnv 47) [(.tmp 52), (.tmp 53)], none⟩])))))
   (.seq (.region [⟨(some 56), .op (.bin .eql (.tmp 11) (.val (.int .i64 37))), none⟩,
     ⟨(some 55), .op (.mov (.tmp 56)), none⟩])
   (.cond (.tmp 55) (.seq (.seq (.region [⟨(some 57), .op (.mov (.tmp 0)), none⟩,
       ⟨(some 58), .op (.nilCheck (.tmp 57)), none⟩,
       ⟨(some 59), .op (.fieldAddr 5 (.tmp 58)), none⟩,
       ⟨(some 60), .op (.load none (.tmp 59)), none⟩,
       ⟨(some 61), .op (.lenS (.tmp 60)), none⟩,
       ⟨(some 62), .op (.bin .eql (.tmp 61) (.val (.int .i64 64))), none⟩])
     (.cond (.tmp 62) (.seq (.region [⟨(some 63), .op (.mov (.tmp 0)), none⟩,
        ⟨(some 64), .call (.fnv 36) [(.tmp 63), (.val (.int .i64 7)), (.val (.int .u64 0))], none⟩])
      (.ret))
     (.skip)))
    (.draw [⟨⟨(some 65), .op (.mov (.tmp 0)), none⟩, .pure⟩,
     ⟨⟨(some 66), .op (.fieldAddr 1 (.tmp 7)), none⟩, .pure⟩,
     ⟨⟨(some 67), .op (.load none (.tmp 66)), none⟩, .read [10]⟩,
     ⟨⟨(some 68), .op (.mov (.tmp 2)), none⟩, .pure⟩,
     ⟨⟨(some 69), .op (.nilCheck (.tmp 68)), none⟩, .pure⟩,
     ⟨⟨(some 70), .op (.fieldAddr 3 (.tmp 69)), none⟩, .pure⟩,
     ⟨⟨(some 71), .op (.load none (.tmp 70)), none⟩, .read []⟩,
     ⟨⟨(some 72), .op (.fieldAddr 5 (.tmp 7)), none⟩, .pure⟩,
     ⟨⟨(some 73), .op (.load none (.tmp 72)), none⟩, .read []⟩,
     ⟨⟨(some 74), .call (.fnv 76) [(.tmp 71), (.tmp 73)], none⟩, .act true⟩,
     ⟨⟨(some 75), .call (.fnv 31) [(.tmp 65), (.tmp 67), (.tmp 74)], none⟩, .act true⟩]))
   (.seq (.region [⟨(some 77), .op (.bin .eql (.tmp 11) (.val (.int .i64 38))), none⟩,
     ⟨(some 76), .op (.mov (.tmp 77)), none⟩])
   (.cond (.tmp 76) (.seq (.seq (.region [⟨(some 78), .op (.mov (.tmp 1)), none⟩,
       ⟨(some 79), .op (.nilCheck (.tmp 78)), none⟩,
       ⟨(some 80), .op (.fieldAddr 3 (.tmp 79)), none⟩,
       ⟨(some 81), .op (.load none (.tmp 80)), none⟩,
       ⟨(some 82), .op (.lenS (.tmp 81)), none⟩,
       ⟨(some 83), .op (.bin .geq (.tmp 82) (.val (.int .i64 64))), none⟩,
       ⟨(some 84), .op (.mov (.tmp 83)), none⟩,
       ⟨(some 85), .op (.mov (.tmp 2)), (some (84, false))⟩,
       ⟨(some 86), .op (.nilCheck (.tmp 85)), (some (84, false))⟩,
       ⟨(some 87), .op (.fieldAddr 5 (.tmp 86)), (some (84, false))⟩,
       ⟨(some 88), .op (.load none (.tmp 87)), (some (84, false))⟩,
       ⟨(some 89), .op (.lenS (.tmp 88)), (some (84, false))⟩,
       ⟨(some 90), .op (.bin .eql (.tmp 89) (.val (.int .i64 16))), (some (84, false))⟩,
       ⟨(some 91), .op (.pick (.tmp 84) (.val (.bool true)) (.tmp 90)), none⟩])
     (.cond (.tmp 91) (.seq (.region [⟨(some 92), .op (.mov (.tmp 0)), none⟩,
        ⟨(some 93), .call (.fnv 33) [(.tmp 92), (.val (.int .i64 (-5)))], none⟩])
      (.ret))
     (.skip)))
    (.draw [⟨⟨(some 94), .op (.mov (.tmp 2)), none⟩, .pure⟩,
     ⟨⟨(some 95), .op (.mov (.tmp 2)), none⟩, .pure⟩,
     ⟨⟨(some 96), .op (.nilCheck (.tmp 95)), none⟩, .pure⟩,
     ⟨⟨(some 97), .op (.fieldAddr 5 (.tmp 96)), none⟩, .pure⟩,
     ⟨⟨(some 98), .op (.load none (.tmp 97)), none⟩, .read [15, 16]⟩,
     ⟨⟨(some 99), .op (.fieldAddr 1 (.tmp 7)), none⟩, .pure⟩,
     ⟨⟨(some 100), .op (.load none (.tmp 99)), none⟩, .read [15]⟩,
     ⟨⟨(some 101), .op (.mov (.tmp 2)), none⟩, .pure⟩,
     ⟨⟨(some 102), .op (.nilCheck (.tmp 101)), none⟩, .pure⟩,
     ⟨⟨(some 103), .op (.fieldAddr 3 (.tmp 102)), none⟩, .pure⟩,
     ⟨⟨(some 104), .op (.load none (.tmp 103)), none⟩, .read []⟩,
     ⟨⟨(some 105), .op (.fieldAddr 5 (.tmp 7)), none⟩, .pure⟩,
     ⟨⟨(some 106), .op (.load none (.tmp 105)), none⟩, .read []⟩,
     ⟨⟨(some 107), .call (.fnv 76) [(.tmp 104), (.tmp 106)], none⟩, .act true⟩,
     ⟨⟨(some 108), .op (.build [(.int .i64 0), .nils] [(0, 1, (.tmp 100)), (1, 1, (.tmp 107))]), none⟩, .pure⟩,
     ⟨⟨(some 109), .op (.buildSlice 2 1 [(.int .i64 0), .nils] [(0, (.tmp 108))]), none⟩, .act true⟩,
     ⟨⟨(some 110), .op (.append 2 32 (.tmp 98) (.tmp 109)), none⟩, .act true⟩,
     ⟨⟨(some 111), .op (.nilCheck (.tmp 94)), none⟩, .pure⟩,
     ⟨⟨(some 112), .op (.fieldAddr 5 (.tmp 111)), none⟩, .pure⟩,
     ⟨⟨none, .op (.store 1 (.tmp 112) (.tmp 110)), none⟩, .act true⟩]))
   (.seq (.region [⟨(some 114), .op (.bin .eql (.tmp 11) (.val (.int .i64 36))), none⟩,
     ⟨(some 113), .op (.mov (.tmp 114)), none⟩])
   (.cond (.tmp 113) (.seq (.draw [⟨⟨(some 115), .op (.mov (.tmp 2)), none⟩, .pure⟩,
      ⟨⟨(some 116), .op (.mov (.tmp 2)), none⟩, .pure⟩,
      ⟨⟨(some 117), .op (.mov (.tmp 2)), none⟩, .pure⟩,
      ⟨⟨(some 118), .op (.nilCheck (.tmp 117)), none⟩, .pure⟩,
      ⟨⟨(some 119), .op (.fieldAddr 3 (.tmp 118)), none⟩, .pure⟩,
      ⟨⟨(some 120), .op (.load none (.tmp 119)), none⟩, .read []⟩,
      ⟨⟨(some 121), .op (.fieldAddr 5 (.tmp 7)), none⟩, .pure⟩,
      ⟨⟨(some 122), .op (.load none (.tmp 121)), none⟩, .read []⟩,
      ⟨⟨(some 123), .call (.fnv 76) [(.tmp 120), (.tmp 122)], none⟩, .act true⟩,
      ⟨⟨(some 124), .op (.nilCheck (.tmp 115)), none⟩, .pure⟩,
      ⟨⟨(some 125), .op (.fieldAddr 7 (.tmp 124)), none⟩, .pure⟩,
      ⟨⟨none, .op (.store 1 (.tmp 125) (.val (.bool true))), none⟩, .act true⟩,
      ⟨⟨(some 126), .op (.nilCheck (.tmp 116)), none⟩, .pure⟩,
      ⟨⟨(some 127), .op (.fieldAddr 8 (.tmp 126)), none⟩, .pure⟩,
      ⟨⟨none, .op (.store 1 (.tmp 127) (.tmp 123)), none⟩, .act true⟩])
    (.region [⟨(some 128), .op (.mov (.tmp 0)), none⟩,
     ⟨(some 129), .op (.mov (.tmp 1)), none⟩,
     ⟨(some 130), .call (.fnv 77) [(.tmp 128), (.tmp 129)], none⟩]))
   (.seq (.region [⟨(some 132), .op (.bin .eql (.tmp 11) (.val (.int .i64 39))), none⟩,
     ⟨(some 131), .op (.mov (.tmp 132)), none⟩])
   (.cond (.tmp 131) (.draw [⟨⟨(some 133), .op (.mov (.tmp 0)), none⟩, .pure⟩,
     ⟨⟨(some 134), .op (.mov (.tmp 2)), none⟩, .pure⟩,
     ⟨⟨(some 135), .op (.nilCheck (.tmp 134)), none⟩, .pure⟩,
     ⟨⟨(some 136), .op (.fieldAddr 3 (.tmp 135)), none⟩, .pure⟩,
     ⟨⟨(some 137), .op (.load none (.tmp 136)), none⟩, .read []⟩,
     ⟨⟨(some 138), .op (.fieldAddr 1 (.tmp 7)), none⟩, .pure⟩,
     ⟨⟨(some 139), .op (.load none (.tmp 138)), none⟩, .read []⟩,
     ⟨⟨(some 140), .op (.idxS 1 (.tmp 137) (.tmp 139)), none⟩, .read []⟩,
     ⟨⟨(some 141), .op (.load none (.tmp 140)), none⟩, .read []⟩,
     ⟨⟨(some 142), .op (.conv .i64 (.tmp 141)), none⟩, .pure⟩,
     ⟨⟨(some 143), .call (.fnv 33) [(.tmp 133), (.tmp 142)], none⟩, .act true⟩])
   (.seq (.region [⟨(some 145), .op (.bin .eql (.tmp 11) (.val (.int .i64 40))), none⟩,
     ⟨(some 144), .op (.mov (.tmp 145)), none⟩])
   (.cond (.tmp 144) (.seq (.draw [⟨⟨(some 146), .op (.mov (.tmp 2)), none⟩, .pure⟩,
      ⟨⟨(some 147), .op (.nilCheck (.tmp 146)), none⟩, .pure⟩,
      ⟨⟨(some 148), .op (.fieldAddr 3 (.tmp 147)), none⟩, .pure⟩,
      ⟨⟨(some 149), .op (.load none (.tmp 148)), none⟩, .read []⟩,
      ⟨⟨(some 150), .op (.fieldAddr 1 (.tmp 7)), none⟩, .pure⟩,
      ⟨⟨(some 151), .op (.load none (.tmp 150)), none⟩, .read []⟩,
      ⟨⟨(some 152), .op (.mov (.tmp 2)), none⟩, .pure⟩,
      ⟨⟨(some 153), .op (.nilCheck (.tmp 152)), none⟩, .pure⟩,
      ⟨⟨(some 154), .op (.fieldAddr 3 (.tmp 153)), none⟩, .pure⟩,
      ⟨⟨(some 155), .op (.load none (.tmp 154)), none⟩, .read []⟩,
      ⟨⟨(some 156), .op (.fieldAddr 2 (.tmp 7)), none⟩, .pure⟩,
      ⟨⟨(some 157), .op (.load none (.tmp 156)), none⟩, .read [15]⟩,
      ⟨⟨(some 158), .op (.idxS 1 (.tmp 149) (.tmp 151)), none⟩, .read []⟩,
      ⟨⟨none, .op (.store 1 (.tmp 158) (.val (.int .u64 0))), none⟩, .act true⟩,
      ⟨⟨(some 159), .op (.idxS 1 (.tmp 155) (.tmp 157)), none⟩, .read []⟩,
      ⟨⟨none, .op (.store 1 (.tmp 159) (.val (.int .u64 0))), none⟩, .act true⟩])
    (.seq (.region [⟨(some 160), .op (.mov (.tmp 2)), none⟩,
      ⟨(some 161), .op (.nilCheck (.tmp 160)), none⟩,
      ⟨(some 162), .op (.fieldAddr 6 (.tmp 161)), none⟩,
      ⟨(some 163), .op (.load none (.tmp 162)), none⟩,
      ⟨(some 164), .op (.bin .eql (.tmp 163) (.val (.int .i64 2))), none⟩,
      ⟨(some 165), .op (.mov (.tmp 164)), none⟩,
      ⟨(some 166), .op (.mov (.tmp 1)), (some (165, true))⟩,
      ⟨(some 167), .op (.nilCheck (.tmp 166)), (some (165, true))⟩,
      ⟨(some 168), .op (.fieldAddr 5 (.tmp 167)), (some (165, true))⟩,
      ⟨(some 169), .op (.load none (.tmp 168)), (some (165, true))⟩,
      ⟨(some 170), .op (.pick (.tmp 165) (.tmp 169) (.val (.bool false))), none⟩])
    (.cond (.tmp 170) (.seq (.draw [⟨⟨(some 171), .op (.mov (.tmp 2)), none⟩, .pure⟩,
       ⟨⟨(some 172), .op (.nilCheck (.tmp 171)), none⟩, .pure⟩,
       ⟨⟨(some 173), .op (.fieldAddr 3 (.tmp 172)), none⟩, .pure⟩,
       ⟨⟨(some 174), .op (.load none (.tmp 173)), none⟩, .read []⟩,
       ⟨⟨(some 175), .op (.fieldAddr 1 (.tmp 7)), none⟩, .pure⟩,
       ⟨⟨(some 176), .op (.load none (.tmp 175)), none⟩, .read []⟩,
       ⟨⟨(some 177), .op (.mov (.tmp 2)), none⟩, .pure⟩,
       ⟨⟨(some 178), .op (.nilCheck (.tmp 177)), none⟩, .pure⟩,
       ⟨⟨(some 179), .op (.fieldAddr 3 (.tmp 178)), none⟩, .pure⟩,
       ⟨⟨(some 180), .op (.load none (.tmp 179)), none⟩, .read []⟩,
       ⟨⟨(some 181), .op (.fieldAddr 2 (.tmp 7)), none⟩, .pure⟩,
       ⟨⟨(some 182), .op (.load none (.tmp 181)), none⟩, .read [20]⟩,
       ⟨⟨(some 183), .op (.mov (.tmp 1)), none⟩, .pure⟩,
       ⟨⟨(some 184), .op (.nilCheck (.tmp 183)), none⟩, .pure⟩,
       ⟨⟨(some 185), .op (.fieldAddr 6 (.tmp 184)), none⟩, .pure⟩,
       ⟨⟨(some 186), .op (.load none (.tmp 185)), none⟩, .read []⟩,
       ⟨⟨(some 187), .op (.conv .u64 (.tmp 186)), none⟩, .pure⟩,
       ⟨⟨(some 188), .op (.idxS 1 (.tmp 174) (.tmp 176)), none⟩, .read []⟩,
       ⟨⟨none, .op (.store 1 (.tmp 188) (.tmp 187)), none⟩, .act true⟩,
       ⟨⟨(some 189), .op (.idxS 1 (.tmp 180) (.tmp 182)), none⟩, .read []⟩,
       ⟨⟨none, .op (.store 1 (.tmp 189) (.val (.int .u64 1))), none⟩, .act true⟩])
     (.region [⟨(some 190), .op (.mov (.tmp 1)), none⟩,
      ⟨(some 191), .op (.nilCheck (.tmp 190)), none⟩,
      ⟨(some 192), .op (.fieldAddr 5 (.tmp 191)), none⟩,
      ⟨none, .op (.store 1 (.tmp 192) (.val (.bool false))), none⟩]))
    (.skip))))
   (.skip))))))))))))))),
  [], none, none⟩
def A58 : AFun := ⟨.seq (.region [⟨(some 8), .op (.box (.tmp 3)), none⟩])
  (.seq (.region [⟨(some 15), .op (.mov (.tmp 2)), none⟩,
    ⟨(some 16), .op (.nilCheck (.tmp 15)), none⟩,
    ⟨(some 17), .op (.fieldAddr 3 (.tmp 16)), none⟩,
    ⟨(some 18), .op (.load none (.tmp 17)), none⟩,
    ⟨(some 10), .op (.mov (.tmp 18)), none⟩])
  (.seq (.region [⟨(some 19), .op (.fieldAddr 0 (.tmp 8)), none⟩,
    ⟨(some 20), .op (.load none (.tmp 19)), none⟩])
  (.block 0 (.seq (.region [⟨(some 22), .op (.bin .eql (.tmp 20) (.val (.int .i64 41))), none⟩,
     ⟨(some 21), .op (.mov (.tmp 22)), none⟩])
   (.cond (.tmp 21) (.seq (.region [⟨(some 24), .op (.fieldAddr 4 (.tmp 8)), none⟩,
      ⟨(some 25), .op (.load none (.tmp 24)), none⟩,
      ⟨(some 26), .op (.conv .i64 (.tmp 25)), none⟩,
      ⟨(some 27), .call (.fnv 78) [(.tmp 26)], none⟩,
      ⟨(some 23), .op (.mov (.tmp 27)), none⟩,
      ⟨(some 28), .op (.extract (.tmp 23) 0), none⟩,
      ⟨(some 29), .op (.extract (.tmp 23) 1), none⟩,
      ⟨(some 11), .op (.mov (.tmp 28)), none⟩,
      ⟨(some 12), .op (.mov (.tmp 29)), none⟩])
    (.draw [⟨⟨(some 30), .op (.mov (.tmp 10)), none⟩, .pure⟩,
     ⟨⟨(some 31), .op (.fieldAddr 1 (.tmp 8)), none⟩, .pure⟩,
     ⟨⟨(some 32), .op (.load none (.tmp 31)), none⟩, .read [27, 29]⟩,
     ⟨⟨(some 33), .op (.mov (.tmp 0)), none⟩, .pure⟩,
     ⟨⟨(some 34), .op (.mov (.tmp 0)), none⟩, .pure⟩,
     ⟨⟨(some 35), .op (.nilCheck (.tmp 34)), none⟩, .pure⟩,
     ⟨⟨(some 36), .op (.fieldAddr 0 (.tmp 35)), none⟩, .pure⟩,
     ⟨⟨(some 37), .op (.fieldAddr 2 (.tmp 36)), none⟩, .pure⟩,
     ⟨⟨(some 38), .op (.load none (.tmp 37)), none⟩, .read [27]⟩,
     ⟨⟨(some 39), .op (.mov (.tmp 2)), none⟩, .pure⟩,
     ⟨⟨(some 40), .op (.nilCheck (.tmp 39)), none⟩, .pure⟩,
     ⟨⟨(some 41), .op (.fieldAddr 0 (.tmp 40)), none⟩, .pure⟩,
     ⟨⟨(some 42), .op (.load none (.tmp 41)), none⟩, .read [27]⟩,
     ⟨⟨(some 43), .op (.idxS 4 (.tmp 38) (.tmp 42)), none⟩, .read [27]⟩,
     ⟨⟨(some 44), .op (.fieldAddr 1 (.tmp 43)), none⟩, .pure⟩,
     ⟨⟨(some 45), .op (.load none (.tmp 44)), none⟩, .read [27]⟩,
     ⟨⟨(some 46), .op (.fieldAddr 1 (.tmp 8)), none⟩, .pure⟩,
     ⟨⟨(some 47), .op (.load none (.tmp 46)), none⟩, .read [27]⟩,
     ⟨⟨(some 48), .op (.idxS 1 (.tmp 45) (.tmp 47)), none⟩, .read [27]⟩,
     ⟨⟨(some 49), .op (.load none (.tmp 48)), none⟩, .read [27]⟩,
     ⟨⟨(some 50), .op (.fieldAddr 4 (.tmp 8)), none⟩, .pure⟩,
     ⟨⟨(some 51), .op (.load none (.tmp 50)), none⟩, .read []⟩,
     ⟨⟨(some 52), .op (.conv .i64 (.tmp 51)), none⟩, .pure⟩,
     ⟨⟨(some 53), .op (.bin .add (.tmp 52) (.val (.int .i64 2))), none⟩, .pure⟩,
     ⟨⟨(some 54), .op (.mkSlice 1 8 [(.int .u64 0)] (.tmp 53)), none⟩, .act false⟩,
     ⟨⟨(some 55), .op (.mov (.tmp 11)), none⟩, .pure⟩,
     ⟨⟨(some 56), .op (.build [(.int .i64 0), .nils, .nilp] [(0, 1, (.tmp 49)), (1, 1, (.tmp 54)), (2, 1, (.tmp 55))]), none⟩, .pure⟩,
     ⟨⟨(some 57), .call (.fnv 75) [(.tmp 33), (.tmp 56)], none⟩, .act true⟩,
     ⟨⟨(some 58), .op (.idxS 1 (.tmp 30) (.tmp 32)), none⟩, .read []⟩,
     ⟨⟨none, .op (.store 1 (.tmp 58) (.tmp 57)), none⟩, .act true⟩]))
   (.seq (.region [⟨(some 60), .op (.bin .eql (.tmp 20) (.val (.int .i64 44))), none⟩,
     ⟨(some 59), .op (.mov (.tmp 60)), none⟩])
   (.cond (.tmp 59) (.region [⟨(some 61), .op (.mov (.tmp 0)), none⟩,
     ⟨(some 62), .op (.mov (.tmp 10)), none⟩,
     ⟨(some 63), .op (.fieldAddr 1 (.tmp 8)), none⟩,
     ⟨(some 64), .op (.load none (.tmp 63)), none⟩,
     ⟨(some 65), .op (.idxS 1 (.tmp 62) (.tmp 64)), none⟩,
     ⟨(some 66), .op (.load none (.tmp 65)), none⟩,
     ⟨(some 67), .call (.fnv 79) [(.tmp 61), (.tmp 66)], none⟩])
   (.seq (.region [⟨(some 69), .op (.bin .eql (.tmp 20) (.val (.int .i64 42))), none⟩,
     ⟨(some 68), .op (.mov (.tmp 69)), none⟩])
   (.cond (.tmp 68) (.seq (.region [⟨(some 70), .op (.mov (.tmp 0)), none⟩,
      ⟨(some 71), .op (.mov (.tmp 10)), none⟩,
      ⟨(some 72), .op (.fieldAddr 1 (.tmp 8)), none⟩,
      ⟨(some 73), .op (.load none (.tmp 72)), none⟩,
      ⟨(some 74), .op (.idxS 1 (.tmp 71) (.tmp 73)), none⟩,
      ⟨(some 75), .op (.load none (.tmp 74)), none⟩,
      ⟨(some 76), .call (.fnv 80) [(.tmp 70), (.tmp 75)], none⟩,
      ⟨(some 13), .op (.mov (.tmp 76)), none⟩])
    (.seq (.draw [⟨⟨(some 77), .op (.mov (.tmp 13)), none⟩, .pure⟩,
      ⟨⟨(some 78), .op (.eql false .ptr (.tmp 77) (.val .nilp)), none⟩, .pure⟩,
      ⟨⟨(some 79), .op (.mov (.tmp 78)), none⟩, .pure⟩,
      ⟨⟨(some 80), .op (.mov (.tmp 0)), (some (79, false))⟩, .pure⟩,
      ⟨⟨(some 81), .op (.mov (.tmp 13)), (some (79, false))⟩, .pure⟩,
      ⟨⟨(some 82), .op (.mov (.tmp 0)), (some (79, false))⟩, .pure⟩,
      ⟨⟨(some 83), .op (.nilCheck (.tmp 82)), (some (79, false))⟩, .pure⟩,
      ⟨⟨(some 84), .op (.fieldAddr 9 (.tmp 83)), (some (79, false))⟩, .pure⟩,
      ⟨⟨(some 85), .op (.load none (.tmp 84)), (some (79, false))⟩, .read []⟩,
      ⟨⟨(some 86), .call (.fnv 82) [(.tmp 85), (.val (.int .i64 (-1)))], (some (79, false))⟩, .act false⟩,
      ⟨⟨(some 87), .op (.mov (.tmp 10)), (some (79, false))⟩, .pure⟩,
      ⟨⟨(some 88), .op (.fieldAddr 2 (.tmp 8)), (some (79, false))⟩, .pure⟩,
      ⟨⟨(some 89), .op (.load none (.tmp 88)), (some (79, false))⟩, .read [9]⟩,
      ⟨⟨(some 90), .op (.idxS 1 (.tmp 87) (.tmp 89)), (some (79, false))⟩, .read [9]⟩,
      ⟨⟨(some 91), .op (.load none (.tmp 90)), (some (79, false))⟩, .read [9]⟩,
      ⟨⟨(some 92), .call (.fnv 81) [(.tmp 80), (.tmp 81), (.tmp 86), (.tmp 91), (.val (.bool true))], (some (79, false))⟩, .act true⟩,
      ⟨⟨(some 93), .op (.un .not (.tmp 92)), (some (79, false))⟩, .pure⟩,
      ⟨⟨(some 94), .op (.pick (.tmp 79) (.val (.bool true)) (.tmp 93)), none⟩, .pure⟩])
    (.cond (.tmp 94) (.region [⟨(some 95), .op (.mov (.tmp 1)), none⟩,
      ⟨(some 96), .op (.nilCheck (.tmp 95)), none⟩,
      ⟨(some 97), .op (.fieldAddr 0 (.tmp 96)), none⟩,
      ⟨none, .op (.store 1 (.tmp 97) (.val (.int .i64 2))), none⟩])
    (.skip))))
   (.seq (.region [⟨(some 99), .op (.bin .eql (.tmp 20) (.val (.int .i64 43))), none⟩,
     ⟨(some 98), .op (.mov (.tmp 99)), none⟩])
   (.cond (.tmp 98) (.seq (.region [⟨(some 100), .op (.mov (.tmp 0)), none⟩,
      ⟨(some 101), .op (.mov (.tmp 10)), none⟩,
      ⟨(some 102), .op (.fieldAddr 2 (.tmp 8)), none⟩,
      ⟨(some 103), .op (.load none (.tmp 102)), none⟩,
      ⟨(some 104), .op (.idxS 1 (.tmp 101) (.tmp 103)), none⟩,
      ⟨(some 105), .op (.load none (.tmp 104)), none⟩,
      ⟨(some 106), .call (.fnv 80) [(.tmp 100), (.tmp 105)], none⟩,
      ⟨(some 14), .op (.mov (.tmp 106)), none⟩])
    (.seq (.draw [⟨⟨(some 107), .op (.mov (.tmp 14)), none⟩, .pure⟩,
      ⟨⟨(some 108), .op (.eql false .ptr (.tmp 107) (.val .nilp)), none⟩, .pure⟩,
      ⟨⟨(some 109), .op (.mov (.tmp 108)), none⟩, .pure⟩,
      ⟨⟨(some 110), .op (.mov (.tmp 0)), (some (109, false))⟩, .pure⟩,
      ⟨⟨(some 111), .op (.mov (.tmp 14)), (some (109, false))⟩, .pure⟩,
      ⟨⟨(some 112), .op (.mov (.tmp 0)), (some (109, false))⟩, .pure⟩,
      ⟨⟨(some 113), .op (.nilCheck (.tmp 112)), (some (109, false))⟩, .pure⟩,
      ⟨⟨(some 114), .op (.fieldAddr 9 (.tmp 113)), (some (109, false))⟩, .pure⟩,
      ⟨⟨(some 115), .op (.load none (.tmp 114)), (some (109, false))⟩, .read []⟩,
      ⟨⟨(some 116), .call (.fnv 82) [(.tmp 115), (.val (.int .i64 (-1)))], (some (109, false))⟩, .act false⟩,
      ⟨⟨(some 117), .op (.mov (.tmp 10)), (some (109, false))⟩, .pure⟩,
      ⟨⟨(some 118), .op (.fieldAddr 1 (.tmp 8)), (some (109, false))⟩, .pure⟩,
      ⟨⟨(some 119), .op (.load none (.tmp 118)), (some (109, false))⟩, .read [9]⟩,
      ⟨⟨(some 120), .op (.fieldAddr 3 (.tmp 8)), (some (109, false))⟩, .pure⟩,
      ⟨⟨(some 121), .op (.load none (.tmp 120)), (some (109, false))⟩, .read [9]⟩,
      ⟨⟨(some 122), .call (.fnv 83) [(.tmp 110), (.tmp 111), (.tmp 116), (.tmp 117), (.tmp 119), (.tmp 121), (.val (.bool true))], (some (109, false))⟩, .act true⟩,
      ⟨⟨(some 123), .op (.un .not (.tmp 122)), (some (109, false))⟩, .pure⟩,
      ⟨⟨(some 124), .op (.pick (.tmp 109) (.val (.bool true)) (.tmp 123)), none⟩, .pure⟩])
    (.cond (.tmp 124) (.region [⟨(some 125), .op (.mov (.tmp 1)), none⟩,
      ⟨(some 126), .op (.nilCheck (.tmp 125)), none⟩,
      ⟨(some 127), .op (.fieldAddr 0 (.tmp 126)), none⟩,
      ⟨none, .op (.store 1 (.tmp 127) (.val (.int .i64 2))), none⟩])
    (.skip))))
   (.seq (.region [⟨(some 129), .op (.bin .eql (.tmp 20) (.val (.int .i64 45))), none⟩,
     ⟨(some 128), .op (.mov (.tmp 129)), none⟩])
   (.cond (.tmp 128) (.region [⟨(some 130), .op (.mov (.tmp 0)), none⟩,
     ⟨(some 131), .op (.mov (.tmp 1)), none⟩,
     ⟨(some 132), .op (.mov (.tmp 10)), none⟩,
     ⟨(some 133), .op (.load (some 6) (.tmp 8)), none⟩,
     ⟨(some 134), .op (.mov (.tmp 4)), none⟩,
     ⟨(some 135), .call (.fnv 84) [(.tmp 130), (.tmp 131), (.tmp 132), (.tmp 133), (.tmp 134)], none⟩])
   (.skip)))))))))))))),
  [], none, none⟩
def A59 : AFun := ⟨.seq (.region [⟨(some 2), .op (.mov (.val .nils)), none⟩])
  (.seq (.seq (.region [⟨(some 6), .op (.mov (.tmp 0)), none⟩,
     ⟨(some 7), .op (.eql false .ptr (.tmp 6) (.val .nilp)), none⟩])
   (.cond (.tmp 7) (.seq (.region [⟨(some 2), .op (.mov (.val .nils)), none⟩])
    (.ret))
   (.skip)))
  (.seq (.region [⟨(some 8), .op (.mov (.tmp 0)), none⟩,
    ⟨(some 9), .op (.nilCheck (.tmp 8)), none⟩,
    ⟨(some 10), .op (.fieldAddr 0 (.tmp 9)), none⟩,
    ⟨(some 11), .op (.load none (.tmp 10)), none⟩,
    ⟨(some 12), .op (.append 1 8 (.val .nils) (.tmp 11)), none⟩,
    ⟨(some 3), .op (.mov (.tmp 12)), none⟩])
  (.seq (.seq (.region [⟨(some 13), .op (.mov (.tmp 0)), none⟩,
     ⟨(some 14), .op (.nilCheck (.tmp 13)), none⟩,
     ⟨(some 15), .op (.fieldAddr 3 (.tmp 14)), none⟩,
     ⟨(some 16), .op (.load none (.tmp 15)), none⟩,
     ⟨(some 17), .op (.lenS (.tmp 16)), none⟩,
     ⟨(some 18), .op (.mov (.val (.int .i64 0))), none⟩])
   (.block 0 (.loop (.seq (.region [⟨(some 19), .op (.bin .lss (.tmp 18) (.tmp 17)), none⟩])
     (.seq (.cond (.tmp 19) (.skip)
      (.exit 0))
     (.seq (.block 1 (.seq (.region [⟨(some 20), .op (.idxS 2 (.tmp 16) (.tmp 18)), none⟩,
         ⟨(some 21), .op (.load (some 2) (.tmp 20)), none⟩,
         ⟨(some 5), .op (.alloc [(.int .i64 0), (.int .u64 0)]), none⟩,
         ⟨none, .op (.store 2 (.tmp 5) (.tmp 21)), none⟩])
       (.region [⟨(some 22), .op (.mov (.tmp 3)), none⟩,
        ⟨(some 23), .op (.fieldAddr 1 (.tmp 5)), none⟩,
        ⟨(some 24), .op (.load none (.tmp 23)), none⟩,
        ⟨(some 25), .op (.buildSlice 1 1 [(.int .u64 0)] [(0, (.tmp 24))]), none⟩,
        ⟨(some 26), .op (.append 1 8 (.tmp 22) (.tmp 25)), none⟩,
        ⟨(some 3), .op (.mov (.tmp 26)), none⟩])))
     (.region [⟨(some 27), .op (.bin .add (.tmp 18) (.val (.int .i64 1))), none⟩,
      ⟨(some 18), .op (.mov (.tmp 27)), none⟩])))))))
  (.seq (.region [⟨(some 28), .op (.mov (.tmp 3)), none⟩,
    ⟨(some 2), .op (.mov (.tmp 28)), none⟩])
  (.ret))))),
  [.tmp 2], none, none⟩
def A60 : AFun := ⟨.seq (.region [⟨(some 4), .op (.mov (.val (.bool false))), none⟩])
  (.seq (.block 0 (.seq (.region [⟨(some 7), .op (.mov (.tmp 1)), none⟩,
      ⟨(some 8), .op (.bin .eql (.tmp 7) (.val (.int .i64 0))), none⟩,
      ⟨(some 9), .op (.mov (.tmp 8)), none⟩,
      ⟨(some 10), .op (.mov (.tmp 1)), (some (9, false))⟩,
      ⟨(some 11), .op (.bin .eql (.tmp 10) (.val (.int .i64 1))), (some (9, false))⟩,
      ⟨(some 12), .op (.pick (.tmp 9) (.val (.bool true)) (.tmp 11)), none⟩,
      ⟨(some 6), .op (.mov (.tmp 12)), none⟩])
    (.cond (.tmp 6) (.seq (.region [⟨(some 4), .op (.mov (.val (.bool true))), none⟩])
     (.ret))
    (.seq (.region [⟨(some 14), .op (.mov (.tmp 1)), none⟩,
      ⟨(some 15), .op (.bin .geq (.tmp 14) (.val (.int .i64 16))), none⟩,
      ⟨(some 16), .op (.mov (.tmp 15)), none⟩,
      ⟨(some 17), .op (.mov (.tmp 1)), (some (16, true))⟩,
      ⟨(some 18), .op (.bin .lss (.tmp 17) (.val (.int .i64 64))), (some (16, true))⟩,
      ⟨(some 19), .op (.pick (.tmp 16) (.tmp 18) (.val (.bool false))), none⟩,
      ⟨(some 13), .op (.mov (.tmp 19)), none⟩])
    (.cond (.tmp 13) (.seq (.region [⟨(some 20), .op (.mov (.tmp 1)), none⟩,
       ⟨(some 21), .op (.bin .sub (.tmp 20) (.val (.int .i64 16))), none⟩,
       ⟨(some 22), .op (.mov (.tmp 0)), none⟩,
       ⟨(some 23), .op (.nilCheck (.tmp 22)), none⟩,
       ⟨(some 24), .op (.fieldAddr 0 (.tmp 23)), none⟩,
       ⟨(some 25), .op (.fieldAddr 0 (.tmp 24)), none⟩,
       ⟨(some 26), .op (.load none (.tmp 25)), none⟩,
       ⟨(some 27), .op (.lenS (.tmp 26)), none⟩,
       ⟨(some 28), .op (.bin .lss (.tmp 21) (.tmp 27)), none⟩,
       ⟨(some 4), .op (.mov (.tmp 28)), none⟩])
     (.ret))
    (.seq (.region [⟨(some 30), .op (.mov (.tmp 1)), none⟩,
      ⟨(some 31), .op (.bin .geq (.tmp 30) (.val (.int .i64 64))), none⟩,
      ⟨(some 29), .op (.mov (.tmp 31)), none⟩])
    (.cond (.tmp 29) (.seq (.region [⟨(some 32), .op (.mov (.tmp 1)), none⟩,
       ⟨(some 33), .op (.bin .sub (.tmp 32) (.val (.int .i64 64))), none⟩,
       ⟨(some 5), .op (.mov (.tmp 33)), none⟩])
     (.seq (.region [⟨(some 34), .op (.mov (.tmp 5)), none⟩,
       ⟨(some 35), .op (.bin .lss (.tmp 34) (.val (.int .i64 64))), none⟩,
       ⟨(some 36), .op (.mov (.tmp 35)), none⟩,
       ⟨(some 37), .op (.mov (.tmp 0)), (some (36, true))⟩,
       ⟨(some 38), .op (.mov (.tmp 5)), (some (36, true))⟩,
       ⟨(some 39), .call (.fnv 60) [(.tmp 37), (.tmp 38)], (some (36, true))⟩,
       ⟨(some 40), .op (.pick (.tmp 36) (.tmp 39) (.val (.bool false))), none⟩,
       ⟨(some 4), .op (.mov (.tmp 40)), none⟩])
     (.ret)))
    (.skip))))))))
  (.seq (.region [⟨(some 4), .op (.mov (.val (.bool false))), none⟩])
  (.ret))),
  [.tmp 4], none, none⟩
def A61 : AFun := ⟨.seq (.region [⟨(some 8), .op (.mov (.val (.int .i64 0))), none⟩])
  (.seq (.region [⟨(some 10), .op (.mov (.tmp 0)), none⟩,
    ⟨(some 11), .op (.nilCheck (.tmp 10)), none⟩,
    ⟨(some 12), .op (.fieldAddr 8 (.tmp 11)), none⟩,
    ⟨(some 13), .op (.load (some 6) (.tmp 12)), none⟩,
    ⟨(some 9), .op (.alloc [(.int .i64 0), (.int .i64 0), (.int .i64 0), (.int .i64 0), (.int .u64 0), .nils]), none⟩,
    ⟨none, .op (.store 6 (.tmp 9) (.tmp 13)), none⟩])
  (.seq (.seq (.region [⟨(some 14), .op (.mov (.tmp 1)), none⟩,
     ⟨(some 15), .op (.bin .lss (.tmp 14) (.val (.int .i64 1))), none⟩,
     ⟨(some 16), .op (.mov (.tmp 15)), none⟩,
     ⟨(some 17), .op (.fieldAddr 1 (.tmp 9)), (some (16, true))⟩,
     ⟨(some 18), .op (.load none (.tmp 17)), (some (16, true))⟩,
     ⟨(some 19), .op (.bin .neq (.tmp 18) (.val (.int .i64 0))), (some (16, true))⟩,
     ⟨(some 20), .op (.pick (.tmp 16) (.tmp 19) (.val (.bool false))), none⟩,
     ⟨(some 21), .op (.mov (.tmp 20)), none⟩,
     ⟨(some 22), .op (.mov (.tmp 1)), (some (21, false))⟩,
     ⟨(some 23), .op (.bin .lss (.tmp 22) (.val (.int .i64 2))), (some (21, false))⟩,
     ⟨(some 24), .op (.mov (.tmp 23)), (some (21, false))⟩,
     ⟨(some 25), .op (.fieldAddr 2 (.tmp 9)), (some (24, true))⟩,
     ⟨(some 26), .op (.load none (.tmp 25)), (some (24, true))⟩,
     ⟨(some 27), .op (.bin .neq (.tmp 26) (.val (.int .i64 0))), (some (24, true))⟩,
     ⟨(some 28), .op (.pick (.tmp 24) (.tmp 27) (.val (.bool false))), (some (21, false))⟩,
     ⟨(some 29), .op (.pick (.tmp 21) (.val (.bool true)) (.tmp 28)), none⟩,
     ⟨(some 30), .op (.mov (.tmp 29)), none⟩,
     ⟨(some 31), .op (.mov (.tmp 1)), (some (30, false))⟩,
     ⟨(some 32), .op (.bin .lss (.tmp 31) (.val (.int .i64 3))), (some (30, false))⟩,
     ⟨(some 33), .op (.mov (.tmp 32)), (some (30, false))⟩,
     ⟨(some 34), .op (.fieldAddr 3 (.tmp 9)), (some (33, true))⟩,
     ⟨(some 35), .op (.load none (.tmp 34)), (some (33, true))⟩,
     ⟨(some 36), .op (.bin .neq (.tmp 35) (.val (.int .i64 0))), (some (33, true))⟩,
     ⟨(some 37), .op (.pick (.tmp 33) (.tmp 36) (.val (.bool false))), (some (30, false))⟩,
     ⟨(some 38), .op (.pick (.tmp 30) (.val (.bool true)) (.tmp 37)), none⟩,
     ⟨(some 39), .op (.mov (.tmp 38)), none⟩,
     ⟨(some 40), .op (.mov (.tmp 2)), (some (39, false))⟩,
     ⟨(some 41), .op (.un .not (.tmp 40)), (some (39, false))⟩,
     ⟨(some 42), .op (.mov (.tmp 41)), (some (39, false))⟩,
     ⟨(some 43), .op (.fieldAddr 4 (.tmp 9)), (some (42, true))⟩,
     ⟨(some 44), .op (.load none (.tmp 43)), (some (42, true))⟩,
     ⟨(some 45), .op (.bin .neq (.tmp 44) (.val (.int .u64 0))), (some (42, true))⟩,
     ⟨(some 46), .op (.pick (.tmp 42) (.tmp 45) (.val (.bool false))), (some (39, false))⟩,
     ⟨(some 47), .op (.pick (.tmp 39) (.val (.bool true)) (.tmp 46)), none⟩,
     ⟨(some 48), .op (.mov (.tmp 47)), none⟩,
     ⟨(some 49), .op (.mov (.tmp 3)), (some (48, false))⟩,
     ⟨(some 50), .op (.un .not (.tmp 49)), (some (48, false))⟩,
     ⟨(some 51), .op (.mov (.tmp 50)), (some (48, false))⟩,
     ⟨(some 52), .op (.fieldAddr 5 (.tmp 9)), (some (51, true))⟩,
     ⟨(some 53), .op (.load none (.tmp 52)), (some (51, true))⟩,
     ⟨(some 54), .op (.lenS (.tmp 53)), (some (51, true))⟩,
     ⟨(some 55), .op (.bin .neq (.tmp 54) (.val (.int .i64 0))), (some (51, true))⟩,
     ⟨(some 56), .op (.pick (.tmp 51) (.tmp 55) (.val (.bool false))), (some (48, false))⟩,
     ⟨(some 57), .op (.pick (.tmp 48) (.val (.bool true)) (.tmp 56)), none⟩])
   (.cond (.tmp 57) (.seq (.region [⟨(some 8), .op (.mov (.val (.int .i64 8))), none⟩])
    (.ret))
   (.skip)))
  (.seq (.seq (.region [⟨(some 58), .op (.fieldAddr 5 (.tmp 9)), none⟩,
     ⟨(some 59), .op (.load none (.tmp 58)), none⟩,
     ⟨(some 60), .op (.lenS (.tmp 59)), none⟩,
     ⟨(some 61), .op (.bin .gtr (.tmp 60) (.val (.int .i64 24))), none⟩])
   (.cond (.tmp 61) (.seq (.region [⟨(some 8), .op (.mov (.val (.int .i64 16))), none⟩])
    (.ret))
   (.skip)))
  (.seq (.region [⟨(some 8), .op (.mov (.val (.int .i64 0))), none⟩])
  (.ret))))),
  [.tmp 8], none, none⟩
def A62 : AFun := ⟨.seq (.region [⟨(some 2), .op (.mov (.val (.int .i64 0))), none⟩,
    ⟨(some 3), .op (.mov (.val (.bool false))), none⟩,
    ⟨(some 4), .op (.mov (.val (.bool false))), none⟩])
  (.seq (.seq (.region [⟨(some 5), .op (.mov (.tmp 0)), none⟩])
   (.block 0 (.seq (.seq (.region [⟨(some 7), .op (.bin .eql (.tmp 5) (.val (.int .i64 1))), none⟩,
       ⟨(some 6), .op (.mov (.tmp 7)), none⟩])
     (.cond (.tmp 6) (.skip)
     (.region [⟨(some 8), .op (.bin .eql (.tmp 5) (.val (.int .i64 41))), none⟩,
      ⟨(some 6), .op (.mov (.tmp 8)), none⟩])))
    (.cond (.tmp 6) (.seq (.region [⟨(some 2), .op (.mov (.val (.int .i64 1))), none⟩,
       ⟨(some 3), .op (.mov (.val (.bool true))), none⟩,
       ⟨(some 4), .op (.mov (.val (.bool false))), none⟩])
     (.ret))
    (.seq (.region [⟨(some 10), .op (.bin .eql (.tmp 5) (.val (.int .i64 36))), none⟩,
      ⟨(some 9), .op (.mov (.tmp 10)), none⟩])
    (.cond (.tmp 9) (.seq (.region [⟨(some 2), .op (.mov (.val (.int .i64 0))), none⟩,
       ⟨(some 3), .op (.mov (.val (.bool false))), none⟩,
       ⟨(some 4), .op (.mov (.val (.bool true))), none⟩])
     (.ret))
    (.seq (.seq (.region [⟨(some 12), .op (.bin .eql (.tmp 5) (.val (.int .i64 35))), none⟩,
       ⟨(some 11), .op (.mov (.tmp 12)), none⟩])
     (.cond (.tmp 11) (.skip)
     (.seq (.region [⟨(some 13), .op (.bin .eql (.tmp 5) (.val (.int .i64 37))), none⟩,
       ⟨(some 11), .op (.mov (.tmp 13)), none⟩])
     (.cond (.tmp 11) (.skip)
     (.region [⟨(some 14), .op (.bin .eql (.tmp 5) (.val (.int .i64 38))), none⟩,
      ⟨(some 11), .op (.mov (.tmp 14)), none⟩])))))
    (.cond (.tmp 11) (.seq (.region [⟨(some 2), .op (.mov (.val (.int .i64 1))), none⟩,
       ⟨(some 3), .op (.mov (.val (.bool false))), none⟩,
       ⟨(some 4), .op (.mov (.val (.bool true))), none⟩])
     (.ret))
    (.seq (.region [⟨(some 16), .op (.bin .eql (.tmp 5) (.val (.int .i64 45))), none⟩,
      ⟨(some 15), .op (.mov (.tmp 16)), none⟩])
    (.cond (.tmp 15) (.seq (.region [⟨(some 2), .op (.mov (.val (.int .i64 2))), none⟩,
       ⟨(some 3), .op (.mov (.val (.bool false))), none⟩,
       ⟨(some 4), .op (.mov (.val (.bool true))), none⟩])
     (.ret))
    (.seq (.region [⟨(some 18), .op (.bin .eql (.tmp 5) (.val (.int .i64 47))), none⟩,
      ⟨(some 17), .op (.mov (.tmp 18)), none⟩])
    (.cond (.tmp 17) (.seq (.region [⟨(some 2), .op (.mov (.val (.int .i64 0))), none⟩,
       ⟨(some 3), .op (.mov (.val (.bool false))), none⟩,
       ⟨(some 4), .op (.mov (.val (.bool false))), none⟩])
     (.ret))
    (.seq (.seq (.region [⟨(some 20), .op (.bin .eql (.tmp 5) (.val (.int .i64 24))), none⟩,
       ⟨(some 19), .op (.mov (.tmp 20)), none⟩])
     (.cond (.tmp 19) (.skip)
     (.seq (.region [⟨(some 21), .op (.bin .eql (.tmp 5) (.val (.int .i64 39))), none⟩,
       ⟨(some 19), .op (.mov (.tmp 21)), none⟩])
     (.cond (.tmp 19) (.skip)
     (.seq (.region [⟨(some 22), .op (.bin .eql (.tmp 5) (.val (.int .i64 44))), none⟩,
       ⟨(some 19), .op (.mov (.tmp 22)), none⟩])
     (.cond (.tmp 19) (.skip)
     (.seq (.region [⟨(some 23), .op (.bin .eql (.tmp 5) (.val (.int .i64 46))), none⟩,
       ⟨(some 19), .op (.mov (.tmp 23)), none⟩])
     (.cond (.tmp 19) (.skip)
     (.seq (.region [⟨(some 24), .op (.bin .eql (.tmp 5) (.val (.int .i64 48))), none⟩,
       ⟨(some 19), .op (.mov (.tmp 24)), none⟩])
     (.cond (.tmp 19) (.skip)
     (.region [⟨(some 25), .op (.bin .eql (.tmp 5) (.val (.int .i64 52))), none⟩,
      ⟨(some 19), .op (.mov (.tmp 25)), none⟩])))))))))))
    (.cond (.tmp 19) (.seq (.region [⟨(some 2), .op (.mov (.val (.int .i64 1))), none⟩,
       ⟨(some 3), .op (.mov (.val (.bool false))), none⟩,
       ⟨(some 4), .op (.mov (.val (.bool false))), none⟩])
     (.ret))
    (.seq (.seq (.region [⟨(some 27), .op (.bin .eql (.tmp 5) (.val (.int .i64 2))), none⟩,
       ⟨(some 26), .op (.mov (.tmp 27)), none⟩])
     (.cond (.tmp 26) (.skip)
     (.seq (.region [⟨(some 28), .op (.bin .eql (.tmp 5) (.val (.int .i64 21))), none⟩,
       ⟨(some 26), .op (.mov (.tmp 28)), none⟩])
     (.cond (.tmp 26) (.skip)
     (.seq (.region [⟨(some 29), .op (.bin .eql (.tmp 5) (.val (.int .i64 22))), none⟩,
       ⟨(some 26), .op (.mov (.tmp 29)), none⟩])
     (.cond (.tmp 26) (.skip)
     (.seq (.region [⟨(some 30), .op (.bin .eql (.tmp 5) (.val (.int .i64 25))), none⟩,
       ⟨(some 26), .op (.mov (.tmp 30)), none⟩])
     (.cond (.tmp 26) (.skip)
     (.seq (.region [⟨(some 31), .op (.bin .eql (.tmp 5) (.val (.int .i64 26))), none⟩,
       ⟨(some 26), .op (.mov (.tmp 31)), none⟩])
     (.cond (.tmp 26) (.skip)
     (.seq (.region [⟨(some 32), .op (.bin .eql (.tmp 5) (.val (.int .i64 28))), none⟩,
       ⟨(some 26), .op (.mov (.tmp 32)), none⟩])
     (.cond (.tmp 26) (.skip)
     (.seq (.region [⟨(some 33), .op (.bin .eql (.tmp 5) (.val (.int .i64 33))), none⟩,
       ⟨(some 26), .op (.mov (.tmp 33)), none⟩])
     (.cond (.tmp 26) (.skip)
     (.seq (.region [⟨(some 34), .op (.bin .eql (.tmp 5) (.val (.int .i64 34))), none⟩,
       ⟨(some 26), .op (.mov (.tmp 34)), none⟩])
     (.cond (.tmp 26) (.skip)
     (.seq (.region [⟨(some 35), .op (.bin .eql (.tmp 5) (.val (.int .i64 40))), none⟩,
       ⟨(some 26), .op (.mov (.tmp 35)), none⟩])
     (.cond (.tmp 26) (.skip)
     (.seq (.region [⟨(some 36), .op (.bin .eql (.tmp 5) (.val (.int .i64 42))), none⟩,
       ⟨(some 26), .op (.mov (.tmp 36)), none⟩])
     (.cond (.tmp 26) (.skip)
     (.seq (.region [⟨(some 37), .op (.bin .eql (.tmp 5) (.val (.int .i64 49))), none⟩,
       ⟨(some 26), .op (.mov (.tmp 37)), none⟩])
     (.cond (.tmp 26) (.skip)
     (.seq (.region [⟨(some 38), .op (.bin .eql (.tmp 5) (.val (.int .i64 50))), none⟩,
       ⟨(some 26), .op (.mov (.tmp 38)), none⟩])
     (.cond (.tmp 26) (.skip)
     (.region [⟨(some 39), .op (.bin .eql (.tmp 5) (.val (.int .i64 51))), none⟩,
      ⟨(some 26), .op (.mov (.tmp 39)), none⟩])))))))))))))))))))))))))
    (.cond (.tmp 26) (.seq (.region [⟨(some 2), .op (.mov (.val (.int .i64 2))), none⟩,
       ⟨(some 3), .op (.mov (.val (.bool false))), none⟩,
       ⟨(some 4), .op (.mov (.val (.bool false))), none⟩])
     (.ret))
    (.skip)))))))))))))))))
  (.seq (.region [⟨(some 2), .op (.mov (.val (.int .i64 3))), none⟩,
    ⟨(some 3), .op (.mov (.val (.bool false))), none⟩,
    ⟨(some 4), .op (.mov (.val (.bool false))), none⟩])
  (.ret))),
  [.tmp 2, .tmp 3, .tmp 4], none, none⟩
def A63 : AFun := ⟨.seq (.region [⟨(some 6), .op (.mov (.val (.int .i64 0))), none⟩])
  (.seq (.region [⟨(some 7), .op (.mov (.val (.int .i64 (-1)))), none⟩])
  (.seq (.seq (.region [⟨(some 16), .op (.mov (.tmp 2)), none⟩,
     ⟨(some 17), .op (.lenS (.tmp 16)), none⟩,
     ⟨(some 18), .op (.mov (.val (.int .i64 0))), none⟩])
   (.block 0 (.loop (.seq (.region [⟨(some 19), .op (.bin .lss (.tmp 18) (.tmp 17)), none⟩])
     (.seq (.cond (.tmp 19) (.skip)
      (.exit 0))
     (.seq (.block 1 (.seq (.region [⟨(some 20), .op (.idxS 1 (.tmp 16) (.tmp 18)), none⟩,
         ⟨(some 21), .op (.load none (.tmp 20)), none⟩,
         ⟨(some 9), .op (.mov (.tmp 21)), none⟩])
       (.seq (.region [⟨(some 23), .op (.mov (.tmp 0)), none⟩,
         ⟨(some 24), .op (.mov (.tmp 9)), none⟩,
         ⟨(some 25), .call (.fnv 85) [(.tmp 23), (.tmp 24)], none⟩,
         ⟨(some 22), .op (.mov (.tmp 25)), none⟩,
         ⟨(some 26), .op (.extract (.tmp 22) 0), none⟩,
         ⟨(some 27), .op (.extract (.tmp 22) 1), none⟩,
         ⟨(some 10), .op (.mov (.tmp 26)), none⟩,
         ⟨(some 11), .op (.mov (.tmp 27)), none⟩])
       (.seq (.region [⟨(some 28), .op (.mov (.tmp 11)), none⟩,
         ⟨(some 29), .op (.un .not (.tmp 28)), none⟩])
       (.cond (.tmp 29) (.seq (.region [⟨(some 6), .op (.mov (.val (.int .i64 11))), none⟩])
        (.ret))
       (.skip))))))
     (.region [⟨(some 30), .op (.bin .add (.tmp 18) (.val (.int .i64 1))), none⟩,
      ⟨(some 18), .op (.mov (.tmp 30)), none⟩])))))))
  (.seq (.seq (.region [⟨(some 31), .op (.mov (.tmp 2)), none⟩,
     ⟨(some 32), .op (.lenS (.tmp 31)), none⟩,
     ⟨(some 33), .op (.mov (.val (.int .i64 0))), none⟩])
   (.block 2 (.loop (.seq (.region [⟨(some 34), .op (.bin .lss (.tmp 33) (.tmp 32)), none⟩])
     (.seq (.cond (.tmp 34) (.skip)
      (.exit 2))
     (.seq (.block 3 (.seq (.region [⟨(some 35), .op (.mov (.tmp 33)), none⟩,
         ⟨(some 36), .op (.idxS 1 (.tmp 31) (.tmp 33)), none⟩,
         ⟨(some 37), .op (.load none (.tmp 36)), none⟩,
         ⟨(some 12), .op (.mov (.tmp 35)), none⟩,
         ⟨(some 13), .op (.mov (.tmp 37)), none⟩])
       (.seq (.region [⟨(some 39), .op (.mov (.tmp 0)), none⟩,
         ⟨(some 40), .op (.mov (.tmp 13)), none⟩,
         ⟨(some 41), .call (.fnv 85) [(.tmp 39), (.tmp 40)], none⟩,
         ⟨(some 38), .op (.mov (.tmp 41)), none⟩,
         ⟨(some 42), .op (.extract (.tmp 38) 0), none⟩,
         ⟨(some 43), .op (.extract (.tmp 38) 1), none⟩,
         ⟨(some 14), .op (.mov (.tmp 42)), none⟩,
         ⟨(some 15), .op (.mov (.tmp 43)), none⟩])
       (.seq (.seq (.region [⟨(some 44), .op (.mov (.tmp 12)), none⟩,
          ⟨(some 45), .op (.bin .eql (.tmp 44) (.val (.int .i64 0))), none⟩])
        (.cond (.tmp 45) (.region [⟨(some 46), .op (.mov (.tmp 14)), none⟩,
          ⟨(some 7), .op (.mov (.tmp 46)), none⟩])
        (.skip)))
       (.seq (.region [⟨(some 47), .op (.mov (.tmp 14)), none⟩,
         ⟨(some 48), .op (.mov (.tmp 7)), none⟩,
         ⟨(some 49), .op (.bin .neq (.tmp 47) (.tmp 48)), none⟩,
         ⟨(some 50), .op (.mov (.tmp 49)), none⟩,
         ⟨(some 51), .op (.mov (.tmp 1)), (some (50, false))⟩,
         ⟨(some 52), .op (.mov (.tmp 14)), (some (50, false))⟩,
         ⟨(some 53), .call (.tmp 51) [(.tmp 52)], (some (50, false))⟩,
         ⟨(some 54), .op (.un .not (.tmp 53)), (some (50, false))⟩,
         ⟨(some 55), .op (.pick (.tmp 50) (.val (.bool true)) (.tmp 54)), none⟩])
       (.cond (.tmp 55) (.seq (.region [⟨(some 6), .op (.mov (.val (.int .i64 10))), none⟩])
        (.ret))
       (.skip)))))))
     (.region [⟨(some 56), .op (.bin .add (.tmp 33) (.val (.int .i64 1))), none⟩,
      ⟨(some 33), .op (.mov (.tmp 56)), none⟩])))))))
  (.seq (.region [⟨(some 6), .op (.mov (.val (.int .i64 0))), none⟩])
  (.ret))))),
  [.tmp 6], none, none⟩
def A64 : AFun := ⟨.seq (.region [⟨(some 2), .op (.mov (.val (.bool false))), none⟩])
  (.seq (.region [⟨(some 3), .op (.mov (.tmp 0)), none⟩,
    ⟨(some 4), .op (.bin .eql (.tmp 3) (.val (.int .i64 0))), none⟩,
    ⟨(some 5), .op (.mov (.tmp 4)), none⟩,
    ⟨(some 6), .op (.mov (.tmp 0)), (some (5, false))⟩,
    ⟨(some 7), .op (.bin .eql (.tmp 6) (.val (.int .i64 1))), (some (5, false))⟩,
    ⟨(some 8), .op (.pick (.tmp 5) (.val (.bool true)) (.tmp 7)), none⟩,
    ⟨(some 2), .op (.mov (.tmp 8)), none⟩])
  (.ret)),
  [.tmp 2], none, none⟩
def A65 : AFun := ⟨.seq (.region [⟨(some 2), .op (.mov (.val (.bool false))), none⟩])
  (.seq (.region [⟨(some 2), .op (.mov (.val (.bool true))), none⟩])
  (.ret)),
  [.tmp 2], none, none⟩
def A66 : AFun := ⟨.seq (.region [⟨(some 4), .op (.mov (.val (.int .i64 0))), none⟩])
  (.seq (.seq (.region [⟨(some 5), .op (.mov (.val (.int .i64 0))), none⟩])
   (.block 0 (.loop (.seq (.seq (.region [⟨(some 11), .op (.mov (.tmp 5)), none⟩,
        ⟨(some 12), .op (.mov (.tmp 1)), none⟩,
        ⟨(some 13), .op (.lenS (.tmp 12)), none⟩,
        ⟨(some 14), .op (.bin .lss (.tmp 11) (.tmp 13)), none⟩])
      (.cond (.tmp 14) (.skip)
      (.exit 0)))
     (.seq (.block 1 (.seq (.region [⟨(some 18), .op (.mov (.tmp 0)), none⟩,
         ⟨(some 19), .op (.mov (.tmp 1)), none⟩,
         ⟨(some 20), .op (.mov (.tmp 5)), none⟩,
         ⟨(some 21), .op (.idxS 1 (.tmp 19) (.tmp 20)), none⟩,
         ⟨(some 22), .op (.load none (.tmp 21)), none⟩,
         ⟨(some 23), .call (.fnv 85) [(.tmp 18), (.tmp 22)], none⟩,
         ⟨(some 17), .op (.mov (.tmp 23)), none⟩,
         ⟨(some 24), .op (.extract (.tmp 17) 0), none⟩,
         ⟨(some 25), .op (.extract (.tmp 17) 1), none⟩,
         ⟨(some 6), .op (.mov (.tmp 24)), none⟩,
         ⟨(some 7), .op (.mov (.tmp 25)), none⟩])
       (.seq (.region [⟨(some 26), .op (.mov (.tmp 7)), none⟩,
         ⟨(some 27), .op (.un .not (.tmp 26)), none⟩])
       (.cond (.tmp 27) (.seq (.region [⟨(some 4), .op (.mov (.val (.int .i64 11))), none⟩])
        (.ret))
       (.skip)))))
     (.region [⟨(some 15), .op (.mov (.tmp 5)), none⟩,
      ⟨(some 16), .op (.bin .add (.tmp 15) (.val (.int .i64 2))), none⟩,
      ⟨(some 5), .op (.mov (.tmp 16)), none⟩]))))))
  (.seq (.seq (.region [⟨(some 8), .op (.mov (.val (.int .i64 0))), none⟩])
   (.block 2 (.loop (.seq (.seq (.region [⟨(some 28), .op (.mov (.tmp 8)), none⟩,
        ⟨(some 29), .op (.mov (.tmp 1)), none⟩,
        ⟨(some 30), .op (.lenS (.tmp 29)), none⟩,
        ⟨(some 31), .op (.bin .lss (.tmp 28) (.tmp 30)), none⟩])
      (.cond (.tmp 31) (.skip)
      (.exit 2)))
     (.seq (.block 3 (.seq (.region [⟨(some 35), .op (.mov (.tmp 0)), none⟩,
         ⟨(some 36), .op (.mov (.tmp 1)), none⟩,
         ⟨(some 37), .op (.mov (.tmp 8)), none⟩,
         ⟨(some 38), .op (.idxS 1 (.tmp 36) (.tmp 37)), none⟩,
         ⟨(some 39), .op (.load none (.tmp 38)), none⟩,
         ⟨(some 40), .call (.fnv 85) [(.tmp 35), (.tmp 39)], none⟩,
         ⟨(some 34), .op (.mov (.tmp 40)), none⟩,
         ⟨(some 41), .op (.extract (.tmp 34) 0), none⟩,
         ⟨(some 42), .op (.extract (.tmp 34) 1), none⟩,
         ⟨(some 9), .op (.mov (.tmp 41)), none⟩,
         ⟨(some 10), .op (.mov (.tmp 42)), none⟩])
       (.seq (.region [⟨(some 43), .op (.mov (.tmp 9)), none⟩,
         ⟨(some 44), .op (.mov (.tmp 1)), none⟩,
         ⟨(some 45), .op (.mov (.tmp 8)), none⟩,
         ⟨(some 46), .op (.bin .add (.tmp 45) (.val (.int .i64 1))), none⟩,
         ⟨(some 47), .op (.idxS 1 (.tmp 44) (.tmp 46)), none⟩,
         ⟨(some 48), .op (.load none (.tmp 47)), none⟩,
         ⟨(some 49), .op (.bin .neq (.tmp 43) (.tmp 48)), none⟩])
       (.cond (.tmp 49) (.seq (.region [⟨(some 4), .op (.mov (.val (.int .i64 10))), none⟩])
        (.ret))
       (.skip)))))
     (.region [⟨(some 32), .op (.mov (.tmp 8)), none⟩,
      ⟨(some 33), .op (.bin .add (.tmp 32) (.val (.int .i64 2))), none⟩,
      ⟨(some 8), .op (.mov (.tmp 33)), none⟩]))))))
  (.seq (.region [⟨(some 4), .op (.mov (.val (.int .i64 0))), none⟩])
  (.ret)))),
  [.tmp 4], none, none⟩
def A67 : AFun := ⟨.seq (.region [⟨(some 3), .op (.box (.tmp 1)), none⟩,
    ⟨(some 4), .op (.mov (.val (.int .i64 0))), none⟩])
  (.seq (.region [⟨(some 7), .op (.fieldAddr 1 (.tmp 3)), none⟩,
    ⟨(some 8), .op (.load none (.tmp 7)), none⟩,
    ⟨(some 5), .op (.mov (.tmp 8)), none⟩])
  (.seq (.seq (.region [⟨(some 9), .op (.fieldAddr 0 (.tmp 3)), none⟩,
     ⟨(some 10), .op (.load none (.tmp 9)), none⟩,
     ⟨(some 11), .op (.bin .eql (.tmp 10) (.val (.int .i64 25))), none⟩])
   (.cond (.tmp 11) (.seq (.seq (.region [⟨(some 12), .op (.mov (.tmp 0)), none⟩,
       ⟨(some 13), .op (.fieldAddr 1 (.tmp 3)), none⟩,
       ⟨(some 14), .op (.load none (.tmp 13)), none⟩,
       ⟨(some 15), .op (.buildSlice 1 2 [(.int .i64 0)] [(0, (.tmp 14)), (1, (.val (.int .i64 0)))]), none⟩,
       ⟨(some 16), .call (.fnv 66) [(.tmp 12), (.tmp 15)], none⟩,
       ⟨(some 6), .op (.mov (.tmp 16)), none⟩])
     (.seq (.region [⟨(some 17), .op (.mov (.tmp 6)), none⟩,
       ⟨(some 18), .op (.bin .neq (.tmp 17) (.val (.int .i64 0))), none⟩])
     (.cond (.tmp 18) (.seq (.region [⟨(some 19), .op (.mov (.tmp 6)), none⟩,
        ⟨(some 4), .op (.mov (.tmp 19)), none⟩])
      (.ret))
     (.skip))))
    (.region [⟨(some 20), .op (.fieldAddr 2 (.tmp 3)), none⟩,
     ⟨(some 21), .op (.load none (.tmp 20)), none⟩,
     ⟨(some 5), .op (.mov (.tmp 21)), none⟩]))
   (.skip)))
  (.seq (.seq (.region [⟨(some 22), .op (.mov (.tmp 5)), none⟩,
     ⟨(some 23), .op (.bin .lss (.tmp 22) (.val (.int .i64 0))), none⟩,
     ⟨(some 24), .op (.mov (.tmp 23)), none⟩,
     ⟨(some 25), .op (.mov (.tmp 5)), (some (24, false))⟩,
     ⟨(some 26), .op (.mov (.tmp 0)), (some (24, false))⟩,
     ⟨(some 27), .op (.nilCheck (.tmp 26)), (some (24, false))⟩,
     ⟨(some 28), .op (.fieldAddr 3 (.tmp 27)), (some (24, false))⟩,
     ⟨(some 29), .op (.fieldAddr 3 (.tmp 28)), (some (24, false))⟩,
     ⟨(some 30), .op (.load none (.tmp 29)), (some (24, false))⟩,
     ⟨(some 31), .op (.lenS (.tmp 30)), (some (24, false))⟩,
     ⟨(some 32), .op (.bin .geq (.tmp 25) (.tmp 31)), (some (24, false))⟩,
     ⟨(some 33), .op (.pick (.tmp 24) (.val (.bool true)) (.tmp 32)), none⟩])
   (.cond (.tmp 33) (.seq (.region [⟨(some 4), .op (.mov (.val (.int .i64 12))), none⟩])
    (.ret))
   (.skip)))
  (.seq (.region [⟨(some 4), .op (.mov (.val (.int .i64 0))), none⟩])
  (.ret))))),
  [.tmp 4], none, none⟩
end Go.Proofs.Ytofcnjglnnoimab.AmGN
