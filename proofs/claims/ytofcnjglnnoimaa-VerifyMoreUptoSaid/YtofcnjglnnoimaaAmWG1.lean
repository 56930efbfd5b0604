/-
  The machine's form of the functions, printed by program off the translation.
-/
import Derived.Test.YtofcnjglnnoimaaAmP
namespace Go.Proofs.Ytofcnjglnnoimaa.AmGW
open Go Go.AM
set_option maxRecDepth 100000
def A92 : AFun := ⟨.seq (.region [⟨(some 2), .op (.box (.tmp 0)), none⟩,
    ⟨(some 3), .op (.box (.tmp 1)), none⟩,
    ⟨(some 4), .op (.mov (.val (.int .i64 0))), none⟩])
  (.seq (.region [⟨(some 5), .op (.alloc [.nils, .nils]), none⟩])
  (.seq (.seq (.region [⟨(some 16), .op (.fieldAddr 0 (.tmp 3)), none⟩,
     ⟨(some 17), .op (.load none (.tmp 16)), none⟩])
   (.block 0 (.seq (.seq (.region [⟨(some 19), .op (.bin .eql (.tmp 17) (.val (.int .i64 41))), none⟩,
       ⟨(some 18), .op (.mov (.tmp 19)), none⟩])
     (.cond (.tmp 18) (.skip)
     (.region [⟨(some 20), .op (.bin .eql (.tmp 17) (.val (.int .i64 44))), none⟩,
      ⟨(some 18), .op (.mov (.tmp 20)), none⟩])))
    (.cond (.tmp 18) (.seq (.seq (.region [⟨(some 21), .op (.fieldAddr 4 (.tmp 3)), none⟩,
        ⟨(some 22), .op (.load none (.tmp 21)), none⟩,
        ⟨(some 23), .op (.bin .gtr (.tmp 22) (.val (.int .u64 16))), none⟩])
      (.cond (.tmp 23) (.seq (.region [⟨(some 4), .op (.mov (.val (.int .i64 16))), none⟩])
       (.ret))
      (.skip)))
     (.seq (.region [⟨(some 25), .op (.load (some 4) (.tmp 2)), none⟩,
       ⟨(some 26), .op (.fieldAddr 1 (.tmp 3)), none⟩,
       ⟨(some 27), .op (.load none (.tmp 26)), none⟩,
       ⟨(some 28), .call (.fnv 115) [(.tmp 25), (.tmp 27)], none⟩,
       ⟨(some 24), .op (.mov (.tmp 28)), none⟩,
       ⟨(some 29), .op (.extract (.tmp 24) 0), none⟩,
       ⟨(some 30), .op (.extract (.tmp 24) 1), none⟩,
       ⟨(some 6), .op (.mov (.tmp 29)), none⟩,
       ⟨(some 7), .op (.mov (.tmp 30)), none⟩])
     (.seq (.region [⟨(some 31), .op (.mov (.tmp 7)), none⟩,
       ⟨(some 4), .op (.mov (.tmp 31)), none⟩])
     (.ret))))
    (.seq (.region [⟨(some 33), .op (.bin .eql (.tmp 17) (.val (.int .i64 42))), none⟩,
      ⟨(some 32), .op (.mov (.tmp 33)), none⟩])
    (.cond (.tmp 32) (.seq (.region [⟨(some 35), .op (.load (some 4) (.tmp 2)), none⟩,
       ⟨(some 36), .op (.fieldAddr 1 (.tmp 3)), none⟩,
       ⟨(some 37), .op (.load none (.tmp 36)), none⟩,
       ⟨(some 38), .call (.fnv 115) [(.tmp 35), (.tmp 37)], none⟩,
       ⟨(some 34), .op (.mov (.tmp 38)), none⟩,
       ⟨(some 39), .op (.extract (.tmp 34) 0), none⟩,
       ⟨(some 40), .op (.extract (.tmp 34) 1), none⟩,
       ⟨(some 8), .op (.mov (.tmp 39)), none⟩,
       ⟨(some 9), .op (.mov (.tmp 40)), none⟩])
     (.seq (.seq (.region [⟨(some 41), .op (.mov (.tmp 9)), none⟩,
        ⟨(some 42), .op (.bin .neq (.tmp 41) (.val (.int .i64 0))), none⟩])
      (.cond (.tmp 42) (.seq (.region [⟨(some 43), .op (.mov (.tmp 9)), none⟩,
         ⟨(some 4), .op (.mov (.tmp 43)), none⟩])
       (.ret))
      (.skip)))
     (.seq (.draw [⟨⟨(some 44), .op (.load (some 4) (.tmp 2)), none⟩, .read [6]⟩,
       ⟨⟨(some 45), .op (.load (some 2) (.tmp 5)), none⟩, .read []⟩,
       ⟨⟨(some 46), .op (.fieldAddr 2 (.tmp 3)), none⟩, .pure⟩,
       ⟨⟨(some 47), .op (.load none (.tmp 46)), none⟩, .read []⟩,
       ⟨⟨(some 48), .op (.mov (.tmp 8)), none⟩, .pure⟩,
       ⟨⟨(some 49), .call (.fnv 65) [(.tmp 45), (.tmp 47), (.tmp 48)], none⟩, .act true⟩,
       ⟨⟨(some 50), .call (.fnv 64) [(.tmp 44), (.tmp 49)], none⟩, .act true⟩,
       ⟨⟨(some 4), .op (.mov (.tmp 50)), none⟩, .pure⟩])
     (.ret))))
    (.seq (.region [⟨(some 52), .op (.bin .eql (.tmp 17) (.val (.int .i64 43))), none⟩,
      ⟨(some 51), .op (.mov (.tmp 52)), none⟩])
    (.cond (.tmp 51) (.seq (.region [⟨(some 54), .op (.load (some 4) (.tmp 2)), none⟩,
       ⟨(some 55), .op (.fieldAddr 2 (.tmp 3)), none⟩,
       ⟨(some 56), .op (.load none (.tmp 55)), none⟩,
       ⟨(some 57), .call (.fnv 115) [(.tmp 54), (.tmp 56)], none⟩,
       ⟨(some 53), .op (.mov (.tmp 57)), none⟩,
       ⟨(some 58), .op (.extract (.tmp 53) 0), none⟩,
       ⟨(some 59), .op (.extract (.tmp 53) 1), none⟩,
       ⟨(some 10), .op (.mov (.tmp 58)), none⟩,
       ⟨(some 11), .op (.mov (.tmp 59)), none⟩])
     (.seq (.seq (.region [⟨(some 60), .op (.mov (.tmp 11)), none⟩,
        ⟨(some 61), .op (.bin .neq (.tmp 60) (.val (.int .i64 0))), none⟩])
      (.cond (.tmp 61) (.seq (.region [⟨(some 62), .op (.mov (.tmp 11)), none⟩,
         ⟨(some 4), .op (.mov (.tmp 62)), none⟩])
       (.ret))
      (.skip)))
     (.seq (.draw [⟨⟨(some 63), .op (.load (some 4) (.tmp 2)), none⟩, .read [8, 9]⟩,
       ⟨⟨(some 64), .op (.load (some 2) (.tmp 5)), none⟩, .read []⟩,
       ⟨⟨(some 65), .op (.fieldAddr 1 (.tmp 3)), none⟩, .pure⟩,
       ⟨⟨(some 66), .op (.load none (.tmp 65)), none⟩, .read []⟩,
       ⟨⟨(some 67), .op (.mov (.tmp 10)), none⟩, .pure⟩,
       ⟨⟨(some 68), .call (.fnv 65) [(.tmp 64), (.tmp 66), (.tmp 67)], none⟩, .act false⟩,
       ⟨⟨(some 69), .op (.fieldAddr 3 (.tmp 3)), none⟩, .pure⟩,
       ⟨⟨(some 70), .op (.load none (.tmp 69)), none⟩, .read [5]⟩,
       ⟨⟨(some 71), .call (.fnv 65) [(.tmp 68), (.tmp 70), (.val (.int .i64 0))], none⟩, .act true⟩,
       ⟨⟨(some 72), .call (.fnv 64) [(.tmp 63), (.tmp 71)], none⟩, .act true⟩,
       ⟨⟨(some 4), .op (.mov (.tmp 72)), none⟩, .pure⟩])
     (.ret))))
    (.skip)))))))))
  (.seq (.seq (.region [⟨(some 73), .op (.fieldAddr 2 (.tmp 3)), none⟩,
     ⟨(some 74), .op (.load none (.tmp 73)), none⟩,
     ⟨(some 75), .op (.bin .lss (.tmp 74) (.val (.int .i64 0))), none⟩,
     ⟨(some 76), .op (.mov (.tmp 75)), none⟩,
     ⟨(some 77), .op (.fieldAddr 2 (.tmp 3)), (some (76, false))⟩,
     ⟨(some 78), .op (.load none (.tmp 77)), (some (76, false))⟩,
     ⟨(some 79), .op (.bin .gtr (.tmp 78) (.val (.int .i64 1))), (some (76, false))⟩,
     ⟨(some 80), .op (.pick (.tmp 76) (.val (.bool true)) (.tmp 79)), none⟩,
     ⟨(some 81), .op (.mov (.tmp 80)), none⟩,
     ⟨(some 82), .op (.fieldAddr 5 (.tmp 3)), (some (81, false))⟩,
     ⟨(some 83), .op (.load none (.tmp 82)), (some (81, false))⟩,
     ⟨(some 84), .op (.lenS (.tmp 83)), (some (81, false))⟩,
     ⟨(some 85), .op (.bin .rem (.tmp 84) (.val (.int .i64 3))), (some (81, false))⟩,
     ⟨(some 86), .op (.bin .neq (.tmp 85) (.val (.int .i64 0))), (some (81, false))⟩,
     ⟨(some 87), .op (.pick (.tmp 81) (.val (.bool true)) (.tmp 86)), none⟩])
   (.cond (.tmp 87) (.seq (.region [⟨(some 4), .op (.mov (.val (.int .i64 16))), none⟩])
    (.ret))
   (.skip)))
  (.seq (.seq (.region [⟨(some 12), .op (.mov (.val (.int .i64 0))), none⟩])
   (.block 1 (.loop (.seq (.seq (.region [⟨(some 88), .op (.mov (.tmp 12)), none⟩,
        ⟨(some 89), .op (.fieldAddr 5 (.tmp 3)), none⟩,
        ⟨(some 90), .op (.load none (.tmp 89)), none⟩,
        ⟨(some 91), .op (.lenS (.tmp 90)), none⟩,
        ⟨(some 92), .op (.bin .lss (.tmp 88) (.tmp 91)), none⟩])
      (.cond (.tmp 92) (.skip)
      (.exit 1)))
     (.seq (.block 2 (.seq (.seq (.region [⟨(some 95), .op (.fieldAddr 5 (.tmp 3)), none⟩,
          ⟨(some 96), .op (.load none (.tmp 95)), none⟩,
          ⟨(some 97), .op (.mov (.tmp 12)), none⟩,
          ⟨(some 98), .op (.idxS 1 (.tmp 96) (.tmp 97)), none⟩,
          ⟨(some 99), .op (.load none (.tmp 98)), none⟩,
          ⟨(some 100), .op (.bin .lss (.tmp 99) (.val (.int .i64 0))), none⟩,
          ⟨(some 101), .op (.mov (.tmp 100)), none⟩,
          ⟨(some 102), .op (.fieldAddr 5 (.tmp 3)), (some (101, false))⟩,
          ⟨(some 103), .op (.load none (.tmp 102)), (some (101, false))⟩,
          ⟨(some 104), .op (.mov (.tmp 12)), (some (101, false))⟩,
          ⟨(some 105), .op (.idxS 1 (.tmp 103) (.tmp 104)), (some (101, false))⟩,
          ⟨(some 106), .op (.load none (.tmp 105)), (some (101, false))⟩,
          ⟨(some 107), .op (.bin .gtr (.tmp 106) (.val (.int .i64 1))), (some (101, false))⟩,
          ⟨(some 108), .op (.pick (.tmp 101) (.val (.bool true)) (.tmp 107)), none⟩])
        (.cond (.tmp 108) (.seq (.region [⟨(some 4), .op (.mov (.val (.int .i64 8))), none⟩])
         (.ret))
        (.skip)))
       (.seq (.draw [⟨⟨(some 110), .op (.load (some 4) (.tmp 2)), none⟩, .read []⟩,
         ⟨⟨(some 111), .op (.fieldAddr 5 (.tmp 3)), none⟩, .pure⟩,
         ⟨⟨(some 112), .op (.load none (.tmp 111)), none⟩, .read []⟩,
         ⟨⟨(some 113), .op (.mov (.tmp 12)), none⟩, .pure⟩,
         ⟨⟨(some 114), .op (.bin .add (.tmp 113) (.val (.int .i64 1))), none⟩, .pure⟩,
         ⟨⟨(some 115), .op (.idxS 1 (.tmp 112) (.tmp 114)), none⟩, .read []⟩,
         ⟨⟨(some 116), .op (.load none (.tmp 115)), none⟩, .read []⟩,
         ⟨⟨(some 117), .call (.fnv 115) [(.tmp 110), (.tmp 116)], none⟩, .act true⟩,
         ⟨⟨(some 109), .op (.mov (.tmp 117)), none⟩, .pure⟩,
         ⟨⟨(some 118), .op (.extract (.tmp 109) 0), none⟩, .pure⟩,
         ⟨⟨(some 119), .op (.extract (.tmp 109) 1), none⟩, .pure⟩,
         ⟨⟨(some 13), .op (.mov (.tmp 118)), none⟩, .pure⟩,
         ⟨⟨(some 14), .op (.mov (.tmp 119)), none⟩, .pure⟩])
       (.seq (.seq (.region [⟨(some 120), .op (.mov (.tmp 14)), none⟩,
          ⟨(some 121), .op (.bin .eql (.tmp 120) (.val (.int .i64 0))), none⟩])
        (.cond (.tmp 121) (.seq (.region [⟨(some 15), .op (.alloc [.nils, .nils]), none⟩])
         (.draw [⟨⟨(some 122), .op (.load (some 4) (.tmp 2)), none⟩, .read [10]⟩,
          ⟨⟨(some 123), .op (.load (some 2) (.tmp 15)), none⟩, .read []⟩,
          ⟨⟨(some 124), .op (.fieldAddr 5 (.tmp 3)), none⟩, .pure⟩,
          ⟨⟨(some 125), .op (.load none (.tmp 124)), none⟩, .read []⟩,
          ⟨⟨(some 126), .op (.mov (.tmp 12)), none⟩, .pure⟩,
          ⟨⟨(some 127), .op (.bin .add (.tmp 126) (.val (.int .i64 2))), none⟩, .pure⟩,
          ⟨⟨(some 128), .op (.idxS 1 (.tmp 125) (.tmp 127)), none⟩, .read []⟩,
          ⟨⟨(some 129), .op (.load none (.tmp 128)), none⟩, .read []⟩,
          ⟨⟨(some 130), .op (.mov (.tmp 13)), none⟩, .pure⟩,
          ⟨⟨(some 131), .call (.fnv 65) [(.tmp 123), (.tmp 129), (.tmp 130)], none⟩, .act true⟩,
          ⟨⟨(some 132), .call (.fnv 64) [(.tmp 122), (.tmp 131)], none⟩, .act true⟩,
          ⟨⟨(some 14), .op (.mov (.tmp 132)), none⟩, .pure⟩]))
        (.skip)))
       (.seq (.region [⟨(some 133), .op (.mov (.tmp 14)), none⟩,
         ⟨(some 134), .op (.bin .neq (.tmp 133) (.val (.int .i64 0))), none⟩])
       (.cond (.tmp 134) (.seq (.region [⟨(some 135), .op (.mov (.tmp 14)), none⟩,
          ⟨(some 4), .op (.mov (.tmp 135)), none⟩])
        (.ret))
       (.skip)))))))
     (.region [⟨(some 93), .op (.mov (.tmp 12)), none⟩,
      ⟨(some 94), .op (.bin .add (.tmp 93) (.val (.int .i64 3))), none⟩,
      ⟨(some 12), .op (.mov (.tmp 94)), none⟩]))))))
  (.seq (.draw [⟨⟨(some 136), .op (.load (some 4) (.tmp 2)), none⟩, .read [5]⟩,
    ⟨⟨(some 137), .op (.load (some 2) (.tmp 5)), none⟩, .read []⟩,
    ⟨⟨(some 138), .op (.fieldAddr 1 (.tmp 3)), none⟩, .pure⟩,
    ⟨⟨(some 139), .op (.load none (.tmp 138)), none⟩, .read []⟩,
    ⟨⟨(some 140), .call (.fnv 65) [(.tmp 137), (.tmp 139), (.val (.int .i64 0))], none⟩, .act true⟩,
    ⟨⟨(some 141), .call (.fnv 64) [(.tmp 136), (.tmp 140)], none⟩, .act true⟩,
    ⟨⟨(some 4), .op (.mov (.tmp 141)), none⟩, .pure⟩])
  (.ret)))))),
  [.tmp 4], none, none⟩
def A93 : AFun := ⟨.seq (.region [⟨(some 3), .op (.box (.tmp 0)), none⟩,
    ⟨(some 4), .op (.box (.tmp 1)), none⟩,
    ⟨(some 5), .op (.box (.tmp 2)), none⟩,
    ⟨(some 6), .op (.mov (.val (.int .i64 0))), none⟩])
  (.seq (.region [⟨(some 7), .op (.alloc [.nils, .nils]), none⟩])
  (.seq (.seq (.region [⟨(some 14), .op (.fieldAddr 0 (.tmp 5)), none⟩,
     ⟨(some 15), .op (.load none (.tmp 14)), none⟩])
   (.block 0 (.seq (.seq (.region [⟨(some 17), .op (.bin .eql (.tmp 15) (.val (.int .i64 26))), none⟩,
       ⟨(some 16), .op (.mov (.tmp 17)), none⟩])
     (.cond (.tmp 16) (.skip)
     (.region [⟨(some 18), .op (.bin .eql (.tmp 15) (.val (.int .i64 27))), none⟩,
      ⟨(some 16), .op (.mov (.tmp 18)), none⟩])))
    (.cond (.tmp 16) (.seq (.seq (.region [⟨(some 19), .op (.fieldAddr 2 (.tmp 5)), none⟩,
        ⟨(some 20), .op (.load none (.tmp 19)), none⟩,
        ⟨(some 21), .op (.bin .lss (.tmp 20) (.val (.int .i64 0))), none⟩,
        ⟨(some 22), .op (.mov (.tmp 21)), none⟩,
        ⟨(some 23), .op (.fieldAddr 2 (.tmp 5)), (some (22, false))⟩,
        ⟨(some 24), .op (.load none (.tmp 23)), (some (22, false))⟩,
        ⟨(some 25), .op (.fieldAddr 0 (.tmp 3)), (some (22, false))⟩,
        ⟨(some 26), .op (.load none (.tmp 25)), (some (22, false))⟩,
        ⟨(some 27), .op (.lenS (.tmp 26)), (some (22, false))⟩,
        ⟨(some 28), .op (.bin .geq (.tmp 24) (.tmp 27)), (some (22, false))⟩,
        ⟨(some 29), .op (.pick (.tmp 22) (.val (.bool true)) (.tmp 28)), none⟩,
        ⟨(some 30), .op (.mov (.tmp 29)), none⟩,
        ⟨(some 31), .op (.fieldAddr 0 (.tmp 3)), (some (30, false))⟩,
        ⟨(some 32), .op (.load none (.tmp 31)), (some (30, false))⟩,
        ⟨(some 33), .op (.fieldAddr 2 (.tmp 5)), (some (30, false))⟩,
        ⟨(some 34), .op (.load none (.tmp 33)), (some (30, false))⟩,
        ⟨(some 35), .op (.idxS 2 (.tmp 32) (.tmp 34)), (some (30, false))⟩,
        ⟨(some 36), .op (.fieldAddr 0 (.tmp 35)), (some (30, false))⟩,
        ⟨(some 37), .op (.load none (.tmp 36)), (some (30, false))⟩,
        ⟨(some 38), .op (.fieldAddr 0 (.tmp 5)), (some (30, false))⟩,
        ⟨(some 39), .op (.load none (.tmp 38)), (some (30, false))⟩,
        ⟨(some 40), .op (.bin .eql (.tmp 39) (.val (.int .i64 26))), (some (30, false))⟩,
        ⟨(some 41), .op (.eql false .bool (.tmp 37) (.tmp 40)), (some (30, false))⟩,
        ⟨(some 42), .op (.pick (.tmp 30) (.val (.bool true)) (.tmp 41)), none⟩])
      (.cond (.tmp 42) (.seq (.region [⟨(some 6), .op (.mov (.val (.int .i64 14))), none⟩])
       (.ret))
      (.skip)))
     (.seq (.region [⟨(some 43), .op (.load (some 2) (.tmp 7)), none⟩,
       ⟨(some 44), .op (.fieldAddr 1 (.tmp 5)), none⟩,
       ⟨(some 45), .op (.load none (.tmp 44)), none⟩,
       ⟨(some 46), .op (.fieldAddr 2 (.tmp 5)), none⟩,
       ⟨(some 47), .op (.load none (.tmp 46)), none⟩,
       ⟨(some 48), .op (.bin .add (.val (.int .i64 16)) (.tmp 47)), none⟩,
       ⟨(some 49), .call (.fnv 65) [(.tmp 43), (.tmp 45), (.tmp 48)], none⟩,
       ⟨none, .op (.store 2 (.tmp 7) (.tmp 49)), none⟩])
     (.seq (.seq (.region [⟨(some 50), .op (.fieldAddr 0 (.tmp 5)), none⟩,
        ⟨(some 51), .op (.load none (.tmp 50)), none⟩,
        ⟨(some 52), .op (.bin .eql (.tmp 51) (.val (.int .i64 27))), none⟩])
      (.cond (.tmp 52) (.region [⟨(some 53), .op (.load (some 2) (.tmp 7)), none⟩,
        ⟨(some 54), .op (.fieldAddr 3 (.tmp 5)), none⟩,
        ⟨(some 55), .op (.load none (.tmp 54)), none⟩,
        ⟨(some 56), .call (.fnv 65) [(.tmp 53), (.tmp 55), (.val (.int .i64 0))], none⟩,
        ⟨none, .op (.store 2 (.tmp 7) (.tmp 56)), none⟩])
      (.skip)))
     (.seq (.region [⟨(some 57), .op (.load (some 4) (.tmp 4)), none⟩,
       ⟨(some 58), .op (.load (some 2) (.tmp 7)), none⟩,
       ⟨(some 59), .call (.fnv 64) [(.tmp 57), (.tmp 58)], none⟩,
       ⟨(some 6), .op (.mov (.tmp 59)), none⟩])
     (.ret)))))
    (.seq (.region [⟨(some 61), .op (.bin .eql (.tmp 15) (.val (.int .i64 28))), none⟩,
      ⟨(some 60), .op (.mov (.tmp 61)), none⟩])
    (.cond (.tmp 60) (.seq (.region [⟨(some 63), .op (.load (some 3) (.tmp 3)), none⟩,
       ⟨(some 64), .op (.load (some 4) (.tmp 4)), none⟩,
       ⟨(some 65), .op (.fieldAddr 2 (.tmp 5)), none⟩,
       ⟨(some 66), .op (.load none (.tmp 65)), none⟩,
       ⟨(some 67), .call (.fnv 116) [(.tmp 63), (.tmp 64), (.tmp 66), (.val (.bool true))], none⟩,
       ⟨(some 62), .op (.mov (.tmp 67)), none⟩,
       ⟨(some 68), .op (.extract (.tmp 62) 0), none⟩,
       ⟨(some 69), .op (.extract (.tmp 62) 1), none⟩,
       ⟨(some 8), .op (.alloc [(.bool false), .nils]), none⟩,
       ⟨none, .op (.store 2 (.tmp 8) (.tmp 68)), none⟩,
       ⟨(some 9), .op (.mov (.tmp 69)), none⟩])
     (.seq (.seq (.region [⟨(some 70), .op (.mov (.tmp 9)), none⟩,
        ⟨(some 71), .op (.bin .neq (.tmp 70) (.val (.int .i64 0))), none⟩])
      (.cond (.tmp 71) (.seq (.region [⟨(some 72), .op (.mov (.tmp 9)), none⟩,
         ⟨(some 6), .op (.mov (.tmp 72)), none⟩])
       (.ret))
      (.skip)))
     (.seq (.draw [⟨⟨(some 73), .op (.load (some 4) (.tmp 4)), none⟩, .read [5]⟩,
       ⟨⟨(some 74), .op (.load (some 2) (.tmp 7)), none⟩, .read []⟩,
       ⟨⟨(some 75), .op (.fieldAddr 1 (.tmp 5)), none⟩, .pure⟩,
       ⟨⟨(some 76), .op (.load none (.tmp 75)), none⟩, .read []⟩,
       ⟨⟨(some 77), .call (.fnv 65) [(.tmp 74), (.tmp 76), (.val (.int .i64 0))], none⟩, .act true⟩,
       ⟨⟨(some 78), .call (.fnv 64) [(.tmp 73), (.tmp 77)], none⟩, .act true⟩,
       ⟨⟨(some 6), .op (.mov (.tmp 78)), none⟩, .pure⟩])
     (.ret))))
    (.seq (.region [⟨(some 80), .op (.bin .eql (.tmp 15) (.val (.int .i64 33))), none⟩,
      ⟨(some 79), .op (.mov (.tmp 80)), none⟩])
    (.cond (.tmp 79) (.seq (.seq (.region [⟨(some 81), .op (.fieldAddr 2 (.tmp 5)), none⟩,
        ⟨(some 82), .op (.load none (.tmp 81)), none⟩,
        ⟨(some 83), .op (.bin .lss (.tmp 82) (.val (.int .i64 0))), none⟩,
        ⟨(some 84), .op (.mov (.tmp 83)), none⟩,
        ⟨(some 85), .op (.fieldAddr 2 (.tmp 5)), (some (84, false))⟩,
        ⟨(some 86), .op (.load none (.tmp 85)), (some (84, false))⟩,
        ⟨(some 87), .op (.fieldAddr 1 (.tmp 3)), (some (84, false))⟩,
        ⟨(some 88), .op (.load none (.tmp 87)), (some (84, false))⟩,
        ⟨(some 89), .op (.lenS (.tmp 88)), (some (84, false))⟩,
        ⟨(some 90), .op (.bin .geq (.tmp 86) (.tmp 89)), (some (84, false))⟩,
        ⟨(some 91), .op (.pick (.tmp 84) (.val (.bool true)) (.tmp 90)), none⟩])
      (.cond (.tmp 91) (.seq (.region [⟨(some 6), .op (.mov (.val (.int .i64 15))), none⟩])
       (.ret))
      (.skip)))
     (.seq (.draw [⟨⟨(some 92), .op (.load (some 4) (.tmp 4)), none⟩, .read [11]⟩,
       ⟨⟨(some 93), .op (.load (some 2) (.tmp 7)), none⟩, .read []⟩,
       ⟨⟨(some 94), .op (.fieldAddr 1 (.tmp 5)), none⟩, .pure⟩,
       ⟨⟨(some 95), .op (.load none (.tmp 94)), none⟩, .read []⟩,
       ⟨⟨(some 96), .op (.fieldAddr 1 (.tmp 3)), none⟩, .pure⟩,
       ⟨⟨(some 97), .op (.load none (.tmp 96)), none⟩, .read []⟩,
       ⟨⟨(some 98), .op (.fieldAddr 2 (.tmp 5)), none⟩, .pure⟩,
       ⟨⟨(some 99), .op (.load none (.tmp 98)), none⟩, .read []⟩,
       ⟨⟨(some 100), .op (.idxS 1 (.tmp 97) (.tmp 99)), none⟩, .read []⟩,
       ⟨⟨(some 101), .op (.load none (.tmp 100)), none⟩, .read []⟩,
       ⟨⟨(some 102), .call (.fnv 65) [(.tmp 93), (.tmp 95), (.tmp 101)], none⟩, .act true⟩,
       ⟨⟨(some 103), .call (.fnv 64) [(.tmp 92), (.tmp 102)], none⟩, .act true⟩,
       ⟨⟨(some 6), .op (.mov (.tmp 103)), none⟩, .pure⟩])
     (.ret)))
    (.seq (.region [⟨(some 105), .op (.bin .eql (.tmp 15) (.val (.int .i64 34))), none⟩,
      ⟨(some 104), .op (.mov (.tmp 105)), none⟩])
    (.cond (.tmp 104) (.seq (.seq (.region [⟨(some 106), .op (.fieldAddr 1 (.tmp 5)), none⟩,
        ⟨(some 107), .op (.load none (.tmp 106)), none⟩,
        ⟨(some 108), .op (.bin .lss (.tmp 107) (.val (.int .i64 0))), none⟩,
        ⟨(some 109), .op (.mov (.tmp 108)), none⟩,
        ⟨(some 110), .op (.fieldAddr 1 (.tmp 5)), (some (109, false))⟩,
        ⟨(some 111), .op (.load none (.tmp 110)), (some (109, false))⟩,
        ⟨(some 112), .op (.fieldAddr 1 (.tmp 3)), (some (109, false))⟩,
        ⟨(some 113), .op (.load none (.tmp 112)), (some (109, false))⟩,
        ⟨(some 114), .op (.lenS (.tmp 113)), (some (109, false))⟩,
        ⟨(some 115), .op (.bin .geq (.tmp 111) (.tmp 114)), (some (109, false))⟩,
        ⟨(some 116), .op (.pick (.tmp 109) (.val (.bool true)) (.tmp 115)), none⟩])
      (.cond (.tmp 116) (.seq (.region [⟨(some 6), .op (.mov (.val (.int .i64 15))), none⟩])
       (.ret))
      (.skip)))
     (.seq (.draw [⟨⟨(some 117), .op (.load (some 4) (.tmp 4)), none⟩, .read [11]⟩,
       ⟨⟨(some 118), .op (.load (some 2) (.tmp 7)), none⟩, .read []⟩,
       ⟨⟨(some 119), .op (.fieldAddr 2 (.tmp 5)), none⟩, .pure⟩,
       ⟨⟨(some 120), .op (.load none (.tmp 119)), none⟩, .read []⟩,
       ⟨⟨(some 121), .op (.fieldAddr 1 (.tmp 3)), none⟩, .pure⟩,
       ⟨⟨(some 122), .op (.load none (.tmp 121)), none⟩, .read []⟩,
       ⟨⟨(some 123), .op (.fieldAddr 1 (.tmp 5)), none⟩, .pure⟩,
       ⟨⟨(some 124), .op (.load none (.tmp 123)), none⟩, .read []⟩,
       ⟨⟨(some 125), .op (.idxS 1 (.tmp 122) (.tmp 124)), none⟩, .read []⟩,
       ⟨⟨(some 126), .op (.load none (.tmp 125)), none⟩, .read []⟩,
       ⟨⟨(some 127), .call (.fnv 65) [(.tmp 118), (.tmp 120), (.tmp 126)], none⟩, .act true⟩,
       ⟨⟨(some 128), .call (.fnv 64) [(.tmp 117), (.tmp 127)], none⟩, .act true⟩,
       ⟨⟨(some 6), .op (.mov (.tmp 128)), none⟩, .pure⟩])
     (.ret)))
    (.seq (.region [⟨(some 130), .op (.bin .eql (.tmp 15) (.val (.int .i64 29))), none⟩,
      ⟨(some 129), .op (.mov (.tmp 130)), none⟩])
    (.cond (.tmp 129) (.seq (.region [⟨(some 131), .op (.load (some 3) (.tmp 3)), none⟩,
       ⟨(some 132), .op (.load (some 4) (.tmp 4)), none⟩,
       ⟨(some 133), .op (.fieldAddr 2 (.tmp 5)), none⟩,
       ⟨(some 134), .op (.load none (.tmp 133)), none⟩,
       ⟨(some 135), .op (.fieldAddr 3 (.tmp 5)), none⟩,
       ⟨(some 136), .op (.load none (.tmp 135)), none⟩,
       ⟨(some 137), .op (.fieldAddr 1 (.tmp 5)), none⟩,
       ⟨(some 138), .op (.load none (.tmp 137)), none⟩,
       ⟨(some 139), .call (.fnv 117) [(.tmp 131), (.tmp 132), (.tmp 134), (.tmp 136), (.tmp 138)], none⟩,
       ⟨(some 6), .op (.mov (.tmp 139)), none⟩])
     (.ret))
    (.seq (.region [⟨(some 141), .op (.bin .eql (.tmp 15) (.val (.int .i64 30))), none⟩,
      ⟨(some 140), .op (.mov (.tmp 141)), none⟩])
    (.cond (.tmp 140) (.seq (.region [⟨(some 142), .op (.load (some 3) (.tmp 3)), none⟩,
       ⟨(some 143), .op (.load (some 4) (.tmp 4)), none⟩,
       ⟨(some 144), .op (.fieldAddr 1 (.tmp 5)), none⟩,
       ⟨(some 145), .op (.load none (.tmp 144)), none⟩,
       ⟨(some 146), .op (.fieldAddr 3 (.tmp 5)), none⟩,
       ⟨(some 147), .op (.load none (.tmp 146)), none⟩,
       ⟨(some 148), .op (.fieldAddr 2 (.tmp 5)), none⟩,
       ⟨(some 149), .op (.load none (.tmp 148)), none⟩,
       ⟨(some 150), .call (.fnv 117) [(.tmp 142), (.tmp 143), (.tmp 145), (.tmp 147), (.tmp 149)], none⟩,
       ⟨(some 6), .op (.mov (.tmp 150)), none⟩])
     (.ret))
    (.skip)))))))))))))))
  (.seq (.region [⟨(some 151), .op (.fieldAddr 2 (.tmp 5)), none⟩,
    ⟨(some 152), .op (.load none (.tmp 151)), none⟩,
    ⟨(some 153), .op (.fieldAddr 1 (.tmp 5)), none⟩,
    ⟨(some 154), .op (.load none (.tmp 153)), none⟩,
    ⟨(some 10), .op (.mov (.tmp 152)), none⟩,
    ⟨(some 11), .op (.mov (.tmp 154)), none⟩])
  (.seq (.seq (.region [⟨(some 155), .op (.fieldAddr 0 (.tmp 5)), none⟩,
     ⟨(some 156), .op (.load none (.tmp 155)), none⟩,
     ⟨(some 157), .op (.bin .eql (.tmp 156) (.val (.int .i64 32))), none⟩])
   (.cond (.tmp 157) (.seq (.region [⟨(some 158), .op (.fieldAddr 1 (.tmp 5)), none⟩,
      ⟨(some 159), .op (.load none (.tmp 158)), none⟩,
      ⟨(some 10), .op (.mov (.tmp 159)), none⟩])
    (.region [⟨(some 160), .op (.fieldAddr 2 (.tmp 5)), none⟩,
     ⟨(some 161), .op (.load none (.tmp 160)), none⟩,
     ⟨(some 11), .op (.mov (.tmp 161)), none⟩]))
   (.skip)))
  (.seq (.region [⟨(some 163), .op (.load (some 3) (.tmp 3)), none⟩,
    ⟨(some 164), .op (.load (some 4) (.tmp 4)), none⟩,
    ⟨(some 165), .op (.mov (.tmp 10)), none⟩,
    ⟨(some 166), .call (.fnv 116) [(.tmp 163), (.tmp 164), (.tmp 165), (.val (.bool true))], none⟩,
    ⟨(some 162), .op (.mov (.tmp 166)), none⟩,
    ⟨(some 167), .op (.extract (.tmp 162) 0), none⟩,
    ⟨(some 168), .op (.extract (.tmp 162) 1), none⟩,
    ⟨(some 12), .op (.alloc [(.bool false), .nils]), none⟩,
    ⟨none, .op (.store 2 (.tmp 12) (.tmp 167)), none⟩,
    ⟨(some 13), .op (.mov (.tmp 168)), none⟩])
  (.seq (.seq (.region [⟨(some 169), .op (.mov (.tmp 13)), none⟩,
     ⟨(some 170), .op (.bin .neq (.tmp 169) (.val (.int .i64 0))), none⟩])
   (.cond (.tmp 170) (.seq (.region [⟨(some 171), .op (.mov (.tmp 13)), none⟩,
      ⟨(some 6), .op (.mov (.tmp 171)), none⟩])
    (.ret))
   (.skip)))
  (.seq (.draw [⟨⟨(some 172), .op (.load (some 4) (.tmp 4)), none⟩, .read [10, 11]⟩,
    ⟨⟨(some 173), .op (.load (some 2) (.tmp 7)), none⟩, .read []⟩,
    ⟨⟨(some 174), .op (.mov (.tmp 11)), none⟩, .pure⟩,
    ⟨⟨(some 175), .op (.fieldAddr 1 (.tmp 12)), none⟩, .pure⟩,
    ⟨⟨(some 176), .op (.load none (.tmp 175)), none⟩, .read []⟩,
    ⟨⟨(some 177), .op (.idxS 1 (.tmp 176) (.val (.int .i64 0))), none⟩, .read []⟩,
    ⟨⟨(some 178), .op (.load none (.tmp 177)), none⟩, .read []⟩,
    ⟨⟨(some 179), .call (.fnv 65) [(.tmp 173), (.tmp 174), (.tmp 178)], none⟩, .act false⟩,
    ⟨⟨(some 180), .op (.fieldAddr 3 (.tmp 5)), none⟩, .pure⟩,
    ⟨⟨(some 181), .op (.load none (.tmp 180)), none⟩, .read [7]⟩,
    ⟨⟨(some 182), .call (.fnv 65) [(.tmp 179), (.tmp 181), (.val (.int .i64 0))], none⟩, .act true⟩,
    ⟨⟨(some 183), .call (.fnv 64) [(.tmp 172), (.tmp 182)], none⟩, .act true⟩,
    ⟨⟨(some 6), .op (.mov (.tmp 183)), none⟩, .pure⟩])
  (.ret)))))))),
  [.tmp 6], none, none⟩
def A114 : AFun := ⟨.seq (.region [⟨(some 3), .op (.box (.tmp 0)), none⟩,
    ⟨(some 6), .op (.mov (.val (.int .i64 0))), none⟩])
  (.seq (.seq (.region [⟨(some 7), .op (.mov (.tmp 1)), none⟩,
     ⟨(some 8), .op (.lenS (.tmp 7)), none⟩,
     ⟨(some 9), .op (.mov (.tmp 2)), none⟩,
     ⟨(some 10), .op (.lenS (.tmp 9)), none⟩,
     ⟨(some 11), .op (.bin .neq (.tmp 8) (.tmp 10)), none⟩])
   (.cond (.tmp 11) (.seq (.region [⟨(some 6), .op (.mov (.val (.int .i64 16))), none⟩])
    (.ret))
   (.skip)))
  (.seq (.region [⟨(some 12), .op (.load (some 4) (.tmp 3)), none⟩,
    ⟨(some 13), .op (.mov (.tmp 1)), none⟩,
    ⟨(some 14), .op (.mov (.tmp 2)), none⟩,
    ⟨(some 15), .op (.build [.nils, .nils] [(0, 1, (.tmp 13)), (1, 1, (.tmp 14))]), none⟩,
    ⟨(some 16), .call (.fnv 64) [(.tmp 12), (.tmp 15)], none⟩,
    ⟨(some 6), .op (.mov (.tmp 16)), none⟩])
  (.ret))),
  [.tmp 6], none, none⟩
def A115 : AFun := ⟨.seq (.region [⟨(some 2), .op (.box (.tmp 0)), none⟩,
    ⟨(some 4), .op (.mov (.val (.int .i64 0))), none⟩,
    ⟨(some 5), .op (.mov (.val (.int .i64 0))), none⟩])
  (.seq (.region [⟨(some 9), .op (.load (some 4) (.tmp 2)), none⟩,
    ⟨(some 10), .op (.mov (.tmp 1)), none⟩,
    ⟨(some 11), .call (.fnv 88) [(.tmp 9), (.tmp 10)], none⟩,
    ⟨(some 8), .op (.mov (.tmp 11)), none⟩,
    ⟨(some 12), .op (.extract (.tmp 8) 0), none⟩,
    ⟨(some 13), .op (.extract (.tmp 8) 1), none⟩,
    ⟨(some 6), .op (.mov (.tmp 12)), none⟩,
    ⟨(some 7), .op (.mov (.tmp 13)), none⟩])
  (.seq (.seq (.region [⟨(some 14), .op (.mov (.tmp 7)), none⟩,
     ⟨(some 15), .op (.un .not (.tmp 14)), none⟩])
   (.cond (.tmp 15) (.seq (.region [⟨(some 4), .op (.mov (.val (.int .i64 0))), none⟩,
      ⟨(some 5), .op (.mov (.val (.int .i64 11))), none⟩])
    (.ret))
   (.skip)))
  (.seq (.seq (.region [⟨(some 16), .op (.mov (.tmp 6)), none⟩,
     ⟨(some 17), .op (.bin .lss (.tmp 16) (.val (.int .i64 64))), none⟩])
   (.cond (.tmp 17) (.seq (.region [⟨(some 4), .op (.mov (.val (.int .i64 0))), none⟩,
      ⟨(some 5), .op (.mov (.val (.int .i64 10))), none⟩])
    (.ret))
   (.skip)))
  (.seq (.region [⟨(some 18), .op (.mov (.tmp 6)), none⟩,
    ⟨(some 19), .op (.bin .sub (.tmp 18) (.val (.int .i64 64))), none⟩,
    ⟨(some 4), .op (.mov (.tmp 19)), none⟩,
    ⟨(some 5), .op (.mov (.val (.int .i64 0))), none⟩])
  (.ret))))),
  [.tmp 4, .tmp 5], none, none⟩
def A116 : AFun := ⟨.seq (.region [⟨(some 4), .op (.box (.tmp 0)), none⟩,
    ⟨(some 5), .op (.box (.tmp 1)), none⟩,
    ⟨(some 8), .op (.alloc [(.bool false), .nils]), none⟩,
    ⟨(some 9), .op (.mov (.val (.int .i64 0))), none⟩])
  (.seq (.region [⟨(some 14), .op (.load (some 4) (.tmp 5)), none⟩,
    ⟨(some 15), .op (.mov (.tmp 2)), none⟩,
    ⟨(some 16), .call (.fnv 88) [(.tmp 14), (.tmp 15)], none⟩,
    ⟨(some 13), .op (.mov (.tmp 16)), none⟩,
    ⟨(some 17), .op (.extract (.tmp 13) 0), none⟩,
    ⟨(some 18), .op (.extract (.tmp 13) 1), none⟩,
    ⟨(some 10), .op (.mov (.tmp 17)), none⟩,
    ⟨(some 11), .op (.mov (.tmp 18)), none⟩])
  (.seq (.seq (.region [⟨(some 19), .op (.mov (.tmp 11)), none⟩,
     ⟨(some 20), .op (.un .not (.tmp 19)), none⟩])
   (.cond (.tmp 20) (.seq (.region [⟨(some 21), .op (.build [(.bool false), .nils] []), none⟩,
      ⟨none, .op (.store 2 (.tmp 8) (.tmp 21)), none⟩,
      ⟨(some 9), .op (.mov (.val (.int .i64 11))), none⟩])
    (.ret))
   (.skip)))
  (.seq (.seq (.region [⟨(some 22), .op (.mov (.tmp 10)), none⟩,
     ⟨(some 23), .call (.fnv 89) [(.tmp 22)], none⟩,
     ⟨(some 24), .op (.un .not (.tmp 23)), none⟩,
     ⟨(some 25), .op (.mov (.tmp 24)), none⟩,
     ⟨(some 26), .op (.mov (.tmp 10)), (some (25, false))⟩,
     ⟨(some 27), .op (.bin .geq (.tmp 26) (.val (.int .i64 64))), (some (25, false))⟩,
     ⟨(some 28), .op (.pick (.tmp 25) (.val (.bool true)) (.tmp 27)), none⟩])
   (.cond (.tmp 28) (.seq (.region [⟨(some 29), .op (.build [(.bool false), .nils] []), none⟩,
      ⟨none, .op (.store 2 (.tmp 8) (.tmp 29)), none⟩,
      ⟨(some 9), .op (.mov (.val (.int .i64 10))), none⟩])
    (.ret))
   (.skip)))
  (.seq (.region [⟨(some 30), .op (.fieldAddr 0 (.tmp 4)), none⟩,
    ⟨(some 31), .op (.load none (.tmp 30)), none⟩,
    ⟨(some 32), .op (.mov (.tmp 10)), none⟩,
    ⟨(some 33), .op (.bin .sub (.tmp 32) (.val (.int .i64 16))), none⟩,
    ⟨(some 34), .op (.idxS 2 (.tmp 31) (.tmp 33)), none⟩,
    ⟨(some 35), .op (.load (some 2) (.tmp 34)), none⟩,
    ⟨(some 12), .op (.alloc [(.bool false), .nils]), none⟩,
    ⟨none, .op (.store 2 (.tmp 12) (.tmp 35)), none⟩])
  (.seq (.seq (.region [⟨(some 36), .op (.fieldAddr 0 (.tmp 12)), none⟩,
     ⟨(some 37), .op (.load none (.tmp 36)), none⟩,
     ⟨(some 38), .op (.mov (.tmp 3)), none⟩,
     ⟨(some 39), .op (.eql true .bool (.tmp 37) (.tmp 38)), none⟩])
   (.cond (.tmp 39) (.seq (.region [⟨(some 40), .op (.build [(.bool false), .nils] []), none⟩,
      ⟨none, .op (.store 2 (.tmp 8) (.tmp 40)), none⟩,
      ⟨(some 9), .op (.mov (.val (.int .i64 14))), none⟩])
    (.ret))
   (.skip)))
  (.seq (.region [⟨(some 41), .op (.load (some 2) (.tmp 12)), none⟩,
    ⟨none, .op (.store 2 (.tmp 8) (.tmp 41)), none⟩,
    ⟨(some 9), .op (.mov (.val (.int .i64 0))), none⟩])
  (.ret))))))),
  [.cell 8 (some 2), .tmp 9], none, none⟩
def A117 : AFun := ⟨.seq (.region [⟨(some 5), .op (.box (.tmp 0)), none⟩,
    ⟨(some 6), .op (.box (.tmp 1)), none⟩,
    ⟨(some 10), .op (.mov (.val (.int .i64 0))), none⟩])
  (.seq (.region [⟨(some 15), .op (.load (some 3) (.tmp 5)), none⟩,
    ⟨(some 16), .op (.load (some 4) (.tmp 6)), none⟩,
    ⟨(some 17), .op (.mov (.tmp 2)), none⟩,
    ⟨(some 18), .call (.fnv 116) [(.tmp 15), (.tmp 16), (.tmp 17), (.val (.bool false))], none⟩,
    ⟨(some 14), .op (.mov (.tmp 18)), none⟩,
    ⟨(some 19), .op (.extract (.tmp 14) 0), none⟩,
    ⟨(some 20), .op (.extract (.tmp 14) 1), none⟩,
    ⟨(some 11), .op (.alloc [(.bool false), .nils]), none⟩,
    ⟨none, .op (.store 2 (.tmp 11) (.tmp 19)), none⟩,
    ⟨(some 12), .op (.mov (.tmp 20)), none⟩])
  (.seq (.seq (.region [⟨(some 21), .op (.mov (.tmp 12)), none⟩,
     ⟨(some 22), .op (.bin .neq (.tmp 21) (.val (.int .i64 0))), none⟩])
   (.cond (.tmp 22) (.seq (.region [⟨(some 23), .op (.mov (.tmp 12)), none⟩,
      ⟨(some 10), .op (.mov (.tmp 23)), none⟩])
    (.ret))
   (.skip)))
  (.seq (.seq (.region [⟨(some 24), .op (.mov (.tmp 3)), none⟩,
     ⟨(some 25), .op (.bin .lss (.tmp 24) (.val (.int .i64 0))), none⟩,
     ⟨(some 26), .op (.mov (.tmp 25)), none⟩,
     ⟨(some 27), .op (.mov (.tmp 3)), (some (26, false))⟩,
     ⟨(some 28), .op (.fieldAddr 1 (.tmp 11)), (some (26, false))⟩,
     ⟨(some 29), .op (.load none (.tmp 28)), (some (26, false))⟩,
     ⟨(some 30), .op (.lenS (.tmp 29)), (some (26, false))⟩,
     ⟨(some 31), .op (.bin .geq (.tmp 27) (.tmp 30)), (some (26, false))⟩,
     ⟨(some 32), .op (.pick (.tmp 26) (.val (.bool true)) (.tmp 31)), none⟩])
   (.cond (.tmp 32) (.seq (.region [⟨(some 10), .op (.mov (.val (.int .i64 14))), none⟩])
    (.ret))
   (.skip)))
  (.seq (.region [⟨(some 13), .op (.alloc [.nils, .nils]), none⟩])
  (.seq (.draw [⟨⟨(some 33), .op (.load (some 4) (.tmp 6)), none⟩, .read [9]⟩,
    ⟨⟨(some 34), .op (.load (some 2) (.tmp 13)), none⟩, .read []⟩,
    ⟨⟨(some 35), .op (.mov (.tmp 4)), none⟩, .pure⟩,
    ⟨⟨(some 36), .op (.fieldAddr 1 (.tmp 11)), none⟩, .pure⟩,
    ⟨⟨(some 37), .op (.load none (.tmp 36)), none⟩, .read []⟩,
    ⟨⟨(some 38), .op (.mov (.tmp 3)), none⟩, .pure⟩,
    ⟨⟨(some 39), .op (.idxS 1 (.tmp 37) (.tmp 38)), none⟩, .read []⟩,
    ⟨⟨(some 40), .op (.load none (.tmp 39)), none⟩, .read []⟩,
    ⟨⟨(some 41), .call (.fnv 65) [(.tmp 34), (.tmp 35), (.tmp 40)], none⟩, .act true⟩,
    ⟨⟨(some 42), .call (.fnv 64) [(.tmp 33), (.tmp 41)], none⟩, .act true⟩,
    ⟨⟨(some 10), .op (.mov (.tmp 42)), none⟩, .pure⟩])
  (.ret)))))),
  [.tmp 10], none, none⟩
end Go.Proofs.Ytofcnjglnnoimaa.AmGW
