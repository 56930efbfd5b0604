/-
  The machine's form of the functions, printed by program off the translation.
-/
import Derived.Test.YtofcnjglnnoimabAmIR
namespace Go.Proofs.Ytofcnjglnnoimab.AmGN
open Go Go.AM
set_option maxRecDepth 100000
def A68 : AFun := ⟨.seq (.region [⟨(some 3), .op (.box (.tmp 1)), none⟩,
    ⟨(some 4), .op (.mov (.val (.int .i64 0))), none⟩])
  (.seq (.seq (.region [⟨(some 14), .op (.fieldAddr 0 (.tmp 3)), none⟩,
     ⟨(some 15), .op (.load none (.tmp 14)), none⟩])
   (.block 0 (.seq (.seq (.region [⟨(some 17), .op (.bin .eql (.tmp 15) (.val (.int .i64 26))), none⟩,
       ⟨(some 16), .op (.mov (.tmp 17)), none⟩])
     (.cond (.tmp 16) (.skip)
     (.region [⟨(some 18), .op (.bin .eql (.tmp 15) (.val (.int .i64 27))), none⟩,
      ⟨(some 16), .op (.mov (.tmp 18)), none⟩])))
    (.cond (.tmp 16) (.seq (.seq (.region [⟨(some 19), .op (.fieldAddr 2 (.tmp 3)), none⟩,
        ⟨(some 20), .op (.load none (.tmp 19)), none⟩,
        ⟨(some 21), .op (.mov (.tmp 0)), none⟩,
        ⟨(some 22), .op (.nilCheck (.tmp 21)), none⟩,
        ⟨(some 23), .op (.fieldAddr 0 (.tmp 22)), none⟩,
        ⟨(some 24), .op (.fieldAddr 0 (.tmp 23)), none⟩,
        ⟨(some 25), .op (.load none (.tmp 24)), none⟩,
        ⟨(some 26), .op (.lenS (.tmp 25)), none⟩,
        ⟨(some 27), .op (.bin .geq (.tmp 20) (.tmp 26)), none⟩,
        ⟨(some 28), .op (.mov (.tmp 27)), none⟩,
        ⟨(some 29), .op (.fieldAddr 2 (.tmp 3)), (some (28, false))⟩,
        ⟨(some 30), .op (.load none (.tmp 29)), (some (28, false))⟩,
        ⟨(some 31), .op (.bin .lss (.tmp 30) (.val (.int .i64 0))), (some (28, false))⟩,
        ⟨(some 32), .op (.pick (.tmp 28) (.val (.bool true)) (.tmp 31)), none⟩,
        ⟨(some 33), .op (.mov (.tmp 32)), none⟩,
        ⟨(some 34), .op (.mov (.tmp 0)), (some (33, false))⟩,
        ⟨(some 35), .op (.nilCheck (.tmp 34)), (some (33, false))⟩,
        ⟨(some 36), .op (.fieldAddr 0 (.tmp 35)), (some (33, false))⟩,
        ⟨(some 37), .op (.fieldAddr 0 (.tmp 36)), (some (33, false))⟩,
        ⟨(some 38), .op (.load none (.tmp 37)), (some (33, false))⟩,
        ⟨(some 39), .op (.fieldAddr 2 (.tmp 3)), (some (33, false))⟩,
        ⟨(some 40), .op (.load none (.tmp 39)), (some (33, false))⟩,
        ⟨(some 41), .op (.idxS 2 (.tmp 38) (.tmp 40)), (some (33, false))⟩,
        ⟨(some 42), .op (.fieldAddr 0 (.tmp 41)), (some (33, false))⟩,
        ⟨(some 43), .op (.load none (.tmp 42)), (some (33, false))⟩,
        ⟨(some 44), .op (.fieldAddr 0 (.tmp 3)), (some (33, false))⟩,
        ⟨(some 45), .op (.load none (.tmp 44)), (some (33, false))⟩,
        ⟨(some 46), .op (.bin .eql (.tmp 45) (.val (.int .i64 27))), (some (33, false))⟩,
        ⟨(some 47), .op (.eql true .bool (.tmp 43) (.tmp 46)), (some (33, false))⟩,
        ⟨(some 48), .op (.pick (.tmp 33) (.val (.bool true)) (.tmp 47)), none⟩])
      (.cond (.tmp 48) (.seq (.region [⟨(some 4), .op (.mov (.val (.int .i64 14))), none⟩])
       (.ret))
      (.skip)))
     (.seq (.seq (.region [⟨(some 49), .op (.fieldAddr 0 (.tmp 3)), none⟩,
        ⟨(some 50), .op (.load none (.tmp 49)), none⟩,
        ⟨(some 51), .op (.bin .eql (.tmp 50) (.val (.int .i64 27))), none⟩])
      (.cond (.tmp 51) (.seq (.region [⟨(some 52), .op (.mov (.tmp 0)), none⟩,
         ⟨(some 53), .op (.fieldAddr 1 (.tmp 3)), none⟩,
         ⟨(some 54), .op (.load none (.tmp 53)), none⟩,
         ⟨(some 55), .op (.fieldAddr 2 (.tmp 3)), none⟩,
         ⟨(some 56), .op (.load none (.tmp 55)), none⟩,
         ⟨(some 57), .op (.bin .add (.val (.int .i64 16)) (.tmp 56)), none⟩,
         ⟨(some 58), .op (.fieldAddr 3 (.tmp 3)), none⟩,
         ⟨(some 59), .op (.load none (.tmp 58)), none⟩,
         ⟨(some 60), .op (.buildSlice 1 4 [(.int .i64 0)] [(0, (.tmp 54)), (1, (.tmp 57)), (2, (.tmp 59)), (3, (.val (.int .i64 0)))]), none⟩,
         ⟨(some 61), .call (.fnv 66) [(.tmp 52), (.tmp 60)], none⟩,
         ⟨(some 4), .op (.mov (.tmp 61)), none⟩])
       (.ret))
      (.skip)))
     (.seq (.region [⟨(some 62), .op (.mov (.tmp 0)), none⟩,
       ⟨(some 63), .op (.fieldAddr 1 (.tmp 3)), none⟩,
       ⟨(some 64), .op (.load none (.tmp 63)), none⟩,
       ⟨(some 65), .op (.fieldAddr 2 (.tmp 3)), none⟩,
       ⟨(some 66), .op (.load none (.tmp 65)), none⟩,
       ⟨(some 67), .op (.bin .add (.val (.int .i64 16)) (.tmp 66)), none⟩,
       ⟨(some 68), .op (.buildSlice 1 2 [(.int .i64 0)] [(0, (.tmp 64)), (1, (.tmp 67))]), none⟩,
       ⟨(some 69), .call (.fnv 66) [(.tmp 62), (.tmp 68)], none⟩,
       ⟨(some 4), .op (.mov (.tmp 69)), none⟩])
     (.ret))))
    (.seq (.region [⟨(some 71), .op (.bin .eql (.tmp 15) (.val (.int .i64 28))), none⟩,
      ⟨(some 70), .op (.mov (.tmp 71)), none⟩])
    (.cond (.tmp 70) (.seq (.seq (.region [⟨(some 73), .op (.mov (.tmp 0)), none⟩,
        ⟨(some 74), .op (.fieldAddr 2 (.tmp 3)), none⟩,
        ⟨(some 75), .op (.load none (.tmp 74)), none⟩,
        ⟨(some 76), .call (.fnv 86) [(.tmp 73), (.tmp 75), (.val (.bool true))], none⟩,
        ⟨(some 72), .op (.mov (.tmp 76)), none⟩,
        ⟨(some 77), .op (.extract (.tmp 72) 0), none⟩,
        ⟨(some 78), .op (.extract (.tmp 72) 1), none⟩,
        ⟨(some 5), .op (.alloc [(.bool false), .nils]), none⟩,
        ⟨none, .op (.store 2 (.tmp 5) (.tmp 77)), none⟩,
        ⟨(some 6), .op (.mov (.tmp 78)), none⟩])
      (.seq (.region [⟨(some 79), .op (.mov (.tmp 6)), none⟩,
        ⟨(some 80), .op (.bin .neq (.tmp 79) (.val (.int .i64 0))), none⟩])
      (.cond (.tmp 80) (.seq (.region [⟨(some 81), .op (.mov (.tmp 6)), none⟩,
         ⟨(some 4), .op (.mov (.tmp 81)), none⟩])
       (.ret))
      (.skip))))
     (.seq (.region [⟨(some 82), .op (.mov (.tmp 0)), none⟩,
       ⟨(some 83), .op (.fieldAddr 1 (.tmp 3)), none⟩,
       ⟨(some 84), .op (.load none (.tmp 83)), none⟩,
       ⟨(some 85), .op (.buildSlice 1 2 [(.int .i64 0)] [(0, (.tmp 84)), (1, (.val (.int .i64 0)))]), none⟩,
       ⟨(some 86), .call (.fnv 66) [(.tmp 82), (.tmp 85)], none⟩,
       ⟨(some 4), .op (.mov (.tmp 86)), none⟩])
     (.ret)))
    (.seq (.seq (.region [⟨(some 88), .op (.bin .eql (.tmp 15) (.val (.int .i64 33))), none⟩,
       ⟨(some 87), .op (.mov (.tmp 88)), none⟩])
     (.cond (.tmp 87) (.skip)
     (.region [⟨(some 89), .op (.bin .eql (.tmp 15) (.val (.int .i64 34))), none⟩,
      ⟨(some 87), .op (.mov (.tmp 89)), none⟩])))
    (.cond (.tmp 87) (.seq (.region [⟨(some 90), .op (.fieldAddr 1 (.tmp 3)), none⟩,
       ⟨(some 91), .op (.load none (.tmp 90)), none⟩,
       ⟨(some 92), .op (.fieldAddr 2 (.tmp 3)), none⟩,
       ⟨(some 93), .op (.load none (.tmp 92)), none⟩,
       ⟨(some 7), .op (.mov (.tmp 91)), none⟩,
       ⟨(some 8), .op (.mov (.tmp 93)), none⟩])
     (.seq (.seq (.region [⟨(some 94), .op (.fieldAddr 0 (.tmp 3)), none⟩,
        ⟨(some 95), .op (.load none (.tmp 94)), none⟩,
        ⟨(some 96), .op (.bin .eql (.tmp 95) (.val (.int .i64 34))), none⟩])
      (.cond (.tmp 96) (.region [⟨(some 97), .op (.fieldAddr 2 (.tmp 3)), none⟩,
        ⟨(some 98), .op (.load none (.tmp 97)), none⟩,
        ⟨(some 99), .op (.fieldAddr 1 (.tmp 3)), none⟩,
        ⟨(some 100), .op (.load none (.tmp 99)), none⟩,
        ⟨(some 7), .op (.mov (.tmp 98)), none⟩,
        ⟨(some 8), .op (.mov (.tmp 100)), none⟩])
      (.skip)))
     (.seq (.seq (.region [⟨(some 101), .op (.mov (.tmp 8)), none⟩,
        ⟨(some 102), .op (.bin .lss (.tmp 101) (.val (.int .i64 0))), none⟩,
        ⟨(some 103), .op (.mov (.tmp 102)), none⟩,
        ⟨(some 104), .op (.mov (.tmp 8)), (some (103, false))⟩,
        ⟨(some 105), .op (.mov (.tmp 0)), (some (103, false))⟩,
        ⟨(some 106), .op (.nilCheck (.tmp 105)), (some (103, false))⟩,
        ⟨(some 107), .op (.fieldAddr 0 (.tmp 106)), (some (103, false))⟩,
        ⟨(some 108), .op (.fieldAddr 1 (.tmp 107)), (some (103, false))⟩,
        ⟨(some 109), .op (.load none (.tmp 108)), (some (103, false))⟩,
        ⟨(some 110), .op (.lenS (.tmp 109)), (some (103, false))⟩,
        ⟨(some 111), .op (.bin .geq (.tmp 104) (.tmp 110)), (some (103, false))⟩,
        ⟨(some 112), .op (.pick (.tmp 103) (.val (.bool true)) (.tmp 111)), none⟩])
      (.cond (.tmp 112) (.seq (.region [⟨(some 4), .op (.mov (.val (.int .i64 15))), none⟩])
       (.ret))
      (.skip)))
     (.seq (.region [⟨(some 113), .op (.mov (.tmp 0)), none⟩,
       ⟨(some 114), .op (.mov (.tmp 7)), none⟩,
       ⟨(some 115), .op (.mov (.tmp 0)), none⟩,
       ⟨(some 116), .op (.nilCheck (.tmp 115)), none⟩,
       ⟨(some 117), .op (.fieldAddr 0 (.tmp 116)), none⟩,
       ⟨(some 118), .op (.fieldAddr 1 (.tmp 117)), none⟩,
       ⟨(some 119), .op (.load none (.tmp 118)), none⟩,
       ⟨(some 120), .op (.mov (.tmp 8)), none⟩,
       ⟨(some 121), .op (.idxS 1 (.tmp 119) (.tmp 120)), none⟩,
       ⟨(some 122), .op (.load none (.tmp 121)), none⟩,
       ⟨(some 123), .op (.buildSlice 1 2 [(.int .i64 0)] [(0, (.tmp 114)), (1, (.tmp 122))]), none⟩,
       ⟨(some 124), .call (.fnv 66) [(.tmp 113), (.tmp 123)], none⟩,
       ⟨(some 4), .op (.mov (.tmp 124)), none⟩])
     (.ret)))))
    (.skip)))))))))
  (.seq (.region [⟨(some 125), .op (.fieldAddr 2 (.tmp 3)), none⟩,
    ⟨(some 126), .op (.load none (.tmp 125)), none⟩,
    ⟨(some 127), .op (.fieldAddr 1 (.tmp 3)), none⟩,
    ⟨(some 128), .op (.load none (.tmp 127)), none⟩,
    ⟨(some 129), .op (.fieldAddr 0 (.tmp 3)), none⟩,
    ⟨(some 130), .op (.load none (.tmp 129)), none⟩,
    ⟨(some 131), .op (.bin .eql (.tmp 130) (.val (.int .i64 31))), none⟩,
    ⟨(some 132), .op (.mov (.tmp 131)), none⟩,
    ⟨(some 133), .op (.fieldAddr 0 (.tmp 3)), (some (132, false))⟩,
    ⟨(some 134), .op (.load none (.tmp 133)), (some (132, false))⟩,
    ⟨(some 135), .op (.bin .eql (.tmp 134) (.val (.int .i64 32))), (some (132, false))⟩,
    ⟨(some 136), .op (.pick (.tmp 132) (.val (.bool true)) (.tmp 135)), none⟩,
    ⟨(some 9), .op (.mov (.tmp 126)), none⟩,
    ⟨(some 10), .op (.mov (.tmp 128)), none⟩,
    ⟨(some 11), .op (.mov (.tmp 136)), none⟩])
  (.seq (.seq (.region [⟨(some 137), .op (.fieldAddr 0 (.tmp 3)), none⟩,
     ⟨(some 138), .op (.load none (.tmp 137)), none⟩,
     ⟨(some 139), .op (.bin .eql (.tmp 138) (.val (.int .i64 30))), none⟩,
     ⟨(some 140), .op (.mov (.tmp 139)), none⟩,
     ⟨(some 141), .op (.fieldAddr 0 (.tmp 3)), (some (140, false))⟩,
     ⟨(some 142), .op (.load none (.tmp 141)), (some (140, false))⟩,
     ⟨(some 143), .op (.bin .eql (.tmp 142) (.val (.int .i64 32))), (some (140, false))⟩,
     ⟨(some 144), .op (.pick (.tmp 140) (.val (.bool true)) (.tmp 143)), none⟩])
   (.cond (.tmp 144) (.region [⟨(some 145), .op (.fieldAddr 1 (.tmp 3)), none⟩,
     ⟨(some 146), .op (.load none (.tmp 145)), none⟩,
     ⟨(some 147), .op (.fieldAddr 2 (.tmp 3)), none⟩,
     ⟨(some 148), .op (.load none (.tmp 147)), none⟩,
     ⟨(some 9), .op (.mov (.tmp 146)), none⟩,
     ⟨(some 10), .op (.mov (.tmp 148)), none⟩])
   (.skip)))
  (.seq (.region [⟨(some 150), .op (.mov (.tmp 0)), none⟩,
    ⟨(some 151), .op (.mov (.tmp 9)), none⟩,
    ⟨(some 152), .op (.mov (.tmp 11)), none⟩,
    ⟨(some 153), .call (.fnv 86) [(.tmp 150), (.tmp 151), (.tmp 152)], none⟩,
    ⟨(some 149), .op (.mov (.tmp 153)), none⟩,
    ⟨(some 154), .op (.extract (.tmp 149) 0), none⟩,
    ⟨(some 155), .op (.extract (.tmp 149) 1), none⟩,
    ⟨(some 12), .op (.alloc [(.bool false), .nils]), none⟩,
    ⟨none, .op (.store 2 (.tmp 12) (.tmp 154)), none⟩,
    ⟨(some 13), .op (.mov (.tmp 155)), none⟩])
  (.seq (.seq (.region [⟨(some 156), .op (.mov (.tmp 13)), none⟩,
     ⟨(some 157), .op (.bin .neq (.tmp 156) (.val (.int .i64 0))), none⟩])
   (.cond (.tmp 157) (.seq (.region [⟨(some 158), .op (.mov (.tmp 13)), none⟩,
      ⟨(some 4), .op (.mov (.tmp 158)), none⟩])
    (.ret))
   (.skip)))
  (.seq (.seq (.region [⟨(some 159), .op (.mov (.tmp 11)), none⟩])
   (.cond (.tmp 159) (.seq (.draw [⟨⟨(some 160), .op (.mov (.tmp 0)), none⟩, .pure⟩,
      ⟨⟨(some 161), .op (.mov (.tmp 10)), none⟩, .pure⟩,
      ⟨⟨(some 162), .op (.fieldAddr 1 (.tmp 12)), none⟩, .pure⟩,
      ⟨⟨(some 163), .op (.load none (.tmp 162)), none⟩, .read []⟩,
      ⟨⟨(some 164), .op (.idxS 1 (.tmp 163) (.val (.int .i64 0))), none⟩, .read []⟩,
      ⟨⟨(some 165), .op (.load none (.tmp 164)), none⟩, .read []⟩,
      ⟨⟨(some 166), .op (.fieldAddr 3 (.tmp 3)), none⟩, .pure⟩,
      ⟨⟨(some 167), .op (.load none (.tmp 166)), none⟩, .read []⟩,
      ⟨⟨(some 168), .op (.buildSlice 1 4 [(.int .i64 0)] [(0, (.tmp 161)), (1, (.tmp 165)), (2, (.tmp 167)), (3, (.val (.int .i64 0)))]), none⟩, .act true⟩,
      ⟨⟨(some 169), .call (.fnv 66) [(.tmp 160), (.tmp 168)], none⟩, .act true⟩,
      ⟨⟨(some 4), .op (.mov (.tmp 169)), none⟩, .pure⟩])
    (.ret))
   (.skip)))
  (.seq (.seq (.region [⟨(some 170), .op (.fieldAddr 3 (.tmp 3)), none⟩,
     ⟨(some 171), .op (.load none (.tmp 170)), none⟩,
     ⟨(some 172), .op (.bin .lss (.tmp 171) (.val (.int .i64 0))), none⟩,
     ⟨(some 173), .op (.mov (.tmp 172)), none⟩,
     ⟨(some 174), .op (.fieldAddr 3 (.tmp 3)), (some (173, false))⟩,
     ⟨(some 175), .op (.load none (.tmp 174)), (some (173, false))⟩,
     ⟨(some 176), .op (.fieldAddr 1 (.tmp 12)), (some (173, false))⟩,
     ⟨(some 177), .op (.load none (.tmp 176)), (some (173, false))⟩,
     ⟨(some 178), .op (.lenS (.tmp 177)), (some (173, false))⟩,
     ⟨(some 179), .op (.bin .geq (.tmp 175) (.tmp 178)), (some (173, false))⟩,
     ⟨(some 180), .op (.pick (.tmp 173) (.val (.bool true)) (.tmp 179)), none⟩])
   (.cond (.tmp 180) (.seq (.region [⟨(some 4), .op (.mov (.val (.int .i64 14))), none⟩])
    (.ret))
   (.skip)))
  (.seq (.region [⟨(some 181), .op (.mov (.tmp 0)), none⟩,
    ⟨(some 182), .op (.mov (.tmp 10)), none⟩,
    ⟨(some 183), .op (.fieldAddr 1 (.tmp 12)), none⟩,
    ⟨(some 184), .op (.load none (.tmp 183)), none⟩,
    ⟨(some 185), .op (.fieldAddr 3 (.tmp 3)), none⟩,
    ⟨(some 186), .op (.load none (.tmp 185)), none⟩,
    ⟨(some 187), .op (.idxS 1 (.tmp 184) (.tmp 186)), none⟩,
    ⟨(some 188), .op (.load none (.tmp 187)), none⟩,
    ⟨(some 189), .op (.buildSlice 1 2 [(.int .i64 0)] [(0, (.tmp 182)), (1, (.tmp 188))]), none⟩,
    ⟨(some 190), .call (.fnv 66) [(.tmp 181), (.tmp 189)], none⟩,
    ⟨(some 4), .op (.mov (.tmp 190)), none⟩])
  (.ret))))))))),
  [.tmp 4], none, none⟩
def A69 : AFun := ⟨.seq (.region [⟨(some 3), .op (.box (.tmp 1)), none⟩,
    ⟨(some 4), .op (.mov (.val (.int .i64 0))), none⟩])
  (.seq (.seq (.region [⟨(some 10), .op (.fieldAddr 0 (.tmp 3)), none⟩,
     ⟨(some 11), .op (.load none (.tmp 10)), none⟩,
     ⟨(some 12), .op (.bin .eql (.tmp 11) (.val (.int .i64 36))), none⟩])
   (.cond (.tmp 12) (.seq (.draw [⟨⟨(some 13), .op (.mov (.tmp 0)), none⟩, .pure⟩,
      ⟨⟨(some 14), .op (.fieldAddr 5 (.tmp 3)), none⟩, .pure⟩,
      ⟨⟨(some 15), .op (.load none (.tmp 14)), none⟩, .read []⟩,
      ⟨⟨(some 16), .op (.mov (.tmp 0)), none⟩, .pure⟩,
      ⟨⟨(some 17), .op (.nilCheck (.tmp 16)), none⟩, .pure⟩,
      ⟨⟨(some 18), .op (.fieldAddr 3 (.tmp 17)), none⟩, .pure⟩,
      ⟨⟨(some 19), .op (.fieldAddr 2 (.tmp 18)), none⟩, .pure⟩,
      ⟨⟨(some 20), .op (.load none (.tmp 19)), none⟩, .read []⟩,
      ⟨⟨(some 21), .call (.fnv 87) [(.tmp 13), (.tmp 15), (.tmp 20)], none⟩, .act true⟩,
      ⟨⟨(some 4), .op (.mov (.tmp 21)), none⟩, .pure⟩])
    (.ret))
   (.skip)))
  (.seq (.seq (.region [⟨(some 22), .op (.fieldAddr 1 (.tmp 3)), none⟩,
     ⟨(some 23), .op (.load none (.tmp 22)), none⟩,
     ⟨(some 24), .op (.bin .lss (.tmp 23) (.val (.int .i64 0))), none⟩,
     ⟨(some 25), .op (.mov (.tmp 24)), none⟩,
     ⟨(some 26), .op (.fieldAddr 1 (.tmp 3)), (some (25, false))⟩,
     ⟨(some 27), .op (.load none (.tmp 26)), (some (25, false))⟩,
     ⟨(some 28), .op (.mov (.tmp 0)), (some (25, false))⟩,
     ⟨(some 29), .op (.nilCheck (.tmp 28)), (some (25, false))⟩,
     ⟨(some 30), .op (.fieldAddr 0 (.tmp 29)), (some (25, false))⟩,
     ⟨(some 31), .op (.fieldAddr 2 (.tmp 30)), (some (25, false))⟩,
     ⟨(some 32), .op (.load none (.tmp 31)), (some (25, false))⟩,
     ⟨(some 33), .op (.lenS (.tmp 32)), (some (25, false))⟩,
     ⟨(some 34), .op (.bin .geq (.tmp 27) (.tmp 33)), (some (25, false))⟩,
     ⟨(some 35), .op (.pick (.tmp 25) (.val (.bool true)) (.tmp 34)), none⟩])
   (.cond (.tmp 35) (.seq (.region [⟨(some 4), .op (.mov (.val (.int .i64 13))), none⟩])
    (.ret))
   (.skip)))
  (.seq (.draw [⟨⟨(some 36), .op (.mov (.tmp 0)), none⟩, .pure⟩,
    ⟨⟨(some 37), .op (.nilCheck (.tmp 36)), none⟩, .pure⟩,
    ⟨⟨(some 38), .op (.fieldAddr 0 (.tmp 37)), none⟩, .pure⟩,
    ⟨⟨(some 39), .op (.fieldAddr 2 (.tmp 38)), none⟩, .pure⟩,
    ⟨⟨(some 40), .op (.load none (.tmp 39)), none⟩, .read [10]⟩,
    ⟨⟨(some 41), .op (.fieldAddr 1 (.tmp 3)), none⟩, .pure⟩,
    ⟨⟨(some 42), .op (.load none (.tmp 41)), none⟩, .read [10]⟩,
    ⟨⟨(some 43), .op (.idxS 4 (.tmp 40) (.tmp 42)), none⟩, .read [10]⟩,
    ⟨⟨(some 44), .op (.load (some 4) (.tmp 43)), none⟩, .read [10]⟩,
    ⟨⟨(some 5), .op (.alloc [(.int .i64 0), .nils, .nils, .nils]), none⟩, .act true⟩,
    ⟨⟨none, .op (.store 4 (.tmp 5) (.tmp 44)), none⟩, .act true⟩])
  (.seq (.region [⟨(some 45), .op (.fieldAddr 1 (.tmp 5)), none⟩,
    ⟨(some 46), .op (.load none (.tmp 45)), none⟩,
    ⟨(some 47), .op (.fieldAddr 0 (.tmp 5)), none⟩,
    ⟨(some 48), .op (.load none (.tmp 47)), none⟩,
    ⟨(some 49), .op (.slice 1 (.tmp 46) none (some (.tmp 48))), none⟩,
    ⟨(some 6), .op (.mov (.tmp 49)), none⟩])
  (.seq (.seq (.region [⟨(some 50), .op (.fieldAddr 0 (.tmp 3)), none⟩,
     ⟨(some 51), .op (.load none (.tmp 50)), none⟩,
     ⟨(some 52), .op (.bin .neq (.tmp 51) (.val (.int .i64 35))), none⟩])
   (.cond (.tmp 52) (.seq (.seq (.region [⟨(some 53), .op (.fieldAddr 2 (.tmp 5)), none⟩,
       ⟨(some 54), .op (.load none (.tmp 53)), none⟩,
       ⟨(some 55), .op (.lenS (.tmp 54)), none⟩,
       ⟨(some 56), .op (.bin .neq (.tmp 55) (.val (.int .i64 0))), none⟩])
     (.cond (.tmp 56) (.seq (.region [⟨(some 4), .op (.mov (.val (.int .i64 13))), none⟩])
      (.ret))
     (.skip)))
    (.seq (.seq (.region [⟨(some 57), .op (.mov (.tmp 6)), none⟩,
       ⟨(some 58), .op (.lenS (.tmp 57)), none⟩,
       ⟨(some 59), .op (.mov (.val (.int .i64 0))), none⟩])
     (.block 0 (.loop (.seq (.region [⟨(some 60), .op (.bin .lss (.tmp 59) (.tmp 58)), none⟩])
       (.seq (.cond (.tmp 60) (.skip)
        (.exit 0))
       (.seq (.block 1 (.seq (.region [⟨(some 61), .op (.idxS 1 (.tmp 57) (.tmp 59)), none⟩,
           ⟨(some 62), .op (.load none (.tmp 61)), none⟩,
           ⟨(some 8), .op (.mov (.tmp 62)), none⟩])
         (.seq (.region [⟨(some 63), .op (.mov (.tmp 8)), none⟩,
           ⟨(some 64), .op (.bin .eql (.tmp 63) (.val (.int .i64 2))), none⟩])
         (.cond (.tmp 64) (.seq (.region [⟨(some 4), .op (.mov (.val (.int .i64 10))), none⟩])
          (.ret))
         (.skip)))))
       (.region [⟨(some 65), .op (.bin .add (.tmp 59) (.val (.int .i64 1))), none⟩,
        ⟨(some 59), .op (.mov (.tmp 65)), none⟩])))))))
    (.seq (.region [⟨(some 66), .op (.mov (.tmp 0)), none⟩,
      ⟨(some 67), .op (.fieldAddr 5 (.tmp 3)), none⟩,
      ⟨(some 68), .op (.load none (.tmp 67)), none⟩,
      ⟨(some 69), .op (.mov (.tmp 6)), none⟩,
      ⟨(some 70), .call (.fnv 87) [(.tmp 66), (.tmp 68), (.tmp 69)], none⟩,
      ⟨(some 4), .op (.mov (.tmp 70)), none⟩])
    (.ret))))
   (.skip)))
  (.seq (.draw [⟨⟨(some 71), .op (.mov (.tmp 6)), none⟩, .pure⟩,
    ⟨⟨(some 72), .op (.append 1 8 (.val .nils) (.tmp 71)), none⟩, .act false⟩,
    ⟨⟨(some 73), .op (.fieldAddr 2 (.tmp 5)), none⟩, .pure⟩,
    ⟨⟨(some 74), .op (.load none (.tmp 73)), none⟩, .read [1]⟩,
    ⟨⟨(some 75), .op (.append 1 8 (.tmp 72) (.tmp 74)), none⟩, .act true⟩,
    ⟨⟨(some 9), .op (.mov (.tmp 75)), none⟩, .pure⟩])
  (.seq (.region [⟨(some 76), .op (.mov (.tmp 0)), none⟩,
    ⟨(some 77), .op (.fieldAddr 5 (.tmp 3)), none⟩,
    ⟨(some 78), .op (.load none (.tmp 77)), none⟩,
    ⟨(some 79), .op (.mov (.tmp 9)), none⟩,
    ⟨(some 80), .call (.fnv 87) [(.tmp 76), (.tmp 78), (.tmp 79)], none⟩,
    ⟨(some 4), .op (.mov (.tmp 80)), none⟩])
  (.ret)))))))),
  [.tmp 4], none, none⟩
def A70 : AFun := ⟨.seq (.region [⟨(some 3), .op (.box (.tmp 1)), none⟩,
    ⟨(some 4), .op (.mov (.val (.int .i64 0))), none⟩])
  (.seq (.region [⟨(some 11), .op (.fieldAddr 1 (.tmp 3)), none⟩,
    ⟨(some 12), .op (.load none (.tmp 11)), none⟩,
    ⟨(some 13), .op (.fieldAddr 2 (.tmp 3)), none⟩,
    ⟨(some 14), .op (.load none (.tmp 13)), none⟩,
    ⟨(some 5), .op (.mov (.tmp 12)), none⟩,
    ⟨(some 6), .op (.mov (.tmp 14)), none⟩])
  (.seq (.seq (.region [⟨(some 15), .op (.fieldAddr 0 (.tmp 3)), none⟩,
     ⟨(some 16), .op (.load none (.tmp 15)), none⟩])
   (.block 0 (.seq (.seq (.region [⟨(some 18), .op (.bin .eql (.tmp 16) (.val (.int .i64 41))), none⟩,
       ⟨(some 17), .op (.mov (.tmp 18)), none⟩])
     (.cond (.tmp 17) (.skip)
     (.region [⟨(some 19), .op (.bin .eql (.tmp 16) (.val (.int .i64 44))), none⟩,
      ⟨(some 17), .op (.mov (.tmp 19)), none⟩])))
    (.cond (.tmp 17) (.seq (.seq (.region [⟨(some 20), .op (.fieldAddr 4 (.tmp 3)), none⟩,
        ⟨(some 21), .op (.load none (.tmp 20)), none⟩,
        ⟨(some 22), .op (.bin .gtr (.tmp 21) (.val (.int .u64 16))), none⟩])
      (.cond (.tmp 22) (.seq (.region [⟨(some 4), .op (.mov (.val (.int .i64 16))), none⟩])
       (.ret))
      (.skip)))
     (.seq (.region [⟨(some 24), .op (.mov (.tmp 0)), none⟩,
       ⟨(some 25), .op (.fieldAddr 1 (.tmp 3)), none⟩,
       ⟨(some 26), .op (.load none (.tmp 25)), none⟩,
       ⟨(some 27), .call (.fnv 88) [(.tmp 24), (.tmp 26)], none⟩,
       ⟨(some 23), .op (.mov (.tmp 27)), none⟩,
       ⟨(some 28), .op (.extract (.tmp 23) 0), none⟩,
       ⟨(some 29), .op (.extract (.tmp 23) 1), none⟩,
       ⟨(some 7), .op (.mov (.tmp 28)), none⟩,
       ⟨(some 8), .op (.mov (.tmp 29)), none⟩])
     (.seq (.region [⟨(some 30), .op (.mov (.tmp 8)), none⟩,
       ⟨(some 4), .op (.mov (.tmp 30)), none⟩])
     (.ret))))
    (.seq (.region [⟨(some 32), .op (.bin .eql (.tmp 16) (.val (.int .i64 43))), none⟩,
      ⟨(some 31), .op (.mov (.tmp 32)), none⟩])
    (.cond (.tmp 31) (.region [⟨(some 33), .op (.fieldAddr 2 (.tmp 3)), none⟩,
      ⟨(some 34), .op (.load none (.tmp 33)), none⟩,
      ⟨(some 35), .op (.fieldAddr 1 (.tmp 3)), none⟩,
      ⟨(some 36), .op (.load none (.tmp 35)), none⟩,
      ⟨(some 5), .op (.mov (.tmp 34)), none⟩,
      ⟨(some 6), .op (.mov (.tmp 36)), none⟩])
    (.seq (.region [⟨(some 38), .op (.bin .eql (.tmp 16) (.val (.int .i64 45))), none⟩,
      ⟨(some 37), .op (.mov (.tmp 38)), none⟩])
    (.cond (.tmp 37) (.seq (.region [⟨(some 39), .op (.mov (.tmp 0)), none⟩,
       ⟨(some 40), .op (.load (some 6) (.tmp 3)), none⟩,
       ⟨(some 41), .call (.fnv 89) [(.tmp 39), (.tmp 40)], none⟩,
       ⟨(some 4), .op (.mov (.tmp 41)), none⟩])
     (.ret))
    (.skip)))))))))
  (.seq (.region [⟨(some 43), .op (.mov (.tmp 0)), none⟩,
    ⟨(some 44), .op (.mov (.tmp 5)), none⟩,
    ⟨(some 45), .call (.fnv 88) [(.tmp 43), (.tmp 44)], none⟩,
    ⟨(some 42), .op (.mov (.tmp 45)), none⟩,
    ⟨(some 46), .op (.extract (.tmp 42) 0), none⟩,
    ⟨(some 47), .op (.extract (.tmp 42) 1), none⟩,
    ⟨(some 9), .op (.mov (.tmp 46)), none⟩,
    ⟨(some 10), .op (.mov (.tmp 47)), none⟩])
  (.seq (.seq (.region [⟨(some 48), .op (.mov (.tmp 10)), none⟩,
     ⟨(some 49), .op (.bin .neq (.tmp 48) (.val (.int .i64 0))), none⟩])
   (.cond (.tmp 49) (.seq (.region [⟨(some 50), .op (.mov (.tmp 10)), none⟩,
      ⟨(some 4), .op (.mov (.tmp 50)), none⟩])
    (.ret))
   (.skip)))
  (.seq (.seq (.region [⟨(some 51), .op (.fieldAddr 0 (.tmp 3)), none⟩,
     ⟨(some 52), .op (.load none (.tmp 51)), none⟩,
     ⟨(some 53), .op (.bin .eql (.tmp 52) (.val (.int .i64 43))), none⟩])
   (.cond (.tmp 53) (.seq (.region [⟨(some 54), .op (.mov (.tmp 0)), none⟩,
      ⟨(some 55), .op (.mov (.tmp 6)), none⟩,
      ⟨(some 56), .op (.mov (.tmp 9)), none⟩,
      ⟨(some 57), .op (.fieldAddr 3 (.tmp 3)), none⟩,
      ⟨(some 58), .op (.load none (.tmp 57)), none⟩,
      ⟨(some 59), .op (.buildSlice 1 4 [(.int .i64 0)] [(0, (.tmp 55)), (1, (.tmp 56)), (2, (.tmp 58)), (3, (.val (.int .i64 0)))]), none⟩,
      ⟨(some 60), .call (.fnv 66) [(.tmp 54), (.tmp 59)], none⟩,
      ⟨(some 4), .op (.mov (.tmp 60)), none⟩])
    (.ret))
   (.skip)))
  (.seq (.region [⟨(some 61), .op (.mov (.tmp 0)), none⟩,
    ⟨(some 62), .op (.mov (.tmp 6)), none⟩,
    ⟨(some 63), .op (.mov (.tmp 9)), none⟩,
    ⟨(some 64), .op (.buildSlice 1 2 [(.int .i64 0)] [(0, (.tmp 62)), (1, (.tmp 63))]), none⟩,
    ⟨(some 65), .call (.fnv 66) [(.tmp 61), (.tmp 64)], none⟩,
    ⟨(some 4), .op (.mov (.tmp 65)), none⟩])
  (.ret))))))),
  [.tmp 4], none, none⟩
def A71 : AFun := ⟨.seq (.region [⟨(some 11), .op (.mov (.tmp 2)), none⟩,
    ⟨(some 12), .op (.nilCheck (.tmp 11)), none⟩,
    ⟨(some 13), .op (.fieldAddr 5 (.tmp 12)), none⟩,
    ⟨(some 14), .op (.load none (.tmp 13)), none⟩,
    ⟨(some 15), .op (.lenS (.tmp 14)), none⟩,
    ⟨(some 16), .op (.bin .sub (.tmp 15) (.val (.int .i64 1))), none⟩,
    ⟨(some 8), .op (.mov (.tmp 16)), none⟩])
  (.seq (.region [⟨(some 17), .op (.mov (.tmp 2)), none⟩,
    ⟨(some 18), .op (.nilCheck (.tmp 17)), none⟩,
    ⟨(some 19), .op (.fieldAddr 5 (.tmp 18)), none⟩,
    ⟨(some 20), .op (.load none (.tmp 19)), none⟩,
    ⟨(some 21), .op (.mov (.tmp 8)), none⟩,
    ⟨(some 22), .op (.idxS 2 (.tmp 20) (.tmp 21)), none⟩,
    ⟨(some 23), .op (.load (some 2) (.tmp 22)), none⟩,
    ⟨(some 9), .op (.alloc [(.int .i64 0), .nils]), none⟩,
    ⟨none, .op (.store 2 (.tmp 9) (.tmp 23)), none⟩])
  (.seq (.region [⟨(some 24), .op (.mov (.tmp 2)), none⟩,
    ⟨(some 25), .op (.mov (.tmp 2)), none⟩,
    ⟨(some 26), .op (.nilCheck (.tmp 25)), none⟩,
    ⟨(some 27), .op (.fieldAddr 5 (.tmp 26)), none⟩,
    ⟨(some 28), .op (.load none (.tmp 27)), none⟩,
    ⟨(some 29), .op (.mov (.tmp 8)), none⟩,
    ⟨(some 30), .op (.slice 2 (.tmp 28) none (some (.tmp 29))), none⟩,
    ⟨(some 31), .op (.nilCheck (.tmp 24)), none⟩,
    ⟨(some 32), .op (.fieldAddr 5 (.tmp 31)), none⟩,
    ⟨none, .op (.store 1 (.tmp 32) (.tmp 30)), none⟩])
  (.seq (.region [⟨(some 33), .op (.mov (.tmp 0)), none⟩,
    ⟨(some 34), .op (.fieldAddr 0 (.tmp 9)), none⟩,
    ⟨(some 35), .op (.load none (.tmp 34)), none⟩,
    ⟨(some 36), .op (.fieldAddr 1 (.tmp 9)), none⟩,
    ⟨(some 37), .op (.load none (.tmp 36)), none⟩,
    ⟨(some 38), .call (.fnv 48) [(.tmp 33), (.tmp 35), (.tmp 37)], none⟩,
    ⟨(some 10), .op (.mov (.tmp 38)), none⟩])
  (.seq (.region [⟨(some 39), .op (.mov (.tmp 10)), none⟩,
    ⟨(some 40), .op (.mov (.tmp 3)), none⟩,
    ⟨(some 41), .op (.nilCheck (.tmp 39)), none⟩,
    ⟨(some 42), .op (.fieldAddr 6 (.tmp 41)), none⟩,
    ⟨none, .op (.store 1 (.tmp 42) (.tmp 40)), none⟩])
  (.region [⟨(some 43), .op (.mov (.tmp 1)), none⟩,
   ⟨(some 44), .op (.mov (.tmp 10)), none⟩,
   ⟨(some 45), .call (.fnv 47) [(.tmp 43), (.tmp 44)], none⟩]))))),
  [], none, none⟩
def A72 : AFun := ⟨.seq (.region [⟨(some 2), .op (.mov (.val (.int .u64 0))), none⟩])
  (.seq (.seq (.region [⟨(some 3), .op (.mov (.tmp 0)), none⟩])
   (.cond (.tmp 3) (.seq (.region [⟨(some 2), .op (.mov (.val (.int .u64 1))), none⟩])
    (.ret))
   (.skip)))
  (.seq (.region [⟨(some 2), .op (.mov (.val (.int .u64 0))), none⟩])
  (.ret))),
  [.tmp 2], none, none⟩
def A73 : AFun := ⟨.seq (.region [⟨(some 4), .op (.mov (.val (.bool false))), none⟩])
  (.seq (.region [⟨(some 5), .op (.mov (.tmp 0)), none⟩,
    ⟨(some 6), .call (.fnv 28) [(.tmp 5)], none⟩,
    ⟨(some 7), .op (.mov (.tmp 1)), none⟩,
    ⟨(some 8), .call (.fnv 28) [(.tmp 7)], none⟩,
    ⟨(some 9), .op (.bin .eql (.tmp 6) (.tmp 8)), none⟩,
    ⟨(some 4), .op (.mov (.tmp 9)), none⟩])
  (.ret)),
  [.tmp 4], none, none⟩
def A74 : AFun := ⟨.seq (.region [⟨(some 4), .op (.mov (.val (.bool false))), none⟩])
  (.seq (.region [⟨(some 5), .op (.mov (.tmp 0)), none⟩,
    ⟨(some 6), .call (.fnv 28) [(.tmp 5)], none⟩,
    ⟨(some 7), .op (.mov (.tmp 1)), none⟩,
    ⟨(some 8), .call (.fnv 28) [(.tmp 7)], none⟩,
    ⟨(some 9), .op (.bin .lss (.tmp 6) (.tmp 8)), none⟩,
    ⟨(some 4), .op (.mov (.tmp 9)), none⟩])
  (.ret)),
  [.tmp 4], none, none⟩
def A75 : AFun := ⟨.seq (.region [⟨(some 3), .op (.box (.tmp 1)), none⟩,
    ⟨(some 4), .op (.mov (.val (.int .u64 0))), none⟩])
  (.seq (.draw [⟨⟨(some 5), .op (.mov (.tmp 0)), none⟩, .pure⟩,
    ⟨⟨(some 6), .op (.mov (.tmp 0)), none⟩, .pure⟩,
    ⟨⟨(some 7), .op (.nilCheck (.tmp 6)), none⟩, .pure⟩,
    ⟨⟨(some 8), .op (.fieldAddr 4 (.tmp 7)), none⟩, .pure⟩,
    ⟨⟨(some 9), .op (.load none (.tmp 8)), none⟩, .read [7]⟩,
    ⟨⟨(some 10), .op (.load (some 3) (.tmp 3)), none⟩, .read []⟩,
    ⟨⟨(some 11), .op (.buildSlice 3 1 [(.int .i64 0), .nils, .nilp] [(0, (.tmp 10))]), none⟩, .act true⟩,
    ⟨⟨(some 12), .op (.append 3 40 (.tmp 9) (.tmp 11)), none⟩, .act true⟩,
    ⟨⟨(some 13), .op (.nilCheck (.tmp 5)), none⟩, .pure⟩,
    ⟨⟨(some 14), .op (.fieldAddr 4 (.tmp 13)), none⟩, .pure⟩,
    ⟨⟨none, .op (.store 1 (.tmp 14) (.tmp 12)), none⟩, .act true⟩])
  (.seq (.region [⟨(some 15), .op (.mov (.tmp 0)), none⟩,
    ⟨(some 16), .op (.nilCheck (.tmp 15)), none⟩,
    ⟨(some 17), .op (.fieldAddr 4 (.tmp 16)), none⟩,
    ⟨(some 18), .op (.load none (.tmp 17)), none⟩,
    ⟨(some 19), .op (.lenS (.tmp 18)), none⟩,
    ⟨(some 20), .op (.bin .sub (.tmp 19) (.val (.int .i64 1))), none⟩,
    ⟨(some 21), .op (.conv .u64 (.tmp 20)), none⟩,
    ⟨(some 4), .op (.mov (.tmp 21)), none⟩])
  (.ret))),
  [.tmp 4], none, none⟩
def A76 : AFun := ⟨.seq (.region [⟨(some 4), .op (.mov (.val .nils)), none⟩])
  (.seq (.region [⟨(some 5), .op (.mov (.val .nils)), none⟩])
  (.seq (.seq (.region [⟨(some 8), .op (.mov (.tmp 1)), none⟩,
     ⟨(some 9), .op (.lenS (.tmp 8)), none⟩,
     ⟨(some 10), .op (.mov (.val (.int .i64 0))), none⟩])
   (.block 0 (.loop (.seq (.region [⟨(some 11), .op (.bin .lss (.tmp 10) (.tmp 9)), none⟩])
     (.seq (.cond (.tmp 11) (.skip)
      (.exit 0))
     (.seq (.block 1 (.seq (.region [⟨(some 12), .op (.idxS 1 (.tmp 8) (.tmp 10)), none⟩,
         ⟨(some 13), .op (.load none (.tmp 12)), none⟩,
         ⟨(some 7), .op (.mov (.tmp 13)), none⟩])
       (.region [⟨(some 14), .op (.mov (.tmp 5)), none⟩,
        ⟨(some 15), .op (.mov (.tmp 0)), none⟩,
        ⟨(some 16), .op (.mov (.tmp 7)), none⟩,
        ⟨(some 17), .op (.idxS 1 (.tmp 15) (.tmp 16)), none⟩,
        ⟨(some 18), .op (.load none (.tmp 17)), none⟩,
        ⟨(some 19), .op (.buildSlice 1 1 [(.int .u64 0)] [(0, (.tmp 18))]), none⟩,
        ⟨(some 20), .op (.append 1 8 (.tmp 14) (.tmp 19)), none⟩,
        ⟨(some 5), .op (.mov (.tmp 20)), none⟩])))
     (.region [⟨(some 21), .op (.bin .add (.tmp 10) (.val (.int .i64 1))), none⟩,
      ⟨(some 10), .op (.mov (.tmp 21)), none⟩])))))))
  (.seq (.region [⟨(some 22), .op (.mov (.tmp 5)), none⟩,
    ⟨(some 4), .op (.mov (.tmp 22)), none⟩])
  (.ret)))),
  [.tmp 4], none, none⟩
def A77 : AFun := ⟨.block 0 (.loop (.block 1 (.seq (.region [⟨(some 8), .op (.mov (.tmp 1)), none⟩,
       ⟨(some 9), .call (.fnv 32) [(.tmp 8)], none⟩,
       ⟨(some 4), .op (.mov (.tmp 9)), none⟩])
     (.seq (.seq (.region [⟨(some 10), .op (.mov (.tmp 4)), none⟩,
        ⟨(some 11), .op (.nilCheck (.tmp 10)), none⟩,
        ⟨(some 12), .op (.fieldAddr 5 (.tmp 11)), none⟩,
        ⟨(some 13), .op (.load none (.tmp 12)), none⟩,
        ⟨(some 14), .op (.lenS (.tmp 13)), none⟩,
        ⟨(some 15), .op (.bin .gtr (.tmp 14) (.val (.int .i64 0))), none⟩])
      (.cond (.tmp 15) (.seq (.region [⟨(some 16), .op (.mov (.tmp 0)), none⟩,
         ⟨(some 17), .op (.mov (.tmp 1)), none⟩,
         ⟨(some 18), .op (.mov (.tmp 4)), none⟩,
         ⟨(some 19), .call (.fnv 71) [(.tmp 16), (.tmp 17), (.tmp 18), (.val (.int .i64 1))], none⟩])
       (.ret))
      (.skip)))
     (.seq (.draw [⟨⟨(some 20), .op (.mov (.tmp 1)), none⟩, .pure⟩,
       ⟨⟨(some 21), .op (.mov (.tmp 1)), none⟩, .pure⟩,
       ⟨⟨(some 22), .op (.nilCheck (.tmp 21)), none⟩, .pure⟩,
       ⟨⟨(some 23), .op (.fieldAddr 3 (.tmp 22)), none⟩, .pure⟩,
       ⟨⟨(some 24), .op (.load none (.tmp 23)), none⟩, .read []⟩,
       ⟨⟨(some 25), .op (.mov (.tmp 1)), none⟩, .pure⟩,
       ⟨⟨(some 26), .op (.nilCheck (.tmp 25)), none⟩, .pure⟩,
       ⟨⟨(some 27), .op (.fieldAddr 3 (.tmp 26)), none⟩, .pure⟩,
       ⟨⟨(some 28), .op (.load none (.tmp 27)), none⟩, .read []⟩,
       ⟨⟨(some 29), .op (.lenS (.tmp 28)), none⟩, .pure⟩,
       ⟨⟨(some 30), .op (.bin .sub (.tmp 29) (.val (.int .i64 1))), none⟩, .pure⟩,
       ⟨⟨(some 31), .op (.slice 1 (.tmp 24) none (some (.tmp 30))), none⟩, .read []⟩,
       ⟨⟨(some 32), .op (.nilCheck (.tmp 20)), none⟩, .pure⟩,
       ⟨⟨(some 33), .op (.fieldAddr 3 (.tmp 32)), none⟩, .pure⟩,
       ⟨⟨none, .op (.store 1 (.tmp 33) (.tmp 31)), none⟩, .act true⟩])
     (.seq (.seq (.region [⟨(some 34), .op (.mov (.tmp 1)), none⟩,
        ⟨(some 35), .op (.nilCheck (.tmp 34)), none⟩,
        ⟨(some 36), .op (.fieldAddr 3 (.tmp 35)), none⟩,
        ⟨(some 37), .op (.load none (.tmp 36)), none⟩,
        ⟨(some 38), .op (.lenS (.tmp 37)), none⟩,
        ⟨(some 39), .op (.bin .eql (.tmp 38) (.val (.int .i64 0))), none⟩])
      (.cond (.tmp 39) (.seq (.region [⟨(some 40), .op (.mov (.tmp 1)), none⟩,
         ⟨(some 41), .op (.nilCheck (.tmp 40)), none⟩,
         ⟨(some 42), .op (.fieldAddr 0 (.tmp 41)), none⟩,
         ⟨none, .op (.store 1 (.tmp 42) (.val (.int .i64 3))), none⟩])
       (.seq (.seq (.region [⟨(some 43), .op (.mov (.tmp 0)), none⟩,
          ⟨(some 44), .op (.nilCheck (.tmp 43)), none⟩,
          ⟨(some 45), .op (.fieldAddr 9 (.tmp 44)), none⟩,
          ⟨(some 46), .op (.load none (.tmp 45)), none⟩,
          ⟨(some 47), .op (.bin .eql (.tmp 46) (.val (.int .i64 0))), none⟩])
        (.cond (.tmp 47) (.region [⟨(some 48), .op (.mov (.tmp 0)), none⟩,
          ⟨(some 49), .call (.fnv 36) [(.tmp 48), (.val (.int .i64 3)), (.val (.int .u64 0))], none⟩])
        (.skip)))
       (.ret)))
      (.skip)))
     (.seq (.region [⟨(some 50), .op (.mov (.tmp 1)), none⟩,
       ⟨(some 51), .call (.fnv 32) [(.tmp 50)], none⟩,
       ⟨(some 5), .op (.mov (.tmp 51)), none⟩])
     (.block 2 (.seq (.region [⟨(some 53), .op (.mov (.tmp 4)), none⟩,
        ⟨(some 54), .op (.nilCheck (.tmp 53)), none⟩,
        ⟨(some 55), .op (.fieldAddr 6 (.tmp 54)), none⟩,
        ⟨(some 56), .op (.load none (.tmp 55)), none⟩,
        ⟨(some 57), .op (.bin .eql (.tmp 56) (.val (.int .i64 0))), none⟩,
        ⟨(some 52), .op (.mov (.tmp 57)), none⟩])
      (.cond (.tmp 52) (.seq (.seq (.region [⟨(some 58), .op (.mov (.tmp 4)), none⟩,
          ⟨(some 59), .op (.nilCheck (.tmp 58)), none⟩,
          ⟨(some 60), .op (.fieldAddr 4 (.tmp 59)), none⟩,
          ⟨(some 61), .op (.load none (.tmp 60)), none⟩,
          ⟨(some 62), .op (.lenS (.tmp 61)), none⟩,
          ⟨(some 63), .op (.mov (.val (.int .i64 0))), none⟩])
        (.block 3 (.loop (.seq (.region [⟨(some 64), .op (.bin .lss (.tmp 63) (.tmp 62)), none⟩])
          (.seq (.cond (.tmp 64) (.skip)
           (.exit 3))
          (.seq (.block 4 (.seq (.region [⟨(some 65), .op (.mov (.tmp 63)), none⟩,
              ⟨(some 66), .op (.idxS 1 (.tmp 61) (.tmp 63)), none⟩,
              ⟨(some 67), .op (.load none (.tmp 66)), none⟩,
              ⟨(some 6), .op (.mov (.tmp 65)), none⟩,
              ⟨(some 7), .op (.mov (.tmp 67)), none⟩])
            (.draw [⟨⟨(some 68), .op (.mov (.tmp 5)), none⟩, .pure⟩,
             ⟨⟨(some 69), .op (.nilCheck (.tmp 68)), none⟩, .pure⟩,
             ⟨⟨(some 70), .op (.fieldAddr 3 (.tmp 69)), none⟩, .pure⟩,
             ⟨⟨(some 71), .op (.load none (.tmp 70)), none⟩, .read []⟩,
             ⟨⟨(some 72), .op (.mov (.tmp 7)), none⟩, .pure⟩,
             ⟨⟨(some 73), .op (.mov (.tmp 4)), none⟩, .pure⟩,
             ⟨⟨(some 74), .op (.nilCheck (.tmp 73)), none⟩, .pure⟩,
             ⟨⟨(some 75), .op (.fieldAddr 8 (.tmp 74)), none⟩, .pure⟩,
             ⟨⟨(some 76), .op (.load none (.tmp 75)), none⟩, .read []⟩,
             ⟨⟨(some 77), .op (.mov (.tmp 6)), none⟩, .pure⟩,
             ⟨⟨(some 78), .op (.idxS 1 (.tmp 76) (.tmp 77)), none⟩, .read []⟩,
             ⟨⟨(some 79), .op (.load none (.tmp 78)), none⟩, .read []⟩,
             ⟨⟨(some 80), .op (.idxS 1 (.tmp 71) (.tmp 72)), none⟩, .read []⟩,
             ⟨⟨none, .op (.store 1 (.tmp 80) (.tmp 79)), none⟩, .act true⟩])))
          (.region [⟨(some 81), .op (.bin .add (.tmp 63) (.val (.int .i64 1))), none⟩,
           ⟨(some 63), .op (.mov (.tmp 81)), none⟩])))))))
       (.ret))
      (.seq (.region [⟨(some 83), .op (.mov (.tmp 4)), none⟩,
        ⟨(some 84), .op (.nilCheck (.tmp 83)), none⟩,
        ⟨(some 85), .op (.fieldAddr 6 (.tmp 84)), none⟩,
        ⟨(some 86), .op (.load none (.tmp 85)), none⟩,
        ⟨(some 87), .op (.bin .eql (.tmp 86) (.val (.int .i64 2))), none⟩,
        ⟨(some 88), .op (.mov (.tmp 87)), none⟩,
        ⟨(some 89), .op (.mov (.tmp 1)), (some (88, true))⟩,
        ⟨(some 90), .op (.nilCheck (.tmp 89)), (some (88, true))⟩,
        ⟨(some 91), .op (.fieldAddr 5 (.tmp 90)), (some (88, true))⟩,
        ⟨(some 92), .op (.load none (.tmp 91)), (some (88, true))⟩,
        ⟨(some 93), .op (.pick (.tmp 88) (.tmp 92) (.val (.bool false))), none⟩,
        ⟨(some 82), .op (.mov (.tmp 93)), none⟩])
      (.cond (.tmp 82) (.seq (.region [⟨(some 94), .op (.mov (.tmp 0)), none⟩,
         ⟨(some 95), .op (.mov (.tmp 1)), none⟩,
         ⟨(some 96), .call (.fnv 49) [(.tmp 94), (.tmp 95)], none⟩])
       (.ret))
      (.seq (.region [⟨(some 98), .op (.mov (.tmp 4)), none⟩,
        ⟨(some 99), .op (.nilCheck (.tmp 98)), none⟩,
        ⟨(some 100), .op (.fieldAddr 6 (.tmp 99)), none⟩,
        ⟨(some 101), .op (.load none (.tmp 100)), none⟩,
        ⟨(some 102), .op (.bin .eql (.tmp 101) (.val (.int .i64 2))), none⟩,
        ⟨(some 97), .op (.mov (.tmp 102)), none⟩])
      (.cond (.tmp 97) (.draw [⟨⟨(some 103), .op (.mov (.tmp 5)), none⟩, .pure⟩,
        ⟨⟨(some 104), .op (.mov (.tmp 5)), none⟩, .pure⟩,
        ⟨⟨(some 105), .op (.mov (.tmp 0)), none⟩, .pure⟩,
        ⟨⟨(some 106), .op (.nilCheck (.tmp 105)), none⟩, .pure⟩,
        ⟨⟨(some 107), .op (.fieldAddr 0 (.tmp 106)), none⟩, .pure⟩,
        ⟨⟨(some 108), .op (.fieldAddr 2 (.tmp 107)), none⟩, .pure⟩,
        ⟨⟨(some 109), .op (.load none (.tmp 108)), none⟩, .read []⟩,
        ⟨⟨(some 110), .op (.mov (.tmp 5)), none⟩, .pure⟩,
        ⟨⟨(some 111), .op (.nilCheck (.tmp 110)), none⟩, .pure⟩,
        ⟨⟨(some 112), .op (.fieldAddr 0 (.tmp 111)), none⟩, .pure⟩,
        ⟨⟨(some 113), .op (.load none (.tmp 112)), none⟩, .read []⟩,
        ⟨⟨(some 114), .op (.idxS 4 (.tmp 109) (.tmp 113)), none⟩, .read []⟩,
        ⟨⟨(some 115), .op (.fieldAddr 2 (.tmp 114)), none⟩, .pure⟩,
        ⟨⟨(some 116), .op (.load none (.tmp 115)), none⟩, .read []⟩,
        ⟨⟨(some 117), .op (.lenS (.tmp 116)), none⟩, .pure⟩,
        ⟨⟨(some 119), .op (.nilCheck (.tmp 103)), none⟩, .pure⟩,
        ⟨⟨(some 120), .op (.fieldAddr 7 (.tmp 119)), none⟩, .pure⟩,
        ⟨⟨none, .op (.store 1 (.tmp 120) (.val (.bool true))), none⟩, .act false⟩,
        ⟨⟨(some 118), .op (.mkSlice 1 8 [(.int .u64 0)] (.tmp 117)), none⟩, .act true⟩,
        ⟨⟨(some 121), .op (.nilCheck (.tmp 104)), none⟩, .pure⟩,
        ⟨⟨(some 122), .op (.fieldAddr 8 (.tmp 121)), none⟩, .pure⟩,
        ⟨⟨none, .op (.store 1 (.tmp 122) (.tmp 118)), none⟩, .act true⟩])
      (.skip))))))))))))))),
  [], none, none⟩
def A78 : AFun := ⟨.seq (.region [⟨(some 2), .op (.mov (.val .nilp)), none⟩,
    ⟨(some 3), .op (.mov (.val (.int .i64 0))), none⟩])
  (.seq (.seq (.region [⟨(some 4), .op (.mov (.tmp 0)), none⟩,
     ⟨(some 5), .op (.bin .lss (.tmp 4) (.val (.int .i64 0))), none⟩,
     ⟨(some 6), .op (.mov (.tmp 5)), none⟩,
     ⟨(some 7), .op (.mov (.tmp 0)), (some (6, false))⟩,
     ⟨(some 8), .op (.bin .gtr (.tmp 7) (.val (.int .i64 16))), (some (6, false))⟩,
     ⟨(some 9), .op (.pick (.tmp 6) (.val (.bool true)) (.tmp 8)), none⟩])
   (.cond (.tmp 9) (.seq (.region [⟨(some 2), .op (.mov (.val .nilp)), none⟩,
      ⟨(some 3), .op (.mov (.val (.int .i64 1))), none⟩])
    (.ret))
   (.skip)))
  (.seq (.region [⟨(some 10), .op (.mov (.tmp 0)), none⟩,
    ⟨(some 11), .op (.build [.nils, (.int .i64 0), (.bool false), .nils, .nils] [(1, 1, (.tmp 10))]), none⟩,
    ⟨(some 12), .op (.box (.tmp 11)), none⟩,
    ⟨(some 2), .op (.mov (.tmp 12)), none⟩,
    ⟨(some 3), .op (.mov (.val (.int .i64 0))), none⟩])
  (.ret))),
  [.tmp 2, .tmp 3], none, none⟩
def A79 : AFun := ⟨.seq (.region [⟨(some 9), .op (.mov (.tmp 0)), none⟩,
    ⟨(some 10), .op (.mov (.tmp 1)), none⟩,
    ⟨(some 11), .call (.fnv 80) [(.tmp 9), (.tmp 10)], none⟩,
    ⟨(some 4), .op (.mov (.tmp 11)), none⟩])
  (.seq (.seq (.region [⟨(some 12), .op (.mov (.tmp 4)), none⟩,
     ⟨(some 13), .op (.eql false .ptr (.tmp 12) (.val .nilp)), none⟩])
   (.cond (.tmp 13) (.seq (.region [⟨(some 14), .op (.mov (.tmp 0)), none⟩,
      ⟨(some 15), .call (.fnv 33) [(.tmp 14), (.val (.int .i64 (-1)))], none⟩])
    (.ret))
   (.skip)))
  (.seq (.region [⟨(some 17), .op (.mov (.tmp 4)), none⟩,
    ⟨(some 18), .call (.fnv 90) [(.tmp 17)], none⟩,
    ⟨(some 16), .op (.mov (.tmp 18)), none⟩,
    ⟨(some 19), .op (.extract (.tmp 16) 0), none⟩,
    ⟨(some 20), .op (.extract (.tmp 16) 1), none⟩,
    ⟨(some 5), .op (.mov (.tmp 19)), none⟩,
    ⟨(some 6), .op (.mov (.tmp 20)), none⟩])
  (.seq (.seq (.region [⟨(some 21), .op (.mov (.tmp 6)), none⟩,
     ⟨(some 22), .op (.un .not (.tmp 21)), none⟩])
   (.cond (.tmp 22) (.seq (.region [⟨(some 23), .op (.mov (.tmp 0)), none⟩,
      ⟨(some 24), .call (.fnv 33) [(.tmp 23), (.val (.int .i64 (-4)))], none⟩])
    (.ret))
   (.skip)))
  (.seq (.region [⟨(some 25), .op (.mov (.tmp 5)), none⟩,
    ⟨(some 26), .op (.lenS (.tmp 25)), none⟩,
    ⟨(some 27), .op (.mov (.val (.int .i64 0))), none⟩])
  (.block 0 (.loop (.seq (.region [⟨(some 28), .op (.bin .lss (.tmp 27) (.tmp 26)), none⟩])
    (.seq (.cond (.tmp 28) (.skip)
     (.exit 0))
    (.seq (.block 1 (.seq (.region [⟨(some 29), .op (.idxS 1 (.tmp 25) (.tmp 27)), none⟩,
        ⟨(some 30), .op (.load none (.tmp 29)), none⟩,
        ⟨(some 8), .op (.mov (.tmp 30)), none⟩])
      (.region [⟨(some 31), .op (.mov (.tmp 0)), none⟩,
       ⟨(some 32), .op (.mov (.tmp 8)), none⟩,
       ⟨(some 33), .call (.fnv 91) [(.tmp 31), (.tmp 32), (.val (.int .u64 0)), (.val (.bool true))], none⟩])))
    (.region [⟨(some 34), .op (.bin .add (.tmp 27) (.val (.int .i64 1))), none⟩,
     ⟨(some 27), .op (.mov (.tmp 34)), none⟩])))))))))),
  [], none, none⟩
def A80 : AFun := ⟨.seq (.region [⟨(some 4), .op (.mov (.val .nilp)), none⟩])
  (.seq (.seq (.region [⟨(some 5), .op (.mov (.tmp 1)), none⟩,
     ⟨(some 6), .op (.bin .eql (.tmp 5) (.val (.int .u64 0))), none⟩])
   (.cond (.tmp 6) (.seq (.region [⟨(some 4), .op (.mov (.val .nilp)), none⟩])
    (.ret))
   (.skip)))
  (.seq (.region [⟨(some 7), .op (.mov (.tmp 0)), none⟩,
    ⟨(some 8), .op (.nilCheck (.tmp 7)), none⟩,
    ⟨(some 9), .op (.fieldAddr 4 (.tmp 8)), none⟩,
    ⟨(some 10), .op (.load none (.tmp 9)), none⟩,
    ⟨(some 11), .op (.mov (.tmp 1)), none⟩,
    ⟨(some 12), .op (.idxS 3 (.tmp 10) (.tmp 11)), none⟩,
    ⟨(some 13), .op (.fieldAddr 2 (.tmp 12)), none⟩,
    ⟨(some 14), .op (.load none (.tmp 13)), none⟩,
    ⟨(some 4), .op (.mov (.tmp 14)), none⟩])
  (.ret))),
  [.tmp 4], none, none⟩
def A81 : AFun := ⟨.seq (.region [⟨(some 10), .op (.mov (.val (.bool false))), none⟩])
  (.seq (.region [⟨(some 12), .op (.mov (.tmp 1)), none⟩,
    ⟨(some 13), .op (.mov (.tmp 2)), none⟩,
    ⟨(some 14), .op (.mov (.tmp 3)), none⟩,
    ⟨(some 15), .op (.mov (.tmp 4)), none⟩,
    ⟨(some 16), .call (.fnv 92) [(.tmp 12), (.tmp 13), (.tmp 14), (.tmp 15)], none⟩,
    ⟨(some 11), .op (.alloc [(.int .i64 0), (.int .i64 0), (.int .u64 0)]), none⟩,
    ⟨none, .op (.store 3 (.tmp 11) (.tmp 16)), none⟩])
  (.seq (.seq (.region [⟨(some 17), .op (.fieldAddr 0 (.tmp 11)), none⟩,
     ⟨(some 18), .op (.load none (.tmp 17)), none⟩])
   (.block 0 (.seq (.region [⟨(some 20), .op (.bin .eql (.tmp 18) (.val (.int .i64 2))), none⟩,
      ⟨(some 19), .op (.mov (.tmp 20)), none⟩])
    (.cond (.tmp 19) (.region [⟨(some 21), .op (.mov (.tmp 0)), none⟩,
      ⟨(some 22), .op (.fieldAddr 1 (.tmp 11)), none⟩,
      ⟨(some 23), .op (.load none (.tmp 22)), none⟩,
      ⟨(some 24), .op (.mov (.tmp 3)), none⟩,
      ⟨(some 25), .call (.fnv 91) [(.tmp 21), (.tmp 23), (.tmp 24), (.val (.bool false))], none⟩])
    (.seq (.region [⟨(some 27), .op (.bin .eql (.tmp 18) (.val (.int .i64 4))), none⟩,
      ⟨(some 26), .op (.mov (.tmp 27)), none⟩])
    (.cond (.tmp 26) (.region [⟨(some 28), .op (.mov (.tmp 0)), none⟩,
      ⟨(some 29), .call (.fnv 33) [(.tmp 28), (.val (.int .i64 (-4)))], none⟩])
    (.skip)))))))
  (.seq (.region [⟨(some 30), .op (.fieldAddr 0 (.tmp 11)), none⟩,
    ⟨(some 31), .op (.load none (.tmp 30)), none⟩,
    ⟨(some 32), .op (.bin .neq (.tmp 31) (.val (.int .i64 3))), none⟩,
    ⟨(some 10), .op (.mov (.tmp 32)), none⟩])
  (.ret)))),
  [.tmp 10], none, none⟩
def A82 : AFun := ⟨.seq (.region [⟨(some 4), .op (.mov (.val (.int .i64 0))), none⟩])
  (.seq (.region [⟨(some 5), .op (.mov (.tmp 0)), none⟩,
    ⟨(some 6), .op (.bin .mul (.tmp 5) (.val (.int .i64 64))), none⟩,
    ⟨(some 7), .op (.mov (.tmp 1)), none⟩,
    ⟨(some 8), .op (.bin .add (.tmp 6) (.tmp 7)), none⟩,
    ⟨(some 9), .op (.bin .add (.tmp 8) (.val (.int .i64 1))), none⟩,
    ⟨(some 4), .op (.mov (.tmp 9)), none⟩])
  (.ret)),
  [.tmp 4], none, none⟩
def A83 : AFun := ⟨.seq (.region [⟨(some 14), .op (.mov (.val (.bool false))), none⟩])
  (.seq (.region [⟨(some 16), .op (.mov (.tmp 1)), none⟩,
    ⟨(some 17), .op (.mov (.tmp 2)), none⟩,
    ⟨(some 18), .op (.mov (.tmp 6)), none⟩,
    ⟨(some 19), .call (.fnv 93) [(.tmp 16), (.tmp 17), (.tmp 18)], none⟩,
    ⟨(some 15), .op (.alloc [(.int .i64 0), (.int .i64 0), (.int .u64 0)]), none⟩,
    ⟨none, .op (.store 3 (.tmp 15) (.tmp 19)), none⟩])
  (.seq (.seq (.region [⟨(some 20), .op (.fieldAddr 0 (.tmp 15)), none⟩,
     ⟨(some 21), .op (.load none (.tmp 20)), none⟩,
     ⟨(some 22), .op (.bin .eql (.tmp 21) (.val (.int .i64 3))), none⟩])
   (.cond (.tmp 22) (.seq (.region [⟨(some 14), .op (.mov (.val (.bool false))), none⟩])
    (.ret))
   (.skip)))
  (.seq (.region [⟨(some 23), .op (.mov (.tmp 3)), none⟩,
    ⟨(some 24), .op (.mov (.tmp 4)), none⟩,
    ⟨(some 25), .op (.fieldAddr 2 (.tmp 15)), none⟩,
    ⟨(some 26), .op (.load none (.tmp 25)), none⟩,
    ⟨(some 27), .op (.idxS 1 (.tmp 23) (.tmp 24)), none⟩,
    ⟨none, .op (.store 1 (.tmp 27) (.tmp 26)), none⟩])
  (.seq (.seq (.region [⟨(some 28), .op (.mov (.tmp 5)), none⟩,
     ⟨(some 29), .op (.bin .geq (.tmp 28) (.val (.int .i64 0))), none⟩])
   (.cond (.tmp 29) (.region [⟨(some 30), .op (.mov (.tmp 3)), none⟩,
     ⟨(some 31), .op (.mov (.tmp 5)), none⟩,
     ⟨(some 32), .op (.fieldAddr 0 (.tmp 15)), none⟩,
     ⟨(some 33), .op (.load none (.tmp 32)), none⟩,
     ⟨(some 34), .op (.bin .neq (.tmp 33) (.val (.int .i64 4))), none⟩,
     ⟨(some 35), .call (.fnv 72) [(.tmp 34)], none⟩,
     ⟨(some 36), .op (.idxS 1 (.tmp 30) (.tmp 31)), none⟩,
     ⟨none, .op (.store 1 (.tmp 36) (.tmp 35)), none⟩])
   (.skip)))
  (.seq (.seq (.region [⟨(some 37), .op (.fieldAddr 0 (.tmp 15)), none⟩,
     ⟨(some 38), .op (.load none (.tmp 37)), none⟩,
     ⟨(some 39), .op (.bin .eql (.tmp 38) (.val (.int .i64 2))), none⟩])
   (.cond (.tmp 39) (.region [⟨(some 40), .op (.mov (.tmp 0)), none⟩,
     ⟨(some 41), .op (.fieldAddr 1 (.tmp 15)), none⟩,
     ⟨(some 42), .op (.load none (.tmp 41)), none⟩,
     ⟨(some 43), .call (.fnv 91) [(.tmp 40), (.tmp 42), (.val (.int .u64 0)), (.val (.bool false))], none⟩])
   (.skip)))
  (.seq (.region [⟨(some 14), .op (.mov (.val (.bool true))), none⟩])
  (.ret))))))),
  [.tmp 14], none, none⟩
def A84 : AFun := ⟨.seq (.region [⟨(some 8), .op (.box (.tmp 3)), none⟩])
  (.seq (.region [⟨(some 10), .op (.mov (.val .nils)), none⟩])
  (.seq (.seq (.region [⟨(some 11), .op (.mov (.val (.int .i64 0))), none⟩])
   (.block 0 (.loop (.seq (.seq (.region [⟨(some 15), .op (.mov (.tmp 11)), none⟩,
        ⟨(some 16), .op (.fieldAddr 5 (.tmp 8)), none⟩,
        ⟨(some 17), .op (.load none (.tmp 16)), none⟩,
        ⟨(some 18), .op (.lenS (.tmp 17)), none⟩,
        ⟨(some 19), .op (.bin .lss (.tmp 15) (.tmp 18)), none⟩])
      (.cond (.tmp 19) (.skip)
      (.exit 0)))
     (.seq (.block 1 (.seq (.region [⟨(some 22), .op (.mov (.tmp 0)), none⟩,
         ⟨(some 23), .op (.mov (.tmp 2)), none⟩,
         ⟨(some 24), .op (.fieldAddr 5 (.tmp 8)), none⟩,
         ⟨(some 25), .op (.load none (.tmp 24)), none⟩,
         ⟨(some 26), .op (.mov (.tmp 11)), none⟩,
         ⟨(some 27), .op (.bin .add (.tmp 26) (.val (.int .i64 1))), none⟩,
         ⟨(some 28), .op (.idxS 1 (.tmp 25) (.tmp 27)), none⟩,
         ⟨(some 29), .op (.load none (.tmp 28)), none⟩,
         ⟨(some 30), .op (.idxS 1 (.tmp 23) (.tmp 29)), none⟩,
         ⟨(some 31), .op (.load none (.tmp 30)), none⟩,
         ⟨(some 32), .call (.fnv 80) [(.tmp 22), (.tmp 31)], none⟩,
         ⟨(some 12), .op (.mov (.tmp 32)), none⟩])
       (.seq (.region [⟨(some 33), .op (.mov (.tmp 12)), none⟩,
         ⟨(some 34), .op (.eql true .ptr (.tmp 33) (.val .nilp)), none⟩,
         ⟨(some 35), .op (.mov (.tmp 34)), none⟩,
         ⟨(some 36), .op (.mov (.tmp 12)), (some (35, true))⟩,
         ⟨(some 37), .op (.fieldAddr 5 (.tmp 8)), (some (35, true))⟩,
         ⟨(some 38), .op (.load none (.tmp 37)), (some (35, true))⟩,
         ⟨(some 39), .op (.mov (.tmp 11)), (some (35, true))⟩,
         ⟨(some 40), .op (.idxS 1 (.tmp 38) (.tmp 39)), (some (35, true))⟩,
         ⟨(some 41), .op (.load none (.tmp 40)), (some (35, true))⟩,
         ⟨(some 42), .op (.bin .eql (.tmp 41) (.val (.int .i64 0))), (some (35, true))⟩,
         ⟨(some 43), .call (.fnv 94) [(.tmp 36), (.tmp 42)], (some (35, true))⟩,
         ⟨(some 44), .op (.pick (.tmp 35) (.tmp 43) (.val (.bool false))), none⟩])
       (.cond (.tmp 44) (.region [⟨(some 45), .op (.mov (.tmp 10)), none⟩,
         ⟨(some 46), .op (.mov (.tmp 11)), none⟩,
         ⟨(some 47), .op (.buildSlice 1 1 [(.int .i64 0)] [(0, (.tmp 46))]), none⟩,
         ⟨(some 48), .op (.append 1 8 (.tmp 45) (.tmp 47)), none⟩,
         ⟨(some 10), .op (.mov (.tmp 48)), none⟩])
       (.skip)))))
     (.region [⟨(some 20), .op (.mov (.tmp 11)), none⟩,
      ⟨(some 21), .op (.bin .add (.tmp 20) (.val (.int .i64 3))), none⟩,
      ⟨(some 11), .op (.mov (.tmp 21)), none⟩]))))))
  (.seq (.seq (.region [⟨(some 49), .op (.mov (.tmp 10)), none⟩,
     ⟨(some 50), .op (.lenS (.tmp 49)), none⟩,
     ⟨(some 51), .op (.bin .eql (.tmp 50) (.val (.int .i64 0))), none⟩,
     ⟨(some 52), .op (.mov (.tmp 51)), none⟩,
     ⟨(some 53), .op (.fieldAddr 2 (.tmp 8)), (some (52, true))⟩,
     ⟨(some 54), .op (.load none (.tmp 53)), (some (52, true))⟩,
     ⟨(some 55), .op (.bin .eql (.tmp 54) (.val (.int .i64 1))), (some (52, true))⟩,
     ⟨(some 56), .op (.pick (.tmp 52) (.tmp 55) (.val (.bool false))), none⟩])
   (.cond (.tmp 56) (.seq (.region [⟨(some 57), .op (.mov (.tmp 2)), none⟩,
      ⟨(some 58), .op (.fieldAddr 1 (.tmp 8)), none⟩,
      ⟨(some 59), .op (.load none (.tmp 58)), none⟩,
      ⟨(some 60), .op (.idxS 1 (.tmp 57) (.tmp 59)), none⟩,
      ⟨none, .op (.store 1 (.tmp 60) (.val (.int .u64 18446744073709551615))), none⟩])
    (.ret))
   (.skip)))
  (.seq (.seq (.region [⟨(some 61), .op (.mov (.tmp 10)), none⟩,
     ⟨(some 62), .op (.lenS (.tmp 61)), none⟩,
     ⟨(some 63), .op (.bin .gtr (.tmp 62) (.val (.int .i64 0))), none⟩])
   (.cond (.tmp 63) (.seq (.region [⟨(some 64), .op (.mov (.tmp 10)), none⟩,
      ⟨(some 65), .op (.mov (.tmp 4)), none⟩,
      ⟨(some 66), .op (.mov (.tmp 10)), none⟩,
      ⟨(some 67), .op (.lenS (.tmp 66)), none⟩,
      ⟨(some 68), .op (.conv .u64 (.tmp 67)), none⟩,
      ⟨(some 69), .op (.bin .rem (.tmp 65) (.tmp 68)), none⟩,
      ⟨(some 70), .op (.idxS 1 (.tmp 64) (.tmp 69)), none⟩,
      ⟨(some 71), .op (.load none (.tmp 70)), none⟩,
      ⟨(some 13), .op (.mov (.tmp 71)), none⟩])
    (.seq (.region [⟨(some 72), .op (.mov (.tmp 0)), none⟩,
      ⟨(some 73), .op (.mov (.tmp 2)), none⟩,
      ⟨(some 74), .op (.load (some 6) (.tmp 8)), none⟩,
      ⟨(some 75), .op (.mov (.tmp 13)), none⟩,
      ⟨(some 76), .call (.fnv 95) [(.tmp 72), (.tmp 73), (.tmp 74), (.tmp 75), (.val (.bool false))], none⟩])
    (.ret)))
   (.skip)))
  (.seq (.region [⟨(some 77), .op (.mov (.tmp 1)), none⟩,
    ⟨(some 78), .op (.nilCheck (.tmp 77)), none⟩,
    ⟨(some 79), .op (.fieldAddr 0 (.tmp 78)), none⟩,
    ⟨none, .op (.store 1 (.tmp 79) (.val (.int .i64 2))), none⟩])
  (.seq (.region [⟨(some 14), .op (.mov (.val (.int .i64 0))), none⟩])
  (.block 2 (.loop (.seq (.seq (.region [⟨(some 80), .op (.mov (.tmp 14)), none⟩,
       ⟨(some 81), .op (.fieldAddr 5 (.tmp 8)), none⟩,
       ⟨(some 82), .op (.load none (.tmp 81)), none⟩,
       ⟨(some 83), .op (.lenS (.tmp 82)), none⟩,
       ⟨(some 84), .op (.bin .lss (.tmp 80) (.tmp 83)), none⟩])
     (.cond (.tmp 84) (.skip)
     (.exit 2)))
    (.seq (.block 3 (.seq (.region [⟨(some 87), .op (.mov (.tmp 0)), none⟩,
        ⟨(some 88), .op (.mov (.tmp 2)), none⟩,
        ⟨(some 89), .op (.fieldAddr 5 (.tmp 8)), none⟩,
        ⟨(some 90), .op (.load none (.tmp 89)), none⟩,
        ⟨(some 91), .op (.mov (.tmp 14)), none⟩,
        ⟨(some 92), .op (.bin .add (.tmp 91) (.val (.int .i64 1))), none⟩,
        ⟨(some 93), .op (.idxS 1 (.tmp 90) (.tmp 92)), none⟩,
        ⟨(some 94), .op (.load none (.tmp 93)), none⟩,
        ⟨(some 95), .op (.idxS 1 (.tmp 88) (.tmp 94)), none⟩,
        ⟨(some 96), .op (.load none (.tmp 95)), none⟩,
        ⟨(some 97), .call (.fnv 80) [(.tmp 87), (.tmp 96)], none⟩,
        ⟨(some 98), .op (.eql true .ptr (.tmp 97) (.val .nilp)), none⟩])
      (.cond (.tmp 98) (.region [⟨(some 99), .op (.mov (.tmp 0)), none⟩,
        ⟨(some 100), .op (.mov (.tmp 2)), none⟩,
        ⟨(some 101), .op (.load (some 6) (.tmp 8)), none⟩,
        ⟨(some 102), .op (.mov (.tmp 14)), none⟩,
        ⟨(some 103), .call (.fnv 95) [(.tmp 99), (.tmp 100), (.tmp 101), (.tmp 102), (.val (.bool true))], none⟩])
      (.skip))))
    (.region [⟨(some 85), .op (.mov (.tmp 14)), none⟩,
     ⟨(some 86), .op (.bin .add (.tmp 85) (.val (.int .i64 3))), none⟩,
     ⟨(some 14), .op (.mov (.tmp 86)), none⟩]))))))))))),
  [], none, none⟩
def A85 : AFun := ⟨.seq (.region [⟨(some 4), .op (.mov (.val (.int .i64 0))), none⟩,
    ⟨(some 5), .op (.mov (.val (.bool false))), none⟩])
  (.seq (.seq (.region [⟨(some 6), .op (.mov (.tmp 1)), none⟩,
     ⟨(some 7), .op (.bin .lss (.tmp 6) (.val (.int .i64 0))), none⟩,
     ⟨(some 8), .op (.mov (.tmp 7)), none⟩,
     ⟨(some 9), .op (.mov (.tmp 1)), (some (8, false))⟩,
     ⟨(some 10), .op (.mov (.tmp 0)), (some (8, false))⟩,
     ⟨(some 11), .op (.nilCheck (.tmp 10)), (some (8, false))⟩,
     ⟨(some 12), .op (.fieldAddr 3 (.tmp 11)), (some (8, false))⟩,
     ⟨(some 13), .op (.fieldAddr 1 (.tmp 12)), (some (8, false))⟩,
     ⟨(some 14), .op (.load none (.tmp 13)), (some (8, false))⟩,
     ⟨(some 15), .op (.lenS (.tmp 14)), (some (8, false))⟩,
     ⟨(some 16), .op (.bin .geq (.tmp 9) (.tmp 15)), (some (8, false))⟩,
     ⟨(some 17), .op (.pick (.tmp 8) (.val (.bool true)) (.tmp 16)), none⟩])
   (.cond (.tmp 17) (.seq (.region [⟨(some 4), .op (.mov (.val (.int .i64 0))), none⟩,
      ⟨(some 5), .op (.mov (.val (.bool false))), none⟩])
    (.ret))
   (.skip)))
  (.seq (.region [⟨(some 18), .op (.mov (.tmp 0)), none⟩,
    ⟨(some 19), .op (.nilCheck (.tmp 18)), none⟩,
    ⟨(some 20), .op (.fieldAddr 3 (.tmp 19)), none⟩,
    ⟨(some 21), .op (.fieldAddr 1 (.tmp 20)), none⟩,
    ⟨(some 22), .op (.load none (.tmp 21)), none⟩,
    ⟨(some 23), .op (.mov (.tmp 1)), none⟩,
    ⟨(some 24), .op (.idxS 1 (.tmp 22) (.tmp 23)), none⟩,
    ⟨(some 25), .op (.load none (.tmp 24)), none⟩,
    ⟨(some 4), .op (.mov (.tmp 25)), none⟩,
    ⟨(some 5), .op (.mov (.val (.bool true))), none⟩])
  (.ret))),
  [.tmp 4, .tmp 5], none, none⟩
def A86 : AFun := ⟨.seq (.region [⟨(some 6), .op (.alloc [(.bool false), .nils]), none⟩,
    ⟨(some 7), .op (.mov (.val (.int .i64 0))), none⟩])
  (.seq (.region [⟨(some 12), .op (.mov (.tmp 0)), none⟩,
    ⟨(some 13), .op (.mov (.tmp 1)), none⟩,
    ⟨(some 14), .call (.fnv 85) [(.tmp 12), (.tmp 13)], none⟩,
    ⟨(some 11), .op (.mov (.tmp 14)), none⟩,
    ⟨(some 15), .op (.extract (.tmp 11) 0), none⟩,
    ⟨(some 16), .op (.extract (.tmp 11) 1), none⟩,
    ⟨(some 8), .op (.mov (.tmp 15)), none⟩,
    ⟨(some 9), .op (.mov (.tmp 16)), none⟩])
  (.seq (.seq (.region [⟨(some 17), .op (.mov (.tmp 9)), none⟩,
     ⟨(some 18), .op (.un .not (.tmp 17)), none⟩])
   (.cond (.tmp 18) (.seq (.region [⟨(some 19), .op (.build [(.bool false), .nils] []), none⟩,
      ⟨none, .op (.store 2 (.tmp 6) (.tmp 19)), none⟩,
      ⟨(some 7), .op (.mov (.val (.int .i64 11))), none⟩])
    (.ret))
   (.skip)))
  (.seq (.seq (.region [⟨(some 20), .op (.mov (.tmp 8)), none⟩,
     ⟨(some 21), .op (.bin .lss (.tmp 20) (.val (.int .i64 16))), none⟩,
     ⟨(some 22), .op (.mov (.tmp 21)), none⟩,
     ⟨(some 23), .op (.mov (.tmp 8)), (some (22, false))⟩,
     ⟨(some 24), .op (.bin .geq (.tmp 23) (.val (.int .i64 64))), (some (22, false))⟩,
     ⟨(some 25), .op (.pick (.tmp 22) (.val (.bool true)) (.tmp 24)), none⟩])
   (.cond (.tmp 25) (.seq (.region [⟨(some 26), .op (.build [(.bool false), .nils] []), none⟩,
      ⟨none, .op (.store 2 (.tmp 6) (.tmp 26)), none⟩,
      ⟨(some 7), .op (.mov (.val (.int .i64 10))), none⟩])
    (.ret))
   (.skip)))
  (.seq (.region [⟨(some 27), .op (.mov (.tmp 0)), none⟩,
    ⟨(some 28), .op (.nilCheck (.tmp 27)), none⟩,
    ⟨(some 29), .op (.fieldAddr 0 (.tmp 28)), none⟩,
    ⟨(some 30), .op (.fieldAddr 0 (.tmp 29)), none⟩,
    ⟨(some 31), .op (.load none (.tmp 30)), none⟩,
    ⟨(some 32), .op (.mov (.tmp 8)), none⟩,
    ⟨(some 33), .op (.bin .sub (.tmp 32) (.val (.int .i64 16))), none⟩,
    ⟨(some 34), .op (.idxS 2 (.tmp 31) (.tmp 33)), none⟩,
    ⟨(some 35), .op (.load (some 2) (.tmp 34)), none⟩,
    ⟨(some 10), .op (.alloc [(.bool false), .nils]), none⟩,
    ⟨none, .op (.store 2 (.tmp 10) (.tmp 35)), none⟩])
  (.seq (.seq (.region [⟨(some 36), .op (.fieldAddr 0 (.tmp 10)), none⟩,
     ⟨(some 37), .op (.load none (.tmp 36)), none⟩,
     ⟨(some 38), .op (.mov (.tmp 2)), none⟩,
     ⟨(some 39), .op (.eql true .bool (.tmp 37) (.tmp 38)), none⟩])
   (.cond (.tmp 39) (.seq (.region [⟨(some 40), .op (.build [(.bool false), .nils] []), none⟩,
      ⟨none, .op (.store 2 (.tmp 6) (.tmp 40)), none⟩,
      ⟨(some 7), .op (.mov (.val (.int .i64 14))), none⟩])
    (.ret))
   (.skip)))
  (.seq (.region [⟨(some 41), .op (.load (some 2) (.tmp 10)), none⟩,
    ⟨none, .op (.store 2 (.tmp 6) (.tmp 41)), none⟩,
    ⟨(some 7), .op (.mov (.val (.int .i64 0))), none⟩])
  (.ret))))))),
  [.cell 6 (some 2), .tmp 7], none, none⟩
def A87 : AFun := ⟨.seq (.region [⟨(some 6), .op (.mov (.val (.int .i64 0))), none⟩])
  (.seq (.seq (.region [⟨(some 10), .op (.mov (.tmp 1)), none⟩,
     ⟨(some 11), .op (.lenS (.tmp 10)), none⟩,
     ⟨(some 12), .op (.mov (.tmp 2)), none⟩,
     ⟨(some 13), .op (.lenS (.tmp 12)), none⟩,
     ⟨(some 14), .op (.bin .neq (.tmp 11) (.tmp 13)), none⟩])
   (.cond (.tmp 14) (.seq (.region [⟨(some 6), .op (.mov (.val (.int .i64 16))), none⟩])
    (.ret))
   (.skip)))
  (.seq (.region [⟨(some 7), .op (.mov (.val .nils)), none⟩])
  (.seq (.seq (.region [⟨(some 15), .op (.mov (.tmp 1)), none⟩,
     ⟨(some 16), .op (.lenS (.tmp 15)), none⟩,
     ⟨(some 17), .op (.mov (.val (.int .i64 0))), none⟩])
   (.block 0 (.loop (.seq (.region [⟨(some 18), .op (.bin .lss (.tmp 17) (.tmp 16)), none⟩])
     (.seq (.cond (.tmp 18) (.skip)
      (.exit 0))
     (.seq (.block 1 (.seq (.region [⟨(some 19), .op (.mov (.tmp 17)), none⟩,
         ⟨(some 20), .op (.idxS 1 (.tmp 15) (.tmp 17)), none⟩,
         ⟨(some 21), .op (.load none (.tmp 20)), none⟩,
         ⟨(some 8), .op (.mov (.tmp 19)), none⟩,
         ⟨(some 9), .op (.mov (.tmp 21)), none⟩])
       (.region [⟨(some 22), .op (.mov (.tmp 7)), none⟩,
        ⟨(some 23), .op (.mov (.tmp 9)), none⟩,
        ⟨(some 24), .op (.mov (.tmp 2)), none⟩,
        ⟨(some 25), .op (.mov (.tmp 8)), none⟩,
        ⟨(some 26), .op (.idxS 1 (.tmp 24) (.tmp 25)), none⟩,
        ⟨(some 27), .op (.load none (.tmp 26)), none⟩,
        ⟨(some 28), .op (.buildSlice 1 2 [(.int .i64 0)] [(0, (.tmp 23)), (1, (.tmp 27))]), none⟩,
        ⟨(some 29), .op (.append 1 8 (.tmp 22) (.tmp 28)), none⟩,
        ⟨(some 7), .op (.mov (.tmp 29)), none⟩])))
     (.region [⟨(some 30), .op (.bin .add (.tmp 17) (.val (.int .i64 1))), none⟩,
      ⟨(some 17), .op (.mov (.tmp 30)), none⟩])))))))
  (.seq (.region [⟨(some 31), .op (.mov (.tmp 0)), none⟩,
    ⟨(some 32), .op (.mov (.tmp 7)), none⟩,
    ⟨(some 33), .call (.fnv 66) [(.tmp 31), (.tmp 32)], none⟩,
    ⟨(some 6), .op (.mov (.tmp 33)), none⟩])
  (.ret))))),
  [.tmp 6], none, none⟩
def A88 : AFun := ⟨.seq (.region [⟨(some 4), .op (.mov (.val (.int .i64 0))), none⟩,
    ⟨(some 5), .op (.mov (.val (.int .i64 0))), none⟩])
  (.seq (.region [⟨(some 9), .op (.mov (.tmp 0)), none⟩,
    ⟨(some 10), .op (.mov (.tmp 1)), none⟩,
    ⟨(some 11), .call (.fnv 85) [(.tmp 9), (.tmp 10)], none⟩,
    ⟨(some 8), .op (.mov (.tmp 11)), none⟩,
    ⟨(some 12), .op (.extract (.tmp 8) 0), none⟩,
    ⟨(some 13), .op (.extract (.tmp 8) 1), none⟩,
    ⟨(some 6), .op (.mov (.tmp 12)), none⟩,
    ⟨(some 7), .op (.mov (.tmp 13)), none⟩])
  (.seq (.seq (.region [⟨(some 14), .op (.mov (.tmp 7)), none⟩,
     ⟨(some 15), .op (.un .not (.tmp 14)), none⟩])
   (.cond (.tmp 15) (.seq (.region [⟨(some 4), .op (.mov (.val (.int .i64 0))), none⟩,
      ⟨(some 5), .op (.mov (.val (.int .i64 11))), none⟩])
    (.ret))
   (.skip)))
  (.seq (.seq (.region [⟨(some 16), .op (.mov (.tmp 6)), none⟩,
     ⟨(some 17), .op (.bin .lss (.tmp 16) (.val (.int .i64 64))), none⟩])
   (.cond (.tmp 17) (.seq (.region [⟨(some 4), .op (.mov (.val (.int .i64 0))), none⟩,
      ⟨(some 5), .op (.mov (.val (.int .i64 10))), none⟩])
    (.ret))
   (.skip)))
  (.seq (.region [⟨(some 18), .op (.mov (.tmp 6)), none⟩,
    ⟨(some 19), .op (.bin .sub (.tmp 18) (.val (.int .i64 64))), none⟩,
    ⟨(some 4), .op (.mov (.tmp 19)), none⟩,
    ⟨(some 5), .op (.mov (.val (.int .i64 0))), none⟩])
  (.ret))))),
  [.tmp 4, .tmp 5], none, none⟩
def A89 : AFun := ⟨.seq (.region [⟨(some 3), .op (.box (.tmp 1)), none⟩,
    ⟨(some 4), .op (.mov (.val (.int .i64 0))), none⟩])
  (.seq (.seq (.region [⟨(some 8), .op (.fieldAddr 2 (.tmp 3)), none⟩,
     ⟨(some 9), .op (.load none (.tmp 8)), none⟩,
     ⟨(some 10), .op (.bin .lss (.tmp 9) (.val (.int .i64 0))), none⟩,
     ⟨(some 11), .op (.mov (.tmp 10)), none⟩,
     ⟨(some 12), .op (.fieldAddr 2 (.tmp 3)), (some (11, false))⟩,
     ⟨(some 13), .op (.load none (.tmp 12)), (some (11, false))⟩,
     ⟨(some 14), .op (.bin .gtr (.tmp 13) (.val (.int .i64 1))), (some (11, false))⟩,
     ⟨(some 15), .op (.pick (.tmp 11) (.val (.bool true)) (.tmp 14)), none⟩,
     ⟨(some 16), .op (.mov (.tmp 15)), none⟩,
     ⟨(some 17), .op (.fieldAddr 5 (.tmp 3)), (some (16, false))⟩,
     ⟨(some 18), .op (.load none (.tmp 17)), (some (16, false))⟩,
     ⟨(some 19), .op (.lenS (.tmp 18)), (some (16, false))⟩,
     ⟨(some 20), .op (.bin .rem (.tmp 19) (.val (.int .i64 3))), (some (16, false))⟩,
     ⟨(some 21), .op (.bin .neq (.tmp 20) (.val (.int .i64 0))), (some (16, false))⟩,
     ⟨(some 22), .op (.pick (.tmp 16) (.val (.bool true)) (.tmp 21)), none⟩])
   (.cond (.tmp 22) (.seq (.region [⟨(some 4), .op (.mov (.val (.int .i64 16))), none⟩])
    (.ret))
   (.skip)))
  (.seq (.seq (.region [⟨(some 5), .op (.mov (.val (.int .i64 0))), none⟩])
   (.block 0 (.loop (.seq (.seq (.region [⟨(some 23), .op (.mov (.tmp 5)), none⟩,
        ⟨(some 24), .op (.fieldAddr 5 (.tmp 3)), none⟩,
        ⟨(some 25), .op (.load none (.tmp 24)), none⟩,
        ⟨(some 26), .op (.lenS (.tmp 25)), none⟩,
        ⟨(some 27), .op (.bin .lss (.tmp 23) (.tmp 26)), none⟩])
      (.cond (.tmp 27) (.skip)
      (.exit 0)))
     (.seq (.block 1 (.seq (.seq (.region [⟨(some 30), .op (.fieldAddr 5 (.tmp 3)), none⟩,
          ⟨(some 31), .op (.load none (.tmp 30)), none⟩,
          ⟨(some 32), .op (.mov (.tmp 5)), none⟩,
          ⟨(some 33), .op (.idxS 1 (.tmp 31) (.tmp 32)), none⟩,
          ⟨(some 34), .op (.load none (.tmp 33)), none⟩,
          ⟨(some 35), .op (.bin .neq (.tmp 34) (.val (.int .i64 0))), none⟩,
          ⟨(some 36), .op (.mov (.tmp 35)), none⟩,
          ⟨(some 37), .op (.fieldAddr 5 (.tmp 3)), (some (36, true))⟩,
          ⟨(some 38), .op (.load none (.tmp 37)), (some (36, true))⟩,
          ⟨(some 39), .op (.mov (.tmp 5)), (some (36, true))⟩,
          ⟨(some 40), .op (.idxS 1 (.tmp 38) (.tmp 39)), (some (36, true))⟩,
          ⟨(some 41), .op (.load none (.tmp 40)), (some (36, true))⟩,
          ⟨(some 42), .op (.bin .neq (.tmp 41) (.val (.int .i64 1))), (some (36, true))⟩,
          ⟨(some 43), .op (.pick (.tmp 36) (.tmp 42) (.val (.bool false))), none⟩])
        (.cond (.tmp 43) (.seq (.region [⟨(some 4), .op (.mov (.val (.int .i64 8))), none⟩])
         (.ret))
        (.skip)))
       (.seq (.region [⟨(some 45), .op (.mov (.tmp 0)), none⟩,
         ⟨(some 46), .op (.fieldAddr 5 (.tmp 3)), none⟩,
         ⟨(some 47), .op (.load none (.tmp 46)), none⟩,
         ⟨(some 48), .op (.mov (.tmp 5)), none⟩,
         ⟨(some 49), .op (.bin .add (.tmp 48) (.val (.int .i64 1))), none⟩,
         ⟨(some 50), .op (.idxS 1 (.tmp 47) (.tmp 49)), none⟩,
         ⟨(some 51), .op (.load none (.tmp 50)), none⟩,
         ⟨(some 52), .call (.fnv 88) [(.tmp 45), (.tmp 51)], none⟩,
         ⟨(some 44), .op (.mov (.tmp 52)), none⟩,
         ⟨(some 53), .op (.extract (.tmp 44) 0), none⟩,
         ⟨(some 54), .op (.extract (.tmp 44) 1), none⟩,
         ⟨(some 6), .op (.mov (.tmp 53)), none⟩,
         ⟨(some 7), .op (.mov (.tmp 54)), none⟩])
       (.seq (.seq (.region [⟨(some 55), .op (.mov (.tmp 7)), none⟩,
          ⟨(some 56), .op (.bin .neq (.tmp 55) (.val (.int .i64 0))), none⟩])
        (.cond (.tmp 56) (.seq (.region [⟨(some 57), .op (.mov (.tmp 7)), none⟩,
           ⟨(some 4), .op (.mov (.tmp 57)), none⟩])
         (.ret))
        (.skip)))
       (.seq (.region [⟨(some 58), .op (.mov (.tmp 0)), none⟩,
         ⟨(some 59), .op (.fieldAddr 5 (.tmp 3)), none⟩,
         ⟨(some 60), .op (.load none (.tmp 59)), none⟩,
         ⟨(some 61), .op (.mov (.tmp 5)), none⟩,
         ⟨(some 62), .op (.bin .add (.tmp 61) (.val (.int .i64 2))), none⟩,
         ⟨(some 63), .op (.idxS 1 (.tmp 60) (.tmp 62)), none⟩,
         ⟨(some 64), .op (.load none (.tmp 63)), none⟩,
         ⟨(some 65), .op (.mov (.tmp 6)), none⟩,
         ⟨(some 66), .op (.buildSlice 1 2 [(.int .i64 0)] [(0, (.tmp 64)), (1, (.tmp 65))]), none⟩,
         ⟨(some 67), .call (.fnv 66) [(.tmp 58), (.tmp 66)], none⟩,
         ⟨(some 7), .op (.mov (.tmp 67)), none⟩])
       (.seq (.region [⟨(some 68), .op (.mov (.tmp 7)), none⟩,
         ⟨(some 69), .op (.bin .neq (.tmp 68) (.val (.int .i64 0))), none⟩])
       (.cond (.tmp 69) (.seq (.region [⟨(some 70), .op (.mov (.tmp 7)), none⟩,
          ⟨(some 4), .op (.mov (.tmp 70)), none⟩])
        (.ret))
       (.skip))))))))
     (.region [⟨(some 28), .op (.mov (.tmp 5)), none⟩,
      ⟨(some 29), .op (.bin .add (.tmp 28) (.val (.int .i64 3))), none⟩,
      ⟨(some 5), .op (.mov (.tmp 29)), none⟩]))))))
  (.seq (.region [⟨(some 71), .op (.mov (.tmp 0)), none⟩,
    ⟨(some 72), .op (.fieldAddr 1 (.tmp 3)), none⟩,
    ⟨(some 73), .op (.load none (.tmp 72)), none⟩,
    ⟨(some 74), .op (.buildSlice 1 2 [(.int .i64 0)] [(0, (.tmp 73)), (1, (.val (.int .i64 0)))]), none⟩,
    ⟨(some 75), .call (.fnv 66) [(.tmp 71), (.tmp 74)], none⟩,
    ⟨(some 4), .op (.mov (.tmp 75)), none⟩])
  (.ret)))),
  [.tmp 4], none, none⟩
def A90 : AFun := ⟨.seq (.region [⟨(some 2), .op (.mov (.val .nils)), none⟩,
    ⟨(some 3), .op (.mov (.val (.bool false))), none⟩])
  (.seq (.seq (.region [⟨(some 9), .op (.mov (.tmp 0)), none⟩,
     ⟨(some 10), .op (.eql false .ptr (.tmp 9) (.val .nilp)), none⟩,
     ⟨(some 11), .op (.mov (.tmp 10)), none⟩,
     ⟨(some 12), .op (.mov (.tmp 0)), (some (11, false))⟩,
     ⟨(some 13), .op (.nilCheck (.tmp 12)), (some (11, false))⟩,
     ⟨(some 14), .op (.fieldAddr 2 (.tmp 13)), (some (11, false))⟩,
     ⟨(some 15), .op (.load none (.tmp 14)), (some (11, false))⟩,
     ⟨(some 16), .op (.pick (.tmp 11) (.val (.bool true)) (.tmp 15)), none⟩])
   (.cond (.tmp 16) (.seq (.region [⟨(some 2), .op (.mov (.val .nils)), none⟩,
      ⟨(some 3), .op (.mov (.val (.bool false))), none⟩])
    (.ret))
   (.skip)))
  (.seq (.region [⟨(some 17), .op (.mov (.tmp 0)), none⟩,
    ⟨(some 18), .op (.nilCheck (.tmp 17)), none⟩,
    ⟨(some 19), .op (.fieldAddr 2 (.tmp 18)), none⟩,
    ⟨none, .op (.store 1 (.tmp 19) (.val (.bool true))), none⟩])
  (.seq (.region [⟨(some 4), .op (.mov (.val .nils)), none⟩])
  (.seq (.seq (.region [⟨(some 20), .op (.mov (.tmp 0)), none⟩,
     ⟨(some 21), .op (.nilCheck (.tmp 20)), none⟩,
     ⟨(some 22), .op (.fieldAddr 4 (.tmp 21)), none⟩,
     ⟨(some 23), .op (.load none (.tmp 22)), none⟩,
     ⟨(some 24), .op (.lenS (.tmp 23)), none⟩,
     ⟨(some 25), .op (.mov (.val (.int .i64 0))), none⟩])
   (.block 0 (.loop (.seq (.region [⟨(some 26), .op (.bin .lss (.tmp 25) (.tmp 24)), none⟩])
     (.seq (.cond (.tmp 26) (.skip)
      (.exit 0))
     (.seq (.block 1 (.seq (.region [⟨(some 27), .op (.idxS 2 (.tmp 23) (.tmp 25)), none⟩,
         ⟨(some 28), .op (.load (some 2) (.tmp 27)), none⟩,
         ⟨(some 6), .op (.alloc [(.int .i64 0), (.int .u64 0)]), none⟩,
         ⟨none, .op (.store 2 (.tmp 6) (.tmp 28)), none⟩])
       (.region [⟨(some 29), .op (.mov (.tmp 4)), none⟩,
        ⟨(some 30), .op (.fieldAddr 0 (.tmp 6)), none⟩,
        ⟨(some 31), .op (.load none (.tmp 30)), none⟩,
        ⟨(some 32), .op (.buildSlice 1 1 [(.int .i64 0)] [(0, (.tmp 31))]), none⟩,
        ⟨(some 33), .op (.append 1 8 (.tmp 29) (.tmp 32)), none⟩,
        ⟨(some 4), .op (.mov (.tmp 33)), none⟩])))
     (.region [⟨(some 34), .op (.bin .add (.tmp 25) (.val (.int .i64 1))), none⟩,
      ⟨(some 25), .op (.mov (.tmp 34)), none⟩])))))))
  (.seq (.seq (.region [⟨(some 35), .op (.mov (.tmp 0)), none⟩,
     ⟨(some 36), .op (.nilCheck (.tmp 35)), none⟩,
     ⟨(some 37), .op (.fieldAddr 3 (.tmp 36)), none⟩,
     ⟨(some 38), .op (.load none (.tmp 37)), none⟩,
     ⟨(some 39), .op (.lenS (.tmp 38)), none⟩,
     ⟨(some 40), .op (.mov (.val (.int .i64 0))), none⟩])
   (.block 2 (.loop (.seq (.region [⟨(some 41), .op (.bin .lss (.tmp 40) (.tmp 39)), none⟩])
     (.seq (.cond (.tmp 41) (.skip)
      (.exit 2))
     (.seq (.block 3 (.seq (.region [⟨(some 42), .op (.idxS 2 (.tmp 38) (.tmp 40)), none⟩,
         ⟨(some 43), .op (.load (some 2) (.tmp 42)), none⟩,
         ⟨(some 8), .op (.alloc [(.int .i64 0), (.int .u64 0)]), none⟩,
         ⟨none, .op (.store 2 (.tmp 8) (.tmp 43)), none⟩])
       (.region [⟨(some 44), .op (.mov (.tmp 4)), none⟩,
        ⟨(some 45), .op (.fieldAddr 0 (.tmp 8)), none⟩,
        ⟨(some 46), .op (.load none (.tmp 45)), none⟩,
        ⟨(some 47), .op (.buildSlice 1 1 [(.int .i64 0)] [(0, (.tmp 46))]), none⟩,
        ⟨(some 48), .op (.append 1 8 (.tmp 44) (.tmp 47)), none⟩,
        ⟨(some 4), .op (.mov (.tmp 48)), none⟩])))
     (.region [⟨(some 49), .op (.bin .add (.tmp 40) (.val (.int .i64 1))), none⟩,
      ⟨(some 40), .op (.mov (.tmp 49)), none⟩])))))))
  (.seq (.region [⟨(some 50), .op (.mov (.tmp 0)), none⟩,
    ⟨(some 51), .op (.mov (.tmp 0)), none⟩,
    ⟨(some 52), .op (.nilCheck (.tmp 50)), none⟩,
    ⟨(some 53), .op (.fieldAddr 4 (.tmp 52)), none⟩,
    ⟨none, .op (.store 1 (.tmp 53) (.val .nils)), none⟩,
    ⟨(some 54), .op (.nilCheck (.tmp 51)), none⟩,
    ⟨(some 55), .op (.fieldAddr 3 (.tmp 54)), none⟩,
    ⟨none, .op (.store 1 (.tmp 55) (.val .nils)), none⟩])
  (.seq (.region [⟨(some 56), .op (.mov (.tmp 4)), none⟩,
    ⟨(some 2), .op (.mov (.tmp 56)), none⟩,
    ⟨(some 3), .op (.mov (.val (.bool true))), none⟩])
  (.ret)))))))),
  [.tmp 2, .tmp 3], none, none⟩
def A91 : AFun := ⟨.seq (.region [⟨(some 14), .op (.mov (.tmp 0)), none⟩,
    ⟨(some 15), .op (.nilCheck (.tmp 14)), none⟩,
    ⟨(some 16), .op (.fieldAddr 5 (.tmp 15)), none⟩,
    ⟨(some 17), .op (.load none (.tmp 16)), none⟩,
    ⟨(some 18), .op (.mov (.tmp 1)), none⟩,
    ⟨(some 19), .op (.bin .quo (.tmp 18) (.val (.int .i64 64))), none⟩,
    ⟨(some 20), .op (.idxS 1 (.tmp 17) (.tmp 19)), none⟩,
    ⟨(some 21), .op (.load none (.tmp 20)), none⟩,
    ⟨(some 8), .op (.mov (.tmp 21)), none⟩])
  (.seq (.seq (.region [⟨(some 22), .op (.mov (.tmp 8)), none⟩,
     ⟨(some 23), .op (.nilCheck (.tmp 22)), none⟩,
     ⟨(some 24), .op (.fieldAddr 0 (.tmp 23)), none⟩,
     ⟨(some 25), .op (.load none (.tmp 24)), none⟩,
     ⟨(some 26), .op (.bin .neq (.tmp 25) (.val (.int .i64 2))), none⟩,
     ⟨(some 27), .op (.mov (.tmp 26)), none⟩,
     ⟨(some 28), .op (.mov (.tmp 8)), (some (27, false))⟩,
     ⟨(some 29), .op (.nilCheck (.tmp 28)), (some (27, false))⟩,
     ⟨(some 30), .op (.fieldAddr 2 (.tmp 29)), (some (27, false))⟩,
     ⟨(some 31), .op (.load none (.tmp 30)), (some (27, false))⟩,
     ⟨(some 32), .op (.pick (.tmp 27) (.val (.bool true)) (.tmp 31)), none⟩])
   (.cond (.tmp 32) (.ret)
   (.skip)))
  (.seq (.region [⟨(some 33), .op (.mov (.tmp 8)), none⟩,
    ⟨(some 34), .op (.nilCheck (.tmp 33)), none⟩,
    ⟨(some 35), .op (.fieldAddr 0 (.tmp 34)), none⟩,
    ⟨none, .op (.store 1 (.tmp 35) (.val (.int .i64 1))), none⟩])
  (.seq (.region [⟨(some 36), .op (.mov (.tmp 8)), none⟩,
    ⟨(some 37), .call (.fnv 32) [(.tmp 36)], none⟩,
    ⟨(some 9), .op (.mov (.tmp 37)), none⟩])
  (.seq (.region [⟨(some 38), .op (.mov (.tmp 0)), none⟩,
    ⟨(some 39), .op (.mov (.tmp 9)), none⟩,
    ⟨(some 40), .call (.fnv 96) [(.tmp 38), (.tmp 39)], none⟩,
    ⟨(some 10), .op (.alloc [(.int .i64 0), (.int .i64 0), (.int .i64 0), (.int .i64 0), (.int .u64 0), .nils]), none⟩,
    ⟨none, .op (.store 6 (.tmp 10) (.tmp 40)), none⟩])
  (.seq (.seq (.region [⟨(some 41), .op (.fieldAddr 0 (.tmp 10)), none⟩,
     ⟨(some 42), .op (.load none (.tmp 41)), none⟩,
     ⟨(some 43), .op (.bin .neq (.tmp 42) (.val (.int .i64 45))), none⟩])
   (.cond (.tmp 43) (.seq (.seq (.region [⟨(some 44), .op (.fieldAddr 0 (.tmp 10)), none⟩,
       ⟨(some 45), .op (.load none (.tmp 44)), none⟩,
       ⟨(some 46), .op (.bin .eql (.tmp 45) (.val (.int .i64 43))), none⟩])
     (.cond (.tmp 46) (.draw [⟨⟨(some 47), .op (.mov (.tmp 9)), none⟩, .pure⟩,
       ⟨⟨(some 48), .op (.nilCheck (.tmp 47)), none⟩, .pure⟩,
       ⟨⟨(some 49), .op (.fieldAddr 3 (.tmp 48)), none⟩, .pure⟩,
       ⟨⟨(some 50), .op (.load none (.tmp 49)), none⟩, .read [17]⟩,
       ⟨⟨(some 51), .op (.fieldAddr 1 (.tmp 10)), none⟩, .pure⟩,
       ⟨⟨(some 52), .op (.load none (.tmp 51)), none⟩, .read [17]⟩,
       ⟨⟨(some 53), .op (.mov (.tmp 9)), none⟩, .pure⟩,
       ⟨⟨(some 54), .op (.nilCheck (.tmp 53)), none⟩, .pure⟩,
       ⟨⟨(some 55), .op (.fieldAddr 3 (.tmp 54)), none⟩, .pure⟩,
       ⟨⟨(some 56), .op (.load none (.tmp 55)), none⟩, .read [17]⟩,
       ⟨⟨(some 57), .op (.fieldAddr 3 (.tmp 10)), none⟩, .pure⟩,
       ⟨⟨(some 58), .op (.load none (.tmp 57)), none⟩, .read [17, 19]⟩,
       ⟨⟨(some 59), .op (.mov (.tmp 2)), none⟩, .pure⟩,
       ⟨⟨(some 60), .op (.mov (.tmp 3)), none⟩, .pure⟩,
       ⟨⟨(some 61), .op (.un .not (.tmp 60)), none⟩, .pure⟩,
       ⟨⟨(some 62), .call (.fnv 72) [(.tmp 61)], none⟩, .act true⟩,
       ⟨⟨(some 63), .op (.idxS 1 (.tmp 50) (.tmp 52)), none⟩, .read []⟩,
       ⟨⟨none, .op (.store 1 (.tmp 63) (.tmp 59)), none⟩, .act true⟩,
       ⟨⟨(some 64), .op (.idxS 1 (.tmp 56) (.tmp 58)), none⟩, .read []⟩,
       ⟨⟨none, .op (.store 1 (.tmp 64) (.tmp 62)), none⟩, .act true⟩])
     (.region [⟨(some 65), .op (.mov (.tmp 8)), none⟩,
      ⟨(some 66), .op (.mov (.tmp 3)), none⟩,
      ⟨(some 67), .op (.nilCheck (.tmp 65)), none⟩,
      ⟨(some 68), .op (.fieldAddr 7 (.tmp 67)), none⟩,
      ⟨none, .op (.store 1 (.tmp 68) (.tmp 66)), none⟩])))
    (.ret))
   (.skip)))
  (.seq (.region [⟨(some 69), .op (.mov (.tmp 1)), none⟩,
    ⟨(some 70), .op (.bin .rem (.tmp 69) (.val (.int .i64 64))), none⟩,
    ⟨(some 71), .op (.bin .sub (.tmp 70) (.val (.int .i64 1))), none⟩,
    ⟨(some 11), .op (.mov (.tmp 71)), none⟩])
  (.seq (.seq (.region [⟨(some 12), .op (.mov (.val (.int .i64 0))), none⟩])
   (.block 0 (.loop (.seq (.seq (.region [⟨(some 72), .op (.mov (.tmp 12)), none⟩,
        ⟨(some 73), .op (.fieldAddr 5 (.tmp 10)), none⟩,
        ⟨(some 74), .op (.load none (.tmp 73)), none⟩,
        ⟨(some 75), .op (.lenS (.tmp 74)), none⟩,
        ⟨(some 76), .op (.bin .lss (.tmp 72) (.tmp 75)), none⟩])
      (.cond (.tmp 76) (.skip)
      (.exit 0)))
     (.seq (.block 1 (.seq (.draw [⟨⟨(some 79), .op (.mov (.tmp 0)), none⟩, .pure⟩,
         ⟨⟨(some 80), .op (.mov (.tmp 9)), none⟩, .pure⟩,
         ⟨⟨(some 81), .op (.nilCheck (.tmp 80)), none⟩, .pure⟩,
         ⟨⟨(some 82), .op (.fieldAddr 3 (.tmp 81)), none⟩, .pure⟩,
         ⟨⟨(some 83), .op (.load none (.tmp 82)), none⟩, .read []⟩,
         ⟨⟨(some 84), .op (.fieldAddr 5 (.tmp 10)), none⟩, .pure⟩,
         ⟨⟨(some 85), .op (.load none (.tmp 84)), none⟩, .read []⟩,
         ⟨⟨(some 86), .op (.mov (.tmp 12)), none⟩, .pure⟩,
         ⟨⟨(some 87), .op (.bin .add (.tmp 86) (.val (.int .i64 1))), none⟩, .pure⟩,
         ⟨⟨(some 88), .op (.idxS 1 (.tmp 85) (.tmp 87)), none⟩, .read []⟩,
         ⟨⟨(some 89), .op (.load none (.tmp 88)), none⟩, .read []⟩,
         ⟨⟨(some 90), .op (.idxS 1 (.tmp 83) (.tmp 89)), none⟩, .read []⟩,
         ⟨⟨(some 91), .op (.load none (.tmp 90)), none⟩, .read []⟩,
         ⟨⟨(some 92), .call (.fnv 80) [(.tmp 79), (.tmp 91)], none⟩, .act true⟩,
         ⟨⟨(some 13), .op (.mov (.tmp 92)), none⟩, .pure⟩])
       (.seq (.region [⟨(some 93), .op (.mov (.tmp 13)), none⟩,
         ⟨(some 94), .op (.eql true .ptr (.tmp 93) (.val .nilp)), none⟩])
       (.cond (.tmp 94) (.region [⟨(some 95), .op (.mov (.tmp 13)), none⟩,
         ⟨(some 96), .op (.mov (.tmp 1)), none⟩,
         ⟨(some 97), .op (.bin .quo (.tmp 96) (.val (.int .i64 64))), none⟩,
         ⟨(some 98), .op (.mov (.tmp 12)), none⟩,
         ⟨(some 99), .op (.bin .quo (.tmp 98) (.val (.int .i64 3))), none⟩,
         ⟨(some 100), .call (.fnv 82) [(.tmp 97), (.tmp 99)], none⟩,
         ⟨(some 101), .call (.fnv 97) [(.tmp 95), (.tmp 100)], none⟩])
       (.skip)))))
     (.region [⟨(some 77), .op (.mov (.tmp 12)), none⟩,
      ⟨(some 78), .op (.bin .add (.tmp 77) (.val (.int .i64 3))), none⟩,
      ⟨(some 12), .op (.mov (.tmp 78)), none⟩]))))))
  (.seq (.draw [⟨⟨(some 102), .op (.mov (.tmp 9)), none⟩, .pure⟩,
    ⟨⟨(some 103), .op (.nilCheck (.tmp 102)), none⟩, .pure⟩,
    ⟨⟨(some 104), .op (.fieldAddr 3 (.tmp 103)), none⟩, .pure⟩,
    ⟨⟨(some 105), .op (.load none (.tmp 104)), none⟩, .read []⟩,
    ⟨⟨(some 106), .op (.fieldAddr 1 (.tmp 10)), none⟩, .pure⟩,
    ⟨⟨(some 107), .op (.load none (.tmp 106)), none⟩, .read []⟩,
    ⟨⟨(some 108), .op (.mov (.tmp 11)), none⟩, .pure⟩,
    ⟨⟨(some 109), .op (.conv .u64 (.tmp 108)), none⟩, .pure⟩,
    ⟨⟨(some 110), .op (.idxS 1 (.tmp 105) (.tmp 107)), none⟩, .read []⟩,
    ⟨⟨none, .op (.store 1 (.tmp 110) (.tmp 109)), none⟩, .act true⟩])
  (.seq (.region [⟨(some 111), .op (.fieldAddr 5 (.tmp 10)), none⟩,
    ⟨(some 112), .op (.load none (.tmp 111)), none⟩,
    ⟨(some 113), .op (.mov (.tmp 11)), none⟩,
    ⟨(some 114), .op (.bin .mul (.val (.int .i64 3)) (.tmp 113)), none⟩,
    ⟨(some 115), .op (.idxS 1 (.tmp 112) (.tmp 114)), none⟩,
    ⟨(some 116), .op (.load none (.tmp 115)), none⟩,
    ⟨(some 117), .op (.bin .eql (.tmp 116) (.val (.int .i64 1))), none⟩])
  (.cond (.tmp 117) (.draw [⟨⟨(some 118), .op (.mov (.tmp 9)), none⟩, .pure⟩,
    ⟨⟨(some 119), .op (.nilCheck (.tmp 118)), none⟩, .pure⟩,
    ⟨⟨(some 120), .op (.fieldAddr 3 (.tmp 119)), none⟩, .pure⟩,
    ⟨⟨(some 121), .op (.load none (.tmp 120)), none⟩, .read []⟩,
    ⟨⟨(some 122), .op (.fieldAddr 5 (.tmp 10)), none⟩, .pure⟩,
    ⟨⟨(some 123), .op (.load none (.tmp 122)), none⟩, .read []⟩,
    ⟨⟨(some 124), .op (.mov (.tmp 11)), none⟩, .pure⟩,
    ⟨⟨(some 125), .op (.bin .mul (.val (.int .i64 3)) (.tmp 124)), none⟩, .pure⟩,
    ⟨⟨(some 126), .op (.bin .add (.tmp 125) (.val (.int .i64 2))), none⟩, .pure⟩,
    ⟨⟨(some 127), .op (.idxS 1 (.tmp 123) (.tmp 126)), none⟩, .read []⟩,
    ⟨⟨(some 128), .op (.load none (.tmp 127)), none⟩, .read []⟩,
    ⟨⟨(some 129), .op (.mov (.tmp 2)), none⟩, .pure⟩,
    ⟨⟨(some 130), .op (.idxS 1 (.tmp 121) (.tmp 128)), none⟩, .read []⟩,
    ⟨⟨none, .op (.store 1 (.tmp 130) (.tmp 129)), none⟩, .act true⟩])
  (.region [⟨(some 131), .op (.mov (.tmp 8)), none⟩,
   ⟨(some 132), .op (.mov (.tmp 3)), none⟩,
   ⟨(some 133), .op (.nilCheck (.tmp 131)), none⟩,
   ⟨(some 134), .op (.fieldAddr 7 (.tmp 133)), none⟩,
   ⟨none, .op (.store 1 (.tmp 134) (.tmp 132)), none⟩]))))))))))),
  [], none, none⟩
def A92 : AFun := ⟨.seq (.region [⟨(some 8), .op (.alloc [(.int .i64 0), (.int .i64 0), (.int .u64 0)]), none⟩])
  (.seq (.block 0 (.seq (.region [⟨(some 11), .op (.mov (.tmp 0)), none⟩,
      ⟨(some 12), .op (.eql false .ptr (.tmp 11) (.val .nilp)), none⟩,
      ⟨(some 10), .op (.mov (.tmp 12)), none⟩])
    (.cond (.tmp 10) (.seq (.region [⟨(some 13), .op (.build [(.int .i64 0), (.int .i64 0), (.int .u64 0)] []), none⟩,
       ⟨none, .op (.store 3 (.tmp 8) (.tmp 13)), none⟩])
     (.ret))
    (.seq (.region [⟨(some 15), .op (.mov (.tmp 0)), none⟩,
      ⟨(some 16), .op (.nilCheck (.tmp 15)), none⟩,
      ⟨(some 17), .op (.fieldAddr 2 (.tmp 16)), none⟩,
      ⟨(some 18), .op (.load none (.tmp 17)), none⟩,
      ⟨(some 14), .op (.mov (.tmp 18)), none⟩])
    (.cond (.tmp 14) (.seq (.region [⟨(some 19), .op (.build [(.int .i64 0), (.int .i64 0), (.int .u64 0)] [(0, 1, (.val (.int .i64 4)))]), none⟩,
       ⟨none, .op (.store 3 (.tmp 8) (.tmp 19)), none⟩])
     (.ret))
    (.seq (.region [⟨(some 21), .op (.mov (.tmp 0)), none⟩,
      ⟨(some 22), .op (.nilCheck (.tmp 21)), none⟩,
      ⟨(some 23), .op (.fieldAddr 4 (.tmp 22)), none⟩,
      ⟨(some 24), .op (.load none (.tmp 23)), none⟩,
      ⟨(some 25), .op (.lenS (.tmp 24)), none⟩,
      ⟨(some 26), .op (.bin .gtr (.tmp 25) (.val (.int .i64 0))), none⟩,
      ⟨(some 20), .op (.mov (.tmp 26)), none⟩])
    (.cond (.tmp 20) (.seq (.region [⟨(some 27), .op (.mov (.tmp 0)), none⟩,
       ⟨(some 28), .op (.nilCheck (.tmp 27)), none⟩,
       ⟨(some 29), .op (.fieldAddr 4 (.tmp 28)), none⟩,
       ⟨(some 30), .op (.load none (.tmp 29)), none⟩,
       ⟨(some 31), .op (.idxS 2 (.tmp 30) (.val (.int .i64 0))), none⟩,
       ⟨(some 32), .op (.load (some 2) (.tmp 31)), none⟩,
       ⟨(some 9), .op (.alloc [(.int .i64 0), (.int .u64 0)]), none⟩,
       ⟨none, .op (.store 2 (.tmp 9) (.tmp 32)), none⟩])
     (.seq (.region [⟨(some 33), .op (.mov (.tmp 0)), none⟩,
       ⟨(some 34), .op (.mov (.tmp 0)), none⟩,
       ⟨(some 35), .op (.nilCheck (.tmp 34)), none⟩,
       ⟨(some 36), .op (.fieldAddr 4 (.tmp 35)), none⟩,
       ⟨(some 37), .op (.load none (.tmp 36)), none⟩,
       ⟨(some 38), .op (.slice 2 (.tmp 37) (some (.val (.int .i64 1))) none), none⟩,
       ⟨(some 39), .op (.nilCheck (.tmp 33)), none⟩,
       ⟨(some 40), .op (.fieldAddr 4 (.tmp 39)), none⟩,
       ⟨none, .op (.store 1 (.tmp 40) (.tmp 38)), none⟩])
     (.seq (.region [⟨(some 41), .op (.fieldAddr 0 (.tmp 9)), none⟩,
       ⟨(some 42), .op (.load none (.tmp 41)), none⟩,
       ⟨(some 43), .op (.build [(.int .i64 0), (.int .i64 0), (.int .u64 0)] [(0, 1, (.val (.int .i64 2))), (1, 1, (.tmp 42))]), none⟩,
       ⟨none, .op (.store 3 (.tmp 8) (.tmp 43)), none⟩])
     (.ret))))
    (.seq (.region [⟨(some 45), .op (.mov (.tmp 0)), none⟩,
      ⟨(some 46), .op (.nilCheck (.tmp 45)), none⟩,
      ⟨(some 47), .op (.fieldAddr 0 (.tmp 46)), none⟩,
      ⟨(some 48), .op (.load none (.tmp 47)), none⟩,
      ⟨(some 49), .op (.lenS (.tmp 48)), none⟩,
      ⟨(some 50), .op (.mov (.tmp 0)), none⟩,
      ⟨(some 51), .op (.nilCheck (.tmp 50)), none⟩,
      ⟨(some 52), .op (.fieldAddr 1 (.tmp 51)), none⟩,
      ⟨(some 53), .op (.load none (.tmp 52)), none⟩,
      ⟨(some 54), .op (.bin .lss (.tmp 49) (.tmp 53)), none⟩,
      ⟨(some 44), .op (.mov (.tmp 54)), none⟩])
    (.cond (.tmp 44) (.seq (.region [⟨(some 55), .op (.mov (.tmp 0)), none⟩,
       ⟨(some 56), .op (.mov (.tmp 0)), none⟩,
       ⟨(some 57), .op (.nilCheck (.tmp 56)), none⟩,
       ⟨(some 58), .op (.fieldAddr 0 (.tmp 57)), none⟩,
       ⟨(some 59), .op (.load none (.tmp 58)), none⟩,
       ⟨(some 60), .op (.mov (.tmp 2)), none⟩,
       ⟨(some 61), .op (.buildSlice 1 1 [(.int .u64 0)] [(0, (.tmp 60))]), none⟩,
       ⟨(some 62), .op (.append 1 8 (.tmp 59) (.tmp 61)), none⟩,
       ⟨(some 63), .op (.nilCheck (.tmp 55)), none⟩,
       ⟨(some 64), .op (.fieldAddr 0 (.tmp 63)), none⟩,
       ⟨none, .op (.store 1 (.tmp 64) (.tmp 62)), none⟩])
     (.seq (.region [⟨(some 65), .op (.build [(.int .i64 0), (.int .i64 0), (.int .u64 0)] [(0, 1, (.val (.int .i64 1)))]), none⟩,
       ⟨none, .op (.store 3 (.tmp 8) (.tmp 65)), none⟩])
     (.ret)))
    (.skip))))))))))
  (.seq (.seq (.region [⟨(some 66), .op (.mov (.tmp 3)), none⟩])
   (.cond (.tmp 66) (.region [⟨(some 67), .op (.mov (.tmp 0)), none⟩,
     ⟨(some 68), .op (.mov (.tmp 1)), none⟩,
     ⟨(some 69), .op (.mov (.tmp 2)), none⟩,
     ⟨(some 70), .call (.fnv 98) [(.tmp 67), (.tmp 68), (.tmp 69), (.val (.bool true))], none⟩])
   (.skip)))
  (.seq (.region [⟨(some 71), .op (.build [(.int .i64 0), (.int .i64 0), (.int .u64 0)] [(0, 1, (.val (.int .i64 3)))]), none⟩,
    ⟨none, .op (.store 3 (.tmp 8) (.tmp 71)), none⟩])
  (.ret)))),
  [.cell 8 (some 3)], none, none⟩
def A93 : AFun := ⟨.seq (.region [⟨(some 6), .op (.alloc [(.int .i64 0), (.int .i64 0), (.int .u64 0)]), none⟩])
  (.seq (.seq (.region [⟨(some 10), .op (.mov (.tmp 0)), none⟩,
     ⟨(some 11), .op (.eql false .ptr (.tmp 10) (.val .nilp)), none⟩])
   (.cond (.tmp 11) (.seq (.region [⟨(some 12), .op (.build [(.int .i64 0), (.int .i64 0), (.int .u64 0)] []), none⟩,
      ⟨none, .op (.store 3 (.tmp 6) (.tmp 12)), none⟩])
    (.ret))
   (.skip)))
  (.seq (.seq (.region [⟨(some 13), .op (.mov (.tmp 0)), none⟩,
     ⟨(some 14), .op (.nilCheck (.tmp 13)), none⟩,
     ⟨(some 15), .op (.fieldAddr 0 (.tmp 14)), none⟩,
     ⟨(some 16), .op (.load none (.tmp 15)), none⟩,
     ⟨(some 17), .op (.lenS (.tmp 16)), none⟩,
     ⟨(some 18), .op (.bin .gtr (.tmp 17) (.val (.int .i64 0))), none⟩])
   (.cond (.tmp 18) (.seq (.region [⟨(some 19), .op (.mov (.tmp 0)), none⟩,
      ⟨(some 20), .op (.nilCheck (.tmp 19)), none⟩,
      ⟨(some 21), .op (.fieldAddr 0 (.tmp 20)), none⟩,
      ⟨(some 22), .op (.load none (.tmp 21)), none⟩,
      ⟨(some 23), .op (.idxS 1 (.tmp 22) (.val (.int .i64 0))), none⟩,
      ⟨(some 24), .op (.load none (.tmp 23)), none⟩,
      ⟨(some 25), .op (.build [(.int .i64 0), (.int .i64 0), (.int .u64 0)] [(0, 1, (.val (.int .i64 1))), (2, 1, (.tmp 24))]), none⟩,
      ⟨(some 7), .op (.alloc [(.int .i64 0), (.int .i64 0), (.int .u64 0)]), none⟩,
      ⟨none, .op (.store 3 (.tmp 7) (.tmp 25)), none⟩])
    (.seq (.region [⟨(some 26), .op (.mov (.tmp 0)), none⟩,
      ⟨(some 27), .op (.mov (.tmp 0)), none⟩,
      ⟨(some 28), .op (.nilCheck (.tmp 27)), none⟩,
      ⟨(some 29), .op (.fieldAddr 0 (.tmp 28)), none⟩,
      ⟨(some 30), .op (.load none (.tmp 29)), none⟩,
      ⟨(some 31), .op (.slice 1 (.tmp 30) (some (.val (.int .i64 1))) none), none⟩,
      ⟨(some 32), .op (.nilCheck (.tmp 26)), none⟩,
      ⟨(some 33), .op (.fieldAddr 0 (.tmp 32)), none⟩,
      ⟨none, .op (.store 1 (.tmp 33) (.tmp 31)), none⟩])
    (.seq (.seq (.region [⟨(some 34), .op (.mov (.tmp 0)), none⟩,
       ⟨(some 35), .op (.nilCheck (.tmp 34)), none⟩,
       ⟨(some 36), .op (.fieldAddr 3 (.tmp 35)), none⟩,
       ⟨(some 37), .op (.load none (.tmp 36)), none⟩,
       ⟨(some 38), .op (.lenS (.tmp 37)), none⟩,
       ⟨(some 39), .op (.bin .gtr (.tmp 38) (.val (.int .i64 0))), none⟩])
     (.cond (.tmp 39) (.seq (.region [⟨(some 40), .op (.mov (.tmp 0)), none⟩,
        ⟨(some 41), .op (.nilCheck (.tmp 40)), none⟩,
        ⟨(some 42), .op (.fieldAddr 3 (.tmp 41)), none⟩,
        ⟨(some 43), .op (.load none (.tmp 42)), none⟩,
        ⟨(some 44), .op (.idxS 2 (.tmp 43) (.val (.int .i64 0))), none⟩,
        ⟨(some 45), .op (.load (some 2) (.tmp 44)), none⟩,
        ⟨(some 8), .op (.alloc [(.int .i64 0), (.int .u64 0)]), none⟩,
        ⟨none, .op (.store 2 (.tmp 8) (.tmp 45)), none⟩])
      (.seq (.region [⟨(some 46), .op (.mov (.tmp 0)), none⟩,
        ⟨(some 47), .op (.mov (.tmp 0)), none⟩,
        ⟨(some 48), .op (.nilCheck (.tmp 47)), none⟩,
        ⟨(some 49), .op (.fieldAddr 3 (.tmp 48)), none⟩,
        ⟨(some 50), .op (.load none (.tmp 49)), none⟩,
        ⟨(some 51), .op (.slice 2 (.tmp 50) (some (.val (.int .i64 1))) none), none⟩,
        ⟨(some 52), .op (.nilCheck (.tmp 46)), none⟩,
        ⟨(some 53), .op (.fieldAddr 3 (.tmp 52)), none⟩,
        ⟨none, .op (.store 1 (.tmp 53) (.tmp 51)), none⟩])
      (.seq (.draw [⟨⟨(some 54), .op (.mov (.tmp 0)), none⟩, .pure⟩,
        ⟨⟨(some 55), .op (.mov (.tmp 0)), none⟩, .pure⟩,
        ⟨⟨(some 56), .op (.nilCheck (.tmp 55)), none⟩, .pure⟩,
        ⟨⟨(some 57), .op (.fieldAddr 0 (.tmp 56)), none⟩, .pure⟩,
        ⟨⟨(some 58), .op (.load none (.tmp 57)), none⟩, .read [8]⟩,
        ⟨⟨(some 59), .op (.fieldAddr 1 (.tmp 8)), none⟩, .pure⟩,
        ⟨⟨(some 60), .op (.load none (.tmp 59)), none⟩, .read []⟩,
        ⟨⟨(some 61), .op (.buildSlice 1 1 [(.int .u64 0)] [(0, (.tmp 60))]), none⟩, .act true⟩,
        ⟨⟨(some 62), .op (.append 1 8 (.tmp 58) (.tmp 61)), none⟩, .act true⟩,
        ⟨⟨(some 63), .op (.nilCheck (.tmp 54)), none⟩, .pure⟩,
        ⟨⟨(some 64), .op (.fieldAddr 0 (.tmp 63)), none⟩, .pure⟩,
        ⟨⟨none, .op (.store 1 (.tmp 64) (.tmp 62)), none⟩, .act true⟩])
      (.draw [⟨⟨(some 65), .op (.fieldAddr 0 (.tmp 8)), none⟩, .pure⟩,
       ⟨⟨(some 66), .op (.load none (.tmp 65)), none⟩, .read [5]⟩,
       ⟨⟨(some 67), .op (.fieldAddr 0 (.tmp 7)), none⟩, .pure⟩,
       ⟨⟨none, .op (.store 1 (.tmp 67) (.val (.int .i64 2))), none⟩, .act true⟩,
       ⟨⟨(some 68), .op (.fieldAddr 1 (.tmp 7)), none⟩, .pure⟩,
       ⟨⟨none, .op (.store 1 (.tmp 68) (.tmp 66)), none⟩, .act true⟩]))))
     (.skip)))
    (.seq (.region [⟨(some 69), .op (.load (some 3) (.tmp 7)), none⟩,
      ⟨none, .op (.store 3 (.tmp 6) (.tmp 69)), none⟩])
    (.ret)))))
   (.skip)))
  (.seq (.block 0 (.seq (.region [⟨(some 71), .op (.mov (.tmp 0)), none⟩,
      ⟨(some 72), .op (.nilCheck (.tmp 71)), none⟩,
      ⟨(some 73), .op (.fieldAddr 3 (.tmp 72)), none⟩,
      ⟨(some 74), .op (.load none (.tmp 73)), none⟩,
      ⟨(some 75), .op (.lenS (.tmp 74)), none⟩,
      ⟨(some 76), .op (.bin .gtr (.tmp 75) (.val (.int .i64 0))), none⟩,
      ⟨(some 70), .op (.mov (.tmp 76)), none⟩])
    (.cond (.tmp 70) (.seq (.region [⟨(some 77), .op (.mov (.tmp 0)), none⟩,
       ⟨(some 78), .op (.nilCheck (.tmp 77)), none⟩,
       ⟨(some 79), .op (.fieldAddr 3 (.tmp 78)), none⟩,
       ⟨(some 80), .op (.load none (.tmp 79)), none⟩,
       ⟨(some 81), .op (.idxS 2 (.tmp 80) (.val (.int .i64 0))), none⟩,
       ⟨(some 82), .op (.load (some 2) (.tmp 81)), none⟩,
       ⟨(some 9), .op (.alloc [(.int .i64 0), (.int .u64 0)]), none⟩,
       ⟨none, .op (.store 2 (.tmp 9) (.tmp 82)), none⟩])
     (.seq (.region [⟨(some 83), .op (.mov (.tmp 0)), none⟩,
       ⟨(some 84), .op (.mov (.tmp 0)), none⟩,
       ⟨(some 85), .op (.nilCheck (.tmp 84)), none⟩,
       ⟨(some 86), .op (.fieldAddr 3 (.tmp 85)), none⟩,
       ⟨(some 87), .op (.load none (.tmp 86)), none⟩,
       ⟨(some 88), .op (.slice 2 (.tmp 87) (some (.val (.int .i64 1))) none), none⟩,
       ⟨(some 89), .op (.nilCheck (.tmp 83)), none⟩,
       ⟨(some 90), .op (.fieldAddr 3 (.tmp 89)), none⟩,
       ⟨none, .op (.store 1 (.tmp 90) (.tmp 88)), none⟩])
     (.seq (.region [⟨(some 91), .op (.fieldAddr 0 (.tmp 9)), none⟩,
       ⟨(some 92), .op (.load none (.tmp 91)), none⟩,
       ⟨(some 93), .op (.fieldAddr 1 (.tmp 9)), none⟩,
       ⟨(some 94), .op (.load none (.tmp 93)), none⟩,
       ⟨(some 95), .op (.build [(.int .i64 0), (.int .i64 0), (.int .u64 0)] [(0, 1, (.val (.int .i64 2))), (1, 1, (.tmp 92)), (2, 1, (.tmp 94))]), none⟩,
       ⟨none, .op (.store 3 (.tmp 6) (.tmp 95)), none⟩])
     (.ret))))
    (.seq (.region [⟨(some 97), .op (.mov (.tmp 0)), none⟩,
      ⟨(some 98), .op (.nilCheck (.tmp 97)), none⟩,
      ⟨(some 99), .op (.fieldAddr 2 (.tmp 98)), none⟩,
      ⟨(some 100), .op (.load none (.tmp 99)), none⟩,
      ⟨(some 96), .op (.mov (.tmp 100)), none⟩])
    (.cond (.tmp 96) (.seq (.region [⟨(some 101), .op (.build [(.int .i64 0), (.int .i64 0), (.int .u64 0)] [(0, 1, (.val (.int .i64 4)))]), none⟩,
       ⟨none, .op (.store 3 (.tmp 6) (.tmp 101)), none⟩])
     (.ret))
    (.skip))))))
  (.seq (.seq (.region [⟨(some 102), .op (.mov (.tmp 2)), none⟩])
   (.cond (.tmp 102) (.region [⟨(some 103), .op (.mov (.tmp 0)), none⟩,
     ⟨(some 104), .op (.mov (.tmp 1)), none⟩,
     ⟨(some 105), .call (.fnv 98) [(.tmp 103), (.tmp 104), (.val (.int .u64 0)), (.val (.bool false))], none⟩])
   (.skip)))
  (.seq (.region [⟨(some 106), .op (.build [(.int .i64 0), (.int .i64 0), (.int .u64 0)] [(0, 1, (.val (.int .i64 3)))]), none⟩,
    ⟨none, .op (.store 3 (.tmp 6) (.tmp 106)), none⟩])
  (.ret)))))),
  [.cell 6 (some 3)], none, none⟩
def A94 : AFun := ⟨.seq (.region [⟨(some 4), .op (.mov (.val (.bool false))), none⟩])
  (.seq (.seq (.region [⟨(some 5), .op (.mov (.tmp 0)), none⟩,
     ⟨(some 6), .op (.eql false .ptr (.tmp 5) (.val .nilp)), none⟩])
   (.cond (.tmp 6) (.seq (.region [⟨(some 4), .op (.mov (.val (.bool false))), none⟩])
    (.ret))
   (.skip)))
  (.seq (.seq (.region [⟨(some 7), .op (.mov (.tmp 1)), none⟩])
   (.cond (.tmp 7) (.seq (.region [⟨(some 8), .op (.mov (.tmp 0)), none⟩,
      ⟨(some 9), .op (.nilCheck (.tmp 8)), none⟩,
      ⟨(some 10), .op (.fieldAddr 2 (.tmp 9)), none⟩,
      ⟨(some 11), .op (.load none (.tmp 10)), none⟩,
      ⟨(some 12), .op (.mov (.tmp 11)), none⟩,
      ⟨(some 13), .op (.mov (.tmp 0)), (some (12, false))⟩,
      ⟨(some 14), .op (.nilCheck (.tmp 13)), (some (12, false))⟩,
      ⟨(some 15), .op (.fieldAddr 4 (.tmp 14)), (some (12, false))⟩,
      ⟨(some 16), .op (.load none (.tmp 15)), (some (12, false))⟩,
      ⟨(some 17), .op (.lenS (.tmp 16)), (some (12, false))⟩,
      ⟨(some 18), .op (.bin .gtr (.tmp 17) (.val (.int .i64 0))), (some (12, false))⟩,
      ⟨(some 19), .op (.pick (.tmp 12) (.val (.bool true)) (.tmp 18)), none⟩,
      ⟨(some 20), .op (.mov (.tmp 19)), none⟩,
      ⟨(some 21), .op (.mov (.tmp 0)), (some (20, false))⟩,
      ⟨(some 22), .op (.nilCheck (.tmp 21)), (some (20, false))⟩,
      ⟨(some 23), .op (.fieldAddr 0 (.tmp 22)), (some (20, false))⟩,
      ⟨(some 24), .op (.load none (.tmp 23)), (some (20, false))⟩,
      ⟨(some 25), .op (.lenS (.tmp 24)), (some (20, false))⟩,
      ⟨(some 26), .op (.mov (.tmp 0)), (some (20, false))⟩,
      ⟨(some 27), .op (.nilCheck (.tmp 26)), (some (20, false))⟩,
      ⟨(some 28), .op (.fieldAddr 1 (.tmp 27)), (some (20, false))⟩,
      ⟨(some 29), .op (.load none (.tmp 28)), (some (20, false))⟩,
      ⟨(some 30), .op (.bin .lss (.tmp 25) (.tmp 29)), (some (20, false))⟩,
      ⟨(some 31), .op (.pick (.tmp 20) (.val (.bool true)) (.tmp 30)), none⟩,
      ⟨(some 4), .op (.mov (.tmp 31)), none⟩])
    (.ret))
   (.skip)))
  (.seq (.region [⟨(some 32), .op (.mov (.tmp 0)), none⟩,
    ⟨(some 33), .op (.nilCheck (.tmp 32)), none⟩,
    ⟨(some 34), .op (.fieldAddr 2 (.tmp 33)), none⟩,
    ⟨(some 35), .op (.load none (.tmp 34)), none⟩,
    ⟨(some 36), .op (.mov (.tmp 35)), none⟩,
    ⟨(some 37), .op (.mov (.tmp 0)), (some (36, false))⟩,
    ⟨(some 38), .op (.nilCheck (.tmp 37)), (some (36, false))⟩,
    ⟨(some 39), .op (.fieldAddr 3 (.tmp 38)), (some (36, false))⟩,
    ⟨(some 40), .op (.load none (.tmp 39)), (some (36, false))⟩,
    ⟨(some 41), .op (.lenS (.tmp 40)), (some (36, false))⟩,
    ⟨(some 42), .op (.bin .gtr (.tmp 41) (.val (.int .i64 0))), (some (36, false))⟩,
    ⟨(some 43), .op (.pick (.tmp 36) (.val (.bool true)) (.tmp 42)), none⟩,
    ⟨(some 44), .op (.mov (.tmp 43)), none⟩,
    ⟨(some 45), .op (.mov (.tmp 0)), (some (44, false))⟩,
    ⟨(some 46), .op (.nilCheck (.tmp 45)), (some (44, false))⟩,
    ⟨(some 47), .op (.fieldAddr 0 (.tmp 46)), (some (44, false))⟩,
    ⟨(some 48), .op (.load none (.tmp 47)), (some (44, false))⟩,
    ⟨(some 49), .op (.lenS (.tmp 48)), (some (44, false))⟩,
    ⟨(some 50), .op (.bin .gtr (.tmp 49) (.val (.int .i64 0))), (some (44, false))⟩,
    ⟨(some 51), .op (.pick (.tmp 44) (.val (.bool true)) (.tmp 50)), none⟩,
    ⟨(some 4), .op (.mov (.tmp 51)), none⟩])
  (.ret)))),
  [.tmp 4], none, none⟩
def A95 : AFun := ⟨.seq (.region [⟨(some 7), .op (.box (.tmp 2)), none⟩])
  (.seq (.draw [⟨⟨(some 14), .op (.mov (.tmp 0)), none⟩, .pure⟩,
    ⟨⟨(some 15), .op (.mov (.tmp 1)), none⟩, .pure⟩,
    ⟨⟨(some 16), .op (.fieldAddr 5 (.tmp 7)), none⟩, .pure⟩,
    ⟨⟨(some 17), .op (.load none (.tmp 16)), none⟩, .read []⟩,
    ⟨⟨(some 18), .op (.mov (.tmp 3)), none⟩, .pure⟩,
    ⟨⟨(some 19), .op (.bin .add (.tmp 18) (.val (.int .i64 1))), none⟩, .pure⟩,
    ⟨⟨(some 20), .op (.idxS 1 (.tmp 17) (.tmp 19)), none⟩, .read []⟩,
    ⟨⟨(some 21), .op (.load none (.tmp 20)), none⟩, .read []⟩,
    ⟨⟨(some 22), .op (.idxS 1 (.tmp 15) (.tmp 21)), none⟩, .read []⟩,
    ⟨⟨(some 23), .op (.load none (.tmp 22)), none⟩, .read []⟩,
    ⟨⟨(some 24), .call (.fnv 80) [(.tmp 14), (.tmp 23)], none⟩, .act false⟩,
    ⟨⟨(some 25), .op (.fieldAddr 5 (.tmp 7)), none⟩, .pure⟩,
    ⟨⟨(some 26), .op (.load none (.tmp 25)), none⟩, .read [10, 27]⟩,
    ⟨⟨(some 27), .op (.mov (.tmp 3)), none⟩, .pure⟩,
    ⟨⟨(some 28), .op (.bin .add (.tmp 27) (.val (.int .i64 2))), none⟩, .pure⟩,
    ⟨⟨(some 29), .op (.idxS 1 (.tmp 26) (.tmp 28)), none⟩, .read [10, 27]⟩,
    ⟨⟨(some 30), .op (.load none (.tmp 29)), none⟩, .read [10, 27]⟩,
    ⟨⟨(some 31), .op (.mov (.tmp 0)), none⟩, .pure⟩,
    ⟨⟨(some 32), .op (.nilCheck (.tmp 31)), none⟩, .pure⟩,
    ⟨⟨(some 33), .op (.fieldAddr 9 (.tmp 32)), none⟩, .pure⟩,
    ⟨⟨(some 34), .op (.load none (.tmp 33)), none⟩, .read [10]⟩,
    ⟨⟨(some 35), .op (.mov (.tmp 3)), none⟩, .pure⟩,
    ⟨⟨(some 36), .op (.bin .quo (.tmp 35) (.val (.int .i64 3))), none⟩, .pure⟩,
    ⟨⟨(some 37), .call (.fnv 82) [(.tmp 34), (.tmp 36)], none⟩, .act true⟩,
    ⟨⟨(some 10), .op (.mov (.tmp 24)), none⟩, .pure⟩,
    ⟨⟨(some 11), .op (.mov (.tmp 30)), none⟩, .pure⟩,
    ⟨⟨(some 12), .op (.mov (.tmp 37)), none⟩, .pure⟩])
  (.seq (.region [⟨(some 38), .op (.fieldAddr 5 (.tmp 7)), none⟩,
    ⟨(some 39), .op (.load none (.tmp 38)), none⟩,
    ⟨(some 40), .op (.mov (.tmp 3)), none⟩,
    ⟨(some 41), .op (.idxS 1 (.tmp 39) (.tmp 40)), none⟩,
    ⟨(some 42), .op (.load none (.tmp 41)), none⟩,
    ⟨(some 43), .op (.bin .eql (.tmp 42) (.val (.int .i64 0))), none⟩,
    ⟨(some 13), .op (.mov (.tmp 43)), none⟩])
  (.seq (.seq (.region [⟨(some 44), .op (.mov (.tmp 4)), none⟩])
   (.cond (.tmp 44) (.seq (.region [⟨(some 45), .op (.mov (.tmp 10)), none⟩,
      ⟨(some 46), .op (.mov (.tmp 12)), none⟩,
      ⟨(some 47), .op (.mov (.tmp 1)), none⟩,
      ⟨(some 48), .op (.mov (.tmp 11)), none⟩,
      ⟨(some 49), .op (.idxS 1 (.tmp 47) (.tmp 48)), none⟩,
      ⟨(some 50), .op (.load none (.tmp 49)), none⟩,
      ⟨(some 51), .op (.mov (.tmp 13)), none⟩,
      ⟨(some 52), .call (.fnv 98) [(.tmp 45), (.tmp 46), (.tmp 50), (.tmp 51)], none⟩])
    (.ret))
   (.skip)))
  (.seq (.region [⟨(some 53), .op (.mov (.tmp 1)), none⟩,
    ⟨(some 54), .op (.fieldAddr 1 (.tmp 7)), none⟩,
    ⟨(some 55), .op (.load none (.tmp 54)), none⟩,
    ⟨(some 56), .op (.mov (.tmp 3)), none⟩,
    ⟨(some 57), .op (.bin .quo (.tmp 56) (.val (.int .i64 3))), none⟩,
    ⟨(some 58), .op (.conv .u64 (.tmp 57)), none⟩,
    ⟨(some 59), .op (.idxS 1 (.tmp 53) (.tmp 55)), none⟩,
    ⟨none, .op (.store 1 (.tmp 59) (.tmp 58)), none⟩])
  (.seq (.region [⟨(some 60), .op (.mov (.tmp 13)), none⟩])
  (.cond (.tmp 60) (.region [⟨(some 61), .op (.mov (.tmp 0)), none⟩,
    ⟨(some 62), .op (.mov (.tmp 10)), none⟩,
    ⟨(some 63), .op (.mov (.tmp 12)), none⟩,
    ⟨(some 64), .op (.mov (.tmp 1)), none⟩,
    ⟨(some 65), .op (.mov (.tmp 11)), none⟩,
    ⟨(some 66), .op (.idxS 1 (.tmp 64) (.tmp 65)), none⟩,
    ⟨(some 67), .op (.load none (.tmp 66)), none⟩,
    ⟨(some 68), .call (.fnv 81) [(.tmp 61), (.tmp 62), (.tmp 63), (.tmp 67), (.val (.bool false))], none⟩])
  (.region [⟨(some 69), .op (.mov (.tmp 0)), none⟩,
   ⟨(some 70), .op (.mov (.tmp 10)), none⟩,
   ⟨(some 71), .op (.mov (.tmp 12)), none⟩,
   ⟨(some 72), .op (.mov (.tmp 1)), none⟩,
   ⟨(some 73), .op (.mov (.tmp 11)), none⟩,
   ⟨(some 74), .call (.fnv 83) [(.tmp 69), (.tmp 70), (.tmp 71), (.tmp 72), (.tmp 73), (.val (.int .i64 (-1))), (.val (.bool false))], none⟩]))))))),
  [], none, none⟩
def A96 : AFun := ⟨.seq (.region [⟨(some 4), .op (.alloc [(.int .i64 0), (.int .i64 0), (.int .i64 0), (.int .i64 0), (.int .u64 0), .nils]), none⟩])
  (.seq (.draw [⟨⟨(some 5), .op (.mov (.tmp 0)), none⟩, .pure⟩,
    ⟨⟨(some 6), .op (.nilCheck (.tmp 5)), none⟩, .pure⟩,
    ⟨⟨(some 7), .op (.fieldAddr 0 (.tmp 6)), none⟩, .pure⟩,
    ⟨⟨(some 8), .op (.fieldAddr 2 (.tmp 7)), none⟩, .pure⟩,
    ⟨⟨(some 9), .op (.load none (.tmp 8)), none⟩, .read []⟩,
    ⟨⟨(some 10), .op (.mov (.tmp 1)), none⟩, .pure⟩,
    ⟨⟨(some 11), .op (.nilCheck (.tmp 10)), none⟩, .pure⟩,
    ⟨⟨(some 12), .op (.fieldAddr 0 (.tmp 11)), none⟩, .pure⟩,
    ⟨⟨(some 13), .op (.load none (.tmp 12)), none⟩, .read []⟩,
    ⟨⟨(some 14), .op (.idxS 4 (.tmp 9) (.tmp 13)), none⟩, .read []⟩,
    ⟨⟨(some 15), .op (.fieldAddr 3 (.tmp 14)), none⟩, .pure⟩,
    ⟨⟨(some 16), .op (.load none (.tmp 15)), none⟩, .read []⟩,
    ⟨⟨(some 17), .op (.mov (.tmp 1)), none⟩, .pure⟩,
    ⟨⟨(some 18), .op (.nilCheck (.tmp 17)), none⟩, .pure⟩,
    ⟨⟨(some 19), .op (.fieldAddr 1 (.tmp 18)), none⟩, .pure⟩,
    ⟨⟨(some 20), .op (.load none (.tmp 19)), none⟩, .read []⟩,
    ⟨⟨(some 21), .op (.bin .sub (.tmp 20) (.val (.int .i64 1))), none⟩, .pure⟩,
    ⟨⟨(some 22), .op (.idxS 6 (.tmp 16) (.tmp 21)), none⟩, .read []⟩,
    ⟨⟨(some 23), .op (.load (some 6) (.tmp 22)), none⟩, .read []⟩,
    ⟨⟨none, .op (.store 6 (.tmp 4) (.tmp 23)), none⟩, .act true⟩])
  (.ret)),
  [.cell 4 (some 6)], none, none⟩
def A97 : AFun := ⟨.seq (.region [⟨(some 4), .op (.mov (.tmp 0)), none⟩,
    ⟨(some 5), .op (.eql true .ptr (.tmp 4) (.val .nilp)), none⟩])
  (.cond (.tmp 5) (.draw [⟨⟨(some 6), .op (.mov (.tmp 0)), none⟩, .pure⟩,
    ⟨⟨(some 7), .op (.mov (.tmp 0)), none⟩, .pure⟩,
    ⟨⟨(some 8), .op (.mov (.tmp 0)), none⟩, .pure⟩,
    ⟨⟨(some 9), .op (.nilCheck (.tmp 8)), none⟩, .pure⟩,
    ⟨⟨(some 10), .op (.fieldAddr 3 (.tmp 9)), none⟩, .pure⟩,
    ⟨⟨(some 11), .op (.load none (.tmp 10)), none⟩, .read []⟩,
    ⟨⟨(some 12), .op (.mov (.tmp 1)), none⟩, .pure⟩,
    ⟨⟨(some 13), .call (.fnv 99) [(.tmp 11), (.tmp 12)], none⟩, .act false⟩,
    ⟨⟨(some 14), .op (.mov (.tmp 0)), none⟩, .pure⟩,
    ⟨⟨(some 15), .op (.nilCheck (.tmp 14)), none⟩, .pure⟩,
    ⟨⟨(some 16), .op (.fieldAddr 4 (.tmp 15)), none⟩, .pure⟩,
    ⟨⟨(some 17), .op (.load none (.tmp 16)), none⟩, .read [7]⟩,
    ⟨⟨(some 18), .op (.mov (.tmp 1)), none⟩, .pure⟩,
    ⟨⟨(some 19), .call (.fnv 99) [(.tmp 17), (.tmp 18)], none⟩, .act true⟩,
    ⟨⟨(some 20), .op (.nilCheck (.tmp 6)), none⟩, .pure⟩,
    ⟨⟨(some 21), .op (.fieldAddr 3 (.tmp 20)), none⟩, .pure⟩,
    ⟨⟨none, .op (.store 1 (.tmp 21) (.tmp 13)), none⟩, .act true⟩,
    ⟨⟨(some 22), .op (.nilCheck (.tmp 7)), none⟩, .pure⟩,
    ⟨⟨(some 23), .op (.fieldAddr 4 (.tmp 22)), none⟩, .pure⟩,
    ⟨⟨none, .op (.store 1 (.tmp 23) (.tmp 19)), none⟩, .act true⟩])
  (.skip)),
  [], none, none⟩
def A98 : AFun := ⟨.block 0 (.seq (.region [⟨(some 20), .op (.mov (.tmp 0)), none⟩,
     ⟨(some 21), .op (.eql false .ptr (.tmp 20) (.val .nilp)), none⟩,
     ⟨(some 19), .op (.mov (.tmp 21)), none⟩])
   (.cond (.tmp 19) (.skip)
   (.seq (.region [⟨(some 23), .op (.mov (.tmp 3)), none⟩,
     ⟨(some 22), .op (.mov (.tmp 23)), none⟩])
   (.cond (.tmp 22) (.region [⟨(some 24), .op (.mov (.tmp 0)), none⟩,
     ⟨(some 25), .op (.mov (.tmp 0)), none⟩,
     ⟨(some 26), .op (.nilCheck (.tmp 25)), none⟩,
     ⟨(some 27), .op (.fieldAddr 3 (.tmp 26)), none⟩,
     ⟨(some 28), .op (.load none (.tmp 27)), none⟩,
     ⟨(some 29), .op (.mov (.tmp 1)), none⟩,
     ⟨(some 30), .op (.mov (.tmp 2)), none⟩,
     ⟨(some 31), .op (.build [(.int .i64 0), (.int .u64 0)] [(0, 1, (.tmp 29)), (1, 1, (.tmp 30))]), none⟩,
     ⟨(some 32), .op (.buildSlice 2 1 [(.int .i64 0), (.int .u64 0)] [(0, (.tmp 31))]), none⟩,
     ⟨(some 33), .op (.append 2 16 (.tmp 28) (.tmp 32)), none⟩,
     ⟨(some 34), .op (.nilCheck (.tmp 24)), none⟩,
     ⟨(some 35), .op (.fieldAddr 3 (.tmp 34)), none⟩,
     ⟨none, .op (.store 1 (.tmp 35) (.tmp 33)), none⟩])
   (.region [⟨(some 8), .op (.mov (.tmp 0)), none⟩,
    ⟨(some 9), .op (.mov (.tmp 0)), none⟩,
    ⟨(some 10), .op (.nilCheck (.tmp 9)), none⟩,
    ⟨(some 11), .op (.fieldAddr 4 (.tmp 10)), none⟩,
    ⟨(some 12), .op (.load none (.tmp 11)), none⟩,
    ⟨(some 13), .op (.mov (.tmp 1)), none⟩,
    ⟨(some 14), .op (.build [(.int .i64 0), (.int .u64 0)] [(0, 1, (.tmp 13))]), none⟩,
    ⟨(some 15), .op (.buildSlice 2 1 [(.int .i64 0), (.int .u64 0)] [(0, (.tmp 14))]), none⟩,
    ⟨(some 16), .op (.append 2 16 (.tmp 12) (.tmp 15)), none⟩,
    ⟨(some 17), .op (.nilCheck (.tmp 8)), none⟩,
    ⟨(some 18), .op (.fieldAddr 4 (.tmp 17)), none⟩,
    ⟨none, .op (.store 1 (.tmp 18) (.tmp 16)), none⟩]))))),
  [], none, none⟩
def A99 : AFun := ⟨.seq (.region [⟨(some 4), .op (.mov (.val .nils)), none⟩])
  (.seq (.region [⟨(some 5), .op (.mov (.val .nils)), none⟩])
  (.seq (.seq (.region [⟨(some 8), .op (.mov (.tmp 0)), none⟩,
     ⟨(some 9), .op (.lenS (.tmp 8)), none⟩,
     ⟨(some 10), .op (.mov (.val (.int .i64 0))), none⟩])
   (.block 0 (.loop (.seq (.region [⟨(some 11), .op (.bin .lss (.tmp 10) (.tmp 9)), none⟩])
     (.seq (.cond (.tmp 11) (.skip)
      (.exit 0))
     (.seq (.block 1 (.seq (.region [⟨(some 12), .op (.idxS 2 (.tmp 8) (.tmp 10)), none⟩,
         ⟨(some 13), .op (.load (some 2) (.tmp 12)), none⟩,
         ⟨(some 7), .op (.alloc [(.int .i64 0), (.int .u64 0)]), none⟩,
         ⟨none, .op (.store 2 (.tmp 7) (.tmp 13)), none⟩])
       (.seq (.region [⟨(some 14), .op (.fieldAddr 0 (.tmp 7)), none⟩,
         ⟨(some 15), .op (.load none (.tmp 14)), none⟩,
         ⟨(some 16), .op (.mov (.tmp 1)), none⟩,
         ⟨(some 17), .op (.bin .neq (.tmp 15) (.tmp 16)), none⟩])
       (.cond (.tmp 17) (.region [⟨(some 18), .op (.mov (.tmp 5)), none⟩,
         ⟨(some 19), .op (.load (some 2) (.tmp 7)), none⟩,
         ⟨(some 20), .op (.buildSlice 2 1 [(.int .i64 0), (.int .u64 0)] [(0, (.tmp 19))]), none⟩,
         ⟨(some 21), .op (.append 2 16 (.tmp 18) (.tmp 20)), none⟩,
         ⟨(some 5), .op (.mov (.tmp 21)), none⟩])
       (.skip)))))
     (.region [⟨(some 22), .op (.bin .add (.tmp 10) (.val (.int .i64 1))), none⟩,
      ⟨(some 10), .op (.mov (.tmp 22)), none⟩])))))))
  (.seq (.region [⟨(some 23), .op (.mov (.tmp 5)), none⟩,
    ⟨(some 4), .op (.mov (.tmp 23)), none⟩])
  (.ret)))),
  [.tmp 4], none, none⟩
end Go.Proofs.Ytofcnjglnnoimab.AmGN
