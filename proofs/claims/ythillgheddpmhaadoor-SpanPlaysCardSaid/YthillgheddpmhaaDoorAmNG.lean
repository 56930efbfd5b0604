/-
  The machine's form of the functions, printed by program off the translation.
-/
import Derived.Test.YthillgheddpmhaaDoorAmP
namespace Go.Proofs.YthillgheddpmhaaDoor.AmGN
open Go Go.AM
set_option maxRecDepth 100000
def A5 : AFun := ⟨.seq (.region [⟨(some 4), .op (.mov (.val (.bool false))), none⟩])
  (.seq (.region [⟨(some 23), .op (.mov (.tmp 0)), none⟩,
    ⟨(some 24), .call (.fnv 15) [(.tmp 23)], none⟩,
    ⟨(some 22), .op (.mov (.tmp 24)), none⟩,
    ⟨(some 25), .op (.extract (.tmp 22) 0), none⟩,
    ⟨(some 26), .op (.extract (.tmp 22) 1), none⟩,
    ⟨(some 5), .op (.mov (.tmp 25)), none⟩,
    ⟨(some 6), .op (.mov (.tmp 26)), none⟩])
  (.seq (.region [⟨(some 28), .op (.mov (.tmp 0)), none⟩,
    ⟨(some 29), .call (.fnv 22) [(.tmp 28)], none⟩,
    ⟨(some 27), .op (.mov (.tmp 29)), none⟩,
    ⟨(some 30), .op (.extract (.tmp 27) 0), none⟩,
    ⟨(some 31), .op (.extract (.tmp 27) 1), none⟩,
    ⟨(some 7), .op (.mov (.tmp 30)), none⟩,
    ⟨(some 8), .op (.mov (.tmp 31)), none⟩])
  (.seq (.seq (.region [⟨(some 32), .call (.fnv 16) [], none⟩,
     ⟨(some 33), .op (.un .not (.tmp 32)), none⟩,
     ⟨(some 34), .op (.mov (.tmp 33)), none⟩,
     ⟨(some 35), .op (.mov (.tmp 6)), (some (34, false))⟩,
     ⟨(some 36), .op (.mov (.tmp 8)), (some (34, false))⟩,
     ⟨(some 37), .op (.bin .neq (.tmp 35) (.tmp 36)), (some (34, false))⟩,
     ⟨(some 38), .op (.pick (.tmp 34) (.val (.bool true)) (.tmp 37)), none⟩,
     ⟨(some 39), .op (.mov (.tmp 38)), none⟩,
     ⟨(some 40), .op (.mov (.tmp 5)), (some (39, false))⟩,
     ⟨(some 41), .op (.eql false .ptr (.tmp 40) (.val .nilp)), (some (39, false))⟩,
     ⟨(some 42), .op (.mov (.tmp 7)), (some (39, false))⟩,
     ⟨(some 43), .op (.eql false .ptr (.tmp 42) (.val .nilp)), (some (39, false))⟩,
     ⟨(some 44), .op (.eql true .bool (.tmp 41) (.tmp 43)), (some (39, false))⟩,
     ⟨(some 45), .op (.pick (.tmp 39) (.val (.bool true)) (.tmp 44)), none⟩])
   (.cond (.tmp 45) (.seq (.region [⟨(some 4), .op (.mov (.val (.bool false))), none⟩])
    (.ret))
   (.skip)))
  (.seq (.seq (.region [⟨(some 46), .op (.mov (.tmp 5)), none⟩,
     ⟨(some 47), .op (.eql false .ptr (.tmp 46) (.val .nilp)), none⟩])
   (.cond (.tmp 47) (.seq (.region [⟨(some 4), .op (.mov (.val (.bool true))), none⟩])
    (.ret))
   (.skip)))
  (.seq (.seq (.region [⟨(some 48), .op (.mov (.tmp 1)), none⟩,
     ⟨(some 49), .op (.lenS (.tmp 48)), none⟩,
     ⟨(some 50), .op (.mov (.val (.int .i64 0))), none⟩])
   (.block 0 (.loop (.seq (.region [⟨(some 51), .op (.bin .lss (.tmp 50) (.tmp 49)), none⟩])
     (.seq (.cond (.tmp 51) (.skip)
      (.exit 0))
     (.seq (.block 1 (.seq (.region [⟨(some 52), .op (.idxS 3 (.tmp 48) (.tmp 50)), none⟩,
         ⟨(some 53), .op (.load (some 3) (.tmp 52)), none⟩,
         ⟨(some 10), .op (.alloc [(.int .i64 0), (.int .i64 0), (.int .i64 0)]), none⟩,
         ⟨none, .op (.store 3 (.tmp 10) (.tmp 53)), none⟩])
       (.seq (.region [⟨(some 11), .op (.mov (.val (.bool true))), none⟩])
       (.seq (.seq (.region [⟨(some 54), .op (.fieldAddr 0 (.tmp 10)), none⟩,
          ⟨(some 55), .op (.load none (.tmp 54)), none⟩])
        (.block 2 (.seq (.region [⟨(some 57), .op (.bin .eql (.tmp 55) (.val (.int .i64 0))), none⟩,
           ⟨(some 56), .op (.mov (.tmp 57)), none⟩])
         (.cond (.tmp 56) (.seq (.region [⟨(some 59), .op (.mov (.tmp 5)), none⟩,
            ⟨(some 60), .op (.fieldAddr 2 (.tmp 10)), none⟩,
            ⟨(some 61), .op (.load none (.tmp 60)), none⟩,
            ⟨(some 62), .call (.fnv 20) [(.tmp 59), (.tmp 61)], none⟩,
            ⟨(some 58), .op (.mov (.tmp 62)), none⟩,
            ⟨(some 63), .op (.extract (.tmp 58) 0), none⟩,
            ⟨(some 64), .op (.extract (.tmp 58) 1), none⟩,
            ⟨(some 12), .op (.mov (.tmp 63)), none⟩,
            ⟨(some 13), .op (.mov (.tmp 64)), none⟩])
          (.seq (.region [⟨(some 66), .op (.mov (.tmp 7)), none⟩,
            ⟨(some 67), .op (.fieldAddr 2 (.tmp 10)), none⟩,
            ⟨(some 68), .op (.load none (.tmp 67)), none⟩,
            ⟨(some 69), .call (.fnv 23) [(.tmp 66), (.tmp 68)], none⟩,
            ⟨(some 65), .op (.mov (.tmp 69)), none⟩,
            ⟨(some 70), .op (.extract (.tmp 65) 0), none⟩,
            ⟨(some 71), .op (.extract (.tmp 65) 1), none⟩,
            ⟨(some 14), .op (.mov (.tmp 70)), none⟩,
            ⟨(some 15), .op (.mov (.tmp 71)), none⟩])
          (.region [⟨(some 72), .op (.mov (.tmp 12)), none⟩,
           ⟨(some 73), .op (.mov (.tmp 14)), none⟩,
           ⟨(some 74), .op (.bin .eql (.tmp 72) (.tmp 73)), none⟩,
           ⟨(some 75), .op (.mov (.tmp 74)), none⟩,
           ⟨(some 76), .op (.mov (.tmp 13)), (some (75, true))⟩,
           ⟨(some 77), .op (.mov (.tmp 15)), (some (75, true))⟩,
           ⟨(some 78), .op (.bin .eql (.tmp 76) (.tmp 77)), (some (75, true))⟩,
           ⟨(some 79), .op (.pick (.tmp 75) (.tmp 78) (.val (.bool false))), none⟩,
           ⟨(some 11), .op (.mov (.tmp 79)), none⟩])))
         (.seq (.region [⟨(some 81), .op (.bin .eql (.tmp 55) (.val (.int .i64 1))), none⟩,
           ⟨(some 80), .op (.mov (.tmp 81)), none⟩])
         (.cond (.tmp 80) (.draw [⟨⟨(some 82), .op (.mov (.tmp 5)), none⟩, .pure⟩,
           ⟨⟨(some 83), .op (.fieldAddr 1 (.tmp 10)), none⟩, .pure⟩,
           ⟨⟨(some 84), .op (.load none (.tmp 83)), none⟩, .read []⟩,
           ⟨⟨(some 85), .op (.fieldAddr 2 (.tmp 10)), none⟩, .pure⟩,
           ⟨⟨(some 86), .op (.load none (.tmp 85)), none⟩, .read []⟩,
           ⟨⟨(some 87), .call (.fnv 17) [(.tmp 82), (.tmp 84), (.tmp 86)], none⟩, .act false⟩,
           ⟨⟨(some 88), .op (.mov (.tmp 7)), none⟩, .pure⟩,
           ⟨⟨(some 89), .op (.fieldAddr 1 (.tmp 10)), none⟩, .pure⟩,
           ⟨⟨(some 90), .op (.load none (.tmp 89)), none⟩, .read [5]⟩,
           ⟨⟨(some 91), .op (.fieldAddr 2 (.tmp 10)), none⟩, .pure⟩,
           ⟨⟨(some 92), .op (.load none (.tmp 91)), none⟩, .read [5]⟩,
           ⟨⟨(some 93), .call (.fnv 24) [(.tmp 88), (.tmp 90), (.tmp 92), (.val (.bool true))], none⟩, .act true⟩,
           ⟨⟨(some 94), .op (.bin .eql (.tmp 87) (.tmp 93)), none⟩, .pure⟩,
           ⟨⟨(some 11), .op (.mov (.tmp 94)), none⟩, .pure⟩])
         (.seq (.region [⟨(some 96), .op (.bin .eql (.tmp 55) (.val (.int .i64 2))), none⟩,
           ⟨(some 95), .op (.mov (.tmp 96)), none⟩])
         (.cond (.tmp 95) (.draw [⟨⟨(some 97), .op (.mov (.tmp 5)), none⟩, .pure⟩,
           ⟨⟨(some 98), .op (.fieldAddr 1 (.tmp 10)), none⟩, .pure⟩,
           ⟨⟨(some 99), .op (.load none (.tmp 98)), none⟩, .read []⟩,
           ⟨⟨(some 100), .op (.fieldAddr 2 (.tmp 10)), none⟩, .pure⟩,
           ⟨⟨(some 101), .op (.load none (.tmp 100)), none⟩, .read []⟩,
           ⟨⟨(some 102), .call (.fnv 18) [(.tmp 97), (.tmp 99), (.tmp 101)], none⟩, .act false⟩,
           ⟨⟨(some 103), .op (.mov (.tmp 7)), none⟩, .pure⟩,
           ⟨⟨(some 104), .op (.fieldAddr 1 (.tmp 10)), none⟩, .pure⟩,
           ⟨⟨(some 105), .op (.load none (.tmp 104)), none⟩, .read [5]⟩,
           ⟨⟨(some 106), .op (.fieldAddr 2 (.tmp 10)), none⟩, .pure⟩,
           ⟨⟨(some 107), .op (.load none (.tmp 106)), none⟩, .read [5]⟩,
           ⟨⟨(some 108), .call (.fnv 24) [(.tmp 103), (.tmp 105), (.tmp 107), (.val (.bool false))], none⟩, .act true⟩,
           ⟨⟨(some 109), .op (.bin .eql (.tmp 102) (.tmp 108)), none⟩, .pure⟩,
           ⟨⟨(some 11), .op (.mov (.tmp 109)), none⟩, .pure⟩])
         (.skip)))))))))
       (.seq (.region [⟨(some 111), .op (.mov (.tmp 5)), none⟩,
         ⟨(some 112), .call (.fnv 21) [(.tmp 111)], none⟩,
         ⟨(some 110), .op (.mov (.tmp 112)), none⟩,
         ⟨(some 113), .op (.extract (.tmp 110) 0), none⟩,
         ⟨(some 114), .op (.extract (.tmp 110) 1), none⟩,
         ⟨(some 16), .op (.mov (.tmp 113)), none⟩,
         ⟨(some 17), .op (.mov (.tmp 114)), none⟩])
       (.seq (.region [⟨(some 116), .op (.mov (.tmp 7)), none⟩,
         ⟨(some 117), .call (.fnv 25) [(.tmp 116)], none⟩,
         ⟨(some 115), .op (.mov (.tmp 117)), none⟩,
         ⟨(some 118), .op (.extract (.tmp 115) 0), none⟩,
         ⟨(some 119), .op (.extract (.tmp 115) 1), none⟩,
         ⟨(some 18), .op (.mov (.tmp 118)), none⟩,
         ⟨(some 19), .op (.mov (.tmp 119)), none⟩])
       (.seq (.draw [⟨⟨(some 120), .op (.mov (.tmp 11)), none⟩, .pure⟩,
         ⟨⟨(some 121), .op (.un .not (.tmp 120)), none⟩, .pure⟩,
         ⟨⟨(some 122), .op (.mov (.tmp 121)), none⟩, .pure⟩,
         ⟨⟨(some 123), .op (.mov (.tmp 16)), (some (122, false))⟩, .pure⟩,
         ⟨⟨(some 124), .op (.mov (.tmp 18)), (some (122, false))⟩, .pure⟩,
         ⟨⟨(some 125), .op (.bin .neq (.tmp 123) (.tmp 124)), (some (122, false))⟩, .pure⟩,
         ⟨⟨(some 126), .op (.pick (.tmp 122) (.val (.bool true)) (.tmp 125)), none⟩, .pure⟩,
         ⟨⟨(some 127), .op (.mov (.tmp 126)), none⟩, .pure⟩,
         ⟨⟨(some 128), .op (.mov (.tmp 17)), (some (127, false))⟩, .pure⟩,
         ⟨⟨(some 129), .op (.mov (.tmp 19)), (some (127, false))⟩, .pure⟩,
         ⟨⟨(some 130), .op (.bin .neq (.tmp 128) (.tmp 129)), (some (127, false))⟩, .pure⟩,
         ⟨⟨(some 131), .op (.pick (.tmp 127) (.val (.bool true)) (.tmp 130)), none⟩, .pure⟩,
         ⟨⟨(some 132), .op (.mov (.tmp 131)), none⟩, .pure⟩,
         ⟨⟨(some 133), .op (.mov (.tmp 5)), (some (132, false))⟩, .pure⟩,
         ⟨⟨(some 134), .op (.fieldAddr 1 (.tmp 10)), (some (132, false))⟩, .pure⟩,
         ⟨⟨(some 135), .op (.load none (.tmp 134)), (some (132, false))⟩, .read []⟩,
         ⟨⟨(some 136), .call (.fnv 19) [(.tmp 133), (.tmp 135)], (some (132, false))⟩, .act false⟩,
         ⟨⟨(some 137), .op (.mov (.tmp 7)), (some (132, false))⟩, .pure⟩,
         ⟨⟨(some 138), .op (.fieldAddr 1 (.tmp 10)), (some (132, false))⟩, .pure⟩,
         ⟨⟨(some 139), .op (.load none (.tmp 138)), (some (132, false))⟩, .read [16]⟩,
         ⟨⟨(some 140), .call (.fnv 26) [(.tmp 137), (.tmp 139)], (some (132, false))⟩, .act true⟩,
         ⟨⟨(some 141), .op (.eql true .bool (.tmp 136) (.tmp 140)), (some (132, false))⟩, .pure⟩,
         ⟨⟨(some 142), .op (.pick (.tmp 132) (.val (.bool true)) (.tmp 141)), none⟩, .pure⟩])
       (.cond (.tmp 142) (.seq (.region [⟨(some 4), .op (.mov (.val (.bool false))), none⟩])
        (.ret))
       (.skip)))))))))
     (.region [⟨(some 143), .op (.bin .add (.tmp 50) (.val (.int .i64 1))), none⟩,
      ⟨(some 50), .op (.mov (.tmp 143)), none⟩])))))))
  (.seq (.region [⟨(some 145), .op (.mov (.tmp 5)), none⟩,
    ⟨(some 146), .call (.fnv 27) [(.tmp 145), (.val (.int .i64 (-1)))], none⟩,
    ⟨(some 144), .op (.mov (.tmp 146)), none⟩,
    ⟨(some 147), .op (.extract (.tmp 144) 0), none⟩,
    ⟨(some 148), .op (.extract (.tmp 144) 1), none⟩,
    ⟨(some 20), .op (.mov (.tmp 147)), none⟩,
    ⟨(some 21), .op (.mov (.tmp 148)), none⟩])
  (.seq (.region [⟨(some 149), .op (.mov (.tmp 21)), none⟩,
    ⟨(some 150), .op (.mov (.tmp 149)), none⟩,
    ⟨(some 151), .op (.mov (.tmp 20)), (some (150, true))⟩,
    ⟨(some 152), .op (.mov (.tmp 7)), (some (150, true))⟩,
    ⟨(some 153), .call (.fnv 29) [(.tmp 152)], (some (150, true))⟩,
    ⟨(some 154), .call (.fnv 28) [(.tmp 151), (.tmp 153)], (some (150, true))⟩,
    ⟨(some 155), .op (.pick (.tmp 150) (.tmp 154) (.val (.bool false))), none⟩,
    ⟨(some 4), .op (.mov (.tmp 155)), none⟩])
  (.ret)))))))),
  [.tmp 4], none, none⟩
def A8 : AFun := ⟨.seq (.region [⟨(some 4), .op (.mov (.val (.bool false))), none⟩])
  (.seq (.region [⟨(some 27), .op (.mov (.tmp 0)), none⟩,
    ⟨(some 28), .call (.fnv 30) [(.tmp 27)], none⟩,
    ⟨(some 26), .op (.mov (.tmp 28)), none⟩,
    ⟨(some 29), .op (.extract (.tmp 26) 0), none⟩,
    ⟨(some 30), .op (.extract (.tmp 26) 1), none⟩,
    ⟨(some 5), .op (.mov (.tmp 29)), none⟩,
    ⟨(some 6), .op (.mov (.tmp 30)), none⟩])
  (.seq (.region [⟨(some 32), .op (.mov (.tmp 0)), none⟩,
    ⟨(some 33), .call (.fnv 37) [(.tmp 32)], none⟩,
    ⟨(some 31), .op (.mov (.tmp 33)), none⟩,
    ⟨(some 34), .op (.extract (.tmp 31) 0), none⟩,
    ⟨(some 35), .op (.extract (.tmp 31) 1), none⟩,
    ⟨(some 7), .op (.mov (.tmp 34)), none⟩,
    ⟨(some 8), .op (.mov (.tmp 35)), none⟩])
  (.seq (.seq (.region [⟨(some 36), .call (.fnv 35) [], none⟩,
     ⟨(some 37), .op (.un .not (.tmp 36)), none⟩,
     ⟨(some 38), .op (.mov (.tmp 37)), none⟩,
     ⟨(some 39), .op (.mov (.tmp 6)), (some (38, false))⟩,
     ⟨(some 40), .op (.mov (.tmp 8)), (some (38, false))⟩,
     ⟨(some 41), .op (.bin .neq (.tmp 39) (.tmp 40)), (some (38, false))⟩,
     ⟨(some 42), .op (.pick (.tmp 38) (.val (.bool true)) (.tmp 41)), none⟩,
     ⟨(some 43), .op (.mov (.tmp 42)), none⟩,
     ⟨(some 44), .op (.mov (.tmp 5)), (some (43, false))⟩,
     ⟨(some 45), .op (.eql false .ptr (.tmp 44) (.val .nilp)), (some (43, false))⟩,
     ⟨(some 46), .op (.mov (.tmp 7)), (some (43, false))⟩,
     ⟨(some 47), .op (.eql false .ptr (.tmp 46) (.val .nilp)), (some (43, false))⟩,
     ⟨(some 48), .op (.eql true .bool (.tmp 45) (.tmp 47)), (some (43, false))⟩,
     ⟨(some 49), .op (.pick (.tmp 43) (.val (.bool true)) (.tmp 48)), none⟩])
   (.cond (.tmp 49) (.seq (.region [⟨(some 4), .op (.mov (.val (.bool false))), none⟩])
    (.ret))
   (.skip)))
  (.seq (.seq (.region [⟨(some 50), .op (.mov (.tmp 5)), none⟩,
     ⟨(some 51), .op (.eql false .ptr (.tmp 50) (.val .nilp)), none⟩])
   (.cond (.tmp 51) (.seq (.region [⟨(some 4), .op (.mov (.val (.bool true))), none⟩])
    (.ret))
   (.skip)))
  (.seq (.seq (.region [⟨(some 52), .op (.mov (.tmp 1)), none⟩,
     ⟨(some 53), .op (.lenS (.tmp 52)), none⟩,
     ⟨(some 54), .op (.mov (.val (.int .i64 0))), none⟩])
   (.block 0 (.loop (.seq (.region [⟨(some 55), .op (.bin .lss (.tmp 54) (.tmp 53)), none⟩])
     (.seq (.cond (.tmp 55) (.skip)
      (.exit 0))
     (.seq (.block 1 (.seq (.region [⟨(some 56), .op (.idxS 3 (.tmp 52) (.tmp 54)), none⟩,
         ⟨(some 57), .op (.load (some 3) (.tmp 56)), none⟩,
         ⟨(some 10), .op (.alloc [(.int .i64 0), (.int .i64 0), (.int .i64 0)]), none⟩,
         ⟨none, .op (.store 3 (.tmp 10) (.tmp 57)), none⟩])
       (.seq (.region [⟨(some 11), .op (.mov (.val (.bool true))), none⟩])
       (.seq (.seq (.region [⟨(some 58), .op (.fieldAddr 0 (.tmp 10)), none⟩,
          ⟨(some 59), .op (.load none (.tmp 58)), none⟩])
        (.block 2 (.seq (.region [⟨(some 61), .op (.bin .eql (.tmp 59) (.val (.int .i64 0))), none⟩,
           ⟨(some 60), .op (.mov (.tmp 61)), none⟩])
         (.cond (.tmp 60) (.seq (.region [⟨(some 63), .op (.mov (.tmp 5)), none⟩,
            ⟨(some 64), .op (.fieldAddr 1 (.tmp 10)), none⟩,
            ⟨(some 65), .op (.load none (.tmp 64)), none⟩,
            ⟨(some 66), .op (.fieldAddr 2 (.tmp 10)), none⟩,
            ⟨(some 67), .op (.load none (.tmp 66)), none⟩,
            ⟨(some 68), .call (.fnv 31) [(.tmp 63), (.tmp 65), (.tmp 67)], none⟩,
            ⟨(some 62), .op (.mov (.tmp 68)), none⟩,
            ⟨(some 69), .op (.extract (.tmp 62) 0), none⟩,
            ⟨(some 70), .op (.extract (.tmp 62) 1), none⟩,
            ⟨(some 12), .op (.alloc [(.int .i64 0), (.int .i64 0), (.int .i64 0)]), none⟩,
            ⟨none, .op (.store 3 (.tmp 12) (.tmp 69)), none⟩,
            ⟨(some 13), .op (.mov (.tmp 70)), none⟩])
          (.seq (.region [⟨(some 72), .op (.mov (.tmp 7)), none⟩,
            ⟨(some 73), .op (.fieldAddr 1 (.tmp 10)), none⟩,
            ⟨(some 74), .op (.load none (.tmp 73)), none⟩,
            ⟨(some 75), .op (.fieldAddr 2 (.tmp 10)), none⟩,
            ⟨(some 76), .op (.load none (.tmp 75)), none⟩,
            ⟨(some 77), .call (.fnv 38) [(.tmp 72), (.tmp 74), (.tmp 76)], none⟩,
            ⟨(some 71), .op (.mov (.tmp 77)), none⟩,
            ⟨(some 78), .op (.extract (.tmp 71) 0), none⟩,
            ⟨(some 79), .op (.extract (.tmp 71) 1), none⟩,
            ⟨(some 14), .op (.alloc [(.int .i64 0), (.int .i64 0), (.int .i64 0)]), none⟩,
            ⟨none, .op (.store 3 (.tmp 14) (.tmp 78)), none⟩,
            ⟨(some 15), .op (.mov (.tmp 79)), none⟩])
          (.region [⟨(some 80), .op (.load (some 3) (.tmp 12)), none⟩,
           ⟨(some 81), .op (.load (some 3) (.tmp 14)), none⟩,
           ⟨(some 82), .op (.eql false (.flat [.int, .int, .int]) (.tmp 80) (.tmp 81)), none⟩,
           ⟨(some 83), .op (.mov (.tmp 82)), none⟩,
           ⟨(some 84), .op (.mov (.tmp 13)), (some (83, true))⟩,
           ⟨(some 85), .op (.mov (.tmp 15)), (some (83, true))⟩,
           ⟨(some 86), .op (.bin .eql (.tmp 84) (.tmp 85)), (some (83, true))⟩,
           ⟨(some 87), .op (.pick (.tmp 83) (.tmp 86) (.val (.bool false))), none⟩,
           ⟨(some 11), .op (.mov (.tmp 87)), none⟩])))
         (.seq (.region [⟨(some 89), .op (.bin .eql (.tmp 59) (.val (.int .i64 1))), none⟩,
           ⟨(some 88), .op (.mov (.tmp 89)), none⟩])
         (.cond (.tmp 88) (.draw [⟨⟨(some 90), .op (.mov (.tmp 5)), none⟩, .pure⟩,
           ⟨⟨(some 91), .op (.fieldAddr 1 (.tmp 10)), none⟩, .pure⟩,
           ⟨⟨(some 92), .op (.load none (.tmp 91)), none⟩, .read []⟩,
           ⟨⟨(some 93), .call (.fnv 33) [(.tmp 90), (.tmp 92)], none⟩, .act false⟩,
           ⟨⟨(some 94), .op (.mov (.tmp 7)), none⟩, .pure⟩,
           ⟨⟨(some 95), .op (.fieldAddr 1 (.tmp 10)), none⟩, .pure⟩,
           ⟨⟨(some 96), .op (.load none (.tmp 95)), none⟩, .read [3]⟩,
           ⟨⟨(some 97), .call (.fnv 39) [(.tmp 94), (.tmp 96)], none⟩, .act true⟩,
           ⟨⟨(some 98), .op (.bin .eql (.tmp 93) (.tmp 97)), none⟩, .pure⟩,
           ⟨⟨(some 11), .op (.mov (.tmp 98)), none⟩, .pure⟩])
         (.skip)))))))
       (.seq (.region [⟨(some 100), .op (.mov (.tmp 5)), none⟩,
         ⟨(some 101), .op (.fieldAddr 1 (.tmp 10)), none⟩,
         ⟨(some 102), .op (.load none (.tmp 101)), none⟩,
         ⟨(some 103), .call (.fnv 32) [(.tmp 100), (.tmp 102)], none⟩,
         ⟨(some 99), .op (.mov (.tmp 103)), none⟩,
         ⟨(some 104), .op (.extract (.tmp 99) 0), none⟩,
         ⟨(some 105), .op (.extract (.tmp 99) 1), none⟩,
         ⟨(some 16), .op (.alloc [(.int .i64 0), (.int .i64 0), (.int .i64 0)]), none⟩,
         ⟨none, .op (.store 3 (.tmp 16) (.tmp 104)), none⟩,
         ⟨(some 17), .op (.mov (.tmp 105)), none⟩])
       (.seq (.region [⟨(some 107), .op (.mov (.tmp 7)), none⟩,
         ⟨(some 108), .op (.fieldAddr 1 (.tmp 10)), none⟩,
         ⟨(some 109), .op (.load none (.tmp 108)), none⟩,
         ⟨(some 110), .call (.fnv 40) [(.tmp 107), (.tmp 109)], none⟩,
         ⟨(some 106), .op (.mov (.tmp 110)), none⟩,
         ⟨(some 111), .op (.extract (.tmp 106) 0), none⟩,
         ⟨(some 112), .op (.extract (.tmp 106) 1), none⟩,
         ⟨(some 18), .op (.alloc [(.int .i64 0), (.int .i64 0), (.int .i64 0)]), none⟩,
         ⟨none, .op (.store 3 (.tmp 18) (.tmp 111)), none⟩,
         ⟨(some 19), .op (.mov (.tmp 112)), none⟩])
       (.seq (.region [⟨(some 114), .op (.mov (.tmp 5)), none⟩,
         ⟨(some 115), .call (.fnv 41) [(.tmp 114)], none⟩,
         ⟨(some 113), .op (.mov (.tmp 115)), none⟩,
         ⟨(some 116), .op (.extract (.tmp 113) 0), none⟩,
         ⟨(some 117), .op (.extract (.tmp 113) 1), none⟩,
         ⟨(some 20), .op (.mov (.tmp 116)), none⟩,
         ⟨(some 21), .op (.mov (.tmp 117)), none⟩])
       (.seq (.region [⟨(some 119), .op (.mov (.tmp 7)), none⟩,
         ⟨(some 120), .op (.nilCheck (.tmp 119)), none⟩,
         ⟨(some 121), .op (.fieldAddr 0 (.tmp 120)), none⟩,
         ⟨(some 122), .op (.load none (.tmp 121)), none⟩,
         ⟨(some 123), .call (.fnv 25) [(.tmp 122)], none⟩,
         ⟨(some 118), .op (.mov (.tmp 123)), none⟩,
         ⟨(some 124), .op (.extract (.tmp 118) 0), none⟩,
         ⟨(some 125), .op (.extract (.tmp 118) 1), none⟩,
         ⟨(some 22), .op (.mov (.tmp 124)), none⟩,
         ⟨(some 23), .op (.mov (.tmp 125)), none⟩])
       (.seq (.region [⟨(some 126), .op (.mov (.tmp 11)), none⟩,
         ⟨(some 127), .op (.un .not (.tmp 126)), none⟩,
         ⟨(some 128), .op (.mov (.tmp 127)), none⟩,
         ⟨(some 129), .op (.load (some 3) (.tmp 16)), (some (128, false))⟩,
         ⟨(some 130), .op (.load (some 3) (.tmp 18)), (some (128, false))⟩,
         ⟨(some 131), .op (.eql true (.flat [.int, .int, .int]) (.tmp 129) (.tmp 130)), (some (128, false))⟩,
         ⟨(some 132), .op (.pick (.tmp 128) (.val (.bool true)) (.tmp 131)), none⟩,
         ⟨(some 133), .op (.mov (.tmp 132)), none⟩,
         ⟨(some 134), .op (.mov (.tmp 17)), (some (133, false))⟩,
         ⟨(some 135), .op (.mov (.tmp 19)), (some (133, false))⟩,
         ⟨(some 136), .op (.eql true .bool (.tmp 134) (.tmp 135)), (some (133, false))⟩,
         ⟨(some 137), .op (.pick (.tmp 133) (.val (.bool true)) (.tmp 136)), none⟩,
         ⟨(some 138), .op (.mov (.tmp 137)), none⟩,
         ⟨(some 139), .op (.mov (.tmp 20)), (some (138, false))⟩,
         ⟨(some 140), .op (.mov (.tmp 22)), (some (138, false))⟩,
         ⟨(some 141), .op (.bin .neq (.tmp 139) (.tmp 140)), (some (138, false))⟩,
         ⟨(some 142), .op (.pick (.tmp 138) (.val (.bool true)) (.tmp 141)), none⟩,
         ⟨(some 143), .op (.mov (.tmp 142)), none⟩,
         ⟨(some 144), .op (.mov (.tmp 21)), (some (143, false))⟩,
         ⟨(some 145), .op (.mov (.tmp 23)), (some (143, false))⟩,
         ⟨(some 146), .op (.bin .neq (.tmp 144) (.tmp 145)), (some (143, false))⟩,
         ⟨(some 147), .op (.pick (.tmp 143) (.val (.bool true)) (.tmp 146)), none⟩])
       (.cond (.tmp 147) (.seq (.region [⟨(some 4), .op (.mov (.val (.bool false))), none⟩])
        (.ret))
       (.skip)))))))))))
     (.region [⟨(some 148), .op (.bin .add (.tmp 54) (.val (.int .i64 1))), none⟩,
      ⟨(some 54), .op (.mov (.tmp 148)), none⟩])))))))
  (.seq (.region [⟨(some 150), .op (.mov (.tmp 5)), none⟩,
    ⟨(some 151), .call (.fnv 34) [(.tmp 150), (.val (.int .i64 (-1)))], none⟩,
    ⟨(some 149), .op (.mov (.tmp 151)), none⟩,
    ⟨(some 152), .op (.extract (.tmp 149) 0), none⟩,
    ⟨(some 153), .op (.extract (.tmp 149) 1), none⟩,
    ⟨(some 24), .op (.mov (.tmp 152)), none⟩,
    ⟨(some 25), .op (.mov (.tmp 153)), none⟩])
  (.seq (.region [⟨(some 154), .op (.mov (.tmp 25)), none⟩,
    ⟨(some 155), .op (.mov (.tmp 154)), none⟩,
    ⟨(some 156), .op (.mov (.tmp 24)), (some (155, true))⟩,
    ⟨(some 157), .op (.mov (.tmp 7)), (some (155, true))⟩,
    ⟨(some 158), .op (.nilCheck (.tmp 157)), (some (155, true))⟩,
    ⟨(some 159), .op (.fieldAddr 1 (.tmp 158)), (some (155, true))⟩,
    ⟨(some 160), .op (.load none (.tmp 159)), (some (155, true))⟩,
    ⟨(some 161), .call (.fnv 36) [(.tmp 156), (.tmp 160)], (some (155, true))⟩,
    ⟨(some 162), .op (.pick (.tmp 155) (.tmp 161) (.val (.bool false))), none⟩,
    ⟨(some 4), .op (.mov (.tmp 162)), none⟩])
  (.ret)))))))),
  [.tmp 4], none, none⟩
def A15 : AFun := ⟨.seq (.region [⟨(some 2), .op (.mov (.val .nilp)), none⟩,
    ⟨(some 3), .op (.mov (.val (.int .i64 0))), none⟩])
  (.seq (.seq (.region [⟨(some 7), .op (.mov (.tmp 0)), none⟩,
     ⟨(some 8), .op (.bin .lss (.tmp 7) (.val (.int .i64 1))), none⟩,
     ⟨(some 9), .op (.mov (.tmp 8)), none⟩,
     ⟨(some 10), .op (.mov (.tmp 0)), (some (9, false))⟩,
     ⟨(some 11), .op (.bin .gtr (.tmp 10) (.val (.int .i64 4096))), (some (9, false))⟩,
     ⟨(some 12), .op (.pick (.tmp 9) (.val (.bool true)) (.tmp 11)), none⟩])
   (.cond (.tmp 12) (.seq (.region [⟨(some 2), .op (.mov (.val .nilp)), none⟩,
      ⟨(some 3), .op (.mov (.val (.int .i64 1))), none⟩])
    (.ret))
   (.skip)))
  (.seq (.region [⟨(some 13), .op (.mov (.tmp 0)), none⟩,
    ⟨(some 14), .op (.mov (.tmp 0)), none⟩,
    ⟨(some 15), .op (.bin .add (.tmp 14) (.val (.int .i64 64))), none⟩,
    ⟨(some 16), .op (.bin .sub (.tmp 15) (.val (.int .i64 1))), none⟩,
    ⟨(some 17), .op (.bin .quo (.tmp 16) (.val (.int .i64 64))), none⟩,
    ⟨(some 18), .op (.mkSlice 1 8 [(.int .u64 0)] (.tmp 17)), none⟩,
    ⟨(some 19), .op (.build [(.int .i64 0), .nils, .nils] [(0, 1, (.tmp 13)), (1, 1, (.tmp 18))]), none⟩,
    ⟨(some 20), .op (.box (.tmp 19)), none⟩,
    ⟨(some 4), .op (.mov (.tmp 20)), none⟩])
  (.seq (.seq (.region [⟨(some 21), .op (.mov (.tmp 0)), none⟩,
     ⟨(some 22), .op (.bin .rem (.tmp 21) (.val (.int .i64 64))), none⟩,
     ⟨(some 23), .op (.bin .neq (.tmp 22) (.val (.int .i64 0))), none⟩])
   (.cond (.tmp 23) (.draw [⟨⟨(some 24), .op (.mov (.tmp 4)), none⟩, .pure⟩,
     ⟨⟨(some 25), .op (.nilCheck (.tmp 24)), none⟩, .pure⟩,
     ⟨⟨(some 26), .op (.fieldAddr 1 (.tmp 25)), none⟩, .pure⟩,
     ⟨⟨(some 27), .op (.load none (.tmp 26)), none⟩, .read []⟩,
     ⟨⟨(some 28), .op (.mov (.tmp 4)), none⟩, .pure⟩,
     ⟨⟨(some 29), .op (.nilCheck (.tmp 28)), none⟩, .pure⟩,
     ⟨⟨(some 30), .op (.fieldAddr 1 (.tmp 29)), none⟩, .pure⟩,
     ⟨⟨(some 31), .op (.load none (.tmp 30)), none⟩, .read []⟩,
     ⟨⟨(some 32), .op (.lenS (.tmp 31)), none⟩, .pure⟩,
     ⟨⟨(some 33), .op (.bin .sub (.tmp 32) (.val (.int .i64 1))), none⟩, .pure⟩,
     ⟨⟨(some 34), .op (.mov (.tmp 0)), none⟩, .pure⟩,
     ⟨⟨(some 35), .op (.bin .rem (.tmp 34) (.val (.int .i64 64))), none⟩, .pure⟩,
     ⟨⟨(some 36), .op (.bin .shl (.val (.int .u64 18446744073709551615)) (.tmp 35)), none⟩, .pure⟩,
     ⟨⟨(some 37), .op (.idxS 1 (.tmp 27) (.tmp 33)), none⟩, .read []⟩,
     ⟨⟨none, .op (.store 1 (.tmp 37) (.tmp 36)), none⟩, .act true⟩])
   (.skip)))
  (.seq (.seq (.region [⟨(some 38), .op (.mov (.tmp 4)), none⟩,
     ⟨(some 39), .op (.nilCheck (.tmp 38)), none⟩,
     ⟨(some 40), .op (.fieldAddr 1 (.tmp 39)), none⟩,
     ⟨(some 41), .op (.load none (.tmp 40)), none⟩,
     ⟨(some 42), .op (.lenS (.tmp 41)), none⟩,
     ⟨(some 5), .op (.mov (.tmp 42)), none⟩])
   (.block 0 (.loop (.seq (.block 1 (.seq (.draw [⟨⟨(some 46), .op (.mov (.tmp 4)), none⟩, .pure⟩,
         ⟨⟨(some 47), .op (.mov (.tmp 4)), none⟩, .pure⟩,
         ⟨⟨(some 48), .op (.nilCheck (.tmp 47)), none⟩, .pure⟩,
         ⟨⟨(some 49), .op (.fieldAddr 2 (.tmp 48)), none⟩, .pure⟩,
         ⟨⟨(some 50), .op (.load none (.tmp 49)), none⟩, .read [7, 8]⟩,
         ⟨⟨(some 51), .op (.mov (.tmp 5)), none⟩, .pure⟩,
         ⟨⟨(some 52), .op (.mkSlice 4 32 [(.int .i64 0), (.int .i64 0), (.int .i64 0), (.int .i64 0)] (.tmp 51)), none⟩, .act true⟩,
         ⟨⟨(some 53), .op (.buildSlice 1 1 [.nils] [(0, (.tmp 52))]), none⟩, .act true⟩,
         ⟨⟨(some 54), .op (.append 1 24 (.tmp 50) (.tmp 53)), none⟩, .act true⟩,
         ⟨⟨(some 55), .op (.nilCheck (.tmp 46)), none⟩, .pure⟩,
         ⟨⟨(some 56), .op (.fieldAddr 2 (.tmp 55)), none⟩, .pure⟩,
         ⟨⟨none, .op (.store 1 (.tmp 56) (.tmp 54)), none⟩, .act true⟩])
       (.seq (.region [⟨(some 57), .op (.mov (.tmp 5)), none⟩,
         ⟨(some 58), .op (.bin .eql (.tmp 57) (.val (.int .i64 1))), none⟩])
       (.cond (.tmp 58) (.exit 0)
       (.skip)))))
     (.region [⟨(some 43), .op (.mov (.tmp 5)), none⟩,
      ⟨(some 44), .op (.bin .add (.tmp 43) (.val (.int .i64 7))), none⟩,
      ⟨(some 45), .op (.bin .quo (.tmp 44) (.val (.int .i64 8))), none⟩,
      ⟨(some 5), .op (.mov (.tmp 45)), none⟩])))))
  (.seq (.seq (.region [⟨(some 59), .op (.mov (.tmp 4)), none⟩,
     ⟨(some 60), .op (.nilCheck (.tmp 59)), none⟩,
     ⟨(some 61), .op (.fieldAddr 1 (.tmp 60)), none⟩,
     ⟨(some 62), .op (.load none (.tmp 61)), none⟩,
     ⟨(some 63), .op (.lenS (.tmp 62)), none⟩,
     ⟨(some 64), .op (.mov (.val (.int .i64 0))), none⟩])
   (.block 2 (.loop (.seq (.region [⟨(some 65), .op (.bin .lss (.tmp 64) (.tmp 63)), none⟩])
     (.seq (.cond (.tmp 65) (.skip)
      (.exit 2))
     (.seq (.block 3 (.seq (.region [⟨(some 66), .op (.mov (.tmp 64)), none⟩,
         ⟨(some 6), .op (.mov (.tmp 66)), none⟩])
       (.region [⟨(some 67), .op (.mov (.tmp 4)), none⟩,
        ⟨(some 68), .op (.mov (.tmp 6)), none⟩,
        ⟨(some 69), .call (.fnv 57) [(.tmp 67), (.tmp 68)], none⟩])))
     (.region [⟨(some 70), .op (.bin .add (.tmp 64) (.val (.int .i64 1))), none⟩,
      ⟨(some 64), .op (.mov (.tmp 70)), none⟩])))))))
  (.seq (.region [⟨(some 71), .op (.mov (.tmp 4)), none⟩,
    ⟨(some 2), .op (.mov (.tmp 71)), none⟩,
    ⟨(some 3), .op (.mov (.val (.int .i64 0))), none⟩])
  (.ret))))))),
  [.tmp 2, .tmp 3], none, none⟩
def A16 : AFun := ⟨.seq (.region [⟨(some 0), .op (.mov (.val (.bool false))), none⟩])
  (.seq (.region [⟨(some 8), .call (.fnv 15) [(.val (.int .i64 8))], none⟩,
    ⟨(some 7), .op (.mov (.tmp 8)), none⟩,
    ⟨(some 9), .op (.extract (.tmp 7) 0), none⟩,
    ⟨(some 10), .op (.extract (.tmp 7) 1), none⟩,
    ⟨(some 1), .op (.mov (.tmp 9)), none⟩,
    ⟨(some 2), .op (.mov (.tmp 10)), none⟩])
  (.seq (.seq (.region [⟨(some 11), .op (.mov (.tmp 1)), none⟩,
     ⟨(some 12), .op (.eql false .ptr (.tmp 11) (.val .nilp)), none⟩,
     ⟨(some 13), .op (.mov (.tmp 12)), none⟩,
     ⟨(some 14), .op (.mov (.tmp 2)), (some (13, false))⟩,
     ⟨(some 15), .op (.bin .neq (.tmp 14) (.val (.int .i64 0))), (some (13, false))⟩,
     ⟨(some 16), .op (.pick (.tmp 13) (.val (.bool true)) (.tmp 15)), none⟩])
   (.cond (.tmp 16) (.seq (.region [⟨(some 0), .op (.mov (.val (.bool false))), none⟩])
    (.ret))
   (.skip)))
  (.seq (.region [⟨(some 18), .op (.mov (.tmp 1)), none⟩,
    ⟨(some 19), .call (.fnv 20) [(.tmp 18), (.val (.int .i64 3))], none⟩,
    ⟨(some 17), .op (.mov (.tmp 19)), none⟩,
    ⟨(some 20), .op (.extract (.tmp 17) 0), none⟩,
    ⟨(some 21), .op (.extract (.tmp 17) 1), none⟩,
    ⟨(some 3), .op (.mov (.tmp 20)), none⟩,
    ⟨(some 4), .op (.mov (.tmp 21)), none⟩])
  (.seq (.region [⟨(some 23), .op (.mov (.tmp 1)), none⟩,
    ⟨(some 24), .call (.fnv 20) [(.tmp 23), (.val (.int .i64 2))], none⟩,
    ⟨(some 22), .op (.mov (.tmp 24)), none⟩,
    ⟨(some 25), .op (.extract (.tmp 22) 0), none⟩,
    ⟨(some 26), .op (.extract (.tmp 22) 1), none⟩,
    ⟨(some 5), .op (.mov (.tmp 25)), none⟩,
    ⟨(some 6), .op (.mov (.tmp 26)), none⟩])
  (.seq (.region [⟨(some 27), .op (.mov (.tmp 4)), none⟩,
    ⟨(some 28), .op (.bin .eql (.tmp 27) (.val (.int .i64 0))), none⟩,
    ⟨(some 29), .op (.mov (.tmp 28)), none⟩,
    ⟨(some 30), .op (.mov (.tmp 6)), (some (29, true))⟩,
    ⟨(some 31), .op (.bin .eql (.tmp 30) (.val (.int .i64 0))), (some (29, true))⟩,
    ⟨(some 32), .op (.pick (.tmp 29) (.tmp 31) (.val (.bool false))), none⟩,
    ⟨(some 33), .op (.mov (.tmp 32)), none⟩,
    ⟨(some 34), .op (.mov (.tmp 3)), (some (33, true))⟩,
    ⟨(some 35), .op (.bin .eql (.tmp 34) (.val (.int .i64 0))), (some (33, true))⟩,
    ⟨(some 36), .op (.pick (.tmp 33) (.tmp 35) (.val (.bool false))), none⟩,
    ⟨(some 37), .op (.mov (.tmp 36)), none⟩,
    ⟨(some 38), .op (.mov (.tmp 5)), (some (37, true))⟩,
    ⟨(some 39), .op (.bin .eql (.tmp 38) (.val (.int .i64 3))), (some (37, true))⟩,
    ⟨(some 40), .op (.pick (.tmp 37) (.tmp 39) (.val (.bool false))), none⟩,
    ⟨(some 41), .op (.mov (.tmp 40)), none⟩,
    ⟨(some 42), .op (.mov (.tmp 1)), (some (41, true))⟩,
    ⟨(some 43), .call (.fnv 18) [(.tmp 42), (.val (.int .i64 0)), (.val (.int .i64 3))], (some (41, true))⟩,
    ⟨(some 44), .op (.bin .eql (.tmp 43) (.val (.int .i64 0))), (some (41, true))⟩,
    ⟨(some 45), .op (.pick (.tmp 41) (.tmp 44) (.val (.bool false))), none⟩,
    ⟨(some 46), .op (.mov (.tmp 45)), none⟩,
    ⟨(some 47), .op (.mov (.tmp 1)), (some (46, true))⟩,
    ⟨(some 48), .call (.fnv 18) [(.tmp 47), (.val (.int .i64 0)), (.val (.int .i64 1))], (some (46, true))⟩,
    ⟨(some 49), .op (.bin .eql (.tmp 48) (.val (.int .i64 5))), (some (46, true))⟩,
    ⟨(some 50), .op (.pick (.tmp 46) (.tmp 49) (.val (.bool false))), none⟩,
    ⟨(some 51), .op (.mov (.tmp 50)), none⟩,
    ⟨(some 52), .op (.mov (.tmp 1)), (some (51, true))⟩,
    ⟨(some 53), .call (.fnv 19) [(.tmp 52), (.val (.int .i64 4))], (some (51, true))⟩,
    ⟨(some 54), .op (.pick (.tmp 51) (.tmp 53) (.val (.bool false))), none⟩,
    ⟨(some 55), .op (.mov (.tmp 54)), none⟩,
    ⟨(some 56), .op (.mov (.tmp 1)), (some (55, true))⟩,
    ⟨(some 57), .call (.fnv 19) [(.tmp 56), (.val (.int .i64 5))], (some (55, true))⟩,
    ⟨(some 58), .op (.un .not (.tmp 57)), (some (55, true))⟩,
    ⟨(some 59), .op (.pick (.tmp 55) (.tmp 58) (.val (.bool false))), none⟩,
    ⟨(some 0), .op (.mov (.tmp 59)), none⟩])
  (.ret)))))),
  [.tmp 0], none, none⟩
def A17 : AFun := ⟨.seq (.region [⟨(some 6), .op (.mov (.val (.int .i64 0))), none⟩])
  (.seq (.region [⟨(some 7), .op (.mov (.tmp 0)), none⟩,
    ⟨(some 8), .op (.mov (.tmp 1)), none⟩,
    ⟨(some 9), .op (.mov (.tmp 2)), none⟩,
    ⟨(some 10), .call (.fnv 58) [(.tmp 7), (.tmp 8), (.tmp 9), (.val (.bool true))], none⟩,
    ⟨(some 6), .op (.mov (.tmp 10)), none⟩])
  (.ret)),
  [.tmp 6], none, none⟩
def A18 : AFun := ⟨.seq (.region [⟨(some 6), .op (.mov (.val (.int .i64 0))), none⟩])
  (.seq (.region [⟨(some 7), .op (.mov (.tmp 0)), none⟩,
    ⟨(some 8), .op (.mov (.tmp 1)), none⟩,
    ⟨(some 9), .op (.mov (.tmp 2)), none⟩,
    ⟨(some 10), .call (.fnv 58) [(.tmp 7), (.tmp 8), (.tmp 9), (.val (.bool false))], none⟩,
    ⟨(some 6), .op (.mov (.tmp 10)), none⟩])
  (.ret)),
  [.tmp 6], none, none⟩
def A19 : AFun := ⟨.seq (.region [⟨(some 4), .op (.mov (.val (.bool false))), none⟩])
  (.seq (.region [⟨(some 5), .op (.mov (.tmp 0)), none⟩,
    ⟨(some 6), .op (.eql false .ptr (.tmp 5) (.val .nilp)), none⟩,
    ⟨(some 7), .op (.mov (.tmp 6)), none⟩,
    ⟨(some 8), .op (.mov (.tmp 1)), (some (7, false))⟩,
    ⟨(some 9), .op (.bin .lss (.tmp 8) (.val (.int .i64 0))), (some (7, false))⟩,
    ⟨(some 10), .op (.pick (.tmp 7) (.val (.bool true)) (.tmp 9)), none⟩,
    ⟨(some 11), .op (.mov (.tmp 10)), none⟩,
    ⟨(some 12), .op (.mov (.tmp 1)), (some (11, false))⟩,
    ⟨(some 13), .op (.mov (.tmp 0)), (some (11, false))⟩,
    ⟨(some 14), .op (.nilCheck (.tmp 13)), (some (11, false))⟩,
    ⟨(some 15), .op (.fieldAddr 0 (.tmp 14)), (some (11, false))⟩,
    ⟨(some 16), .op (.load none (.tmp 15)), (some (11, false))⟩,
    ⟨(some 17), .op (.bin .geq (.tmp 12) (.tmp 16)), (some (11, false))⟩,
    ⟨(some 18), .op (.pick (.tmp 11) (.val (.bool true)) (.tmp 17)), none⟩,
    ⟨(some 19), .op (.mov (.tmp 18)), none⟩,
    ⟨(some 20), .op (.mov (.tmp 0)), (some (19, false))⟩,
    ⟨(some 21), .op (.nilCheck (.tmp 20)), (some (19, false))⟩,
    ⟨(some 22), .op (.fieldAddr 1 (.tmp 21)), (some (19, false))⟩,
    ⟨(some 23), .op (.load none (.tmp 22)), (some (19, false))⟩,
    ⟨(some 24), .op (.mov (.tmp 1)), (some (19, false))⟩,
    ⟨(some 25), .op (.bin .quo (.tmp 24) (.val (.int .i64 64))), (some (19, false))⟩,
    ⟨(some 26), .op (.idxS 1 (.tmp 23) (.tmp 25)), (some (19, false))⟩,
    ⟨(some 27), .op (.load none (.tmp 26)), (some (19, false))⟩,
    ⟨(some 28), .op (.mov (.tmp 1)), (some (19, false))⟩,
    ⟨(some 29), .op (.bin .rem (.tmp 28) (.val (.int .i64 64))), (some (19, false))⟩,
    ⟨(some 30), .op (.bin .shr (.tmp 27) (.tmp 29)), (some (19, false))⟩,
    ⟨(some 31), .op (.bin .and (.tmp 30) (.val (.int .u64 1))), (some (19, false))⟩,
    ⟨(some 32), .op (.bin .eql (.tmp 31) (.val (.int .u64 1))), (some (19, false))⟩,
    ⟨(some 33), .op (.pick (.tmp 19) (.val (.bool true)) (.tmp 32)), none⟩,
    ⟨(some 4), .op (.mov (.tmp 33)), none⟩])
  (.ret)),
  [.tmp 4], none, none⟩
def A20 : AFun := ⟨.seq (.region [⟨(some 4), .op (.mov (.val (.int .i64 0))), none⟩,
    ⟨(some 5), .op (.mov (.val (.int .i64 0))), none⟩])
  (.seq (.block 0 (.seq (.region [⟨(some 8), .op (.mov (.tmp 0)), none⟩,
      ⟨(some 9), .op (.eql false .ptr (.tmp 8) (.val .nilp)), none⟩,
      ⟨(some 7), .op (.mov (.tmp 9)), none⟩])
    (.cond (.tmp 7) (.seq (.region [⟨(some 4), .op (.mov (.val (.int .i64 0))), none⟩,
       ⟨(some 5), .op (.mov (.val (.int .i64 5))), none⟩])
     (.ret))
    (.seq (.region [⟨(some 11), .op (.mov (.tmp 1)), none⟩,
      ⟨(some 12), .op (.bin .lss (.tmp 11) (.val (.int .i64 1))), none⟩,
      ⟨(some 10), .op (.mov (.tmp 12)), none⟩])
    (.cond (.tmp 10) (.seq (.region [⟨(some 4), .op (.mov (.val (.int .i64 0))), none⟩,
       ⟨(some 5), .op (.mov (.val (.int .i64 1))), none⟩])
     (.ret))
    (.skip))))))
  (.seq (.region [⟨(some 13), .op (.mov (.tmp 0)), none⟩,
    ⟨(some 14), .op (.mov (.tmp 1)), none⟩,
    ⟨(some 15), .call (.fnv 59) [(.tmp 13), (.tmp 14)], none⟩,
    ⟨(some 6), .op (.mov (.tmp 15)), none⟩])
  (.seq (.seq (.region [⟨(some 16), .op (.mov (.tmp 6)), none⟩,
     ⟨(some 17), .op (.bin .lss (.tmp 16) (.val (.int .i64 0))), none⟩])
   (.cond (.tmp 17) (.seq (.region [⟨(some 4), .op (.mov (.val (.int .i64 0))), none⟩,
      ⟨(some 5), .op (.mov (.val (.int .i64 3))), none⟩])
    (.ret))
   (.skip)))
  (.seq (.region [⟨(some 18), .op (.mov (.tmp 0)), none⟩,
    ⟨(some 19), .op (.mov (.tmp 6)), none⟩,
    ⟨(some 20), .op (.mov (.tmp 1)), none⟩,
    ⟨(some 21), .call (.fnv 60) [(.tmp 18), (.tmp 19), (.tmp 20), (.val (.bool true))], none⟩])
  (.seq (.region [⟨(some 22), .op (.mov (.tmp 6)), none⟩,
    ⟨(some 4), .op (.mov (.tmp 22)), none⟩,
    ⟨(some 5), .op (.mov (.val (.int .i64 0))), none⟩])
  (.ret)))))),
  [.tmp 4, .tmp 5], none, none⟩
def A21 : AFun := ⟨.seq (.region [⟨(some 2), .op (.mov (.val (.int .i64 0))), none⟩,
    ⟨(some 3), .op (.mov (.val (.int .i64 0))), none⟩])
  (.seq (.seq (.region [⟨(some 7), .op (.mov (.tmp 0)), none⟩,
     ⟨(some 8), .op (.eql false .ptr (.tmp 7) (.val .nilp)), none⟩])
   (.cond (.tmp 8) (.seq (.region [⟨(some 2), .op (.mov (.val (.int .i64 0))), none⟩,
      ⟨(some 3), .op (.mov (.val (.int .i64 0))), none⟩])
    (.ret))
   (.skip)))
  (.seq (.region [⟨(some 4), .op (.alloc [(.int .i64 0)]), none⟩,
    ⟨none, .op (.store 1 (.tmp 4) (.val (.int .i64 0))), none⟩])
  (.seq (.seq (.region [⟨(some 9), .op (.mov (.tmp 0)), none⟩,
     ⟨(some 10), .call (.fnv 61) [(.tmp 9)], none⟩])
   (.block 0 (.range (.tmp 10) [11, 12] (.region [⟨(some 6), .op (.mov (.tmp 12)), none⟩])
    (.block 1 (.region [⟨(some 13), .op (.load none (.tmp 4)), none⟩,
       ⟨(some 14), .op (.mov (.tmp 6)), none⟩,
       ⟨(some 15), .op (.bin .add (.tmp 13) (.tmp 14)), none⟩,
       ⟨none, .op (.store 1 (.tmp 4) (.tmp 15)), none⟩])))))
  (.seq (.region [⟨(some 16), .op (.load none (.tmp 4)), none⟩,
    ⟨(some 17), .op (.mov (.tmp 0)), none⟩,
    ⟨(some 18), .op (.nilCheck (.tmp 17)), none⟩,
    ⟨(some 19), .op (.fieldAddr 2 (.tmp 18)), none⟩,
    ⟨(some 20), .op (.load none (.tmp 19)), none⟩,
    ⟨(some 21), .op (.mov (.tmp 0)), none⟩,
    ⟨(some 22), .op (.nilCheck (.tmp 21)), none⟩,
    ⟨(some 23), .op (.fieldAddr 2 (.tmp 22)), none⟩,
    ⟨(some 24), .op (.load none (.tmp 23)), none⟩,
    ⟨(some 25), .op (.lenS (.tmp 24)), none⟩,
    ⟨(some 26), .op (.bin .sub (.tmp 25) (.val (.int .i64 1))), none⟩,
    ⟨(some 27), .op (.idxS 1 (.tmp 20) (.tmp 26)), none⟩,
    ⟨(some 28), .op (.load none (.tmp 27)), none⟩,
    ⟨(some 29), .op (.idxS 4 (.tmp 28) (.val (.int .i64 0))), none⟩,
    ⟨(some 30), .op (.fieldAddr 1 (.tmp 29)), none⟩,
    ⟨(some 31), .op (.load none (.tmp 30)), none⟩,
    ⟨(some 2), .op (.mov (.tmp 16)), none⟩,
    ⟨(some 3), .op (.mov (.tmp 31)), none⟩])
  (.ret))))),
  [.tmp 2, .tmp 3], none, none⟩
def A22 : AFun := ⟨.seq (.region [⟨(some 2), .op (.mov (.val .nilp)), none⟩,
    ⟨(some 3), .op (.mov (.val (.int .i64 0))), none⟩])
  (.seq (.seq (.region [⟨(some 4), .op (.mov (.tmp 0)), none⟩,
     ⟨(some 5), .op (.bin .lss (.tmp 4) (.val (.int .i64 1))), none⟩,
     ⟨(some 6), .op (.mov (.tmp 5)), none⟩,
     ⟨(some 7), .op (.mov (.tmp 0)), (some (6, false))⟩,
     ⟨(some 8), .op (.bin .gtr (.tmp 7) (.val (.int .i64 4096))), (some (6, false))⟩,
     ⟨(some 9), .op (.pick (.tmp 6) (.val (.bool true)) (.tmp 8)), none⟩])
   (.cond (.tmp 9) (.seq (.region [⟨(some 2), .op (.mov (.val .nilp)), none⟩,
      ⟨(some 3), .op (.mov (.val (.int .i64 1))), none⟩])
    (.ret))
   (.skip)))
  (.seq (.region [⟨(some 10), .op (.mov (.tmp 0)), none⟩,
    ⟨(some 11), .op (.mkSlice 1 1 [(.bool false)] (.tmp 10)), none⟩,
    ⟨(some 12), .op (.build [.nils] [(0, 1, (.tmp 11))]), none⟩,
    ⟨(some 13), .op (.box (.tmp 12)), none⟩,
    ⟨(some 2), .op (.mov (.tmp 13)), none⟩,
    ⟨(some 3), .op (.mov (.val (.int .i64 0))), none⟩])
  (.ret))),
  [.tmp 2, .tmp 3], none, none⟩
def A23 : AFun := ⟨.seq (.region [⟨(some 4), .op (.mov (.val (.int .i64 0))), none⟩,
    ⟨(some 5), .op (.mov (.val (.int .i64 0))), none⟩])
  (.seq (.seq (.region [⟨(some 8), .op (.mov (.tmp 1)), none⟩,
     ⟨(some 9), .op (.bin .lss (.tmp 8) (.val (.int .i64 1))), none⟩])
   (.cond (.tmp 9) (.seq (.region [⟨(some 4), .op (.mov (.val (.int .i64 0))), none⟩,
      ⟨(some 5), .op (.mov (.val (.int .i64 1))), none⟩])
    (.ret))
   (.skip)))
  (.seq (.seq (.region [⟨(some 6), .op (.mov (.val (.int .i64 0))), none⟩])
   (.block 0 (.loop (.seq (.seq (.region [⟨(some 10), .op (.mov (.tmp 6)), none⟩,
        ⟨(some 11), .op (.mov (.tmp 0)), none⟩,
        ⟨(some 12), .op (.nilCheck (.tmp 11)), none⟩,
        ⟨(some 13), .op (.fieldAddr 0 (.tmp 12)), none⟩,
        ⟨(some 14), .op (.load none (.tmp 13)), none⟩,
        ⟨(some 15), .op (.lenS (.tmp 14)), none⟩,
        ⟨(some 16), .op (.bin .lss (.tmp 10) (.tmp 15)), none⟩])
      (.cond (.tmp 16) (.skip)
      (.exit 0)))
     (.seq (.block 1 (.seq (.region [⟨(some 19), .op (.mov (.tmp 0)), none⟩,
         ⟨(some 20), .op (.mov (.tmp 6)), none⟩,
         ⟨(some 21), .call (.fnv 62) [(.tmp 19), (.tmp 20)], none⟩,
         ⟨(some 7), .op (.mov (.tmp 21)), none⟩])
       (.seq (.seq (.region [⟨(some 22), .op (.mov (.tmp 7)), none⟩,
          ⟨(some 23), .op (.mov (.tmp 1)), none⟩,
          ⟨(some 24), .op (.bin .geq (.tmp 22) (.tmp 23)), none⟩])
        (.cond (.tmp 24) (.seq (.region [⟨(some 25), .op (.mov (.tmp 0)), none⟩,
           ⟨(some 26), .op (.mov (.tmp 6)), none⟩,
           ⟨(some 27), .op (.mov (.tmp 1)), none⟩,
           ⟨(some 28), .call (.fnv 63) [(.tmp 25), (.tmp 26), (.tmp 27), (.val (.bool true))], none⟩])
         (.seq (.region [⟨(some 29), .op (.mov (.tmp 6)), none⟩,
           ⟨(some 4), .op (.mov (.tmp 29)), none⟩,
           ⟨(some 5), .op (.mov (.val (.int .i64 0))), none⟩])
         (.ret)))
        (.skip)))
       (.region [⟨(some 30), .op (.mov (.tmp 6)), none⟩,
        ⟨(some 31), .op (.mov (.tmp 7)), none⟩,
        ⟨(some 32), .op (.bin .add (.tmp 30) (.tmp 31)), none⟩,
        ⟨(some 6), .op (.mov (.tmp 32)), none⟩]))))
     (.region [⟨(some 17), .op (.mov (.tmp 6)), none⟩,
      ⟨(some 18), .op (.bin .add (.tmp 17) (.val (.int .i64 1))), none⟩,
      ⟨(some 6), .op (.mov (.tmp 18)), none⟩]))))))
  (.seq (.region [⟨(some 4), .op (.mov (.val (.int .i64 0))), none⟩,
    ⟨(some 5), .op (.mov (.val (.int .i64 3))), none⟩])
  (.ret)))),
  [.tmp 4, .tmp 5], none, none⟩
def A24 : AFun := ⟨.seq (.region [⟨(some 8), .op (.mov (.val (.int .i64 0))), none⟩])
  (.seq (.seq (.region [⟨(some 10), .op (.mov (.tmp 1)), none⟩,
     ⟨(some 11), .op (.bin .lss (.tmp 10) (.val (.int .i64 0))), none⟩,
     ⟨(some 12), .op (.mov (.tmp 11)), none⟩,
     ⟨(some 13), .op (.mov (.tmp 2)), (some (12, false))⟩,
     ⟨(some 14), .op (.bin .lss (.tmp 13) (.val (.int .i64 1))), (some (12, false))⟩,
     ⟨(some 15), .op (.pick (.tmp 12) (.val (.bool true)) (.tmp 14)), none⟩,
     ⟨(some 16), .op (.mov (.tmp 15)), none⟩,
     ⟨(some 17), .op (.mov (.tmp 1)), (some (16, false))⟩,
     ⟨(some 18), .op (.mov (.tmp 0)), (some (16, false))⟩,
     ⟨(some 19), .op (.nilCheck (.tmp 18)), (some (16, false))⟩,
     ⟨(some 20), .op (.fieldAddr 0 (.tmp 19)), (some (16, false))⟩,
     ⟨(some 21), .op (.load none (.tmp 20)), (some (16, false))⟩,
     ⟨(some 22), .op (.lenS (.tmp 21)), (some (16, false))⟩,
     ⟨(some 23), .op (.bin .geq (.tmp 17) (.tmp 22)), (some (16, false))⟩,
     ⟨(some 24), .op (.pick (.tmp 16) (.val (.bool true)) (.tmp 23)), none⟩,
     ⟨(some 25), .op (.mov (.tmp 24)), none⟩,
     ⟨(some 26), .op (.mov (.tmp 2)), (some (25, false))⟩,
     ⟨(some 27), .op (.mov (.tmp 0)), (some (25, false))⟩,
     ⟨(some 28), .op (.nilCheck (.tmp 27)), (some (25, false))⟩,
     ⟨(some 29), .op (.fieldAddr 0 (.tmp 28)), (some (25, false))⟩,
     ⟨(some 30), .op (.load none (.tmp 29)), (some (25, false))⟩,
     ⟨(some 31), .op (.lenS (.tmp 30)), (some (25, false))⟩,
     ⟨(some 32), .op (.mov (.tmp 1)), (some (25, false))⟩,
     ⟨(some 33), .op (.bin .sub (.tmp 31) (.tmp 32)), (some (25, false))⟩,
     ⟨(some 34), .op (.bin .gtr (.tmp 26) (.tmp 33)), (some (25, false))⟩,
     ⟨(some 35), .op (.pick (.tmp 25) (.val (.bool true)) (.tmp 34)), none⟩])
   (.cond (.tmp 35) (.seq (.region [⟨(some 8), .op (.mov (.val (.int .i64 1))), none⟩])
    (.ret))
   (.skip)))
  (.seq (.seq (.region [⟨(some 36), .op (.mov (.tmp 1)), none⟩,
     ⟨(some 9), .op (.mov (.tmp 36)), none⟩])
   (.block 0 (.loop (.seq (.seq (.region [⟨(some 37), .op (.mov (.tmp 9)), none⟩,
        ⟨(some 38), .op (.mov (.tmp 1)), none⟩,
        ⟨(some 39), .op (.mov (.tmp 2)), none⟩,
        ⟨(some 40), .op (.bin .add (.tmp 38) (.tmp 39)), none⟩,
        ⟨(some 41), .op (.bin .lss (.tmp 37) (.tmp 40)), none⟩])
      (.cond (.tmp 41) (.skip)
      (.exit 0)))
     (.seq (.block 1 (.seq (.region [⟨(some 44), .op (.mov (.tmp 0)), none⟩,
         ⟨(some 45), .op (.nilCheck (.tmp 44)), none⟩,
         ⟨(some 46), .op (.fieldAddr 0 (.tmp 45)), none⟩,
         ⟨(some 47), .op (.load none (.tmp 46)), none⟩,
         ⟨(some 48), .op (.mov (.tmp 9)), none⟩,
         ⟨(some 49), .op (.idxS 1 (.tmp 47) (.tmp 48)), none⟩,
         ⟨(some 50), .op (.load none (.tmp 49)), none⟩,
         ⟨(some 51), .op (.mov (.tmp 3)), none⟩,
         ⟨(some 52), .op (.eql false .bool (.tmp 50) (.tmp 51)), none⟩])
       (.cond (.tmp 52) (.seq (.region [⟨(some 8), .op (.mov (.val (.int .i64 5))), none⟩])
        (.ret))
       (.skip))))
     (.region [⟨(some 42), .op (.mov (.tmp 9)), none⟩,
      ⟨(some 43), .op (.bin .add (.tmp 42) (.val (.int .i64 1))), none⟩,
      ⟨(some 9), .op (.mov (.tmp 43)), none⟩]))))))
  (.seq (.region [⟨(some 53), .op (.mov (.tmp 0)), none⟩,
    ⟨(some 54), .op (.mov (.tmp 1)), none⟩,
    ⟨(some 55), .op (.mov (.tmp 2)), none⟩,
    ⟨(some 56), .op (.mov (.tmp 3)), none⟩,
    ⟨(some 57), .call (.fnv 63) [(.tmp 53), (.tmp 54), (.tmp 55), (.tmp 56)], none⟩])
  (.seq (.region [⟨(some 8), .op (.mov (.val (.int .i64 0))), none⟩])
  (.ret))))),
  [.tmp 8], none, none⟩
def A25 : AFun := ⟨.seq (.region [⟨(some 2), .op (.mov (.val (.int .i64 0))), none⟩,
    ⟨(some 3), .op (.mov (.val (.int .i64 0))), none⟩])
  (.seq (.region [⟨(some 4), .op (.mov (.val (.int .i64 0))), none⟩,
    ⟨(some 5), .op (.mov (.val (.int .i64 0))), none⟩])
  (.seq (.seq (.region [⟨(some 6), .op (.mov (.val (.int .i64 0))), none⟩])
   (.block 0 (.loop (.seq (.seq (.region [⟨(some 8), .op (.mov (.tmp 6)), none⟩,
        ⟨(some 9), .op (.mov (.tmp 0)), none⟩,
        ⟨(some 10), .op (.nilCheck (.tmp 9)), none⟩,
        ⟨(some 11), .op (.fieldAddr 0 (.tmp 10)), none⟩,
        ⟨(some 12), .op (.load none (.tmp 11)), none⟩,
        ⟨(some 13), .op (.lenS (.tmp 12)), none⟩,
        ⟨(some 14), .op (.bin .lss (.tmp 8) (.tmp 13)), none⟩])
      (.cond (.tmp 14) (.skip)
      (.exit 0)))
     (.seq (.block 1 (.seq (.region [⟨(some 17), .op (.mov (.tmp 0)), none⟩,
         ⟨(some 18), .op (.nilCheck (.tmp 17)), none⟩,
         ⟨(some 19), .op (.fieldAddr 0 (.tmp 18)), none⟩,
         ⟨(some 20), .op (.load none (.tmp 19)), none⟩,
         ⟨(some 21), .op (.mov (.tmp 6)), none⟩,
         ⟨(some 22), .op (.idxS 1 (.tmp 20) (.tmp 21)), none⟩,
         ⟨(some 23), .op (.load none (.tmp 22)), none⟩,
         ⟨(some 24), .op (.un .not (.tmp 23)), none⟩])
       (.cond (.tmp 24) (.seq (.region [⟨(some 25), .op (.mov (.tmp 4)), none⟩,
          ⟨(some 26), .op (.bin .add (.tmp 25) (.val (.int .i64 1))), none⟩,
          ⟨(some 4), .op (.mov (.tmp 26)), none⟩])
        (.seq (.region [⟨(some 27), .op (.mov (.tmp 0)), none⟩,
          ⟨(some 28), .op (.mov (.tmp 6)), none⟩,
          ⟨(some 29), .call (.fnv 62) [(.tmp 27), (.tmp 28)], none⟩,
          ⟨(some 7), .op (.mov (.tmp 29)), none⟩])
        (.seq (.region [⟨(some 30), .op (.mov (.tmp 7)), none⟩,
          ⟨(some 31), .op (.mov (.tmp 5)), none⟩,
          ⟨(some 32), .op (.bin .gtr (.tmp 30) (.tmp 31)), none⟩])
        (.cond (.tmp 32) (.region [⟨(some 33), .op (.mov (.tmp 7)), none⟩,
          ⟨(some 5), .op (.mov (.tmp 33)), none⟩])
        (.skip)))))
       (.skip))))
     (.region [⟨(some 15), .op (.mov (.tmp 6)), none⟩,
      ⟨(some 16), .op (.bin .add (.tmp 15) (.val (.int .i64 1))), none⟩,
      ⟨(some 6), .op (.mov (.tmp 16)), none⟩]))))))
  (.seq (.region [⟨(some 34), .op (.mov (.tmp 4)), none⟩,
    ⟨(some 35), .op (.mov (.tmp 5)), none⟩,
    ⟨(some 2), .op (.mov (.tmp 34)), none⟩,
    ⟨(some 3), .op (.mov (.tmp 35)), none⟩])
  (.ret)))),
  [.tmp 2, .tmp 3], none, none⟩
def A26 : AFun := ⟨.seq (.region [⟨(some 4), .op (.mov (.val (.bool false))), none⟩])
  (.seq (.region [⟨(some 5), .op (.mov (.tmp 1)), none⟩,
    ⟨(some 6), .op (.bin .lss (.tmp 5) (.val (.int .i64 0))), none⟩,
    ⟨(some 7), .op (.mov (.tmp 6)), none⟩,
    ⟨(some 8), .op (.mov (.tmp 1)), (some (7, false))⟩,
    ⟨(some 9), .op (.mov (.tmp 0)), (some (7, false))⟩,
    ⟨(some 10), .op (.nilCheck (.tmp 9)), (some (7, false))⟩,
    ⟨(some 11), .op (.fieldAddr 0 (.tmp 10)), (some (7, false))⟩,
    ⟨(some 12), .op (.load none (.tmp 11)), (some (7, false))⟩,
    ⟨(some 13), .op (.lenS (.tmp 12)), (some (7, false))⟩,
    ⟨(some 14), .op (.bin .geq (.tmp 8) (.tmp 13)), (some (7, false))⟩,
    ⟨(some 15), .op (.pick (.tmp 7) (.val (.bool true)) (.tmp 14)), none⟩,
    ⟨(some 16), .op (.mov (.tmp 15)), none⟩,
    ⟨(some 17), .op (.mov (.tmp 0)), (some (16, false))⟩,
    ⟨(some 18), .op (.nilCheck (.tmp 17)), (some (16, false))⟩,
    ⟨(some 19), .op (.fieldAddr 0 (.tmp 18)), (some (16, false))⟩,
    ⟨(some 20), .op (.load none (.tmp 19)), (some (16, false))⟩,
    ⟨(some 21), .op (.mov (.tmp 1)), (some (16, false))⟩,
    ⟨(some 22), .op (.idxS 1 (.tmp 20) (.tmp 21)), (some (16, false))⟩,
    ⟨(some 23), .op (.load none (.tmp 22)), (some (16, false))⟩,
    ⟨(some 24), .op (.pick (.tmp 16) (.val (.bool true)) (.tmp 23)), none⟩,
    ⟨(some 4), .op (.mov (.tmp 24)), none⟩])
  (.ret)),
  [.tmp 4], none, none⟩
def A27 : AFun := ⟨.seq (.region [⟨(some 3), .op (.box (.tmp 1)), none⟩,
    ⟨(some 4), .op (.mov (.val .nils)), none⟩,
    ⟨(some 5), .op (.mov (.val (.bool false))), none⟩])
  (.seq (.region [⟨(some 6), .op (.alloc [.nils]), none⟩])
  (.seq (.region [⟨(some 10), .op (.mov (.tmp 0)), none⟩,
    ⟨(some 11), .call (.fnv 61) [(.tmp 10)], none⟩,
    ⟨(some 7), .op (.mov (.tmp 11)), none⟩])
  (.seq (.seq (.region [⟨(some 12), .op (.mov (.tmp 7)), none⟩,
     ⟨(some 13), .op (.eql false .func (.tmp 12) (.val .nilf)), none⟩,
     ⟨(some 14), .op (.mov (.tmp 13)), none⟩,
     ⟨(some 15), .op (.load none (.tmp 3)), (some (14, false))⟩,
     ⟨(some 16), .op (.bin .eql (.tmp 15) (.val (.int .i64 0))), (some (14, false))⟩,
     ⟨(some 17), .op (.pick (.tmp 14) (.val (.bool true)) (.tmp 16)), none⟩])
   (.cond (.tmp 17) (.seq (.region [⟨(some 18), .op (.mov (.tmp 7)), none⟩,
      ⟨(some 19), .op (.eql true .func (.tmp 18) (.val .nilf)), none⟩,
      ⟨(some 4), .op (.mov (.val .nils)), none⟩,
      ⟨(some 5), .op (.mov (.tmp 19)), none⟩])
    (.ret))
   (.skip)))
  (.seq (.seq (.region [⟨(some 20), .op (.mov (.tmp 7)), none⟩])
   (.block 0 (.range (.tmp 20) [21, 22] (.seq (.region [⟨(some 8), .op (.mov (.tmp 21)), none⟩])
     (.region [⟨(some 9), .op (.mov (.tmp 22)), none⟩]))
    (.block 1 (.seq (.region [⟨(some 23), .op (.load none (.tmp 6)), none⟩,
        ⟨(some 24), .op (.mov (.tmp 8)), none⟩,
        ⟨(some 25), .op (.mov (.tmp 9)), none⟩,
        ⟨(some 26), .op (.build [(.int .i64 0), (.int .i64 0)] [(0, 1, (.tmp 24)), (1, 1, (.tmp 25))]), none⟩,
        ⟨(some 27), .op (.buildSlice 2 1 [(.int .i64 0), (.int .i64 0)] [(0, (.tmp 26))]), none⟩,
        ⟨(some 28), .op (.append 2 16 (.tmp 23) (.tmp 27)), none⟩,
        ⟨none, .op (.store 1 (.tmp 6) (.tmp 28)), none⟩])
      (.seq (.region [⟨(some 29), .op (.load none (.tmp 6)), none⟩,
        ⟨(some 30), .op (.lenS (.tmp 29)), none⟩,
        ⟨(some 31), .op (.load none (.tmp 3)), none⟩,
        ⟨(some 32), .op (.bin .eql (.tmp 30) (.tmp 31)), none⟩,
        ⟨(some 33), .op (.mov (.tmp 32)), none⟩,
        ⟨(some 34), .op (.load none (.tmp 6)), (some (33, false))⟩,
        ⟨(some 35), .op (.lenS (.tmp 34)), (some (33, false))⟩,
        ⟨(some 36), .op (.bin .gtr (.tmp 35) (.val (.int .i64 5000))), (some (33, false))⟩,
        ⟨(some 37), .op (.pick (.tmp 33) (.val (.bool true)) (.tmp 36)), none⟩])
      (.cond (.tmp 37) (.exit 0)
      (.skip))))))))
  (.seq (.region [⟨(some 38), .op (.load none (.tmp 6)), none⟩,
    ⟨(some 4), .op (.mov (.tmp 38)), none⟩,
    ⟨(some 5), .op (.mov (.val (.bool true))), none⟩])
  (.ret)))))),
  [.tmp 4, .tmp 5], none, none⟩
def A28 : AFun := ⟨.seq (.region [⟨(some 4), .op (.mov (.val (.bool false))), none⟩])
  (.seq (.seq (.region [⟨(some 6), .op (.mov (.tmp 0)), none⟩,
     ⟨(some 7), .op (.lenS (.tmp 6)), none⟩,
     ⟨(some 8), .op (.mov (.tmp 1)), none⟩,
     ⟨(some 9), .op (.lenS (.tmp 8)), none⟩,
     ⟨(some 10), .op (.bin .neq (.tmp 7) (.tmp 9)), none⟩])
   (.cond (.tmp 10) (.seq (.region [⟨(some 4), .op (.mov (.val (.bool false))), none⟩])
    (.ret))
   (.skip)))
  (.seq (.seq (.region [⟨(some 5), .op (.mov (.val (.int .i64 0))), none⟩])
   (.block 0 (.loop (.seq (.seq (.region [⟨(some 11), .op (.mov (.tmp 5)), none⟩,
        ⟨(some 12), .op (.mov (.tmp 0)), none⟩,
        ⟨(some 13), .op (.lenS (.tmp 12)), none⟩,
        ⟨(some 14), .op (.bin .lss (.tmp 11) (.tmp 13)), none⟩])
      (.cond (.tmp 14) (.skip)
      (.exit 0)))
     (.seq (.block 1 (.seq (.region [⟨(some 17), .op (.mov (.tmp 0)), none⟩,
         ⟨(some 18), .op (.mov (.tmp 5)), none⟩,
         ⟨(some 19), .op (.idxS 2 (.tmp 17) (.tmp 18)), none⟩,
         ⟨(some 20), .op (.load (some 2) (.tmp 19)), none⟩,
         ⟨(some 21), .op (.mov (.tmp 1)), none⟩,
         ⟨(some 22), .op (.mov (.tmp 5)), none⟩,
         ⟨(some 23), .op (.idxS 2 (.tmp 21) (.tmp 22)), none⟩,
         ⟨(some 24), .op (.load (some 2) (.tmp 23)), none⟩,
         ⟨(some 25), .op (.eql true (.flat [.int, .int]) (.tmp 20) (.tmp 24)), none⟩])
       (.cond (.tmp 25) (.seq (.region [⟨(some 4), .op (.mov (.val (.bool false))), none⟩])
        (.ret))
       (.skip))))
     (.region [⟨(some 15), .op (.mov (.tmp 5)), none⟩,
      ⟨(some 16), .op (.bin .add (.tmp 15) (.val (.int .i64 1))), none⟩,
      ⟨(some 5), .op (.mov (.tmp 16)), none⟩]))))))
  (.seq (.region [⟨(some 4), .op (.mov (.val (.bool true))), none⟩])
  (.ret)))),
  [.tmp 4], none, none⟩
def A29 : AFun := ⟨.seq (.region [⟨(some 2), .op (.mov (.val .nils)), none⟩])
  (.seq (.region [⟨(some 3), .op (.mov (.val .nils)), none⟩])
  (.seq (.seq (.region [⟨(some 4), .op (.mov (.val (.int .i64 0))), none⟩])
   (.block 0 (.loop (.seq (.seq (.region [⟨(some 6), .op (.mov (.tmp 4)), none⟩,
        ⟨(some 7), .op (.mov (.tmp 0)), none⟩,
        ⟨(some 8), .op (.nilCheck (.tmp 7)), none⟩,
        ⟨(some 9), .op (.fieldAddr 0 (.tmp 8)), none⟩,
        ⟨(some 10), .op (.load none (.tmp 9)), none⟩,
        ⟨(some 11), .op (.lenS (.tmp 10)), none⟩,
        ⟨(some 12), .op (.bin .lss (.tmp 6) (.tmp 11)), none⟩])
      (.cond (.tmp 12) (.skip)
      (.exit 0)))
     (.seq (.block 1 (.seq (.region [⟨(some 15), .op (.mov (.tmp 0)), none⟩,
         ⟨(some 16), .op (.mov (.tmp 4)), none⟩,
         ⟨(some 17), .call (.fnv 62) [(.tmp 15), (.tmp 16)], none⟩,
         ⟨(some 5), .op (.mov (.tmp 17)), none⟩])
       (.seq (.region [⟨(some 18), .op (.mov (.tmp 5)), none⟩,
         ⟨(some 19), .op (.bin .gtr (.tmp 18) (.val (.int .i64 0))), none⟩])
       (.cond (.tmp 19) (.seq (.region [⟨(some 20), .op (.mov (.tmp 3)), none⟩,
          ⟨(some 21), .op (.mov (.tmp 4)), none⟩,
          ⟨(some 22), .op (.mov (.tmp 5)), none⟩,
          ⟨(some 23), .op (.build [(.int .i64 0), (.int .i64 0)] [(0, 1, (.tmp 21)), (1, 1, (.tmp 22))]), none⟩,
          ⟨(some 24), .op (.buildSlice 2 1 [(.int .i64 0), (.int .i64 0)] [(0, (.tmp 23))]), none⟩,
          ⟨(some 25), .op (.append 2 16 (.tmp 20) (.tmp 24)), none⟩,
          ⟨(some 3), .op (.mov (.tmp 25)), none⟩])
        (.region [⟨(some 26), .op (.mov (.tmp 4)), none⟩,
         ⟨(some 27), .op (.mov (.tmp 5)), none⟩,
         ⟨(some 28), .op (.bin .add (.tmp 26) (.tmp 27)), none⟩,
         ⟨(some 4), .op (.mov (.tmp 28)), none⟩]))
       (.skip)))))
     (.region [⟨(some 13), .op (.mov (.tmp 4)), none⟩,
      ⟨(some 14), .op (.bin .add (.tmp 13) (.val (.int .i64 1))), none⟩,
      ⟨(some 4), .op (.mov (.tmp 14)), none⟩]))))))
  (.seq (.region [⟨(some 29), .op (.mov (.tmp 3)), none⟩,
    ⟨(some 2), .op (.mov (.tmp 29)), none⟩])
  (.ret)))),
  [.tmp 2], none, none⟩
def A30 : AFun := ⟨.seq (.region [⟨(some 2), .op (.mov (.val .nilp)), none⟩,
    ⟨(some 3), .op (.mov (.val (.int .i64 0))), none⟩])
  (.seq (.region [⟨(some 7), .op (.mov (.tmp 0)), none⟩,
    ⟨(some 8), .call (.fnv 15) [(.tmp 7)], none⟩,
    ⟨(some 6), .op (.mov (.tmp 8)), none⟩,
    ⟨(some 9), .op (.extract (.tmp 6) 0), none⟩,
    ⟨(some 10), .op (.extract (.tmp 6) 1), none⟩,
    ⟨(some 4), .op (.mov (.tmp 9)), none⟩,
    ⟨(some 5), .op (.mov (.tmp 10)), none⟩])
  (.seq (.seq (.region [⟨(some 11), .op (.mov (.tmp 5)), none⟩,
     ⟨(some 12), .op (.bin .neq (.tmp 11) (.val (.int .i64 0))), none⟩])
   (.cond (.tmp 12) (.seq (.region [⟨(some 13), .op (.mov (.tmp 5)), none⟩,
      ⟨(some 2), .op (.mov (.val .nilp)), none⟩,
      ⟨(some 3), .op (.mov (.tmp 13)), none⟩])
    (.ret))
   (.skip)))
  (.seq (.draw [⟨⟨(some 14), .op (.mov (.tmp 4)), none⟩, .pure⟩,
    ⟨⟨(some 15), .op (.mov (.tmp 0)), none⟩, .pure⟩,
    ⟨⟨(some 16), .op (.mkSlice 3 24 [(.int .i64 0), (.int .i64 0), (.int .i64 0)] (.tmp 15)), none⟩, .act false⟩,
    ⟨⟨(some 17), .op (.mov (.tmp 0)), none⟩, .pure⟩,
    ⟨⟨(some 18), .op (.mkSlice 1 8 [(.int .i64 0)] (.tmp 17)), none⟩, .act true⟩,
    ⟨⟨(some 19), .op (.build [.nilp, .nils, .nils] [(0, 1, (.tmp 14)), (1, 1, (.tmp 16)), (2, 1, (.tmp 18))]), none⟩, .pure⟩,
    ⟨⟨(some 20), .op (.box (.tmp 19)), none⟩, .act true⟩,
    ⟨⟨(some 2), .op (.mov (.tmp 20)), none⟩, .pure⟩,
    ⟨⟨(some 3), .op (.mov (.val (.int .i64 0))), none⟩, .pure⟩])
  (.ret)))),
  [.tmp 2, .tmp 3], none, none⟩
def A31 : AFun := ⟨.seq (.region [⟨(some 6), .op (.alloc [(.int .i64 0), (.int .i64 0), (.int .i64 0)]), none⟩,
    ⟨(some 7), .op (.mov (.val (.int .i64 0))), none⟩])
  (.seq (.seq (.region [⟨(some 12), .op (.mov (.tmp 0)), none⟩,
     ⟨(some 13), .op (.eql false .ptr (.tmp 12) (.val .nilp)), none⟩])
   (.cond (.tmp 13) (.seq (.region [⟨(some 14), .op (.build [(.int .i64 0), (.int .i64 0), (.int .i64 0)] []), none⟩,
      ⟨none, .op (.store 3 (.tmp 6) (.tmp 14)), none⟩,
      ⟨(some 7), .op (.mov (.val (.int .i64 5))), none⟩])
    (.ret))
   (.skip)))
  (.seq (.region [⟨(some 16), .op (.mov (.tmp 0)), none⟩,
    ⟨(some 17), .op (.nilCheck (.tmp 16)), none⟩,
    ⟨(some 18), .op (.fieldAddr 0 (.tmp 17)), none⟩,
    ⟨(some 19), .op (.load none (.tmp 18)), none⟩,
    ⟨(some 20), .op (.mov (.tmp 1)), none⟩,
    ⟨(some 21), .call (.fnv 20) [(.tmp 19), (.tmp 20)], none⟩,
    ⟨(some 15), .op (.mov (.tmp 21)), none⟩,
    ⟨(some 22), .op (.extract (.tmp 15) 0), none⟩,
    ⟨(some 23), .op (.extract (.tmp 15) 1), none⟩,
    ⟨(some 8), .op (.mov (.tmp 22)), none⟩,
    ⟨(some 9), .op (.mov (.tmp 23)), none⟩])
  (.seq (.seq (.region [⟨(some 24), .op (.mov (.tmp 9)), none⟩,
     ⟨(some 25), .op (.bin .neq (.tmp 24) (.val (.int .i64 0))), none⟩])
   (.cond (.tmp 25) (.seq (.region [⟨(some 26), .op (.build [(.int .i64 0), (.int .i64 0), (.int .i64 0)] []), none⟩,
      ⟨(some 27), .op (.mov (.tmp 9)), none⟩,
      ⟨none, .op (.store 3 (.tmp 6) (.tmp 26)), none⟩,
      ⟨(some 7), .op (.mov (.tmp 27)), none⟩])
    (.ret))
   (.skip)))
  (.seq (.region [⟨(some 28), .op (.mov (.tmp 8)), none⟩,
    ⟨(some 29), .op (.mov (.tmp 1)), none⟩,
    ⟨(some 30), .op (.mov (.tmp 2)), none⟩,
    ⟨(some 31), .op (.build [(.int .i64 0), (.int .i64 0), (.int .i64 0)] [(0, 1, (.tmp 28)), (1, 1, (.tmp 29)), (2, 1, (.tmp 30))]), none⟩,
    ⟨(some 10), .op (.alloc [(.int .i64 0), (.int .i64 0), (.int .i64 0)]), none⟩,
    ⟨none, .op (.store 3 (.tmp 10) (.tmp 31)), none⟩])
  (.seq (.draw [⟨⟨(some 32), .op (.mov (.tmp 0)), none⟩, .pure⟩,
    ⟨⟨(some 33), .op (.nilCheck (.tmp 32)), none⟩, .pure⟩,
    ⟨⟨(some 34), .op (.fieldAddr 1 (.tmp 33)), none⟩, .pure⟩,
    ⟨⟨(some 35), .op (.load none (.tmp 34)), none⟩, .read []⟩,
    ⟨⟨(some 36), .op (.mov (.tmp 8)), none⟩, .pure⟩,
    ⟨⟨(some 37), .op (.load (some 3) (.tmp 10)), none⟩, .read []⟩,
    ⟨⟨(some 38), .op (.idxS 3 (.tmp 35) (.tmp 36)), none⟩, .read []⟩,
    ⟨⟨none, .op (.store 3 (.tmp 38) (.tmp 37)), none⟩, .act true⟩])
  (.seq (.seq (.region [⟨(some 39), .op (.mov (.tmp 1)), none⟩,
     ⟨(some 40), .op (.mov (.val (.int .i64 0))), none⟩])
   (.block 0 (.loop (.seq (.region [⟨(some 41), .op (.bin .lss (.tmp 40) (.tmp 39)), none⟩])
     (.seq (.cond (.tmp 41) (.skip)
      (.exit 0))
     (.seq (.block 1 (.seq (.region [⟨(some 42), .op (.mov (.tmp 40)), none⟩,
         ⟨(some 11), .op (.mov (.tmp 42)), none⟩])
       (.region [⟨(some 43), .op (.mov (.tmp 0)), none⟩,
        ⟨(some 44), .op (.nilCheck (.tmp 43)), none⟩,
        ⟨(some 45), .op (.fieldAddr 2 (.tmp 44)), none⟩,
        ⟨(some 46), .op (.load none (.tmp 45)), none⟩,
        ⟨(some 47), .op (.mov (.tmp 8)), none⟩,
        ⟨(some 48), .op (.mov (.tmp 11)), none⟩,
        ⟨(some 49), .op (.bin .add (.tmp 47) (.tmp 48)), none⟩,
        ⟨(some 50), .op (.mov (.tmp 8)), none⟩,
        ⟨(some 51), .op (.idxS 1 (.tmp 46) (.tmp 49)), none⟩,
        ⟨none, .op (.store 1 (.tmp 51) (.tmp 50)), none⟩])))
     (.region [⟨(some 52), .op (.bin .add (.tmp 40) (.val (.int .i64 1))), none⟩,
      ⟨(some 40), .op (.mov (.tmp 52)), none⟩])))))))
  (.seq (.region [⟨(some 53), .op (.load (some 3) (.tmp 10)), none⟩,
    ⟨none, .op (.store 3 (.tmp 6) (.tmp 53)), none⟩,
    ⟨(some 7), .op (.mov (.val (.int .i64 0))), none⟩])
  (.ret)))))))),
  [.cell 6 (some 3), .tmp 7], none, none⟩
def A32 : AFun := ⟨.seq (.region [⟨(some 4), .op (.alloc [(.int .i64 0), (.int .i64 0), (.int .i64 0)]), none⟩,
    ⟨(some 5), .op (.mov (.val (.bool false))), none⟩])
  (.seq (.seq (.region [⟨(some 6), .op (.mov (.tmp 0)), none⟩,
     ⟨(some 7), .op (.eql false .ptr (.tmp 6) (.val .nilp)), none⟩,
     ⟨(some 8), .op (.mov (.tmp 7)), none⟩,
     ⟨(some 9), .op (.mov (.tmp 1)), (some (8, false))⟩,
     ⟨(some 10), .op (.bin .lss (.tmp 9) (.val (.int .i64 0))), (some (8, false))⟩,
     ⟨(some 11), .op (.pick (.tmp 8) (.val (.bool true)) (.tmp 10)), none⟩,
     ⟨(some 12), .op (.mov (.tmp 11)), none⟩,
     ⟨(some 13), .op (.mov (.tmp 1)), (some (12, false))⟩,
     ⟨(some 14), .op (.mov (.tmp 0)), (some (12, false))⟩,
     ⟨(some 15), .op (.nilCheck (.tmp 14)), (some (12, false))⟩,
     ⟨(some 16), .op (.fieldAddr 2 (.tmp 15)), (some (12, false))⟩,
     ⟨(some 17), .op (.load none (.tmp 16)), (some (12, false))⟩,
     ⟨(some 18), .op (.lenS (.tmp 17)), (some (12, false))⟩,
     ⟨(some 19), .op (.bin .geq (.tmp 13) (.tmp 18)), (some (12, false))⟩,
     ⟨(some 20), .op (.pick (.tmp 12) (.val (.bool true)) (.tmp 19)), none⟩,
     ⟨(some 21), .op (.mov (.tmp 20)), none⟩,
     ⟨(some 22), .op (.mov (.tmp 0)), (some (21, false))⟩,
     ⟨(some 23), .op (.nilCheck (.tmp 22)), (some (21, false))⟩,
     ⟨(some 24), .op (.fieldAddr 0 (.tmp 23)), (some (21, false))⟩,
     ⟨(some 25), .op (.load none (.tmp 24)), (some (21, false))⟩,
     ⟨(some 26), .op (.mov (.tmp 1)), (some (21, false))⟩,
     ⟨(some 27), .call (.fnv 19) [(.tmp 25), (.tmp 26)], (some (21, false))⟩,
     ⟨(some 28), .op (.un .not (.tmp 27)), (some (21, false))⟩,
     ⟨(some 29), .op (.pick (.tmp 21) (.val (.bool true)) (.tmp 28)), none⟩])
   (.cond (.tmp 29) (.seq (.region [⟨(some 30), .op (.build [(.int .i64 0), (.int .i64 0), (.int .i64 0)] []), none⟩,
      ⟨none, .op (.store 3 (.tmp 4) (.tmp 30)), none⟩,
      ⟨(some 5), .op (.mov (.val (.bool false))), none⟩])
    (.ret))
   (.skip)))
  (.seq (.draw [⟨⟨(some 31), .op (.mov (.tmp 0)), none⟩, .pure⟩,
    ⟨⟨(some 32), .op (.nilCheck (.tmp 31)), none⟩, .pure⟩,
    ⟨⟨(some 33), .op (.fieldAddr 1 (.tmp 32)), none⟩, .pure⟩,
    ⟨⟨(some 34), .op (.load none (.tmp 33)), none⟩, .read []⟩,
    ⟨⟨(some 35), .op (.mov (.tmp 0)), none⟩, .pure⟩,
    ⟨⟨(some 36), .op (.nilCheck (.tmp 35)), none⟩, .pure⟩,
    ⟨⟨(some 37), .op (.fieldAddr 2 (.tmp 36)), none⟩, .pure⟩,
    ⟨⟨(some 38), .op (.load none (.tmp 37)), none⟩, .read []⟩,
    ⟨⟨(some 39), .op (.mov (.tmp 1)), none⟩, .pure⟩,
    ⟨⟨(some 40), .op (.idxS 1 (.tmp 38) (.tmp 39)), none⟩, .read []⟩,
    ⟨⟨(some 41), .op (.load none (.tmp 40)), none⟩, .read []⟩,
    ⟨⟨(some 42), .op (.idxS 3 (.tmp 34) (.tmp 41)), none⟩, .read []⟩,
    ⟨⟨(some 43), .op (.load (some 3) (.tmp 42)), none⟩, .read []⟩,
    ⟨⟨none, .op (.store 3 (.tmp 4) (.tmp 43)), none⟩, .act true⟩,
    ⟨⟨(some 5), .op (.mov (.val (.bool true))), none⟩, .pure⟩])
  (.ret))),
  [.cell 4 (some 3), .tmp 5], none, none⟩
def A33 : AFun := ⟨.seq (.region [⟨(some 4), .op (.mov (.val (.int .i64 0))), none⟩])
  (.seq (.seq (.region [⟨(some 7), .op (.mov (.tmp 0)), none⟩,
     ⟨(some 8), .op (.eql false .ptr (.tmp 7) (.val .nilp)), none⟩])
   (.cond (.tmp 8) (.seq (.region [⟨(some 4), .op (.mov (.val (.int .i64 5))), none⟩])
    (.ret))
   (.skip)))
  (.seq (.region [⟨(some 10), .op (.mov (.tmp 0)), none⟩,
    ⟨(some 11), .op (.mov (.tmp 1)), none⟩,
    ⟨(some 12), .call (.fnv 32) [(.tmp 10), (.tmp 11)], none⟩,
    ⟨(some 9), .op (.mov (.tmp 12)), none⟩,
    ⟨(some 13), .op (.extract (.tmp 9) 0), none⟩,
    ⟨(some 14), .op (.extract (.tmp 9) 1), none⟩,
    ⟨(some 5), .op (.alloc [(.int .i64 0), (.int .i64 0), (.int .i64 0)]), none⟩,
    ⟨none, .op (.store 3 (.tmp 5) (.tmp 13)), none⟩,
    ⟨(some 6), .op (.mov (.tmp 14)), none⟩])
  (.seq (.seq (.region [⟨(some 15), .op (.mov (.tmp 6)), none⟩,
     ⟨(some 16), .op (.un .not (.tmp 15)), none⟩,
     ⟨(some 17), .op (.mov (.tmp 16)), none⟩,
     ⟨(some 18), .op (.fieldAddr 0 (.tmp 5)), (some (17, false))⟩,
     ⟨(some 19), .op (.load none (.tmp 18)), (some (17, false))⟩,
     ⟨(some 20), .op (.mov (.tmp 1)), (some (17, false))⟩,
     ⟨(some 21), .op (.bin .neq (.tmp 19) (.tmp 20)), (some (17, false))⟩,
     ⟨(some 22), .op (.pick (.tmp 17) (.val (.bool true)) (.tmp 21)), none⟩])
   (.cond (.tmp 22) (.seq (.region [⟨(some 4), .op (.mov (.val (.int .i64 4))), none⟩])
    (.ret))
   (.skip)))
  (.seq (.region [⟨(some 23), .op (.mov (.tmp 0)), none⟩,
    ⟨(some 24), .op (.nilCheck (.tmp 23)), none⟩,
    ⟨(some 25), .op (.fieldAddr 1 (.tmp 24)), none⟩,
    ⟨(some 26), .op (.load none (.tmp 25)), none⟩,
    ⟨(some 27), .op (.mov (.tmp 1)), none⟩,
    ⟨(some 28), .op (.build [(.int .i64 0), (.int .i64 0), (.int .i64 0)] []), none⟩,
    ⟨(some 29), .op (.idxS 3 (.tmp 26) (.tmp 27)), none⟩,
    ⟨none, .op (.store 3 (.tmp 29) (.tmp 28)), none⟩])
  (.seq (.draw [⟨⟨(some 30), .op (.mov (.tmp 0)), none⟩, .pure⟩,
    ⟨⟨(some 31), .op (.nilCheck (.tmp 30)), none⟩, .pure⟩,
    ⟨⟨(some 32), .op (.fieldAddr 0 (.tmp 31)), none⟩, .pure⟩,
    ⟨⟨(some 33), .op (.load none (.tmp 32)), none⟩, .read []⟩,
    ⟨⟨(some 34), .op (.mov (.tmp 1)), none⟩, .pure⟩,
    ⟨⟨(some 35), .op (.fieldAddr 1 (.tmp 5)), none⟩, .pure⟩,
    ⟨⟨(some 36), .op (.load none (.tmp 35)), none⟩, .read []⟩,
    ⟨⟨(some 37), .call (.fnv 18) [(.tmp 33), (.tmp 34), (.tmp 36)], none⟩, .act true⟩,
    ⟨⟨(some 4), .op (.mov (.tmp 37)), none⟩, .pure⟩])
  (.ret)))))),
  [.tmp 4], none, none⟩
def A34 : AFun := ⟨.seq (.region [⟨(some 3), .op (.box (.tmp 1)), none⟩,
    ⟨(some 4), .op (.mov (.val .nils)), none⟩,
    ⟨(some 5), .op (.mov (.val (.bool false))), none⟩])
  (.seq (.region [⟨(some 6), .op (.alloc [.nils]), none⟩])
  (.seq (.region [⟨(some 9), .op (.mov (.tmp 0)), none⟩,
    ⟨(some 10), .call (.fnv 64) [(.tmp 9)], none⟩,
    ⟨(some 7), .op (.mov (.tmp 10)), none⟩])
  (.seq (.seq (.region [⟨(some 11), .op (.mov (.tmp 7)), none⟩,
     ⟨(some 12), .op (.eql false .func (.tmp 11) (.val .nilf)), none⟩,
     ⟨(some 13), .op (.mov (.tmp 12)), none⟩,
     ⟨(some 14), .op (.load none (.tmp 3)), (some (13, false))⟩,
     ⟨(some 15), .op (.bin .eql (.tmp 14) (.val (.int .i64 0))), (some (13, false))⟩,
     ⟨(some 16), .op (.pick (.tmp 13) (.val (.bool true)) (.tmp 15)), none⟩])
   (.cond (.tmp 16) (.seq (.region [⟨(some 17), .op (.mov (.tmp 7)), none⟩,
      ⟨(some 18), .op (.eql true .func (.tmp 17) (.val .nilf)), none⟩,
      ⟨(some 4), .op (.mov (.val .nils)), none⟩,
      ⟨(some 5), .op (.mov (.tmp 18)), none⟩])
    (.ret))
   (.skip)))
  (.seq (.seq (.region [⟨(some 19), .op (.mov (.tmp 7)), none⟩])
   (.block 0 (.range (.tmp 19) [20] (.region [⟨(some 8), .op (.alloc [(.int .i64 0), (.int .i64 0), (.int .i64 0)]), none⟩,
      ⟨none, .op (.store 3 (.tmp 8) (.tmp 20)), none⟩])
    (.block 1 (.seq (.region [⟨(some 21), .op (.load none (.tmp 6)), none⟩,
        ⟨(some 22), .op (.load (some 3) (.tmp 8)), none⟩,
        ⟨(some 23), .op (.buildSlice 3 1 [(.int .i64 0), (.int .i64 0), (.int .i64 0)] [(0, (.tmp 22))]), none⟩,
        ⟨(some 24), .op (.append 3 24 (.tmp 21) (.tmp 23)), none⟩,
        ⟨none, .op (.store 1 (.tmp 6) (.tmp 24)), none⟩])
      (.seq (.region [⟨(some 25), .op (.load none (.tmp 6)), none⟩,
        ⟨(some 26), .op (.lenS (.tmp 25)), none⟩,
        ⟨(some 27), .op (.load none (.tmp 3)), none⟩,
        ⟨(some 28), .op (.bin .eql (.tmp 26) (.tmp 27)), none⟩,
        ⟨(some 29), .op (.mov (.tmp 28)), none⟩,
        ⟨(some 30), .op (.load none (.tmp 6)), (some (29, false))⟩,
        ⟨(some 31), .op (.lenS (.tmp 30)), (some (29, false))⟩,
        ⟨(some 32), .op (.bin .gtr (.tmp 31) (.val (.int .i64 5000))), (some (29, false))⟩,
        ⟨(some 33), .op (.pick (.tmp 29) (.val (.bool true)) (.tmp 32)), none⟩])
      (.cond (.tmp 33) (.exit 0)
      (.skip))))))))
  (.seq (.region [⟨(some 34), .op (.load none (.tmp 6)), none⟩,
    ⟨(some 4), .op (.mov (.tmp 34)), none⟩,
    ⟨(some 5), .op (.mov (.val (.bool true))), none⟩])
  (.ret)))))),
  [.tmp 4, .tmp 5], none, none⟩
def A35 : AFun := ⟨.seq (.region [⟨(some 0), .op (.mov (.val (.bool false))), none⟩])
  (.seq (.region [⟨(some 8), .call (.fnv 30) [(.val (.int .i64 8))], none⟩,
    ⟨(some 7), .op (.mov (.tmp 8)), none⟩,
    ⟨(some 9), .op (.extract (.tmp 7) 0), none⟩,
    ⟨(some 10), .op (.extract (.tmp 7) 1), none⟩,
    ⟨(some 1), .op (.mov (.tmp 9)), none⟩,
    ⟨(some 2), .op (.mov (.tmp 10)), none⟩])
  (.seq (.seq (.region [⟨(some 11), .op (.mov (.tmp 1)), none⟩,
     ⟨(some 12), .op (.eql false .ptr (.tmp 11) (.val .nilp)), none⟩,
     ⟨(some 13), .op (.mov (.tmp 12)), none⟩,
     ⟨(some 14), .op (.mov (.tmp 2)), (some (13, false))⟩,
     ⟨(some 15), .op (.bin .neq (.tmp 14) (.val (.int .i64 0))), (some (13, false))⟩,
     ⟨(some 16), .op (.pick (.tmp 13) (.val (.bool true)) (.tmp 15)), none⟩])
   (.cond (.tmp 16) (.seq (.region [⟨(some 0), .op (.mov (.val (.bool false))), none⟩])
    (.ret))
   (.skip)))
  (.seq (.region [⟨(some 18), .op (.mov (.tmp 1)), none⟩,
    ⟨(some 19), .call (.fnv 31) [(.tmp 18), (.val (.int .i64 3)), (.val (.int .i64 7))], none⟩,
    ⟨(some 17), .op (.mov (.tmp 19)), none⟩,
    ⟨(some 20), .op (.extract (.tmp 17) 0), none⟩,
    ⟨(some 21), .op (.extract (.tmp 17) 1), none⟩,
    ⟨(some 3), .op (.alloc [(.int .i64 0), (.int .i64 0), (.int .i64 0)]), none⟩,
    ⟨none, .op (.store 3 (.tmp 3) (.tmp 20)), none⟩,
    ⟨(some 4), .op (.mov (.tmp 21)), none⟩])
  (.seq (.region [⟨(some 23), .op (.mov (.tmp 1)), none⟩,
    ⟨(some 24), .call (.fnv 32) [(.tmp 23), (.val (.int .i64 2))], none⟩,
    ⟨(some 22), .op (.mov (.tmp 24)), none⟩,
    ⟨(some 25), .op (.extract (.tmp 22) 0), none⟩,
    ⟨(some 26), .op (.extract (.tmp 22) 1), none⟩,
    ⟨(some 5), .op (.alloc [(.int .i64 0), (.int .i64 0), (.int .i64 0)]), none⟩,
    ⟨none, .op (.store 3 (.tmp 5) (.tmp 25)), none⟩,
    ⟨(some 6), .op (.mov (.tmp 26)), none⟩])
  (.seq (.region [⟨(some 27), .op (.mov (.tmp 4)), none⟩,
    ⟨(some 28), .op (.bin .eql (.tmp 27) (.val (.int .i64 0))), none⟩,
    ⟨(some 29), .op (.mov (.tmp 28)), none⟩,
    ⟨(some 30), .op (.load (some 3) (.tmp 3)), (some (29, true))⟩,
    ⟨(some 31), .op (.build [(.int .i64 0), (.int .i64 0), (.int .i64 0)] [(1, 1, (.val (.int .i64 3))), (2, 1, (.val (.int .i64 7)))]), (some (29, true))⟩,
    ⟨(some 32), .op (.eql false (.flat [.int, .int, .int]) (.tmp 30) (.tmp 31)), (some (29, true))⟩,
    ⟨(some 33), .op (.pick (.tmp 29) (.tmp 32) (.val (.bool false))), none⟩,
    ⟨(some 34), .op (.mov (.tmp 33)), none⟩,
    ⟨(some 35), .op (.mov (.tmp 6)), (some (34, true))⟩,
    ⟨(some 36), .op (.pick (.tmp 34) (.tmp 35) (.val (.bool false))), none⟩,
    ⟨(some 37), .op (.mov (.tmp 36)), none⟩,
    ⟨(some 38), .op (.load (some 3) (.tmp 5)), (some (37, true))⟩,
    ⟨(some 39), .op (.load (some 3) (.tmp 3)), (some (37, true))⟩,
    ⟨(some 40), .op (.eql false (.flat [.int, .int, .int]) (.tmp 38) (.tmp 39)), (some (37, true))⟩,
    ⟨(some 41), .op (.pick (.tmp 37) (.tmp 40) (.val (.bool false))), none⟩,
    ⟨(some 42), .op (.mov (.tmp 41)), none⟩,
    ⟨(some 43), .op (.mov (.tmp 1)), (some (42, true))⟩,
    ⟨(some 44), .call (.fnv 33) [(.tmp 43), (.val (.int .i64 1))], (some (42, true))⟩,
    ⟨(some 45), .op (.bin .eql (.tmp 44) (.val (.int .i64 4))), (some (42, true))⟩,
    ⟨(some 46), .op (.pick (.tmp 42) (.tmp 45) (.val (.bool false))), none⟩,
    ⟨(some 47), .op (.mov (.tmp 46)), none⟩,
    ⟨(some 48), .op (.mov (.tmp 1)), (some (47, true))⟩,
    ⟨(some 49), .call (.fnv 33) [(.tmp 48), (.val (.int .i64 0))], (some (47, true))⟩,
    ⟨(some 50), .op (.bin .eql (.tmp 49) (.val (.int .i64 0))), (some (47, true))⟩,
    ⟨(some 51), .op (.pick (.tmp 47) (.tmp 50) (.val (.bool false))), none⟩,
    ⟨(some 0), .op (.mov (.tmp 51)), none⟩])
  (.ret)))))),
  [.tmp 0], none, none⟩
def A36 : AFun := ⟨.seq (.region [⟨(some 4), .op (.mov (.val (.bool false))), none⟩])
  (.seq (.seq (.region [⟨(some 6), .op (.mov (.tmp 0)), none⟩,
     ⟨(some 7), .op (.lenS (.tmp 6)), none⟩,
     ⟨(some 8), .op (.mov (.tmp 1)), none⟩,
     ⟨(some 9), .op (.lenS (.tmp 8)), none⟩,
     ⟨(some 10), .op (.bin .neq (.tmp 7) (.tmp 9)), none⟩])
   (.cond (.tmp 10) (.seq (.region [⟨(some 4), .op (.mov (.val (.bool false))), none⟩])
    (.ret))
   (.skip)))
  (.seq (.seq (.region [⟨(some 5), .op (.mov (.val (.int .i64 0))), none⟩])
   (.block 0 (.loop (.seq (.seq (.region [⟨(some 11), .op (.mov (.tmp 5)), none⟩,
        ⟨(some 12), .op (.mov (.tmp 0)), none⟩,
        ⟨(some 13), .op (.lenS (.tmp 12)), none⟩,
        ⟨(some 14), .op (.bin .lss (.tmp 11) (.tmp 13)), none⟩])
      (.cond (.tmp 14) (.skip)
      (.exit 0)))
     (.seq (.block 1 (.seq (.region [⟨(some 17), .op (.mov (.tmp 0)), none⟩,
         ⟨(some 18), .op (.mov (.tmp 5)), none⟩,
         ⟨(some 19), .op (.idxS 3 (.tmp 17) (.tmp 18)), none⟩,
         ⟨(some 20), .op (.load (some 3) (.tmp 19)), none⟩,
         ⟨(some 21), .op (.mov (.tmp 1)), none⟩,
         ⟨(some 22), .op (.mov (.tmp 5)), none⟩,
         ⟨(some 23), .op (.idxS 3 (.tmp 21) (.tmp 22)), none⟩,
         ⟨(some 24), .op (.load (some 3) (.tmp 23)), none⟩,
         ⟨(some 25), .op (.eql true (.flat [.int, .int, .int]) (.tmp 20) (.tmp 24)), none⟩])
       (.cond (.tmp 25) (.seq (.region [⟨(some 4), .op (.mov (.val (.bool false))), none⟩])
        (.ret))
       (.skip))))
     (.region [⟨(some 15), .op (.mov (.tmp 5)), none⟩,
      ⟨(some 16), .op (.bin .add (.tmp 15) (.val (.int .i64 1))), none⟩,
      ⟨(some 5), .op (.mov (.tmp 16)), none⟩]))))))
  (.seq (.region [⟨(some 4), .op (.mov (.val (.bool true))), none⟩])
  (.ret)))),
  [.tmp 4], none, none⟩
def A37 : AFun := ⟨.seq (.region [⟨(some 2), .op (.mov (.val .nilp)), none⟩,
    ⟨(some 3), .op (.mov (.val (.int .i64 0))), none⟩])
  (.seq (.region [⟨(some 7), .op (.mov (.tmp 0)), none⟩,
    ⟨(some 8), .call (.fnv 22) [(.tmp 7)], none⟩,
    ⟨(some 6), .op (.mov (.tmp 8)), none⟩,
    ⟨(some 9), .op (.extract (.tmp 6) 0), none⟩,
    ⟨(some 10), .op (.extract (.tmp 6) 1), none⟩,
    ⟨(some 4), .op (.mov (.tmp 9)), none⟩,
    ⟨(some 5), .op (.mov (.tmp 10)), none⟩])
  (.seq (.seq (.region [⟨(some 11), .op (.mov (.tmp 5)), none⟩,
     ⟨(some 12), .op (.bin .neq (.tmp 11) (.val (.int .i64 0))), none⟩])
   (.cond (.tmp 12) (.seq (.region [⟨(some 13), .op (.mov (.tmp 5)), none⟩,
      ⟨(some 2), .op (.mov (.val .nilp)), none⟩,
      ⟨(some 3), .op (.mov (.tmp 13)), none⟩])
    (.ret))
   (.skip)))
  (.seq (.region [⟨(some 14), .op (.mov (.tmp 4)), none⟩,
    ⟨(some 15), .op (.build [.nilp, .nils] [(0, 1, (.tmp 14))]), none⟩,
    ⟨(some 16), .op (.box (.tmp 15)), none⟩,
    ⟨(some 2), .op (.mov (.tmp 16)), none⟩,
    ⟨(some 3), .op (.mov (.val (.int .i64 0))), none⟩])
  (.ret)))),
  [.tmp 2, .tmp 3], none, none⟩
def A38 : AFun := ⟨.seq (.region [⟨(some 6), .op (.alloc [(.int .i64 0), (.int .i64 0), (.int .i64 0)]), none⟩,
    ⟨(some 7), .op (.mov (.val (.int .i64 0))), none⟩])
  (.seq (.region [⟨(some 15), .op (.mov (.tmp 0)), none⟩,
    ⟨(some 16), .op (.nilCheck (.tmp 15)), none⟩,
    ⟨(some 17), .op (.fieldAddr 0 (.tmp 16)), none⟩,
    ⟨(some 18), .op (.load none (.tmp 17)), none⟩,
    ⟨(some 19), .op (.mov (.tmp 1)), none⟩,
    ⟨(some 20), .call (.fnv 23) [(.tmp 18), (.tmp 19)], none⟩,
    ⟨(some 14), .op (.mov (.tmp 20)), none⟩,
    ⟨(some 21), .op (.extract (.tmp 14) 0), none⟩,
    ⟨(some 22), .op (.extract (.tmp 14) 1), none⟩,
    ⟨(some 8), .op (.mov (.tmp 21)), none⟩,
    ⟨(some 9), .op (.mov (.tmp 22)), none⟩])
  (.seq (.seq (.region [⟨(some 23), .op (.mov (.tmp 9)), none⟩,
     ⟨(some 24), .op (.bin .neq (.tmp 23) (.val (.int .i64 0))), none⟩])
   (.cond (.tmp 24) (.seq (.region [⟨(some 25), .op (.build [(.int .i64 0), (.int .i64 0), (.int .i64 0)] []), none⟩,
      ⟨(some 26), .op (.mov (.tmp 9)), none⟩,
      ⟨none, .op (.store 3 (.tmp 6) (.tmp 25)), none⟩,
      ⟨(some 7), .op (.mov (.tmp 26)), none⟩])
    (.ret))
   (.skip)))
  (.seq (.region [⟨(some 27), .op (.mov (.tmp 8)), none⟩,
    ⟨(some 28), .op (.mov (.tmp 1)), none⟩,
    ⟨(some 29), .op (.mov (.tmp 2)), none⟩,
    ⟨(some 30), .op (.build [(.int .i64 0), (.int .i64 0), (.int .i64 0)] [(0, 1, (.tmp 27)), (1, 1, (.tmp 28)), (2, 1, (.tmp 29))]), none⟩,
    ⟨(some 10), .op (.alloc [(.int .i64 0), (.int .i64 0), (.int .i64 0)]), none⟩,
    ⟨none, .op (.store 3 (.tmp 10) (.tmp 30)), none⟩])
  (.seq (.region [⟨(some 11), .op (.mov (.val .nils)), none⟩])
  (.seq (.region [⟨(some 12), .op (.mov (.val (.bool false))), none⟩])
  (.seq (.seq (.region [⟨(some 13), .op (.mov (.val (.int .i64 0))), none⟩])
   (.block 0 (.loop (.seq (.seq (.region [⟨(some 31), .op (.mov (.tmp 13)), none⟩,
        ⟨(some 32), .op (.mov (.tmp 0)), none⟩,
        ⟨(some 33), .op (.nilCheck (.tmp 32)), none⟩,
        ⟨(some 34), .op (.fieldAddr 1 (.tmp 33)), none⟩,
        ⟨(some 35), .op (.load none (.tmp 34)), none⟩,
        ⟨(some 36), .op (.lenS (.tmp 35)), none⟩,
        ⟨(some 37), .op (.bin .lss (.tmp 31) (.tmp 36)), none⟩])
      (.cond (.tmp 37) (.skip)
      (.exit 0)))
     (.seq (.block 1 (.seq (.seq (.region [⟨(some 40), .op (.mov (.tmp 12)), none⟩,
          ⟨(some 41), .op (.un .not (.tmp 40)), none⟩,
          ⟨(some 42), .op (.mov (.tmp 41)), none⟩,
          ⟨(some 43), .op (.mov (.tmp 0)), (some (42, true))⟩,
          ⟨(some 44), .op (.nilCheck (.tmp 43)), (some (42, true))⟩,
          ⟨(some 45), .op (.fieldAddr 1 (.tmp 44)), (some (42, true))⟩,
          ⟨(some 46), .op (.load none (.tmp 45)), (some (42, true))⟩,
          ⟨(some 47), .op (.mov (.tmp 13)), (some (42, true))⟩,
          ⟨(some 48), .op (.idxS 3 (.tmp 46) (.tmp 47)), (some (42, true))⟩,
          ⟨(some 49), .op (.fieldAddr 0 (.tmp 48)), (some (42, true))⟩,
          ⟨(some 50), .op (.load none (.tmp 49)), (some (42, true))⟩,
          ⟨(some 51), .op (.mov (.tmp 8)), (some (42, true))⟩,
          ⟨(some 52), .op (.bin .gtr (.tmp 50) (.tmp 51)), (some (42, true))⟩,
          ⟨(some 53), .op (.pick (.tmp 42) (.tmp 52) (.val (.bool false))), none⟩])
        (.cond (.tmp 53) (.seq (.region [⟨(some 54), .op (.mov (.tmp 11)), none⟩,
           ⟨(some 55), .op (.load (some 3) (.tmp 10)), none⟩,
           ⟨(some 56), .op (.buildSlice 3 1 [(.int .i64 0), (.int .i64 0), (.int .i64 0)] [(0, (.tmp 55))]), none⟩,
           ⟨(some 57), .op (.append 3 24 (.tmp 54) (.tmp 56)), none⟩,
           ⟨(some 11), .op (.mov (.tmp 57)), none⟩])
         (.region [⟨(some 12), .op (.mov (.val (.bool true))), none⟩]))
        (.skip)))
       (.region [⟨(some 58), .op (.mov (.tmp 11)), none⟩,
        ⟨(some 59), .op (.mov (.tmp 0)), none⟩,
        ⟨(some 60), .op (.nilCheck (.tmp 59)), none⟩,
        ⟨(some 61), .op (.fieldAddr 1 (.tmp 60)), none⟩,
        ⟨(some 62), .op (.load none (.tmp 61)), none⟩,
        ⟨(some 63), .op (.mov (.tmp 13)), none⟩,
        ⟨(some 64), .op (.idxS 3 (.tmp 62) (.tmp 63)), none⟩,
        ⟨(some 65), .op (.load (some 3) (.tmp 64)), none⟩,
        ⟨(some 66), .op (.buildSlice 3 1 [(.int .i64 0), (.int .i64 0), (.int .i64 0)] [(0, (.tmp 65))]), none⟩,
        ⟨(some 67), .op (.append 3 24 (.tmp 58) (.tmp 66)), none⟩,
        ⟨(some 11), .op (.mov (.tmp 67)), none⟩])))
     (.region [⟨(some 38), .op (.mov (.tmp 13)), none⟩,
      ⟨(some 39), .op (.bin .add (.tmp 38) (.val (.int .i64 1))), none⟩,
      ⟨(some 13), .op (.mov (.tmp 39)), none⟩]))))))
  (.seq (.seq (.region [⟨(some 68), .op (.mov (.tmp 12)), none⟩,
     ⟨(some 69), .op (.un .not (.tmp 68)), none⟩])
   (.cond (.tmp 69) (.region [⟨(some 70), .op (.mov (.tmp 11)), none⟩,
     ⟨(some 71), .op (.load (some 3) (.tmp 10)), none⟩,
     ⟨(some 72), .op (.buildSlice 3 1 [(.int .i64 0), (.int .i64 0), (.int .i64 0)] [(0, (.tmp 71))]), none⟩,
     ⟨(some 73), .op (.append 3 24 (.tmp 70) (.tmp 72)), none⟩,
     ⟨(some 11), .op (.mov (.tmp 73)), none⟩])
   (.skip)))
  (.seq (.region [⟨(some 74), .op (.mov (.tmp 0)), none⟩,
    ⟨(some 75), .op (.mov (.tmp 11)), none⟩,
    ⟨(some 76), .op (.nilCheck (.tmp 74)), none⟩,
    ⟨(some 77), .op (.fieldAddr 1 (.tmp 76)), none⟩,
    ⟨none, .op (.store 1 (.tmp 77) (.tmp 75)), none⟩])
  (.seq (.region [⟨(some 78), .op (.load (some 3) (.tmp 10)), none⟩,
    ⟨none, .op (.store 3 (.tmp 6) (.tmp 78)), none⟩,
    ⟨(some 7), .op (.mov (.val (.int .i64 0))), none⟩])
  (.ret)))))))))),
  [.cell 6 (some 3), .tmp 7], none, none⟩
def A39 : AFun := ⟨.seq (.region [⟨(some 4), .op (.mov (.val (.int .i64 0))), none⟩])
  (.seq (.region [⟨(some 5), .op (.mov (.val .nils)), none⟩])
  (.seq (.region [⟨(some 8), .op (.build [(.int .i64 0), (.int .i64 0), (.int .i64 0)] []), none⟩,
    ⟨(some 6), .op (.alloc [(.int .i64 0), (.int .i64 0), (.int .i64 0)]), none⟩,
    ⟨none, .op (.store 3 (.tmp 6) (.tmp 8)), none⟩])
  (.seq (.seq (.region [⟨(some 7), .op (.mov (.val (.int .i64 0))), none⟩])
   (.block 0 (.loop (.seq (.seq (.region [⟨(some 9), .op (.mov (.tmp 7)), none⟩,
        ⟨(some 10), .op (.mov (.tmp 0)), none⟩,
        ⟨(some 11), .op (.nilCheck (.tmp 10)), none⟩,
        ⟨(some 12), .op (.fieldAddr 1 (.tmp 11)), none⟩,
        ⟨(some 13), .op (.load none (.tmp 12)), none⟩,
        ⟨(some 14), .op (.lenS (.tmp 13)), none⟩,
        ⟨(some 15), .op (.bin .lss (.tmp 9) (.tmp 14)), none⟩])
      (.cond (.tmp 15) (.skip)
      (.exit 0)))
     (.seq (.block 1 (.seq (.region [⟨(some 18), .op (.mov (.tmp 0)), none⟩,
         ⟨(some 19), .op (.nilCheck (.tmp 18)), none⟩,
         ⟨(some 20), .op (.fieldAddr 1 (.tmp 19)), none⟩,
         ⟨(some 21), .op (.load none (.tmp 20)), none⟩,
         ⟨(some 22), .op (.mov (.tmp 7)), none⟩,
         ⟨(some 23), .op (.idxS 3 (.tmp 21) (.tmp 22)), none⟩,
         ⟨(some 24), .op (.fieldAddr 0 (.tmp 23)), none⟩,
         ⟨(some 25), .op (.load none (.tmp 24)), none⟩,
         ⟨(some 26), .op (.mov (.tmp 1)), none⟩,
         ⟨(some 27), .op (.bin .eql (.tmp 25) (.tmp 26)), none⟩])
       (.cond (.tmp 27) (.region [⟨(some 28), .op (.mov (.tmp 0)), none⟩,
         ⟨(some 29), .op (.nilCheck (.tmp 28)), none⟩,
         ⟨(some 30), .op (.fieldAddr 1 (.tmp 29)), none⟩,
         ⟨(some 31), .op (.load none (.tmp 30)), none⟩,
         ⟨(some 32), .op (.mov (.tmp 7)), none⟩,
         ⟨(some 33), .op (.idxS 3 (.tmp 31) (.tmp 32)), none⟩,
         ⟨(some 34), .op (.load (some 3) (.tmp 33)), none⟩,
         ⟨none, .op (.store 3 (.tmp 6) (.tmp 34)), none⟩])
       (.region [⟨(some 35), .op (.mov (.tmp 5)), none⟩,
        ⟨(some 36), .op (.mov (.tmp 0)), none⟩,
        ⟨(some 37), .op (.nilCheck (.tmp 36)), none⟩,
        ⟨(some 38), .op (.fieldAddr 1 (.tmp 37)), none⟩,
        ⟨(some 39), .op (.load none (.tmp 38)), none⟩,
        ⟨(some 40), .op (.mov (.tmp 7)), none⟩,
        ⟨(some 41), .op (.idxS 3 (.tmp 39) (.tmp 40)), none⟩,
        ⟨(some 42), .op (.load (some 3) (.tmp 41)), none⟩,
        ⟨(some 43), .op (.buildSlice 3 1 [(.int .i64 0), (.int .i64 0), (.int .i64 0)] [(0, (.tmp 42))]), none⟩,
        ⟨(some 44), .op (.append 3 24 (.tmp 35) (.tmp 43)), none⟩,
        ⟨(some 5), .op (.mov (.tmp 44)), none⟩]))))
     (.region [⟨(some 16), .op (.mov (.tmp 7)), none⟩,
      ⟨(some 17), .op (.bin .add (.tmp 16) (.val (.int .i64 1))), none⟩,
      ⟨(some 7), .op (.mov (.tmp 17)), none⟩]))))))
  (.seq (.seq (.region [⟨(some 45), .op (.fieldAddr 1 (.tmp 6)), none⟩,
     ⟨(some 46), .op (.load none (.tmp 45)), none⟩,
     ⟨(some 47), .op (.bin .eql (.tmp 46) (.val (.int .i64 0))), none⟩])
   (.cond (.tmp 47) (.seq (.region [⟨(some 4), .op (.mov (.val (.int .i64 4))), none⟩])
    (.ret))
   (.skip)))
  (.seq (.region [⟨(some 48), .op (.mov (.tmp 0)), none⟩,
    ⟨(some 49), .op (.mov (.tmp 5)), none⟩,
    ⟨(some 50), .op (.nilCheck (.tmp 48)), none⟩,
    ⟨(some 51), .op (.fieldAddr 1 (.tmp 50)), none⟩,
    ⟨none, .op (.store 1 (.tmp 51) (.tmp 49)), none⟩])
  (.seq (.draw [⟨⟨(some 52), .op (.mov (.tmp 0)), none⟩, .pure⟩,
    ⟨⟨(some 53), .op (.nilCheck (.tmp 52)), none⟩, .pure⟩,
    ⟨⟨(some 54), .op (.fieldAddr 0 (.tmp 53)), none⟩, .pure⟩,
    ⟨⟨(some 55), .op (.load none (.tmp 54)), none⟩, .read []⟩,
    ⟨⟨(some 56), .op (.mov (.tmp 1)), none⟩, .pure⟩,
    ⟨⟨(some 57), .op (.fieldAddr 1 (.tmp 6)), none⟩, .pure⟩,
    ⟨⟨(some 58), .op (.load none (.tmp 57)), none⟩, .read []⟩,
    ⟨⟨(some 59), .call (.fnv 24) [(.tmp 55), (.tmp 56), (.tmp 58), (.val (.bool false))], none⟩, .act true⟩])
  (.seq (.region [⟨(some 4), .op (.mov (.val (.int .i64 0))), none⟩])
  (.ret)))))))),
  [.tmp 4], none, none⟩
def A40 : AFun := ⟨.seq (.region [⟨(some 4), .op (.alloc [(.int .i64 0), (.int .i64 0), (.int .i64 0)]), none⟩,
    ⟨(some 5), .op (.mov (.val (.bool false))), none⟩])
  (.seq (.seq (.region [⟨(some 6), .op (.mov (.val (.int .i64 0))), none⟩])
   (.block 0 (.loop (.seq (.seq (.region [⟨(some 8), .op (.mov (.tmp 6)), none⟩,
        ⟨(some 9), .op (.mov (.tmp 0)), none⟩,
        ⟨(some 10), .op (.nilCheck (.tmp 9)), none⟩,
        ⟨(some 11), .op (.fieldAddr 1 (.tmp 10)), none⟩,
        ⟨(some 12), .op (.load none (.tmp 11)), none⟩,
        ⟨(some 13), .op (.lenS (.tmp 12)), none⟩,
        ⟨(some 14), .op (.bin .lss (.tmp 8) (.tmp 13)), none⟩])
      (.cond (.tmp 14) (.skip)
      (.exit 0)))
     (.seq (.block 1 (.seq (.region [⟨(some 17), .op (.mov (.tmp 0)), none⟩,
         ⟨(some 18), .op (.nilCheck (.tmp 17)), none⟩,
         ⟨(some 19), .op (.fieldAddr 1 (.tmp 18)), none⟩,
         ⟨(some 20), .op (.load none (.tmp 19)), none⟩,
         ⟨(some 21), .op (.mov (.tmp 6)), none⟩,
         ⟨(some 22), .op (.idxS 3 (.tmp 20) (.tmp 21)), none⟩,
         ⟨(some 23), .op (.load (some 3) (.tmp 22)), none⟩,
         ⟨(some 7), .op (.alloc [(.int .i64 0), (.int .i64 0), (.int .i64 0)]), none⟩,
         ⟨none, .op (.store 3 (.tmp 7) (.tmp 23)), none⟩])
       (.seq (.region [⟨(some 24), .op (.mov (.tmp 1)), none⟩,
         ⟨(some 25), .op (.fieldAddr 0 (.tmp 7)), none⟩,
         ⟨(some 26), .op (.load none (.tmp 25)), none⟩,
         ⟨(some 27), .op (.bin .geq (.tmp 24) (.tmp 26)), none⟩,
         ⟨(some 28), .op (.mov (.tmp 27)), none⟩,
         ⟨(some 29), .op (.mov (.tmp 1)), (some (28, true))⟩,
         ⟨(some 30), .op (.fieldAddr 0 (.tmp 7)), (some (28, true))⟩,
         ⟨(some 31), .op (.load none (.tmp 30)), (some (28, true))⟩,
         ⟨(some 32), .op (.bin .sub (.tmp 29) (.tmp 31)), (some (28, true))⟩,
         ⟨(some 33), .op (.fieldAddr 1 (.tmp 7)), (some (28, true))⟩,
         ⟨(some 34), .op (.load none (.tmp 33)), (some (28, true))⟩,
         ⟨(some 35), .op (.bin .lss (.tmp 32) (.tmp 34)), (some (28, true))⟩,
         ⟨(some 36), .op (.pick (.tmp 28) (.tmp 35) (.val (.bool false))), none⟩])
       (.cond (.tmp 36) (.seq (.region [⟨(some 37), .op (.load (some 3) (.tmp 7)), none⟩,
          ⟨none, .op (.store 3 (.tmp 4) (.tmp 37)), none⟩,
          ⟨(some 5), .op (.mov (.val (.bool true))), none⟩])
        (.ret))
       (.skip)))))
     (.region [⟨(some 15), .op (.mov (.tmp 6)), none⟩,
      ⟨(some 16), .op (.bin .add (.tmp 15) (.val (.int .i64 1))), none⟩,
      ⟨(some 6), .op (.mov (.tmp 16)), none⟩]))))))
  (.seq (.region [⟨(some 38), .op (.build [(.int .i64 0), (.int .i64 0), (.int .i64 0)] []), none⟩,
    ⟨none, .op (.store 3 (.tmp 4) (.tmp 38)), none⟩,
    ⟨(some 5), .op (.mov (.val (.bool false))), none⟩])
  (.ret))),
  [.cell 4 (some 3), .tmp 5], none, none⟩
def A41 : AFun := ⟨.seq (.region [⟨(some 2), .op (.mov (.val (.int .i64 0))), none⟩,
    ⟨(some 3), .op (.mov (.val (.int .i64 0))), none⟩])
  (.seq (.seq (.region [⟨(some 4), .op (.mov (.tmp 0)), none⟩,
     ⟨(some 5), .op (.eql false .ptr (.tmp 4) (.val .nilp)), none⟩])
   (.cond (.tmp 5) (.seq (.region [⟨(some 2), .op (.mov (.val (.int .i64 0))), none⟩,
      ⟨(some 3), .op (.mov (.val (.int .i64 0))), none⟩])
    (.ret))
   (.skip)))
  (.seq (.region [⟨(some 6), .op (.mov (.tmp 0)), none⟩,
    ⟨(some 7), .op (.nilCheck (.tmp 6)), none⟩,
    ⟨(some 8), .op (.fieldAddr 0 (.tmp 7)), none⟩,
    ⟨(some 9), .op (.load none (.tmp 8)), none⟩,
    ⟨(some 10), .call (.fnv 21) [(.tmp 9)], none⟩,
    ⟨(some 11), .op (.extract (.tmp 10) 0), none⟩,
    ⟨(some 12), .op (.extract (.tmp 10) 1), none⟩,
    ⟨(some 2), .op (.mov (.tmp 11)), none⟩,
    ⟨(some 3), .op (.mov (.tmp 12)), none⟩])
  (.ret))),
  [.tmp 2, .tmp 3], none, none⟩
def A57 : AFun := ⟨.seq (.draw [⟨⟨(some 8), .op (.mov (.tmp 0)), none⟩, .pure⟩,
    ⟨⟨(some 9), .op (.nilCheck (.tmp 8)), none⟩, .pure⟩,
    ⟨⟨(some 10), .op (.fieldAddr 2 (.tmp 9)), none⟩, .pure⟩,
    ⟨⟨(some 11), .op (.load none (.tmp 10)), none⟩, .read [16]⟩,
    ⟨⟨(some 12), .op (.idxS 1 (.tmp 11) (.val (.int .i64 0))), none⟩, .read [16]⟩,
    ⟨⟨(some 13), .op (.load none (.tmp 12)), none⟩, .read [16]⟩,
    ⟨⟨(some 14), .op (.mov (.tmp 1)), none⟩, .pure⟩,
    ⟨⟨(some 15), .op (.mov (.tmp 0)), none⟩, .pure⟩,
    ⟨⟨(some 16), .op (.nilCheck (.tmp 15)), none⟩, .pure⟩,
    ⟨⟨(some 17), .op (.fieldAddr 1 (.tmp 16)), none⟩, .pure⟩,
    ⟨⟨(some 18), .op (.load none (.tmp 17)), none⟩, .read []⟩,
    ⟨⟨(some 19), .op (.mov (.tmp 1)), none⟩, .pure⟩,
    ⟨⟨(some 20), .op (.idxS 1 (.tmp 18) (.tmp 19)), none⟩, .read []⟩,
    ⟨⟨(some 21), .op (.load none (.tmp 20)), none⟩, .read []⟩,
    ⟨⟨(some 22), .call (.fnv 80) [(.tmp 21)], none⟩, .act true⟩,
    ⟨⟨(some 23), .op (.idxS 4 (.tmp 13) (.tmp 14)), none⟩, .read []⟩,
    ⟨⟨none, .op (.store 4 (.tmp 23) (.tmp 22)), none⟩, .act true⟩])
  (.seq (.region [⟨(some 4), .op (.mov (.val (.int .i64 1))), none⟩])
  (.block 0 (.loop (.seq (.seq (.region [⟨(some 24), .op (.mov (.tmp 4)), none⟩,
       ⟨(some 25), .op (.mov (.tmp 0)), none⟩,
       ⟨(some 26), .op (.nilCheck (.tmp 25)), none⟩,
       ⟨(some 27), .op (.fieldAddr 2 (.tmp 26)), none⟩,
       ⟨(some 28), .op (.load none (.tmp 27)), none⟩,
       ⟨(some 29), .op (.lenS (.tmp 28)), none⟩,
       ⟨(some 30), .op (.bin .lss (.tmp 24) (.tmp 29)), none⟩])
     (.cond (.tmp 30) (.skip)
     (.exit 0)))
    (.seq (.block 1 (.seq (.region [⟨(some 33), .op (.mov (.tmp 1)), none⟩,
        ⟨(some 34), .op (.bin .quo (.tmp 33) (.val (.int .i64 8))), none⟩,
        ⟨(some 1), .op (.mov (.tmp 34)), none⟩])
      (.seq (.region [⟨(some 5), .op (.alloc [(.int .i64 0), (.int .i64 0), (.int .i64 0), (.int .i64 0)]), none⟩])
      (.seq (.seq (.region [⟨(some 35), .op (.mov (.tmp 0)), none⟩,
         ⟨(some 36), .op (.nilCheck (.tmp 35)), none⟩,
         ⟨(some 37), .op (.fieldAddr 2 (.tmp 36)), none⟩,
         ⟨(some 38), .op (.load none (.tmp 37)), none⟩,
         ⟨(some 39), .op (.mov (.tmp 4)), none⟩,
         ⟨(some 40), .op (.bin .sub (.tmp 39) (.val (.int .i64 1))), none⟩,
         ⟨(some 41), .op (.idxS 1 (.tmp 38) (.tmp 40)), none⟩,
         ⟨(some 42), .op (.load none (.tmp 41)), none⟩,
         ⟨(some 43), .op (.mov (.tmp 1)), none⟩,
         ⟨(some 44), .op (.bin .mul (.val (.int .i64 8)) (.tmp 43)), none⟩,
         ⟨(some 45), .op (.mov (.tmp 1)), none⟩,
         ⟨(some 46), .op (.bin .mul (.val (.int .i64 8)) (.tmp 45)), none⟩,
         ⟨(some 47), .op (.bin .add (.tmp 46) (.val (.int .i64 8))), none⟩,
         ⟨(some 48), .op (.mov (.tmp 0)), none⟩,
         ⟨(some 49), .op (.nilCheck (.tmp 48)), none⟩,
         ⟨(some 50), .op (.fieldAddr 2 (.tmp 49)), none⟩,
         ⟨(some 51), .op (.load none (.tmp 50)), none⟩,
         ⟨(some 52), .op (.mov (.tmp 4)), none⟩,
         ⟨(some 53), .op (.bin .sub (.tmp 52) (.val (.int .i64 1))), none⟩,
         ⟨(some 54), .op (.idxS 1 (.tmp 51) (.tmp 53)), none⟩,
         ⟨(some 55), .op (.load none (.tmp 54)), none⟩,
         ⟨(some 56), .op (.lenS (.tmp 55)), none⟩,
         ⟨(some 57), .op (.min (.tmp 47) (.tmp 56)), none⟩,
         ⟨(some 58), .op (.slice 4 (.tmp 42) (some (.tmp 44)) (some (.tmp 57))), none⟩,
         ⟨(some 59), .op (.lenS (.tmp 58)), none⟩,
         ⟨(some 60), .op (.mov (.val (.int .i64 0))), none⟩])
       (.block 2 (.loop (.seq (.region [⟨(some 61), .op (.bin .lss (.tmp 60) (.tmp 59)), none⟩])
         (.seq (.cond (.tmp 61) (.skip)
          (.exit 2))
         (.seq (.block 3 (.seq (.region [⟨(some 62), .op (.idxS 4 (.tmp 58) (.tmp 60)), none⟩,
             ⟨(some 63), .op (.load (some 4) (.tmp 62)), none⟩,
             ⟨(some 7), .op (.alloc [(.int .i64 0), (.int .i64 0), (.int .i64 0), (.int .i64 0)]), none⟩,
             ⟨none, .op (.store 4 (.tmp 7) (.tmp 63)), none⟩])
           (.region [⟨(some 64), .op (.load (some 4) (.tmp 5)), none⟩,
            ⟨(some 65), .op (.load (some 4) (.tmp 7)), none⟩,
            ⟨(some 66), .call (.fnv 81) [(.tmp 64), (.tmp 65)], none⟩,
            ⟨none, .op (.store 4 (.tmp 5) (.tmp 66)), none⟩])))
         (.region [⟨(some 67), .op (.bin .add (.tmp 60) (.val (.int .i64 1))), none⟩,
          ⟨(some 60), .op (.mov (.tmp 67)), none⟩])))))))
      (.draw [⟨⟨(some 68), .op (.mov (.tmp 0)), none⟩, .pure⟩,
       ⟨⟨(some 69), .op (.nilCheck (.tmp 68)), none⟩, .pure⟩,
       ⟨⟨(some 70), .op (.fieldAddr 2 (.tmp 69)), none⟩, .pure⟩,
       ⟨⟨(some 71), .op (.load none (.tmp 70)), none⟩, .read []⟩,
       ⟨⟨(some 72), .op (.mov (.tmp 4)), none⟩, .pure⟩,
       ⟨⟨(some 73), .op (.idxS 1 (.tmp 71) (.tmp 72)), none⟩, .read []⟩,
       ⟨⟨(some 74), .op (.load none (.tmp 73)), none⟩, .read []⟩,
       ⟨⟨(some 75), .op (.mov (.tmp 1)), none⟩, .pure⟩,
       ⟨⟨(some 76), .op (.load (some 4) (.tmp 5)), none⟩, .read []⟩,
       ⟨⟨(some 77), .op (.idxS 4 (.tmp 74) (.tmp 75)), none⟩, .read []⟩,
       ⟨⟨none, .op (.store 4 (.tmp 77) (.tmp 76)), none⟩, .act true⟩])))))
    (.region [⟨(some 31), .op (.mov (.tmp 4)), none⟩,
     ⟨(some 32), .op (.bin .add (.tmp 31) (.val (.int .i64 1))), none⟩,
     ⟨(some 4), .op (.mov (.tmp 32)), none⟩])))))),
  [], none, none⟩
def A58 : AFun := ⟨.seq (.region [⟨(some 8), .op (.mov (.val (.int .i64 0))), none⟩])
  (.seq (.block 0 (.seq (.region [⟨(some 11), .op (.mov (.tmp 0)), none⟩,
      ⟨(some 12), .op (.eql false .ptr (.tmp 11) (.val .nilp)), none⟩,
      ⟨(some 10), .op (.mov (.tmp 12)), none⟩])
    (.cond (.tmp 10) (.seq (.region [⟨(some 8), .op (.mov (.val (.int .i64 5))), none⟩])
     (.ret))
    (.seq (.region [⟨(some 14), .op (.mov (.tmp 0)), none⟩,
      ⟨(some 15), .op (.mov (.tmp 1)), none⟩,
      ⟨(some 16), .op (.mov (.tmp 2)), none⟩,
      ⟨(some 17), .call (.fnv 82) [(.tmp 14), (.tmp 15), (.tmp 16)], none⟩,
      ⟨(some 13), .op (.mov (.tmp 17)), none⟩])
    (.cond (.tmp 13) (.seq (.region [⟨(some 8), .op (.mov (.val (.int .i64 1))), none⟩])
     (.ret))
    (.skip))))))
  (.seq (.seq (.region [⟨(some 18), .op (.mov (.tmp 1)), none⟩,
     ⟨(some 9), .op (.mov (.tmp 18)), none⟩])
   (.block 1 (.loop (.seq (.seq (.region [⟨(some 19), .op (.mov (.tmp 9)), none⟩,
        ⟨(some 20), .op (.mov (.tmp 1)), none⟩,
        ⟨(some 21), .op (.mov (.tmp 2)), none⟩,
        ⟨(some 22), .op (.bin .add (.tmp 20) (.tmp 21)), none⟩,
        ⟨(some 23), .op (.bin .lss (.tmp 19) (.tmp 22)), none⟩])
      (.cond (.tmp 23) (.skip)
      (.exit 1)))
     (.seq (.block 2 (.seq (.region [⟨(some 26), .op (.mov (.tmp 0)), none⟩,
         ⟨(some 27), .op (.mov (.tmp 9)), none⟩,
         ⟨(some 28), .call (.fnv 19) [(.tmp 26), (.tmp 27)], none⟩,
         ⟨(some 29), .op (.mov (.tmp 3)), none⟩,
         ⟨(some 30), .op (.eql false .bool (.tmp 28) (.tmp 29)), none⟩])
       (.cond (.tmp 30) (.seq (.region [⟨(some 8), .op (.mov (.val (.int .i64 5))), none⟩])
        (.ret))
       (.skip))))
     (.region [⟨(some 24), .op (.mov (.tmp 9)), none⟩,
      ⟨(some 25), .op (.bin .add (.tmp 24) (.val (.int .i64 1))), none⟩,
      ⟨(some 9), .op (.mov (.tmp 25)), none⟩]))))))
  (.seq (.region [⟨(some 31), .op (.mov (.tmp 0)), none⟩,
    ⟨(some 32), .op (.mov (.tmp 1)), none⟩,
    ⟨(some 33), .op (.mov (.tmp 2)), none⟩,
    ⟨(some 34), .op (.mov (.tmp 3)), none⟩,
    ⟨(some 35), .call (.fnv 60) [(.tmp 31), (.tmp 32), (.tmp 33), (.tmp 34)], none⟩])
  (.seq (.region [⟨(some 8), .op (.mov (.val (.int .i64 0))), none⟩])
  (.ret))))),
  [.tmp 8], none, none⟩
def A59 : AFun := ⟨.seq (.region [⟨(some 4), .op (.mov (.val (.int .i64 0))), none⟩])
  (.seq (.region [⟨(some 10), .op (.mov (.tmp 0)), none⟩,
    ⟨(some 11), .op (.nilCheck (.tmp 10)), none⟩,
    ⟨(some 12), .op (.fieldAddr 2 (.tmp 11)), none⟩,
    ⟨(some 13), .op (.load none (.tmp 12)), none⟩,
    ⟨(some 14), .op (.mov (.tmp 0)), none⟩,
    ⟨(some 15), .op (.nilCheck (.tmp 14)), none⟩,
    ⟨(some 16), .op (.fieldAddr 2 (.tmp 15)), none⟩,
    ⟨(some 17), .op (.load none (.tmp 16)), none⟩,
    ⟨(some 18), .op (.lenS (.tmp 17)), none⟩,
    ⟨(some 19), .op (.bin .sub (.tmp 18) (.val (.int .i64 1))), none⟩,
    ⟨(some 20), .op (.idxS 1 (.tmp 13) (.tmp 19)), none⟩,
    ⟨(some 21), .op (.load none (.tmp 20)), none⟩,
    ⟨(some 5), .op (.mov (.tmp 21)), none⟩])
  (.seq (.seq (.region [⟨(some 22), .op (.mov (.tmp 5)), none⟩,
     ⟨(some 23), .op (.idxS 4 (.tmp 22) (.val (.int .i64 0))), none⟩,
     ⟨(some 24), .op (.fieldAddr 1 (.tmp 23)), none⟩,
     ⟨(some 25), .op (.load none (.tmp 24)), none⟩,
     ⟨(some 26), .op (.mov (.tmp 1)), none⟩,
     ⟨(some 27), .op (.bin .lss (.tmp 25) (.tmp 26)), none⟩])
   (.cond (.tmp 27) (.seq (.region [⟨(some 4), .op (.mov (.val (.int .i64 (-1)))), none⟩])
    (.ret))
   (.skip)))
  (.seq (.region [⟨(some 6), .op (.mov (.val (.int .i64 0))), none⟩])
  (.seq (.seq (.region [⟨(some 28), .op (.mov (.tmp 0)), none⟩,
     ⟨(some 29), .op (.nilCheck (.tmp 28)), none⟩,
     ⟨(some 30), .op (.fieldAddr 1 (.tmp 29)), none⟩,
     ⟨(some 31), .op (.load none (.tmp 30)), none⟩,
     ⟨(some 32), .op (.lenS (.tmp 31)), none⟩,
     ⟨(some 33), .op (.mov (.val (.int .i64 0))), none⟩])
   (.block 0 (.loop (.seq (.region [⟨(some 34), .op (.bin .lss (.tmp 33) (.tmp 32)), none⟩])
     (.seq (.cond (.tmp 34) (.skip)
      (.exit 0))
     (.seq (.block 1 (.seq (.region [⟨(some 35), .op (.mov (.tmp 33)), none⟩,
         ⟨(some 36), .op (.idxS 1 (.tmp 31) (.tmp 33)), none⟩,
         ⟨(some 37), .op (.load none (.tmp 36)), none⟩,
         ⟨(some 7), .op (.mov (.tmp 35)), none⟩,
         ⟨(some 8), .op (.mov (.tmp 37)), none⟩])
       (.seq (.region [⟨(some 38), .op (.mov (.tmp 0)), none⟩,
         ⟨(some 39), .op (.nilCheck (.tmp 38)), none⟩,
         ⟨(some 40), .op (.fieldAddr 2 (.tmp 39)), none⟩,
         ⟨(some 41), .op (.load none (.tmp 40)), none⟩,
         ⟨(some 42), .op (.idxS 1 (.tmp 41) (.val (.int .i64 0))), none⟩,
         ⟨(some 43), .op (.load none (.tmp 42)), none⟩,
         ⟨(some 44), .op (.mov (.tmp 7)), none⟩,
         ⟨(some 45), .op (.idxS 4 (.tmp 43) (.tmp 44)), none⟩,
         ⟨(some 46), .op (.load (some 4) (.tmp 45)), none⟩,
         ⟨(some 9), .op (.alloc [(.int .i64 0), (.int .i64 0), (.int .i64 0), (.int .i64 0)]), none⟩,
         ⟨none, .op (.store 4 (.tmp 9) (.tmp 46)), none⟩])
       (.seq (.seq (.region [⟨(some 47), .op (.mov (.tmp 6)), none⟩,
          ⟨(some 48), .op (.fieldAddr 0 (.tmp 9)), none⟩,
          ⟨(some 49), .op (.load none (.tmp 48)), none⟩,
          ⟨(some 50), .op (.bin .add (.tmp 47) (.tmp 49)), none⟩,
          ⟨(some 51), .op (.mov (.tmp 1)), none⟩,
          ⟨(some 52), .op (.bin .geq (.tmp 50) (.tmp 51)), none⟩])
        (.cond (.tmp 52) (.seq (.region [⟨(some 53), .op (.mov (.tmp 7)), none⟩,
           ⟨(some 54), .op (.bin .mul (.tmp 53) (.val (.int .i64 64))), none⟩,
           ⟨(some 55), .op (.mov (.tmp 6)), none⟩,
           ⟨(some 56), .op (.bin .sub (.tmp 54) (.tmp 55)), none⟩,
           ⟨(some 4), .op (.mov (.tmp 56)), none⟩])
         (.ret))
        (.skip)))
       (.seq (.seq (.region [⟨(some 57), .op (.fieldAddr 1 (.tmp 9)), none⟩,
          ⟨(some 58), .op (.load none (.tmp 57)), none⟩,
          ⟨(some 59), .op (.mov (.tmp 1)), none⟩,
          ⟨(some 60), .op (.bin .geq (.tmp 58) (.tmp 59)), none⟩])
        (.cond (.tmp 60) (.seq (.region [⟨(some 61), .op (.mov (.tmp 7)), none⟩,
           ⟨(some 62), .op (.bin .mul (.tmp 61) (.val (.int .i64 64))), none⟩,
           ⟨(some 63), .op (.mov (.tmp 8)), none⟩,
           ⟨(some 64), .op (.mov (.tmp 1)), none⟩,
           ⟨(some 65), .call (.fnv 83) [(.tmp 63), (.tmp 64)], none⟩,
           ⟨(some 66), .op (.bin .add (.tmp 62) (.tmp 65)), none⟩,
           ⟨(some 4), .op (.mov (.tmp 66)), none⟩])
         (.ret))
        (.skip)))
       (.seq (.region [⟨(some 67), .op (.fieldAddr 0 (.tmp 9)), none⟩,
         ⟨(some 68), .op (.load none (.tmp 67)), none⟩,
         ⟨(some 69), .op (.bin .eql (.tmp 68) (.val (.int .i64 64))), none⟩])
       (.cond (.tmp 69) (.region [⟨(some 70), .op (.mov (.tmp 6)), none⟩,
         ⟨(some 71), .op (.bin .add (.tmp 70) (.val (.int .i64 64))), none⟩,
         ⟨(some 6), .op (.mov (.tmp 71)), none⟩])
       (.region [⟨(some 72), .op (.fieldAddr 2 (.tmp 9)), none⟩,
        ⟨(some 73), .op (.load none (.tmp 72)), none⟩,
        ⟨(some 6), .op (.mov (.tmp 73)), none⟩]))))))))
     (.region [⟨(some 74), .op (.bin .add (.tmp 33) (.val (.int .i64 1))), none⟩,
      ⟨(some 33), .op (.mov (.tmp 74)), none⟩])))))))
  (.seq (.region [⟨(some 4), .op (.mov (.val (.int .i64 (-1)))), none⟩])
  (.ret)))))),
  [.tmp 4], none, none⟩
def A60 : AFun := ⟨.seq (.region [⟨(some 13), .op (.mov (.tmp 1)), none⟩,
    ⟨(some 8), .op (.mov (.tmp 13)), none⟩])
  (.block 0 (.loop (.seq (.seq (.region [⟨(some 14), .op (.mov (.tmp 8)), none⟩,
       ⟨(some 15), .op (.mov (.tmp 1)), none⟩,
       ⟨(some 16), .op (.mov (.tmp 2)), none⟩,
       ⟨(some 17), .op (.bin .add (.tmp 15) (.tmp 16)), none⟩,
       ⟨(some 18), .op (.bin .lss (.tmp 14) (.tmp 17)), none⟩])
     (.cond (.tmp 18) (.skip)
     (.exit 0)))
    (.block 1 (.seq (.region [⟨(some 19), .op (.mov (.tmp 8)), none⟩,
       ⟨(some 20), .op (.bin .quo (.tmp 19) (.val (.int .i64 64))), none⟩,
       ⟨(some 21), .op (.mov (.tmp 8)), none⟩,
       ⟨(some 22), .op (.bin .rem (.tmp 21) (.val (.int .i64 64))), none⟩,
       ⟨(some 9), .op (.mov (.tmp 20)), none⟩,
       ⟨(some 10), .op (.mov (.tmp 22)), none⟩])
     (.seq (.region [⟨(some 23), .op (.mov (.tmp 10)), none⟩,
       ⟨(some 24), .op (.mov (.tmp 1)), none⟩,
       ⟨(some 25), .op (.bin .add (.tmp 23) (.tmp 24)), none⟩,
       ⟨(some 26), .op (.mov (.tmp 2)), none⟩,
       ⟨(some 27), .op (.bin .add (.tmp 25) (.tmp 26)), none⟩,
       ⟨(some 28), .op (.mov (.tmp 8)), none⟩,
       ⟨(some 29), .op (.bin .sub (.tmp 27) (.tmp 28)), none⟩,
       ⟨(some 30), .op (.min (.val (.int .i64 64)) (.tmp 29)), none⟩,
       ⟨(some 11), .op (.mov (.tmp 30)), none⟩])
     (.seq (.region [⟨(some 31), .op (.mov (.tmp 10)), none⟩,
       ⟨(some 32), .op (.bin .shl (.val (.int .u64 18446744073709551615)) (.tmp 31)), none⟩,
       ⟨(some 33), .op (.mov (.tmp 11)), none⟩,
       ⟨(some 34), .op (.bin .sub (.val (.int .i64 64)) (.tmp 33)), none⟩,
       ⟨(some 35), .op (.bin .shr (.val (.int .u64 18446744073709551615)) (.tmp 34)), none⟩,
       ⟨(some 36), .op (.bin .and (.tmp 32) (.tmp 35)), none⟩,
       ⟨(some 12), .op (.mov (.tmp 36)), none⟩])
     (.seq (.seq (.region [⟨(some 37), .op (.mov (.tmp 3)), none⟩])
      (.cond (.tmp 37) (.region [⟨(some 38), .op (.mov (.tmp 0)), none⟩,
        ⟨(some 39), .op (.nilCheck (.tmp 38)), none⟩,
        ⟨(some 40), .op (.fieldAddr 1 (.tmp 39)), none⟩,
        ⟨(some 41), .op (.load none (.tmp 40)), none⟩,
        ⟨(some 42), .op (.mov (.tmp 9)), none⟩,
        ⟨(some 43), .op (.idxS 1 (.tmp 41) (.tmp 42)), none⟩,
        ⟨(some 44), .op (.load none (.tmp 43)), none⟩,
        ⟨(some 45), .op (.mov (.tmp 12)), none⟩,
        ⟨(some 46), .op (.bin .or (.tmp 44) (.tmp 45)), none⟩,
        ⟨(some 47), .op (.idxS 1 (.tmp 41) (.tmp 42)), none⟩,
        ⟨none, .op (.store 1 (.tmp 47) (.tmp 46)), none⟩])
      (.region [⟨(some 48), .op (.mov (.tmp 0)), none⟩,
       ⟨(some 49), .op (.nilCheck (.tmp 48)), none⟩,
       ⟨(some 50), .op (.fieldAddr 1 (.tmp 49)), none⟩,
       ⟨(some 51), .op (.load none (.tmp 50)), none⟩,
       ⟨(some 52), .op (.mov (.tmp 9)), none⟩,
       ⟨(some 53), .op (.idxS 1 (.tmp 51) (.tmp 52)), none⟩,
       ⟨(some 54), .op (.load none (.tmp 53)), none⟩,
       ⟨(some 55), .op (.mov (.tmp 12)), none⟩,
       ⟨(some 56), .op (.bin .andNot (.tmp 54) (.tmp 55)), none⟩,
       ⟨(some 57), .op (.idxS 1 (.tmp 51) (.tmp 52)), none⟩,
       ⟨none, .op (.store 1 (.tmp 57) (.tmp 56)), none⟩])))
     (.seq (.region [⟨(some 58), .op (.mov (.tmp 0)), none⟩,
       ⟨(some 59), .op (.mov (.tmp 9)), none⟩,
       ⟨(some 60), .call (.fnv 57) [(.tmp 58), (.tmp 59)], none⟩])
     (.region [⟨(some 61), .op (.mov (.tmp 8)), none⟩,
      ⟨(some 62), .op (.mov (.tmp 11)), none⟩,
      ⟨(some 63), .op (.mov (.tmp 10)), none⟩,
      ⟨(some 64), .op (.bin .sub (.tmp 62) (.tmp 63)), none⟩,
      ⟨(some 65), .op (.bin .add (.tmp 61) (.tmp 64)), none⟩,
      ⟨(some 8), .op (.mov (.tmp 65)), none⟩])))))))))),
  [], none, none⟩
def A61 : AFun := ⟨.seq (.region [⟨(some 1), .op (.box (.tmp 0)), none⟩,
    ⟨(some 2), .op (.mov (.val .nilf)), none⟩])
  (.seq (.region [⟨(some 3), .op (.mkFn (.func 84) [] [(.tmp 1)]), none⟩,
    ⟨(some 2), .op (.mov (.tmp 3)), none⟩])
  (.ret)),
  [.tmp 2], none, none⟩
def A62 : AFun := ⟨.seq (.region [⟨(some 4), .op (.mov (.val (.int .i64 0))), none⟩])
  (.seq (.region [⟨(some 5), .op (.mov (.val (.int .i64 0))), none⟩])
  (.seq (.block 0 (.loop (.seq (.seq (.region [⟨(some 6), .op (.mov (.tmp 1)), none⟩,
        ⟨(some 7), .op (.mov (.tmp 5)), none⟩,
        ⟨(some 8), .op (.bin .add (.tmp 6) (.tmp 7)), none⟩,
        ⟨(some 9), .op (.mov (.tmp 0)), none⟩,
        ⟨(some 10), .op (.nilCheck (.tmp 9)), none⟩,
        ⟨(some 11), .op (.fieldAddr 0 (.tmp 10)), none⟩,
        ⟨(some 12), .op (.load none (.tmp 11)), none⟩,
        ⟨(some 13), .op (.lenS (.tmp 12)), none⟩,
        ⟨(some 14), .op (.bin .lss (.tmp 8) (.tmp 13)), none⟩,
        ⟨(some 15), .op (.mov (.tmp 14)), none⟩,
        ⟨(some 16), .op (.mov (.tmp 0)), (some (15, true))⟩,
        ⟨(some 17), .op (.nilCheck (.tmp 16)), (some (15, true))⟩,
        ⟨(some 18), .op (.fieldAddr 0 (.tmp 17)), (some (15, true))⟩,
        ⟨(some 19), .op (.load none (.tmp 18)), (some (15, true))⟩,
        ⟨(some 20), .op (.mov (.tmp 1)), (some (15, true))⟩,
        ⟨(some 21), .op (.mov (.tmp 5)), (some (15, true))⟩,
        ⟨(some 22), .op (.bin .add (.tmp 20) (.tmp 21)), (some (15, true))⟩,
        ⟨(some 23), .op (.idxS 1 (.tmp 19) (.tmp 22)), (some (15, true))⟩,
        ⟨(some 24), .op (.load none (.tmp 23)), (some (15, true))⟩,
        ⟨(some 25), .op (.un .not (.tmp 24)), (some (15, true))⟩,
        ⟨(some 26), .op (.pick (.tmp 15) (.tmp 25) (.val (.bool false))), none⟩])
      (.cond (.tmp 26) (.skip)
      (.exit 0)))
     (.block 1 (.region [⟨(some 27), .op (.mov (.tmp 5)), none⟩,
       ⟨(some 28), .op (.bin .add (.tmp 27) (.val (.int .i64 1))), none⟩,
       ⟨(some 5), .op (.mov (.tmp 28)), none⟩])))))
  (.seq (.region [⟨(some 29), .op (.mov (.tmp 5)), none⟩,
    ⟨(some 4), .op (.mov (.tmp 29)), none⟩])
  (.ret)))),
  [.tmp 4], none, none⟩
def A63 : AFun := ⟨.seq (.region [⟨(some 9), .op (.mov (.tmp 1)), none⟩,
    ⟨(some 8), .op (.mov (.tmp 9)), none⟩])
  (.block 0 (.loop (.seq (.seq (.region [⟨(some 10), .op (.mov (.tmp 8)), none⟩,
       ⟨(some 11), .op (.mov (.tmp 1)), none⟩,
       ⟨(some 12), .op (.mov (.tmp 2)), none⟩,
       ⟨(some 13), .op (.bin .add (.tmp 11) (.tmp 12)), none⟩,
       ⟨(some 14), .op (.bin .lss (.tmp 10) (.tmp 13)), none⟩])
     (.cond (.tmp 14) (.skip)
     (.exit 0)))
    (.seq (.block 1 (.region [⟨(some 17), .op (.mov (.tmp 0)), none⟩,
       ⟨(some 18), .op (.nilCheck (.tmp 17)), none⟩,
       ⟨(some 19), .op (.fieldAddr 0 (.tmp 18)), none⟩,
       ⟨(some 20), .op (.load none (.tmp 19)), none⟩,
       ⟨(some 21), .op (.mov (.tmp 8)), none⟩,
       ⟨(some 22), .op (.mov (.tmp 3)), none⟩,
       ⟨(some 23), .op (.idxS 1 (.tmp 20) (.tmp 21)), none⟩,
       ⟨none, .op (.store 1 (.tmp 23) (.tmp 22)), none⟩]))
    (.region [⟨(some 15), .op (.mov (.tmp 8)), none⟩,
     ⟨(some 16), .op (.bin .add (.tmp 15) (.val (.int .i64 1))), none⟩,
     ⟨(some 8), .op (.mov (.tmp 16)), none⟩]))))),
  [], none, none⟩
def A64 : AFun := ⟨.seq (.region [⟨(some 1), .op (.box (.tmp 0)), none⟩,
    ⟨(some 2), .op (.mov (.val .nilf)), none⟩])
  (.seq (.region [⟨(some 3), .op (.mkFn (.func 85) [] [(.tmp 1)]), none⟩,
    ⟨(some 2), .op (.mov (.tmp 3)), none⟩])
  (.ret)),
  [.tmp 2], none, none⟩
def A70 : AFun := ⟨.seq (.region [⟨(some 2), .op (.mov (.val (.int .i64 0))), none⟩])
  (.seq (.seq (.region [⟨(some 3), .op (.mov (.tmp 0)), none⟩,
     ⟨(some 4), .op (.bin .eql (.tmp 3) (.val (.int .u64 0))), none⟩])
   (.cond (.tmp 4) (.seq (.region [⟨(some 2), .op (.mov (.val (.int .i64 64))), none⟩])
    (.ret))
   (.skip)))
  (.seq (.region [⟨(some 5), .op (.mov (.tmp 0)), none⟩,
    ⟨(some 6), .op (.mov (.tmp 0)), none⟩,
    ⟨(some 7), .op (.un .neg (.tmp 6)), none⟩,
    ⟨(some 8), .op (.bin .and (.tmp 5) (.tmp 7)), none⟩,
    ⟨(some 9), .op (.bin .mul (.tmp 8) (.val (.int .u64 285870213051353865))), none⟩,
    ⟨(some 10), .op (.bin .shr (.tmp 9) (.val (.int .u64 58))), none⟩,
    ⟨(some 11), .op (.idxA 1 64 (.glob 0) (.tmp 10)), none⟩,
    ⟨(some 12), .op (.load none (.tmp 11)), none⟩,
    ⟨(some 13), .op (.conv .i64 (.tmp 12)), none⟩,
    ⟨(some 2), .op (.mov (.tmp 13)), none⟩])
  (.ret))),
  [.tmp 2], none, none⟩
def A80 : AFun := ⟨.seq (.region [⟨(some 2), .op (.alloc [(.int .i64 0), (.int .i64 0), (.int .i64 0), (.int .i64 0)]), none⟩])
  (.seq (.region [⟨(some 5), .op (.mov (.tmp 0)), none⟩,
    ⟨(some 6), .call (.fnv 70) [(.tmp 5)], none⟩,
    ⟨(some 7), .op (.mov (.tmp 0)), none⟩,
    ⟨(some 8), .call (.fnv 96) [(.tmp 7)], none⟩,
    ⟨(some 9), .op (.build [(.int .i64 0), (.int .i64 0), (.int .i64 0), (.int .i64 0)] [(0, 1, (.tmp 6)), (2, 1, (.tmp 8)), (3, 1, (.val (.int .i64 64)))]), none⟩,
    ⟨(some 3), .op (.alloc [(.int .i64 0), (.int .i64 0), (.int .i64 0), (.int .i64 0)]), none⟩,
    ⟨none, .op (.store 4 (.tmp 3) (.tmp 9)), none⟩])
  (.seq (.seq (.region [⟨(some 10), .op (.mov (.tmp 0)), none⟩,
     ⟨(some 11), .op (.un .xor (.tmp 10)), none⟩,
     ⟨(some 4), .op (.mov (.tmp 11)), none⟩])
   (.block 0 (.loop (.seq (.seq (.region [⟨(some 12), .op (.mov (.tmp 4)), none⟩,
        ⟨(some 13), .op (.bin .neq (.tmp 12) (.val (.int .u64 0))), none⟩])
      (.cond (.tmp 13) (.skip)
      (.exit 0)))
     (.seq (.block 1 (.region [⟨(some 18), .op (.fieldAddr 1 (.tmp 3)), none⟩,
        ⟨(some 19), .op (.load none (.tmp 18)), none⟩,
        ⟨(some 20), .op (.bin .add (.tmp 19) (.val (.int .i64 1))), none⟩,
        ⟨(some 21), .op (.fieldAddr 1 (.tmp 3)), none⟩,
        ⟨none, .op (.store 1 (.tmp 21) (.tmp 20)), none⟩]))
     (.region [⟨(some 14), .op (.mov (.tmp 4)), none⟩,
      ⟨(some 15), .op (.mov (.tmp 4)), none⟩,
      ⟨(some 16), .op (.bin .shr (.tmp 15) (.val (.int .u64 1))), none⟩,
      ⟨(some 17), .op (.bin .and (.tmp 14) (.tmp 16)), none⟩,
      ⟨(some 4), .op (.mov (.tmp 17)), none⟩]))))))
  (.seq (.region [⟨(some 22), .op (.load (some 4) (.tmp 3)), none⟩,
    ⟨none, .op (.store 4 (.tmp 2) (.tmp 22)), none⟩])
  (.ret)))),
  [.cell 2 (some 4)], none, none⟩
def A81 : AFun := ⟨.seq (.region [⟨(some 2), .op (.box (.tmp 0)), none⟩,
    ⟨(some 3), .op (.box (.tmp 1)), none⟩,
    ⟨(some 4), .op (.alloc [(.int .i64 0), (.int .i64 0), (.int .i64 0), (.int .i64 0)]), none⟩])
  (.seq (.region [⟨(some 6), .op (.fieldAddr 0 (.tmp 2)), none⟩,
    ⟨(some 7), .op (.load none (.tmp 6)), none⟩,
    ⟨(some 8), .op (.fieldAddr 1 (.tmp 2)), none⟩,
    ⟨(some 9), .op (.load none (.tmp 8)), none⟩,
    ⟨(some 10), .op (.fieldAddr 1 (.tmp 3)), none⟩,
    ⟨(some 11), .op (.load none (.tmp 10)), none⟩,
    ⟨(some 12), .op (.fieldAddr 2 (.tmp 2)), none⟩,
    ⟨(some 13), .op (.load none (.tmp 12)), none⟩,
    ⟨(some 14), .op (.fieldAddr 0 (.tmp 3)), none⟩,
    ⟨(some 15), .op (.load none (.tmp 14)), none⟩,
    ⟨(some 16), .op (.bin .add (.tmp 13) (.tmp 15)), none⟩,
    ⟨(some 17), .op (.max3 (.tmp 9) (.tmp 11) (.tmp 16)), none⟩,
    ⟨(some 18), .op (.fieldAddr 2 (.tmp 3)), none⟩,
    ⟨(some 19), .op (.load none (.tmp 18)), none⟩,
    ⟨(some 20), .op (.fieldAddr 3 (.tmp 2)), none⟩,
    ⟨(some 21), .op (.load none (.tmp 20)), none⟩,
    ⟨(some 22), .op (.fieldAddr 3 (.tmp 3)), none⟩,
    ⟨(some 23), .op (.load none (.tmp 22)), none⟩,
    ⟨(some 24), .op (.bin .add (.tmp 21) (.tmp 23)), none⟩,
    ⟨(some 25), .op (.build [(.int .i64 0), (.int .i64 0), (.int .i64 0), (.int .i64 0)] [(0, 1, (.tmp 7)), (1, 1, (.tmp 17)), (2, 1, (.tmp 19)), (3, 1, (.tmp 24))]), none⟩,
    ⟨(some 5), .op (.alloc [(.int .i64 0), (.int .i64 0), (.int .i64 0), (.int .i64 0)]), none⟩,
    ⟨none, .op (.store 4 (.tmp 5) (.tmp 25)), none⟩])
  (.seq (.seq (.region [⟨(some 26), .op (.fieldAddr 0 (.tmp 2)), none⟩,
     ⟨(some 27), .op (.load none (.tmp 26)), none⟩,
     ⟨(some 28), .op (.fieldAddr 3 (.tmp 2)), none⟩,
     ⟨(some 29), .op (.load none (.tmp 28)), none⟩,
     ⟨(some 30), .op (.bin .eql (.tmp 27) (.tmp 29)), none⟩])
   (.cond (.tmp 30) (.region [⟨(some 31), .op (.fieldAddr 0 (.tmp 5)), none⟩,
     ⟨(some 32), .op (.load none (.tmp 31)), none⟩,
     ⟨(some 33), .op (.fieldAddr 0 (.tmp 3)), none⟩,
     ⟨(some 34), .op (.load none (.tmp 33)), none⟩,
     ⟨(some 35), .op (.bin .add (.tmp 32) (.tmp 34)), none⟩,
     ⟨(some 36), .op (.fieldAddr 0 (.tmp 5)), none⟩,
     ⟨none, .op (.store 1 (.tmp 36) (.tmp 35)), none⟩])
   (.skip)))
  (.seq (.seq (.region [⟨(some 37), .op (.fieldAddr 2 (.tmp 3)), none⟩,
     ⟨(some 38), .op (.load none (.tmp 37)), none⟩,
     ⟨(some 39), .op (.fieldAddr 3 (.tmp 3)), none⟩,
     ⟨(some 40), .op (.load none (.tmp 39)), none⟩,
     ⟨(some 41), .op (.bin .eql (.tmp 38) (.tmp 40)), none⟩])
   (.cond (.tmp 41) (.region [⟨(some 42), .op (.fieldAddr 2 (.tmp 5)), none⟩,
     ⟨(some 43), .op (.load none (.tmp 42)), none⟩,
     ⟨(some 44), .op (.fieldAddr 2 (.tmp 2)), none⟩,
     ⟨(some 45), .op (.load none (.tmp 44)), none⟩,
     ⟨(some 46), .op (.bin .add (.tmp 43) (.tmp 45)), none⟩,
     ⟨(some 47), .op (.fieldAddr 2 (.tmp 5)), none⟩,
     ⟨none, .op (.store 1 (.tmp 47) (.tmp 46)), none⟩])
   (.skip)))
  (.seq (.region [⟨(some 48), .op (.load (some 4) (.tmp 5)), none⟩,
    ⟨none, .op (.store 4 (.tmp 4) (.tmp 48)), none⟩])
  (.ret))))),
  [.cell 4 (some 4)], none, none⟩
def A82 : AFun := ⟨.seq (.region [⟨(some 6), .op (.mov (.val (.bool false))), none⟩])
  (.seq (.region [⟨(some 7), .op (.mov (.tmp 1)), none⟩,
    ⟨(some 8), .op (.bin .lss (.tmp 7) (.val (.int .i64 0))), none⟩,
    ⟨(some 9), .op (.mov (.tmp 8)), none⟩,
    ⟨(some 10), .op (.mov (.tmp 2)), (some (9, false))⟩,
    ⟨(some 11), .op (.bin .lss (.tmp 10) (.val (.int .i64 1))), (some (9, false))⟩,
    ⟨(some 12), .op (.pick (.tmp 9) (.val (.bool true)) (.tmp 11)), none⟩,
    ⟨(some 13), .op (.mov (.tmp 12)), none⟩,
    ⟨(some 14), .op (.mov (.tmp 1)), (some (13, false))⟩,
    ⟨(some 15), .op (.mov (.tmp 0)), (some (13, false))⟩,
    ⟨(some 16), .op (.nilCheck (.tmp 15)), (some (13, false))⟩,
    ⟨(some 17), .op (.fieldAddr 0 (.tmp 16)), (some (13, false))⟩,
    ⟨(some 18), .op (.load none (.tmp 17)), (some (13, false))⟩,
    ⟨(some 19), .op (.bin .geq (.tmp 14) (.tmp 18)), (some (13, false))⟩,
    ⟨(some 20), .op (.pick (.tmp 13) (.val (.bool true)) (.tmp 19)), none⟩,
    ⟨(some 21), .op (.mov (.tmp 20)), none⟩,
    ⟨(some 22), .op (.mov (.tmp 2)), (some (21, false))⟩,
    ⟨(some 23), .op (.mov (.tmp 0)), (some (21, false))⟩,
    ⟨(some 24), .op (.nilCheck (.tmp 23)), (some (21, false))⟩,
    ⟨(some 25), .op (.fieldAddr 0 (.tmp 24)), (some (21, false))⟩,
    ⟨(some 26), .op (.load none (.tmp 25)), (some (21, false))⟩,
    ⟨(some 27), .op (.mov (.tmp 1)), (some (21, false))⟩,
    ⟨(some 28), .op (.bin .sub (.tmp 26) (.tmp 27)), (some (21, false))⟩,
    ⟨(some 29), .op (.bin .gtr (.tmp 22) (.tmp 28)), (some (21, false))⟩,
    ⟨(some 30), .op (.pick (.tmp 21) (.val (.bool true)) (.tmp 29)), none⟩,
    ⟨(some 6), .op (.mov (.tmp 30)), none⟩])
  (.ret)),
  [.tmp 6], none, none⟩
def A83 : AFun := ⟨.seq (.region [⟨(some 4), .op (.mov (.val (.int .i64 0))), none⟩])
  (.seq (.region [⟨(some 6), .op (.mov (.tmp 0)), none⟩,
    ⟨(some 7), .op (.un .xor (.tmp 6)), none⟩,
    ⟨(some 5), .op (.mov (.tmp 7)), none⟩])
  (.seq (.seq (.region [⟨(some 8), .op (.mov (.tmp 1)), none⟩,
     ⟨(some 9), .op (.bin .sub (.tmp 8) (.val (.int .i64 1))), none⟩,
     ⟨(some 10), .op (.mov (.val (.int .i64 0))), none⟩])
   (.block 0 (.loop (.seq (.region [⟨(some 11), .op (.bin .lss (.tmp 10) (.tmp 9)), none⟩])
     (.seq (.cond (.tmp 11) (.skip)
      (.exit 0))
     (.seq (.block 1 (.region [⟨(some 12), .op (.mov (.tmp 5)), none⟩,
        ⟨(some 13), .op (.mov (.tmp 5)), none⟩,
        ⟨(some 14), .op (.bin .shr (.tmp 13) (.val (.int .u64 1))), none⟩,
        ⟨(some 15), .op (.bin .and (.tmp 12) (.tmp 14)), none⟩,
        ⟨(some 5), .op (.mov (.tmp 15)), none⟩]))
     (.region [⟨(some 16), .op (.bin .add (.tmp 10) (.val (.int .i64 1))), none⟩,
      ⟨(some 10), .op (.mov (.tmp 16)), none⟩])))))))
  (.seq (.region [⟨(some 17), .op (.mov (.tmp 5)), none⟩,
    ⟨(some 18), .call (.fnv 70) [(.tmp 17)], none⟩,
    ⟨(some 4), .op (.mov (.tmp 18)), none⟩])
  (.ret)))),
  [.tmp 4], none, none⟩
def A84 : AFun := ⟨.seq (.seq (.region [⟨(some 5), .op (.load none (.tmp 1)), none⟩,
     ⟨(some 6), .op (.eql false .ptr (.tmp 5) (.val .nilp)), none⟩])
   (.cond (.tmp 6) (.ret)
   (.skip)))
  (.seq (.region [⟨(some 3), .op (.mov (.val (.int .i64 0))), none⟩])
  (.block 0 (.loop (.seq (.seq (.region [⟨(some 7), .op (.mov (.tmp 3)), none⟩,
       ⟨(some 8), .op (.load none (.tmp 1)), none⟩,
       ⟨(some 9), .op (.nilCheck (.tmp 8)), none⟩,
       ⟨(some 10), .op (.fieldAddr 0 (.tmp 9)), none⟩,
       ⟨(some 11), .op (.load none (.tmp 10)), none⟩,
       ⟨(some 12), .op (.bin .lss (.tmp 7) (.tmp 11)), none⟩])
     (.cond (.tmp 12) (.skip)
     (.exit 0)))
    (.seq (.block 1 (.seq (.region [⟨(some 4), .op (.mov (.val (.int .i64 0))), none⟩])
      (.seq (.block 2 (.loop (.seq (.seq (.region [⟨(some 15), .op (.load none (.tmp 1)), none⟩,
            ⟨(some 16), .op (.mov (.tmp 3)), none⟩,
            ⟨(some 17), .op (.mov (.tmp 4)), none⟩,
            ⟨(some 18), .op (.bin .add (.tmp 16) (.tmp 17)), none⟩,
            ⟨(some 19), .call (.fnv 19) [(.tmp 15), (.tmp 18)], none⟩,
            ⟨(some 20), .op (.un .not (.tmp 19)), none⟩])
          (.cond (.tmp 20) (.skip)
          (.exit 2)))
         (.block 3 (.region [⟨(some 21), .op (.mov (.tmp 4)), none⟩,
           ⟨(some 22), .op (.bin .add (.tmp 21) (.val (.int .i64 1))), none⟩,
           ⟨(some 4), .op (.mov (.tmp 22)), none⟩])))))
      (.seq (.seq (.region [⟨(some 23), .op (.mov (.tmp 4)), none⟩,
         ⟨(some 24), .op (.bin .gtr (.tmp 23) (.val (.int .i64 0))), none⟩,
         ⟨(some 25), .op (.mov (.tmp 24)), none⟩,
         ⟨(some 26), .op (.mov (.tmp 0)), (some (25, true))⟩,
         ⟨(some 27), .op (.mov (.tmp 3)), (some (25, true))⟩,
         ⟨(some 28), .op (.mov (.tmp 4)), (some (25, true))⟩,
         ⟨(some 29), .call (.tmp 26) [(.tmp 27), (.tmp 28)], (some (25, true))⟩,
         ⟨(some 30), .op (.un .not (.tmp 29)), (some (25, true))⟩,
         ⟨(some 31), .op (.pick (.tmp 25) (.tmp 30) (.val (.bool false))), none⟩])
       (.cond (.tmp 31) (.ret)
       (.skip)))
      (.region [⟨(some 32), .op (.mov (.tmp 3)), none⟩,
       ⟨(some 33), .op (.mov (.tmp 4)), none⟩,
       ⟨(some 34), .op (.bin .add (.tmp 32) (.tmp 33)), none⟩,
       ⟨(some 3), .op (.mov (.tmp 34)), none⟩])))))
    (.region [⟨(some 13), .op (.mov (.tmp 3)), none⟩,
     ⟨(some 14), .op (.bin .add (.tmp 13) (.val (.int .i64 1))), none⟩,
     ⟨(some 3), .op (.mov (.tmp 14)), none⟩])))))),
  [], none, none⟩
def A85 : AFun := ⟨.seq (.seq (.region [⟨(some 5), .op (.load none (.tmp 1)), none⟩,
     ⟨(some 6), .op (.eql false .ptr (.tmp 5) (.val .nilp)), none⟩])
   (.cond (.tmp 6) (.ret)
   (.skip)))
  (.seq (.region [⟨(some 3), .op (.mov (.val (.int .i64 0))), none⟩])
  (.block 0 (.loop (.seq (.seq (.region [⟨(some 7), .op (.mov (.tmp 3)), none⟩,
       ⟨(some 8), .op (.load none (.tmp 1)), none⟩,
       ⟨(some 9), .op (.nilCheck (.tmp 8)), none⟩,
       ⟨(some 10), .op (.fieldAddr 1 (.tmp 9)), none⟩,
       ⟨(some 11), .op (.load none (.tmp 10)), none⟩,
       ⟨(some 12), .op (.lenS (.tmp 11)), none⟩,
       ⟨(some 13), .op (.bin .lss (.tmp 7) (.tmp 12)), none⟩])
     (.cond (.tmp 13) (.skip)
     (.exit 0)))
    (.block 1 (.seq (.region [⟨(some 14), .op (.load none (.tmp 1)), none⟩,
       ⟨(some 15), .op (.nilCheck (.tmp 14)), none⟩,
       ⟨(some 16), .op (.fieldAddr 1 (.tmp 15)), none⟩,
       ⟨(some 17), .op (.load none (.tmp 16)), none⟩,
       ⟨(some 18), .op (.mov (.tmp 3)), none⟩,
       ⟨(some 19), .op (.idxS 3 (.tmp 17) (.tmp 18)), none⟩,
       ⟨(some 20), .op (.load (some 3) (.tmp 19)), none⟩,
       ⟨(some 4), .op (.alloc [(.int .i64 0), (.int .i64 0), (.int .i64 0)]), none⟩,
       ⟨none, .op (.store 3 (.tmp 4) (.tmp 20)), none⟩])
     (.seq (.seq (.region [⟨(some 21), .op (.load (some 3) (.tmp 4)), none⟩,
        ⟨(some 22), .op (.build [(.int .i64 0), (.int .i64 0), (.int .i64 0)] []), none⟩,
        ⟨(some 23), .op (.eql false (.flat [.int, .int, .int]) (.tmp 21) (.tmp 22)), none⟩])
      (.cond (.tmp 23) (.seq (.region [⟨(some 24), .op (.mov (.tmp 3)), none⟩,
         ⟨(some 25), .op (.bin .add (.tmp 24) (.val (.int .i64 1))), none⟩,
         ⟨(some 3), .op (.mov (.tmp 25)), none⟩])
       (.exit 1))
      (.skip)))
     (.seq (.seq (.region [⟨(some 26), .op (.mov (.tmp 0)), none⟩,
        ⟨(some 27), .op (.load (some 3) (.tmp 4)), none⟩,
        ⟨(some 28), .call (.tmp 26) [(.tmp 27)], none⟩,
        ⟨(some 29), .op (.un .not (.tmp 28)), none⟩])
      (.cond (.tmp 29) (.ret)
      (.skip)))
     (.region [⟨(some 30), .op (.mov (.tmp 3)), none⟩,
      ⟨(some 31), .op (.fieldAddr 1 (.tmp 4)), none⟩,
      ⟨(some 32), .op (.load none (.tmp 31)), none⟩,
      ⟨(some 33), .op (.bin .add (.tmp 30) (.tmp 32)), none⟩,
      ⟨(some 3), .op (.mov (.tmp 33)), none⟩]))))))))),
  [], none, none⟩
def A96 : AFun := ⟨.seq (.region [⟨(some 2), .op (.mov (.val (.int .i64 0))), none⟩])
  (.seq (.region [⟨(some 3), .op (.mov (.tmp 0)), none⟩,
    ⟨(some 4), .call (.fnv 102) [(.tmp 3)], none⟩,
    ⟨(some 5), .op (.bin .sub (.val (.int .i64 64)) (.tmp 4)), none⟩,
    ⟨(some 2), .op (.mov (.tmp 5)), none⟩])
  (.ret)),
  [.tmp 2], none, none⟩
def A102 : AFun := ⟨.seq (.region [⟨(some 2), .op (.mov (.val (.int .i64 0))), none⟩])
  (.seq (.seq (.region [⟨(some 3), .op (.mov (.tmp 0)), none⟩,
     ⟨(some 4), .op (.bin .geq (.tmp 3) (.val (.int .u64 4294967296))), none⟩])
   (.cond (.tmp 4) (.seq (.region [⟨(some 5), .op (.mov (.tmp 0)), none⟩,
      ⟨(some 6), .op (.bin .shr (.tmp 5) (.val (.int .u64 32))), none⟩,
      ⟨(some 0), .op (.mov (.tmp 6)), none⟩])
    (.region [⟨(some 2), .op (.mov (.val (.int .i64 32))), none⟩]))
   (.skip)))
  (.seq (.seq (.region [⟨(some 7), .op (.mov (.tmp 0)), none⟩,
     ⟨(some 8), .op (.bin .geq (.tmp 7) (.val (.int .u64 65536))), none⟩])
   (.cond (.tmp 8) (.seq (.region [⟨(some 9), .op (.mov (.tmp 0)), none⟩,
      ⟨(some 10), .op (.bin .shr (.tmp 9) (.val (.int .u64 16))), none⟩,
      ⟨(some 0), .op (.mov (.tmp 10)), none⟩])
    (.region [⟨(some 11), .op (.mov (.tmp 2)), none⟩,
     ⟨(some 12), .op (.bin .add (.tmp 11) (.val (.int .i64 16))), none⟩,
     ⟨(some 2), .op (.mov (.tmp 12)), none⟩]))
   (.skip)))
  (.seq (.seq (.region [⟨(some 13), .op (.mov (.tmp 0)), none⟩,
     ⟨(some 14), .op (.bin .geq (.tmp 13) (.val (.int .u64 256))), none⟩])
   (.cond (.tmp 14) (.seq (.region [⟨(some 15), .op (.mov (.tmp 0)), none⟩,
      ⟨(some 16), .op (.bin .shr (.tmp 15) (.val (.int .u64 8))), none⟩,
      ⟨(some 0), .op (.mov (.tmp 16)), none⟩])
    (.region [⟨(some 17), .op (.mov (.tmp 2)), none⟩,
     ⟨(some 18), .op (.bin .add (.tmp 17) (.val (.int .i64 8))), none⟩,
     ⟨(some 2), .op (.mov (.tmp 18)), none⟩]))
   (.skip)))
  (.seq (.region [⟨(some 19), .op (.mov (.tmp 2)), none⟩,
    ⟨(some 20), .op (.mov (.tmp 0)), none⟩,
    ⟨(some 21), .op (.conv .u8 (.tmp 20)), none⟩,
    ⟨(some 22), .op (.indexStr (.val (.str ⟨#[0, 1, 2, 2, 3, 3, 3, 3, 4, 4, 4, 4, 4, 4, 4, 4, 5, 5, 5, 5, 5, 5, 5, 5, 5, 5, 5, 5, 5, 5, 5, 5, 6, 6, 6, 6, 6, 6, 6, 6, 6, 6, 6, 6, 6, 6, 6, 6, 6, 6, 6, 6, 6, 6, 6, 6, 6, 6, 6, 6, 6, 6, 6, 6, 7, 7, 7, 7, 7, 7, 7, 7, 7, 7, 7, 7, 7, 7, 7, 7, 7, 7, 7, 7, 7, 7, 7, 7, 7, 7, 7, 7, 7, 7, 7, 7, 7, 7, 7, 7, 7, 7, 7, 7, 7, 7, 7, 7, 7, 7, 7, 7, 7, 7, 7, 7, 7, 7, 7, 7, 7, 7, 7, 7, 7, 7, 7, 7, 8, 8, 8, 8, 8, 8, 8, 8, 8, 8, 8, 8, 8, 8, 8, 8, 8, 8, 8, 8, 8, 8, 8, 8, 8, 8, 8, 8, 8, 8, 8, 8, 8, 8, 8, 8, 8, 8, 8, 8, 8, 8, 8, 8, 8, 8, 8, 8, 8, 8, 8, 8, 8, 8, 8, 8, 8, 8, 8, 8, 8, 8, 8, 8, 8, 8, 8, 8, 8, 8, 8, 8, 8, 8, 8, 8, 8, 8, 8, 8, 8, 8, 8, 8, 8, 8, 8, 8, 8, 8, 8, 8, 8, 8, 8, 8, 8, 8, 8, 8, 8, 8, 8, 8, 8, 8, 8, 8, 8, 8, 8, 8, 8, 8, 8, 8, 8, 8, 8, 8, 8, 8, 8, 8, 8, 8, 8, 8]⟩)) (.tmp 21)), none⟩,
    ⟨(some 23), .op (.conv .i64 (.tmp 22)), none⟩,
    ⟨(some 24), .op (.bin .add (.tmp 19) (.tmp 23)), none⟩,
    ⟨(some 2), .op (.mov (.tmp 24)), none⟩])
  (.ret))))),
  [.tmp 2], none, none⟩
end Go.Proofs.YthillgheddpmhaaDoor.AmGN
