/-
  The machine's form of the functions, printed by program off the translation.
-/
import Derived.Test.YtofcnjglnnoimaaAmP
namespace Go.Proofs.Ytofcnjglnnoimaa.AmGW
open Go Go.AM
set_option maxRecDepth 100000
def A3 : AFun := ⟨.seq (.region [⟨(some 1), .op (.box (.tmp 0)), none⟩,
    ⟨(some 2), .op (.mov (.val (.bool false))), none⟩])
  (.seq (.region [⟨(some 7), .op (.load (some 3) (.tmp 1)), none⟩,
    ⟨(some 8), .call (.fnv 16) [(.tmp 7)], none⟩,
    ⟨(some 3), .op (.alloc [(.int .i64 0), (.int .i64 0), (.int .i64 0)]), none⟩,
    ⟨none, .op (.store 3 (.tmp 3) (.tmp 8)), none⟩])
  (.seq (.region [⟨(some 10), .op (.load (some 3) (.tmp 1)), none⟩,
    ⟨(some 11), .call (.fnv 17) [(.tmp 10)], none⟩,
    ⟨(some 9), .op (.mov (.tmp 11)), none⟩,
    ⟨(some 12), .op (.extract (.tmp 9) 0), none⟩,
    ⟨(some 13), .op (.extract (.tmp 9) 1), none⟩,
    ⟨(some 14), .op (.extract (.tmp 9) 2), none⟩,
    ⟨(some 4), .op (.mov (.tmp 12)), none⟩,
    ⟨(some 5), .op (.mov (.tmp 13)), none⟩,
    ⟨(some 6), .op (.mov (.tmp 14)), none⟩])
  (.seq (.region [⟨(some 15), .call (.fnv 18) [], none⟩,
    ⟨(some 16), .op (.mov (.tmp 15)), none⟩,
    ⟨(some 17), .op (.load (some 3) (.tmp 3)), (some (16, true))⟩,
    ⟨(some 18), .op (.mov (.tmp 4)), (some (16, true))⟩,
    ⟨(some 19), .op (.mov (.tmp 5)), (some (16, true))⟩,
    ⟨(some 20), .op (.mov (.tmp 6)), (some (16, true))⟩,
    ⟨(some 21), .op (.build [(.int .i64 0), (.int .i64 0), (.int .i64 0)] [(0, 1, (.tmp 18)), (1, 1, (.tmp 19)), (2, 1, (.tmp 20))]), (some (16, true))⟩,
    ⟨(some 22), .op (.eql false (.flat [.int, .int, .int]) (.tmp 17) (.tmp 21)), (some (16, true))⟩,
    ⟨(some 23), .op (.pick (.tmp 16) (.tmp 22) (.val (.bool false))), none⟩,
    ⟨(some 2), .op (.mov (.tmp 23)), none⟩])
  (.ret)))),
  [.tmp 2], none, none⟩
def A4 : AFun := ⟨.seq (.region [⟨(some 2), .op (.box (.tmp 0)), none⟩,
    ⟨(some 4), .op (.mov (.val (.bool false))), none⟩])
  (.seq (.seq (.region [⟨(some 12), .call (.fnv 18) [], none⟩,
     ⟨(some 13), .op (.un .not (.tmp 12)), none⟩,
     ⟨(some 14), .op (.mov (.tmp 13)), none⟩,
     ⟨(some 15), .op (.mov (.tmp 1)), (some (14, false))⟩,
     ⟨(some 16), .call (.fnv 19) [(.tmp 15)], (some (14, false))⟩,
     ⟨(some 17), .op (.mov (.tmp 1)), (some (14, false))⟩,
     ⟨(some 18), .op (.bin .geq (.tmp 17) (.val (.int .i64 16))), (some (14, false))⟩,
     ⟨(some 19), .op (.eql true .bool (.tmp 16) (.tmp 18)), (some (14, false))⟩,
     ⟨(some 20), .op (.pick (.tmp 14) (.val (.bool true)) (.tmp 19)), none⟩])
   (.cond (.tmp 20) (.seq (.region [⟨(some 4), .op (.mov (.val (.bool false))), none⟩])
    (.ret))
   (.skip)))
  (.seq (.region [⟨(some 21), .op (.load (some 3) (.tmp 2)), none⟩,
    ⟨(some 22), .call (.fnv 16) [(.tmp 21)], none⟩,
    ⟨(some 5), .op (.alloc [(.int .i64 0), (.int .i64 0), (.int .i64 0)]), none⟩,
    ⟨none, .op (.store 3 (.tmp 5) (.tmp 22)), none⟩])
  (.seq (.seq (.region [⟨(some 23), .op (.fieldAddr 0 (.tmp 5)), none⟩,
     ⟨(some 24), .op (.load none (.tmp 23)), none⟩,
     ⟨(some 25), .op (.bin .neq (.tmp 24) (.val (.int .i64 0))), none⟩])
   (.cond (.tmp 25) (.seq (.seq (.region [⟨(some 26), .op (.fieldAddr 1 (.tmp 5)), none⟩,
       ⟨(some 27), .op (.load none (.tmp 26)), none⟩,
       ⟨(some 28), .op (.bin .eql (.tmp 27) (.val (.int .i64 (-1)))), none⟩])
     (.cond (.tmp 28) (.seq (.region [⟨(some 29), .op (.fieldAddr 2 (.tmp 5)), none⟩,
        ⟨(some 30), .op (.load none (.tmp 29)), none⟩,
        ⟨(some 31), .op (.bin .geq (.tmp 30) (.val (.int .i64 0))), none⟩,
        ⟨(some 32), .op (.mov (.tmp 31)), none⟩,
        ⟨(some 33), .op (.fieldAddr 2 (.tmp 5)), (some (32, true))⟩,
        ⟨(some 34), .op (.load none (.tmp 33)), (some (32, true))⟩,
        ⟨(some 35), .op (.fieldAddr 0 (.tmp 2)), (some (32, true))⟩,
        ⟨(some 36), .op (.load none (.tmp 35)), (some (32, true))⟩,
        ⟨(some 37), .op (.lenS (.tmp 36)), (some (32, true))⟩,
        ⟨(some 38), .op (.fieldAddr 1 (.tmp 2)), (some (32, true))⟩,
        ⟨(some 39), .op (.load none (.tmp 38)), (some (32, true))⟩,
        ⟨(some 40), .op (.lenS (.tmp 39)), (some (32, true))⟩,
        ⟨(some 41), .op (.max (.tmp 37) (.tmp 40)), (some (32, true))⟩,
        ⟨(some 42), .op (.bin .leq (.tmp 34) (.tmp 41)), (some (32, true))⟩,
        ⟨(some 43), .op (.pick (.tmp 32) (.tmp 42) (.val (.bool false))), none⟩,
        ⟨(some 4), .op (.mov (.tmp 43)), none⟩])
      (.ret))
     (.skip)))
    (.seq (.region [⟨(some 44), .op (.fieldAddr 1 (.tmp 5)), none⟩,
      ⟨(some 45), .op (.load none (.tmp 44)), none⟩,
      ⟨(some 46), .op (.bin .geq (.tmp 45) (.val (.int .i64 0))), none⟩,
      ⟨(some 47), .op (.mov (.tmp 46)), none⟩,
      ⟨(some 48), .op (.fieldAddr 1 (.tmp 5)), (some (47, true))⟩,
      ⟨(some 49), .op (.load none (.tmp 48)), (some (47, true))⟩,
      ⟨(some 50), .op (.fieldAddr 2 (.tmp 2)), (some (47, true))⟩,
      ⟨(some 51), .op (.load none (.tmp 50)), (some (47, true))⟩,
      ⟨(some 52), .op (.lenS (.tmp 51)), (some (47, true))⟩,
      ⟨(some 53), .op (.bin .lss (.tmp 49) (.tmp 52)), (some (47, true))⟩,
      ⟨(some 54), .op (.pick (.tmp 47) (.tmp 53) (.val (.bool false))), none⟩,
      ⟨(some 55), .op (.mov (.tmp 54)), none⟩,
      ⟨(some 56), .op (.fieldAddr 2 (.tmp 5)), (some (55, true))⟩,
      ⟨(some 57), .op (.load none (.tmp 56)), (some (55, true))⟩,
      ⟨(some 58), .op (.bin .geq (.tmp 57) (.val (.int .i64 0))), (some (55, true))⟩,
      ⟨(some 59), .op (.pick (.tmp 55) (.tmp 58) (.val (.bool false))), none⟩,
      ⟨(some 60), .op (.mov (.tmp 59)), none⟩,
      ⟨(some 61), .op (.fieldAddr 2 (.tmp 5)), (some (60, true))⟩,
      ⟨(some 62), .op (.load none (.tmp 61)), (some (60, true))⟩,
      ⟨(some 63), .op (.bin .eql (.tmp 62) (.val (.int .i64 0))), (some (60, true))⟩,
      ⟨(some 64), .op (.mov (.tmp 63)), (some (60, true))⟩,
      ⟨(some 65), .op (.fieldAddr 2 (.tmp 5)), (some (64, false))⟩,
      ⟨(some 66), .op (.load none (.tmp 65)), (some (64, false))⟩,
      ⟨(some 67), .op (.fieldAddr 2 (.tmp 2)), (some (64, false))⟩,
      ⟨(some 68), .op (.load none (.tmp 67)), (some (64, false))⟩,
      ⟨(some 69), .op (.fieldAddr 1 (.tmp 5)), (some (64, false))⟩,
      ⟨(some 70), .op (.load none (.tmp 69)), (some (64, false))⟩,
      ⟨(some 71), .op (.idxS 4 (.tmp 68) (.tmp 70)), (some (64, false))⟩,
      ⟨(some 72), .op (.fieldAddr 3 (.tmp 71)), (some (64, false))⟩,
      ⟨(some 73), .op (.load none (.tmp 72)), (some (64, false))⟩,
      ⟨(some 74), .op (.lenS (.tmp 73)), (some (64, false))⟩,
      ⟨(some 75), .op (.bin .lss (.tmp 66) (.tmp 74)), (some (64, false))⟩,
      ⟨(some 76), .op (.pick (.tmp 64) (.val (.bool true)) (.tmp 75)), (some (60, true))⟩,
      ⟨(some 77), .op (.pick (.tmp 60) (.tmp 76) (.val (.bool false))), none⟩,
      ⟨(some 4), .op (.mov (.tmp 77)), none⟩])
    (.ret)))
   (.skip)))
  (.seq (.seq (.region [⟨(some 78), .op (.fieldAddr 2 (.tmp 2)), none⟩,
     ⟨(some 79), .op (.load none (.tmp 78)), none⟩,
     ⟨(some 80), .op (.lenS (.tmp 79)), none⟩,
     ⟨(some 81), .op (.mov (.val (.int .i64 0))), none⟩])
   (.block 0 (.loop (.seq (.region [⟨(some 82), .op (.bin .lss (.tmp 81) (.tmp 80)), none⟩])
     (.seq (.cond (.tmp 82) (.skip)
      (.exit 0))
     (.seq (.block 1 (.seq (.region [⟨(some 83), .op (.idxS 4 (.tmp 79) (.tmp 81)), none⟩,
         ⟨(some 84), .op (.load (some 4) (.tmp 83)), none⟩,
         ⟨(some 7), .op (.alloc [(.int .i64 0), .nils, .nils, .nils]), none⟩,
         ⟨none, .op (.store 4 (.tmp 7) (.tmp 84)), none⟩])
       (.seq (.seq (.region [⟨(some 85), .op (.fieldAddr 3 (.tmp 7)), none⟩,
          ⟨(some 86), .op (.load none (.tmp 85)), none⟩,
          ⟨(some 87), .op (.lenS (.tmp 86)), none⟩,
          ⟨(some 88), .op (.bin .eql (.tmp 87) (.val (.int .i64 0))), none⟩,
          ⟨(some 89), .op (.mov (.tmp 88)), none⟩,
          ⟨(some 90), .op (.fieldAddr 0 (.tmp 7)), (some (89, false))⟩,
          ⟨(some 91), .op (.load none (.tmp 90)), (some (89, false))⟩,
          ⟨(some 92), .op (.fieldAddr 1 (.tmp 7)), (some (89, false))⟩,
          ⟨(some 93), .op (.load none (.tmp 92)), (some (89, false))⟩,
          ⟨(some 94), .op (.lenS (.tmp 93)), (some (89, false))⟩,
          ⟨(some 95), .op (.bin .gtr (.tmp 91) (.tmp 94)), (some (89, false))⟩,
          ⟨(some 96), .op (.pick (.tmp 89) (.val (.bool true)) (.tmp 95)), none⟩])
        (.cond (.tmp 96) (.seq (.region [⟨(some 4), .op (.mov (.val (.bool false))), none⟩])
         (.ret))
        (.skip)))
       (.seq (.region [⟨(some 97), .op (.fieldAddr 3 (.tmp 7)), none⟩,
         ⟨(some 98), .op (.load none (.tmp 97)), none⟩,
         ⟨(some 99), .op (.lenS (.tmp 98)), none⟩,
         ⟨(some 100), .op (.mov (.val (.int .i64 0))), none⟩])
       (.block 2 (.loop (.seq (.region [⟨(some 101), .op (.bin .lss (.tmp 100) (.tmp 99)), none⟩])
         (.seq (.cond (.tmp 101) (.skip)
          (.exit 2))
         (.seq (.block 3 (.seq (.region [⟨(some 102), .op (.idxS 6 (.tmp 98) (.tmp 100)), none⟩,
             ⟨(some 103), .op (.load (some 6) (.tmp 102)), none⟩,
             ⟨(some 9), .op (.alloc [(.int .i64 0), (.int .i64 0), (.int .i64 0), (.int .i64 0), (.int .u64 0), .nils]), none⟩,
             ⟨none, .op (.store 6 (.tmp 9) (.tmp 103)), none⟩])
           (.seq (.seq (.region [⟨(some 104), .op (.fieldAddr 0 (.tmp 9)), none⟩,
              ⟨(some 105), .op (.load none (.tmp 104)), none⟩,
              ⟨(some 106), .op (.bin .lss (.tmp 105) (.val (.int .i64 1))), none⟩,
              ⟨(some 107), .op (.mov (.tmp 106)), none⟩,
              ⟨(some 108), .op (.fieldAddr 0 (.tmp 9)), (some (107, false))⟩,
              ⟨(some 109), .op (.load none (.tmp 108)), (some (107, false))⟩,
              ⟨(some 110), .op (.bin .gtr (.tmp 109) (.val (.int .i64 52))), (some (107, false))⟩,
              ⟨(some 111), .op (.pick (.tmp 107) (.val (.bool true)) (.tmp 110)), none⟩,
              ⟨(some 112), .op (.mov (.tmp 111)), none⟩,
              ⟨(some 113), .op (.fieldAddr 0 (.tmp 9)), (some (112, false))⟩,
              ⟨(some 114), .op (.load none (.tmp 113)), (some (112, false))⟩,
              ⟨(some 115), .op (.bin .eql (.tmp 114) (.val (.int .i64 24))), (some (112, false))⟩,
              ⟨(some 116), .op (.mov (.tmp 115)), (some (112, false))⟩,
              ⟨(some 117), .op (.fieldAddr 1 (.tmp 9)), (some (116, true))⟩,
              ⟨(some 118), .op (.load none (.tmp 117)), (some (116, true))⟩,
              ⟨(some 119), .op (.fieldAddr 3 (.tmp 7)), (some (116, true))⟩,
              ⟨(some 120), .op (.load none (.tmp 119)), (some (116, true))⟩,
              ⟨(some 121), .op (.lenS (.tmp 120)), (some (116, true))⟩,
              ⟨(some 122), .op (.bin .geq (.tmp 118) (.tmp 121)), (some (116, true))⟩,
              ⟨(some 123), .op (.pick (.tmp 116) (.tmp 122) (.val (.bool false))), (some (112, false))⟩,
              ⟨(some 124), .op (.pick (.tmp 112) (.val (.bool true)) (.tmp 123)), none⟩,
              ⟨(some 125), .op (.mov (.tmp 124)), none⟩,
              ⟨(some 126), .op (.fieldAddr 0 (.tmp 9)), (some (125, false))⟩,
              ⟨(some 127), .op (.load none (.tmp 126)), (some (125, false))⟩,
              ⟨(some 128), .op (.bin .eql (.tmp 127) (.val (.int .i64 25))), (some (125, false))⟩,
              ⟨(some 129), .op (.mov (.tmp 128)), (some (125, false))⟩,
              ⟨(some 130), .op (.fieldAddr 2 (.tmp 9)), (some (129, true))⟩,
              ⟨(some 131), .op (.load none (.tmp 130)), (some (129, true))⟩,
              ⟨(some 132), .op (.fieldAddr 3 (.tmp 7)), (some (129, true))⟩,
              ⟨(some 133), .op (.load none (.tmp 132)), (some (129, true))⟩,
              ⟨(some 134), .op (.lenS (.tmp 133)), (some (129, true))⟩,
              ⟨(some 135), .op (.bin .geq (.tmp 131) (.tmp 134)), (some (129, true))⟩,
              ⟨(some 136), .op (.pick (.tmp 129) (.tmp 135) (.val (.bool false))), (some (125, false))⟩,
              ⟨(some 137), .op (.pick (.tmp 125) (.val (.bool true)) (.tmp 136)), none⟩])
            (.cond (.tmp 137) (.seq (.region [⟨(some 4), .op (.mov (.val (.bool false))), none⟩])
             (.ret))
            (.skip)))
           (.seq (.region [⟨(some 138), .op (.fieldAddr 0 (.tmp 9)), none⟩,
             ⟨(some 139), .op (.load none (.tmp 138)), none⟩,
             ⟨(some 140), .op (.bin .eql (.tmp 139) (.val (.int .i64 36))), none⟩,
             ⟨(some 141), .op (.mov (.tmp 140)), none⟩,
             ⟨(some 142), .op (.fieldAddr 0 (.tmp 9)), (some (141, false))⟩,
             ⟨(some 143), .op (.load none (.tmp 142)), (some (141, false))⟩,
             ⟨(some 144), .op (.bin .eql (.tmp 143) (.val (.int .i64 35))), (some (141, false))⟩,
             ⟨(some 145), .op (.pick (.tmp 141) (.val (.bool true)) (.tmp 144)), none⟩])
           (.cond (.tmp 145) (.seq (.region [⟨(some 146), .op (.fieldAddr 5 (.tmp 9)), none⟩,
              ⟨(some 147), .op (.load none (.tmp 146)), none⟩,
              ⟨(some 148), .op (.lenS (.tmp 147)), none⟩,
              ⟨(some 149), .op (.mov (.val (.int .i64 0))), none⟩])
            (.block 4 (.loop (.seq (.region [⟨(some 150), .op (.bin .lss (.tmp 149) (.tmp 148)), none⟩])
              (.seq (.cond (.tmp 150) (.skip)
               (.exit 4))
              (.seq (.block 5 (.seq (.region [⟨(some 151), .op (.idxS 1 (.tmp 147) (.tmp 149)), none⟩,
                  ⟨(some 152), .op (.load none (.tmp 151)), none⟩,
                  ⟨(some 11), .op (.mov (.tmp 152)), none⟩])
                (.seq (.region [⟨(some 153), .op (.mov (.tmp 11)), none⟩,
                  ⟨(some 154), .op (.bin .lss (.tmp 153) (.val (.int .i64 0))), none⟩,
                  ⟨(some 155), .op (.mov (.tmp 154)), none⟩,
                  ⟨(some 156), .op (.mov (.tmp 11)), (some (155, false))⟩,
                  ⟨(some 157), .op (.fieldAddr 1 (.tmp 7)), (some (155, false))⟩,
                  ⟨(some 158), .op (.load none (.tmp 157)), (some (155, false))⟩,
                  ⟨(some 159), .op (.lenS (.tmp 158)), (some (155, false))⟩,
                  ⟨(some 160), .op (.bin .geq (.tmp 156) (.tmp 159)), (some (155, false))⟩,
                  ⟨(some 161), .op (.pick (.tmp 155) (.val (.bool true)) (.tmp 160)), none⟩])
                (.cond (.tmp 161) (.seq (.region [⟨(some 4), .op (.mov (.val (.bool false))), none⟩])
                 (.ret))
                (.skip)))))
              (.region [⟨(some 162), .op (.bin .add (.tmp 149) (.val (.int .i64 1))), none⟩,
               ⟨(some 149), .op (.mov (.tmp 162)), none⟩])))))))
           (.skip))))))
         (.region [⟨(some 163), .op (.bin .add (.tmp 100) (.val (.int .i64 1))), none⟩,
          ⟨(some 100), .op (.mov (.tmp 163)), none⟩]))))))))))
     (.region [⟨(some 164), .op (.bin .add (.tmp 81) (.val (.int .i64 1))), none⟩,
      ⟨(some 81), .op (.mov (.tmp 164)), none⟩])))))))
  (.seq (.region [⟨(some 4), .op (.mov (.val (.bool true))), none⟩])
  (.ret)))))),
  [.tmp 4], none, none⟩
def A5 : AFun := ⟨.seq (.region [⟨(some 1), .op (.box (.tmp 0)), none⟩,
    ⟨(some 2), .op (.mov (.val (.bool false))), none⟩])
  (.seq (.seq (.region [⟨(some 8), .call (.fnv 18) [], none⟩,
     ⟨(some 9), .op (.un .not (.tmp 8)), none⟩])
   (.cond (.tmp 9) (.seq (.region [⟨(some 2), .op (.mov (.val (.bool false))), none⟩])
    (.ret))
   (.skip)))
  (.seq (.region [⟨(some 11), .op (.load (some 3) (.tmp 1)), none⟩,
    ⟨(some 12), .call (.fnv 20) [(.tmp 11)], none⟩,
    ⟨(some 10), .op (.mov (.tmp 12)), none⟩,
    ⟨(some 13), .op (.extract (.tmp 10) 0), none⟩,
    ⟨(some 14), .op (.extract (.tmp 10) 1), none⟩,
    ⟨(some 3), .op (.mov (.tmp 13)), none⟩,
    ⟨(some 4), .op (.mov (.tmp 14)), none⟩])
  (.seq (.region [⟨(some 15), .op (.load (some 3) (.tmp 1)), none⟩,
    ⟨(some 16), .call (.fnv 16) [(.tmp 15)], none⟩,
    ⟨(some 5), .op (.alloc [(.int .i64 0), (.int .i64 0), (.int .i64 0)]), none⟩,
    ⟨none, .op (.store 3 (.tmp 5) (.tmp 16)), none⟩])
  (.seq (.region [⟨(some 18), .op (.load (some 3) (.tmp 1)), none⟩,
    ⟨(some 19), .call (.fnv 20) [(.tmp 18)], none⟩,
    ⟨(some 17), .op (.mov (.tmp 19)), none⟩,
    ⟨(some 20), .op (.extract (.tmp 17) 0), none⟩,
    ⟨(some 21), .op (.extract (.tmp 17) 1), none⟩,
    ⟨(some 6), .op (.mov (.tmp 20)), none⟩,
    ⟨(some 7), .op (.mov (.tmp 21)), none⟩])
  (.seq (.draw [⟨⟨(some 22), .op (.mov (.tmp 4)), none⟩, .pure⟩,
    ⟨⟨(some 23), .op (.mov (.tmp 7)), none⟩, .pure⟩,
    ⟨⟨(some 24), .op (.bin .eql (.tmp 22) (.tmp 23)), none⟩, .pure⟩,
    ⟨⟨(some 25), .op (.mov (.tmp 24)), none⟩, .pure⟩,
    ⟨⟨(some 26), .op (.mov (.tmp 3)), (some (25, true))⟩, .pure⟩,
    ⟨⟨(some 27), .op (.b2s (.tmp 26)), (some (25, true))⟩, .read []⟩,
    ⟨⟨(some 28), .op (.mov (.tmp 6)), (some (25, true))⟩, .pure⟩,
    ⟨⟨(some 29), .op (.b2s (.tmp 28)), (some (25, true))⟩, .read []⟩,
    ⟨⟨(some 30), .op (.bin .eql (.tmp 27) (.tmp 29)), (some (25, true))⟩, .pure⟩,
    ⟨⟨(some 31), .op (.pick (.tmp 25) (.tmp 30) (.val (.bool false))), none⟩, .pure⟩,
    ⟨⟨(some 32), .op (.mov (.tmp 31)), none⟩, .pure⟩,
    ⟨⟨(some 33), .op (.load (some 3) (.tmp 1)), (some (32, true))⟩, .read []⟩,
    ⟨⟨(some 34), .call (.fnv 16) [(.tmp 33)], (some (32, true))⟩, .act false⟩,
    ⟨⟨(some 35), .op (.load (some 3) (.tmp 5)), (some (32, true))⟩, .read [12]⟩,
    ⟨⟨(some 36), .op (.eql false (.flat [.int, .int, .int]) (.tmp 34) (.tmp 35)), (some (32, true))⟩, .pure⟩,
    ⟨⟨(some 37), .op (.pick (.tmp 32) (.tmp 36) (.val (.bool false))), none⟩, .pure⟩,
    ⟨⟨(some 2), .op (.mov (.tmp 37)), none⟩, .pure⟩])
  (.ret)))))),
  [.tmp 2], none, none⟩
def A6 : AFun := ⟨.seq (.region [⟨(some 2), .op (.box (.tmp 0)), none⟩,
    ⟨(some 4), .op (.mov (.val (.bool false))), none⟩])
  (.seq (.region [⟨(some 10), .op (.load (some 3) (.tmp 2)), none⟩,
    ⟨(some 11), .call (.fnv 16) [(.tmp 10)], none⟩,
    ⟨(some 5), .op (.alloc [(.int .i64 0), (.int .i64 0), (.int .i64 0)]), none⟩,
    ⟨none, .op (.store 3 (.tmp 5) (.tmp 11)), none⟩])
  (.seq (.seq (.region [⟨(some 12), .call (.fnv 18) [], none⟩,
     ⟨(some 13), .op (.un .not (.tmp 12)), none⟩])
   (.cond (.tmp 13) (.seq (.region [⟨(some 4), .op (.mov (.val (.bool false))), none⟩])
    (.ret))
   (.skip)))
  (.seq (.region [⟨(some 14), .op (.fieldAddr 2 (.tmp 2)), none⟩,
    ⟨(some 15), .op (.load none (.tmp 14)), none⟩,
    ⟨(some 16), .op (.lenS (.tmp 15)), none⟩,
    ⟨(some 6), .op (.mov (.tmp 16)), none⟩])
  (.seq (.seq (.region [⟨(some 17), .op (.mov (.tmp 6)), none⟩,
     ⟨(some 18), .op (.bin .eql (.tmp 17) (.val (.int .i64 0))), none⟩,
     ⟨(some 19), .op (.mov (.tmp 18)), none⟩,
     ⟨(some 20), .op (.mov (.tmp 6)), (some (19, false))⟩,
     ⟨(some 21), .op (.bin .gtr (.tmp 20) (.val (.int .i64 32))), (some (19, false))⟩,
     ⟨(some 22), .op (.pick (.tmp 19) (.val (.bool true)) (.tmp 21)), none⟩])
   (.cond (.tmp 22) (.seq (.region [⟨(some 23), .op (.fieldAddr 0 (.tmp 5)), none⟩,
      ⟨(some 24), .op (.load none (.tmp 23)), none⟩,
      ⟨(some 25), .op (.bin .eql (.tmp 24) (.val (.int .i64 16))), none⟩,
      ⟨(some 4), .op (.mov (.tmp 25)), none⟩])
    (.ret))
   (.skip)))
  (.seq (.seq (.region [⟨(some 26), .op (.mov (.tmp 6)), none⟩,
     ⟨(some 27), .op (.bin .eql (.tmp 26) (.val (.int .i64 32))), none⟩,
     ⟨(some 28), .op (.mov (.tmp 27)), none⟩,
     ⟨(some 29), .op (.fieldAddr 0 (.tmp 5)), (some (28, false))⟩,
     ⟨(some 30), .op (.load none (.tmp 29)), (some (28, false))⟩,
     ⟨(some 31), .op (.bin .eql (.tmp 30) (.val (.int .i64 13))), (some (28, false))⟩,
     ⟨(some 32), .op (.pick (.tmp 28) (.val (.bool true)) (.tmp 31)), none⟩])
   (.cond (.tmp 32) (.seq (.region [⟨(some 4), .op (.mov (.val (.bool true))), none⟩])
    (.ret))
   (.skip)))
  (.seq (.region [⟨(some 33), .op (.buildSlice 1 1 [(.int .i64 0)] [(0, (.val (.int .i64 0)))]), none⟩,
    ⟨(some 34), .op (.build [(.int .i64 0), (.int .i64 0), (.int .i64 0), (.int .i64 0), (.int .u64 0), .nils] [(0, 1, (.val (.int .i64 1))), (4, 1, (.val (.int .u64 5)))]), none⟩,
    ⟨(some 35), .op (.build [(.int .i64 0), (.int .i64 0), (.int .i64 0), (.int .i64 0), (.int .u64 0), .nils] [(0, 1, (.val (.int .i64 36)))]), none⟩,
    ⟨(some 36), .op (.buildSlice 6 2 [(.int .i64 0), (.int .i64 0), (.int .i64 0), (.int .i64 0), (.int .u64 0), .nils] [(0, (.tmp 34)), (1, (.tmp 35))]), none⟩,
    ⟨(some 37), .op (.build [(.int .i64 0), .nils, .nils, .nils] [(1, 1, (.tmp 33)), (3, 1, (.tmp 36))]), none⟩,
    ⟨(some 7), .op (.alloc [(.int .i64 0), .nils, .nils, .nils]), none⟩,
    ⟨none, .op (.store 4 (.tmp 7) (.tmp 37)), none⟩])
  (.seq (.seq (.region [⟨(some 38), .op (.mov (.tmp 1)), none⟩])
   (.cond (.tmp 38) (.region [⟨(some 39), .op (.build [(.int .i64 0), (.int .i64 0), (.int .i64 0), (.int .i64 0), (.int .u64 0), .nils] [(0, 1, (.val (.int .i64 1))), (4, 1, (.val (.int .u64 5)))]), none⟩,
     ⟨(some 40), .op (.build [(.int .i64 0), (.int .i64 0), (.int .i64 0), (.int .i64 0), (.int .u64 0), .nils] [(0, 1, (.val (.int .i64 48))), (1, 1, (.val (.int .i64 1)))]), none⟩,
     ⟨(some 41), .op (.build [(.int .i64 0), (.int .i64 0), (.int .i64 0), (.int .i64 0), (.int .u64 0), .nils] [(0, 1, (.val (.int .i64 36)))]), none⟩,
     ⟨(some 42), .op (.buildSlice 6 3 [(.int .i64 0), (.int .i64 0), (.int .i64 0), (.int .i64 0), (.int .u64 0), .nils] [(0, (.tmp 39)), (1, (.tmp 40)), (2, (.tmp 41))]), none⟩,
     ⟨(some 43), .op (.fieldAddr 3 (.tmp 7)), none⟩,
     ⟨none, .op (.store 1 (.tmp 43) (.tmp 42)), none⟩])
   (.skip)))
  (.seq (.region [⟨(some 44), .op (.load (some 3) (.tmp 2)), none⟩,
    ⟨(some 8), .op (.alloc [.nils, .nils, .nils]), none⟩,
    ⟨none, .op (.store 3 (.tmp 8) (.tmp 44)), none⟩])
  (.seq (.region [⟨(some 45), .op (.fieldAddr 2 (.tmp 8)), none⟩,
    ⟨none, .op (.store 1 (.tmp 45) (.val .nils)), none⟩])
  (.seq (.region [⟨(some 46), .op (.fieldAddr 2 (.tmp 8)), none⟩,
    ⟨(some 47), .op (.load none (.tmp 46)), none⟩,
    ⟨(some 48), .op (.fieldAddr 2 (.tmp 2)), none⟩,
    ⟨(some 49), .op (.load none (.tmp 48)), none⟩,
    ⟨(some 50), .op (.append 4 80 (.tmp 47) (.tmp 49)), none⟩,
    ⟨(some 51), .op (.fieldAddr 2 (.tmp 8)), none⟩,
    ⟨none, .op (.store 1 (.tmp 51) (.tmp 50)), none⟩])
  (.seq (.region [⟨(some 52), .op (.fieldAddr 2 (.tmp 8)), none⟩,
    ⟨(some 53), .op (.load none (.tmp 52)), none⟩,
    ⟨(some 54), .op (.load (some 4) (.tmp 7)), none⟩,
    ⟨(some 55), .op (.buildSlice 4 1 [(.int .i64 0), .nils, .nils, .nils] [(0, (.tmp 54))]), none⟩,
    ⟨(some 56), .op (.append 4 80 (.tmp 53) (.tmp 55)), none⟩,
    ⟨(some 57), .op (.fieldAddr 2 (.tmp 8)), none⟩,
    ⟨none, .op (.store 1 (.tmp 57) (.tmp 56)), none⟩])
  (.seq (.region [⟨(some 58), .op (.load (some 3) (.tmp 8)), none⟩,
    ⟨(some 59), .call (.fnv 16) [(.tmp 58)], none⟩,
    ⟨(some 9), .op (.alloc [(.int .i64 0), (.int .i64 0), (.int .i64 0)]), none⟩,
    ⟨none, .op (.store 3 (.tmp 9) (.tmp 59)), none⟩])
  (.seq (.seq (.region [⟨(some 60), .op (.fieldAddr 0 (.tmp 5)), none⟩,
     ⟨(some 61), .op (.load none (.tmp 60)), none⟩,
     ⟨(some 62), .op (.bin .neq (.tmp 61) (.val (.int .i64 0))), none⟩])
   (.cond (.tmp 62) (.seq (.region [⟨(some 63), .op (.load (some 3) (.tmp 9)), none⟩,
      ⟨(some 64), .op (.load (some 3) (.tmp 5)), none⟩,
      ⟨(some 65), .op (.eql false (.flat [.int, .int, .int]) (.tmp 63) (.tmp 64)), none⟩,
      ⟨(some 4), .op (.mov (.tmp 65)), none⟩])
    (.ret))
   (.skip)))
  (.seq (.seq (.region [⟨(some 66), .op (.mov (.tmp 1)), none⟩])
   (.cond (.tmp 66) (.seq (.region [⟨(some 67), .op (.load (some 3) (.tmp 9)), none⟩,
      ⟨(some 68), .op (.mov (.tmp 6)), none⟩,
      ⟨(some 69), .op (.build [(.int .i64 0), (.int .i64 0), (.int .i64 0)] [(0, 1, (.val (.int .i64 11))), (1, 1, (.tmp 68)), (2, 1, (.val (.int .i64 1)))]), none⟩,
      ⟨(some 70), .op (.eql false (.flat [.int, .int, .int]) (.tmp 67) (.tmp 69)), none⟩,
      ⟨(some 4), .op (.mov (.tmp 70)), none⟩])
    (.ret))
   (.skip)))
  (.seq (.region [⟨(some 71), .op (.load (some 3) (.tmp 9)), none⟩,
    ⟨(some 72), .op (.build [(.int .i64 0), (.int .i64 0), (.int .i64 0)] []), none⟩,
    ⟨(some 73), .op (.eql false (.flat [.int, .int, .int]) (.tmp 71) (.tmp 72)), none⟩,
    ⟨(some 4), .op (.mov (.tmp 73)), none⟩])
  (.ret)))))))))))))))),
  [.tmp 4], none, none⟩
def A16 : AFun := ⟨.seq (.region [⟨(some 1), .op (.box (.tmp 0)), none⟩,
    ⟨(some 2), .op (.alloc [(.int .i64 0), (.int .i64 0), (.int .i64 0)]), none⟩])
  (.seq (.region [⟨(some 14), .op (.load (some 3) (.tmp 1)), none⟩,
    ⟨(some 15), .op (.build [.nils, .nils, .nils, (.int .i64 0), .nils, .nils, .nils, (.int .i64 0), (.int .i64 0), (.int .i64 0), (.int .i64 0), (.int .i64 0), (.int .u64 0), .nils] [(0, 3, (.tmp 14))]), none⟩,
    ⟨(some 16), .op (.box (.tmp 15)), none⟩,
    ⟨(some 3), .op (.mov (.tmp 16)), none⟩])
  (.seq (.seq (.region [⟨(some 18), .op (.mov (.tmp 3)), none⟩,
     ⟨(some 19), .call (.fnv 32) [(.tmp 18)], none⟩,
     ⟨(some 17), .op (.mov (.tmp 19)), none⟩,
     ⟨(some 20), .op (.extract (.tmp 17) 0), none⟩,
     ⟨(some 21), .op (.extract (.tmp 17) 1), none⟩,
     ⟨(some 4), .op (.mov (.tmp 20)), none⟩,
     ⟨(some 5), .op (.mov (.tmp 21)), none⟩])
   (.seq (.region [⟨(some 22), .op (.mov (.tmp 4)), none⟩,
     ⟨(some 23), .op (.bin .neq (.tmp 22) (.val (.int .i64 0))), none⟩])
   (.cond (.tmp 23) (.seq (.region [⟨(some 24), .op (.mov (.tmp 4)), none⟩,
      ⟨(some 25), .op (.mov (.tmp 5)), none⟩,
      ⟨(some 26), .op (.build [(.int .i64 0), (.int .i64 0), (.int .i64 0)] [(0, 1, (.tmp 24)), (1, 1, (.val (.int .i64 (-1)))), (2, 1, (.tmp 25))]), none⟩,
      ⟨none, .op (.store 3 (.tmp 2) (.tmp 26)), none⟩])
    (.ret))
   (.skip))))
  (.seq (.seq (.region [⟨(some 27), .op (.fieldAddr 2 (.tmp 1)), none⟩,
     ⟨(some 28), .op (.load none (.tmp 27)), none⟩,
     ⟨(some 29), .op (.lenS (.tmp 28)), none⟩,
     ⟨(some 30), .op (.mov (.val (.int .i64 0))), none⟩])
   (.block 0 (.loop (.seq (.region [⟨(some 31), .op (.bin .lss (.tmp 30) (.tmp 29)), none⟩])
     (.seq (.cond (.tmp 31) (.skip)
      (.exit 0))
     (.seq (.block 1 (.seq (.region [⟨(some 32), .op (.mov (.tmp 30)), none⟩,
         ⟨(some 33), .op (.idxS 4 (.tmp 28) (.tmp 30)), none⟩,
         ⟨(some 34), .op (.load (some 4) (.tmp 33)), none⟩,
         ⟨(some 7), .op (.alloc [(.int .i64 0), .nils, .nils, .nils]), none⟩,
         ⟨(some 6), .op (.mov (.tmp 32)), none⟩,
         ⟨none, .op (.store 4 (.tmp 7) (.tmp 34)), none⟩])
       (.seq (.region [⟨(some 35), .op (.mov (.tmp 3)), none⟩,
         ⟨(some 36), .op (.load (some 4) (.tmp 7)), none⟩,
         ⟨(some 37), .op (.nilCheck (.tmp 35)), none⟩,
         ⟨(some 38), .op (.fieldAddr 3 (.tmp 37)), none⟩,
         ⟨none, .op (.store 4 (.tmp 38) (.tmp 36)), none⟩])
       (.seq (.region [⟨(some 39), .op (.mov (.tmp 3)), none⟩,
         ⟨(some 40), .op (.mov (.tmp 6)), none⟩,
         ⟨(some 41), .op (.bin .eql (.tmp 40) (.val (.int .i64 0))), none⟩,
         ⟨(some 42), .call (.fnv 33) [(.tmp 39), (.tmp 41)], none⟩,
         ⟨(some 8), .op (.mov (.tmp 42)), none⟩])
       (.seq (.region [⟨(some 43), .op (.mov (.tmp 8)), none⟩,
         ⟨(some 44), .op (.bin .neq (.tmp 43) (.val (.int .i64 0))), none⟩])
       (.cond (.tmp 44) (.seq (.region [⟨(some 45), .op (.mov (.tmp 8)), none⟩,
          ⟨(some 46), .op (.mov (.tmp 6)), none⟩,
          ⟨(some 47), .op (.build [(.int .i64 0), (.int .i64 0), (.int .i64 0)] [(0, 1, (.tmp 45)), (1, 1, (.tmp 46))]), none⟩,
          ⟨none, .op (.store 3 (.tmp 2) (.tmp 47)), none⟩])
        (.ret))
       (.skip)))))))
     (.region [⟨(some 48), .op (.bin .add (.tmp 30) (.val (.int .i64 1))), none⟩,
      ⟨(some 30), .op (.mov (.tmp 48)), none⟩])))))))
  (.seq (.seq (.region [⟨(some 49), .op (.fieldAddr 2 (.tmp 1)), none⟩,
     ⟨(some 50), .op (.load none (.tmp 49)), none⟩,
     ⟨(some 51), .op (.lenS (.tmp 50)), none⟩,
     ⟨(some 52), .op (.mov (.val (.int .i64 0))), none⟩])
   (.block 2 (.loop (.seq (.region [⟨(some 53), .op (.bin .lss (.tmp 52) (.tmp 51)), none⟩])
     (.seq (.cond (.tmp 53) (.skip)
      (.exit 2))
     (.seq (.block 3 (.seq (.region [⟨(some 54), .op (.mov (.tmp 52)), none⟩,
         ⟨(some 55), .op (.idxS 4 (.tmp 50) (.tmp 52)), none⟩,
         ⟨(some 56), .op (.load (some 4) (.tmp 55)), none⟩,
         ⟨(some 10), .op (.alloc [(.int .i64 0), .nils, .nils, .nils]), none⟩,
         ⟨(some 9), .op (.mov (.tmp 54)), none⟩,
         ⟨none, .op (.store 4 (.tmp 10) (.tmp 56)), none⟩])
       (.seq (.region [⟨(some 57), .op (.mov (.tmp 3)), none⟩,
         ⟨(some 58), .op (.load (some 4) (.tmp 10)), none⟩,
         ⟨(some 59), .op (.nilCheck (.tmp 57)), none⟩,
         ⟨(some 60), .op (.fieldAddr 3 (.tmp 59)), none⟩,
         ⟨none, .op (.store 4 (.tmp 60) (.tmp 58)), none⟩])
       (.seq (.region [⟨(some 61), .op (.fieldAddr 3 (.tmp 10)), none⟩,
         ⟨(some 62), .op (.load none (.tmp 61)), none⟩,
         ⟨(some 63), .op (.lenS (.tmp 62)), none⟩,
         ⟨(some 64), .op (.mov (.val (.int .i64 0))), none⟩])
       (.block 4 (.loop (.seq (.region [⟨(some 65), .op (.bin .lss (.tmp 64) (.tmp 63)), none⟩])
         (.seq (.cond (.tmp 65) (.skip)
          (.exit 4))
         (.seq (.block 5 (.seq (.region [⟨(some 66), .op (.mov (.tmp 64)), none⟩,
             ⟨(some 67), .op (.idxS 6 (.tmp 62) (.tmp 64)), none⟩,
             ⟨(some 68), .op (.load (some 6) (.tmp 67)), none⟩,
             ⟨(some 12), .op (.alloc [(.int .i64 0), (.int .i64 0), (.int .i64 0), (.int .i64 0), (.int .u64 0), .nils]), none⟩,
             ⟨(some 11), .op (.mov (.tmp 66)), none⟩,
             ⟨none, .op (.store 6 (.tmp 12) (.tmp 68)), none⟩])
           (.seq (.draw [⟨⟨(some 69), .op (.mov (.tmp 3)), none⟩, .pure⟩,
             ⟨⟨(some 70), .op (.mov (.tmp 3)), none⟩, .pure⟩,
             ⟨⟨(some 71), .op (.mov (.tmp 11)), none⟩, .pure⟩,
             ⟨⟨(some 72), .op (.load (some 6) (.tmp 12)), none⟩, .read [9]⟩,
             ⟨⟨(some 73), .op (.nilCheck (.tmp 69)), none⟩, .pure⟩,
             ⟨⟨(some 74), .op (.fieldAddr 7 (.tmp 73)), none⟩, .pure⟩,
             ⟨⟨none, .op (.store 1 (.tmp 74) (.tmp 71)), none⟩, .act true⟩,
             ⟨⟨(some 75), .op (.nilCheck (.tmp 70)), none⟩, .pure⟩,
             ⟨⟨(some 76), .op (.fieldAddr 8 (.tmp 75)), none⟩, .pure⟩,
             ⟨⟨none, .op (.store 6 (.tmp 76) (.tmp 72)), none⟩, .act true⟩])
           (.seq (.region [⟨(some 77), .op (.mov (.tmp 3)), none⟩,
             ⟨(some 78), .call (.fnv 34) [(.tmp 77)], none⟩,
             ⟨(some 13), .op (.mov (.tmp 78)), none⟩])
           (.seq (.region [⟨(some 79), .op (.mov (.tmp 13)), none⟩,
             ⟨(some 80), .op (.bin .neq (.tmp 79) (.val (.int .i64 0))), none⟩])
           (.cond (.tmp 80) (.seq (.region [⟨(some 81), .op (.mov (.tmp 13)), none⟩,
              ⟨(some 82), .op (.mov (.tmp 9)), none⟩,
              ⟨(some 83), .op (.mov (.tmp 11)), none⟩,
              ⟨(some 84), .op (.build [(.int .i64 0), (.int .i64 0), (.int .i64 0)] [(0, 1, (.tmp 81)), (1, 1, (.tmp 82)), (2, 1, (.tmp 83))]), none⟩,
              ⟨none, .op (.store 3 (.tmp 2) (.tmp 84)), none⟩])
            (.ret))
           (.skip)))))))
         (.region [⟨(some 85), .op (.bin .add (.tmp 64) (.val (.int .i64 1))), none⟩,
          ⟨(some 64), .op (.mov (.tmp 85)), none⟩]))))))))))
     (.region [⟨(some 86), .op (.bin .add (.tmp 52) (.val (.int .i64 1))), none⟩,
      ⟨(some 52), .op (.mov (.tmp 86)), none⟩])))))))
  (.seq (.region [⟨(some 87), .op (.build [(.int .i64 0), (.int .i64 0), (.int .i64 0)] []), none⟩,
    ⟨none, .op (.store 3 (.tmp 2) (.tmp 87)), none⟩])
  (.ret)))))),
  [.cell 2 (some 3)], none, none⟩
def A17 : AFun := ⟨.seq (.region [⟨(some 1), .op (.box (.tmp 0)), none⟩,
    ⟨(some 2), .op (.mov (.val (.int .i64 0))), none⟩,
    ⟨(some 3), .op (.mov (.val (.int .i64 0))), none⟩,
    ⟨(some 4), .op (.mov (.val (.int .i64 0))), none⟩])
  (.seq (.region [⟨(some 11), .op (.load (some 3) (.tmp 1)), none⟩,
    ⟨(some 12), .call (.fnv 35) [(.tmp 11)], none⟩,
    ⟨(some 10), .op (.mov (.tmp 12)), none⟩,
    ⟨(some 13), .op (.extract (.tmp 10) 0), none⟩,
    ⟨(some 14), .op (.extract (.tmp 10) 1), none⟩,
    ⟨(some 5), .op (.mov (.tmp 13)), none⟩,
    ⟨(some 6), .op (.mov (.tmp 14)), none⟩])
  (.seq (.seq (.region [⟨(some 15), .op (.mov (.tmp 5)), none⟩,
     ⟨(some 16), .op (.bin .neq (.tmp 15) (.val (.int .i64 0))), none⟩])
   (.cond (.tmp 16) (.seq (.region [⟨(some 17), .op (.mov (.tmp 5)), none⟩,
      ⟨(some 18), .op (.mov (.tmp 6)), none⟩,
      ⟨(some 2), .op (.mov (.tmp 17)), none⟩,
      ⟨(some 3), .op (.mov (.val (.int .i64 (-1)))), none⟩,
      ⟨(some 4), .op (.mov (.tmp 18)), none⟩])
    (.ret))
   (.skip)))
  (.seq (.seq (.region [⟨(some 7), .op (.mov (.val (.int .i64 0))), none⟩])
   (.block 0 (.loop (.seq (.seq (.region [⟨(some 19), .op (.mov (.tmp 7)), none⟩,
        ⟨(some 20), .op (.fieldAddr 2 (.tmp 1)), none⟩,
        ⟨(some 21), .op (.load none (.tmp 20)), none⟩,
        ⟨(some 22), .op (.lenS (.tmp 21)), none⟩,
        ⟨(some 23), .op (.bin .lss (.tmp 19) (.tmp 22)), none⟩])
      (.cond (.tmp 23) (.skip)
      (.exit 0)))
     (.seq (.block 1 (.seq (.region [⟨(some 26), .op (.load (some 3) (.tmp 1)), none⟩,
         ⟨(some 27), .op (.mov (.tmp 7)), none⟩,
         ⟨(some 28), .call (.fnv 36) [(.tmp 26), (.tmp 27)], none⟩,
         ⟨(some 5), .op (.mov (.tmp 28)), none⟩])
       (.seq (.region [⟨(some 29), .op (.mov (.tmp 5)), none⟩,
         ⟨(some 30), .op (.bin .neq (.tmp 29) (.val (.int .i64 0))), none⟩])
       (.cond (.tmp 30) (.seq (.region [⟨(some 31), .op (.mov (.tmp 5)), none⟩,
          ⟨(some 32), .op (.mov (.tmp 7)), none⟩,
          ⟨(some 2), .op (.mov (.tmp 31)), none⟩,
          ⟨(some 3), .op (.mov (.tmp 32)), none⟩,
          ⟨(some 4), .op (.mov (.val (.int .i64 0))), none⟩])
        (.ret))
       (.skip)))))
     (.region [⟨(some 24), .op (.mov (.tmp 7)), none⟩,
      ⟨(some 25), .op (.bin .add (.tmp 24) (.val (.int .i64 1))), none⟩,
      ⟨(some 7), .op (.mov (.tmp 25)), none⟩]))))))
  (.seq (.seq (.region [⟨(some 8), .op (.mov (.val (.int .i64 0))), none⟩])
   (.block 2 (.loop (.seq (.seq (.region [⟨(some 33), .op (.mov (.tmp 8)), none⟩,
        ⟨(some 34), .op (.fieldAddr 2 (.tmp 1)), none⟩,
        ⟨(some 35), .op (.load none (.tmp 34)), none⟩,
        ⟨(some 36), .op (.lenS (.tmp 35)), none⟩,
        ⟨(some 37), .op (.bin .lss (.tmp 33) (.tmp 36)), none⟩])
      (.cond (.tmp 37) (.skip)
      (.exit 2)))
     (.seq (.block 3 (.seq (.region [⟨(some 9), .op (.mov (.val (.int .i64 0))), none⟩])
       (.block 4 (.loop (.seq (.seq (.region [⟨(some 40), .op (.mov (.tmp 9)), none⟩,
            ⟨(some 41), .op (.fieldAddr 2 (.tmp 1)), none⟩,
            ⟨(some 42), .op (.load none (.tmp 41)), none⟩,
            ⟨(some 43), .op (.mov (.tmp 8)), none⟩,
            ⟨(some 44), .op (.idxS 4 (.tmp 42) (.tmp 43)), none⟩,
            ⟨(some 45), .op (.fieldAddr 3 (.tmp 44)), none⟩,
            ⟨(some 46), .op (.load none (.tmp 45)), none⟩,
            ⟨(some 47), .op (.lenS (.tmp 46)), none⟩,
            ⟨(some 48), .op (.bin .lss (.tmp 40) (.tmp 47)), none⟩])
          (.cond (.tmp 48) (.skip)
          (.exit 4)))
         (.seq (.block 5 (.seq (.draw [⟨⟨(some 51), .op (.load (some 3) (.tmp 1)), none⟩, .read []⟩,
             ⟨⟨(some 52), .op (.fieldAddr 2 (.tmp 1)), none⟩, .pure⟩,
             ⟨⟨(some 53), .op (.load none (.tmp 52)), none⟩, .read []⟩,
             ⟨⟨(some 54), .op (.mov (.tmp 8)), none⟩, .pure⟩,
             ⟨⟨(some 55), .op (.idxS 4 (.tmp 53) (.tmp 54)), none⟩, .read []⟩,
             ⟨⟨(some 56), .op (.load (some 4) (.tmp 55)), none⟩, .read []⟩,
             ⟨⟨(some 57), .op (.fieldAddr 2 (.tmp 1)), none⟩, .pure⟩,
             ⟨⟨(some 58), .op (.load none (.tmp 57)), none⟩, .read []⟩,
             ⟨⟨(some 59), .op (.mov (.tmp 8)), none⟩, .pure⟩,
             ⟨⟨(some 60), .op (.idxS 4 (.tmp 58) (.tmp 59)), none⟩, .read []⟩,
             ⟨⟨(some 61), .op (.fieldAddr 3 (.tmp 60)), none⟩, .pure⟩,
             ⟨⟨(some 62), .op (.load none (.tmp 61)), none⟩, .read []⟩,
             ⟨⟨(some 63), .op (.mov (.tmp 9)), none⟩, .pure⟩,
             ⟨⟨(some 64), .op (.idxS 6 (.tmp 62) (.tmp 63)), none⟩, .read []⟩,
             ⟨⟨(some 65), .op (.load (some 6) (.tmp 64)), none⟩, .read []⟩,
             ⟨⟨(some 66), .call (.fnv 37) [(.tmp 51), (.tmp 56), (.tmp 65)], none⟩, .act true⟩,
             ⟨⟨(some 5), .op (.mov (.tmp 66)), none⟩, .pure⟩])
           (.seq (.region [⟨(some 67), .op (.mov (.tmp 5)), none⟩,
             ⟨(some 68), .op (.bin .neq (.tmp 67) (.val (.int .i64 0))), none⟩])
           (.cond (.tmp 68) (.seq (.region [⟨(some 69), .op (.mov (.tmp 5)), none⟩,
              ⟨(some 70), .op (.mov (.tmp 8)), none⟩,
              ⟨(some 71), .op (.mov (.tmp 9)), none⟩,
              ⟨(some 2), .op (.mov (.tmp 69)), none⟩,
              ⟨(some 3), .op (.mov (.tmp 70)), none⟩,
              ⟨(some 4), .op (.mov (.tmp 71)), none⟩])
            (.ret))
           (.skip)))))
         (.region [⟨(some 49), .op (.mov (.tmp 9)), none⟩,
          ⟨(some 50), .op (.bin .add (.tmp 49) (.val (.int .i64 1))), none⟩,
          ⟨(some 9), .op (.mov (.tmp 50)), none⟩])))))))
     (.region [⟨(some 38), .op (.mov (.tmp 8)), none⟩,
      ⟨(some 39), .op (.bin .add (.tmp 38) (.val (.int .i64 1))), none⟩,
      ⟨(some 8), .op (.mov (.tmp 39)), none⟩]))))))
  (.seq (.region [⟨(some 2), .op (.mov (.val (.int .i64 0))), none⟩,
    ⟨(some 3), .op (.mov (.val (.int .i64 0))), none⟩,
    ⟨(some 4), .op (.mov (.val (.int .i64 0))), none⟩])
  (.ret)))))),
  [.tmp 2, .tmp 3, .tmp 4], none, none⟩
def A18 : AFun := ⟨.seq (.region [⟨(some 0), .op (.mov (.val (.bool false))), none⟩])
  (.seq (.region [⟨(some 3), .op (.buildSlice 1 1 [(.int .i64 0)] [(0, (.val (.int .i64 0)))]), none⟩,
    ⟨(some 4), .op (.build [(.int .i64 0), (.int .i64 0), (.int .i64 0), (.int .i64 0), (.int .u64 0), .nils] [(0, 1, (.val (.int .i64 1))), (4, 1, (.val (.int .u64 7)))]), none⟩,
    ⟨(some 5), .op (.build [(.int .i64 0), (.int .i64 0), (.int .i64 0), (.int .i64 0), (.int .u64 0), .nils] [(0, 1, (.val (.int .i64 48)))]), none⟩,
    ⟨(some 6), .op (.build [(.int .i64 0), (.int .i64 0), (.int .i64 0), (.int .i64 0), (.int .u64 0), .nils] [(0, 1, (.val (.int .i64 36)))]), none⟩,
    ⟨(some 7), .op (.buildSlice 6 3 [(.int .i64 0), (.int .i64 0), (.int .i64 0), (.int .i64 0), (.int .u64 0), .nils] [(0, (.tmp 4)), (1, (.tmp 5)), (2, (.tmp 6))]), none⟩,
    ⟨(some 8), .op (.build [(.int .i64 0), .nils, .nils, .nils] [(1, 1, (.tmp 3)), (3, 1, (.tmp 7))]), none⟩,
    ⟨(some 9), .op (.buildSlice 4 1 [(.int .i64 0), .nils, .nils, .nils] [(0, (.tmp 8))]), none⟩,
    ⟨(some 10), .op (.build [.nils, .nils, .nils] [(2, 1, (.tmp 9))]), none⟩,
    ⟨(some 1), .op (.alloc [.nils, .nils, .nils]), none⟩,
    ⟨none, .op (.store 3 (.tmp 1) (.tmp 10)), none⟩])
  (.seq (.region [⟨(some 11), .op (.buildSlice 1 1 [(.int .i64 0)] [(0, (.val (.int .i64 0)))]), none⟩,
    ⟨(some 12), .op (.build [(.int .i64 0), (.int .i64 0), (.int .i64 0), (.int .i64 0), (.int .u64 0), .nils] [(0, 1, (.val (.int .i64 48))), (1, 1, (.val (.int .i64 1)))]), none⟩,
    ⟨(some 13), .op (.build [(.int .i64 0), (.int .i64 0), (.int .i64 0), (.int .i64 0), (.int .u64 0), .nils] [(0, 1, (.val (.int .i64 36)))]), none⟩,
    ⟨(some 14), .op (.buildSlice 6 2 [(.int .i64 0), (.int .i64 0), (.int .i64 0), (.int .i64 0), (.int .u64 0), .nils] [(0, (.tmp 12)), (1, (.tmp 13))]), none⟩,
    ⟨(some 15), .op (.build [(.int .i64 0), .nils, .nils, .nils] [(1, 1, (.tmp 11)), (3, 1, (.tmp 14))]), none⟩,
    ⟨(some 16), .op (.buildSlice 4 1 [(.int .i64 0), .nils, .nils, .nils] [(0, (.tmp 15))]), none⟩,
    ⟨(some 17), .op (.build [.nils, .nils, .nils] [(2, 1, (.tmp 16))]), none⟩,
    ⟨(some 2), .op (.alloc [.nils, .nils, .nils]), none⟩,
    ⟨none, .op (.store 3 (.tmp 2) (.tmp 17)), none⟩])
  (.seq (.region [⟨(some 18), .op (.load (some 3) (.tmp 1)), none⟩,
    ⟨(some 19), .call (.fnv 16) [(.tmp 18)], none⟩,
    ⟨(some 20), .op (.build [(.int .i64 0), (.int .i64 0), (.int .i64 0)] []), none⟩,
    ⟨(some 21), .op (.eql false (.flat [.int, .int, .int]) (.tmp 19) (.tmp 20)), none⟩,
    ⟨(some 22), .op (.mov (.tmp 21)), none⟩,
    ⟨(some 23), .op (.load (some 3) (.tmp 2)), (some (22, true))⟩,
    ⟨(some 24), .call (.fnv 16) [(.tmp 23)], (some (22, true))⟩,
    ⟨(some 25), .op (.build [(.int .i64 0), (.int .i64 0), (.int .i64 0)] [(0, 1, (.val (.int .i64 11)))]), (some (22, true))⟩,
    ⟨(some 26), .op (.eql false (.flat [.int, .int, .int]) (.tmp 24) (.tmp 25)), (some (22, true))⟩,
    ⟨(some 27), .op (.pick (.tmp 22) (.tmp 26) (.val (.bool false))), none⟩,
    ⟨(some 28), .op (.mov (.tmp 27)), none⟩,
    ⟨(some 29), .call (.fnv 19) [(.val (.int .i64 16))], (some (28, true))⟩,
    ⟨(some 30), .op (.pick (.tmp 28) (.tmp 29) (.val (.bool false))), none⟩,
    ⟨(some 31), .op (.mov (.tmp 30)), none⟩,
    ⟨(some 32), .call (.fnv 19) [(.val (.int .i64 2))], (some (31, true))⟩,
    ⟨(some 33), .op (.un .not (.tmp 32)), (some (31, true))⟩,
    ⟨(some 34), .op (.pick (.tmp 31) (.tmp 33) (.val (.bool false))), none⟩,
    ⟨(some 0), .op (.mov (.tmp 34)), none⟩])
  (.ret)))),
  [.tmp 0], none, none⟩
def A19 : AFun := ⟨.seq (.region [⟨(some 2), .op (.mov (.val (.bool false))), none⟩])
  (.seq (.region [⟨(some 3), .op (.mov (.tmp 0)), none⟩,
    ⟨(some 4), .op (.bin .geq (.tmp 3) (.val (.int .i64 16))), none⟩,
    ⟨(some 2), .op (.mov (.tmp 4)), none⟩])
  (.ret)),
  [.tmp 2], none, none⟩
def A20 : AFun := ⟨.seq (.region [⟨(some 1), .op (.box (.tmp 0)), none⟩,
    ⟨(some 2), .op (.mov (.val .nils)), none⟩,
    ⟨(some 3), .op (.mov (.val (.int .i64 0))), none⟩])
  (.seq (.region [⟨(some 9), .op (.build [.nils, (.int .i64 0)] []), none⟩,
    ⟨(some 10), .op (.box (.tmp 9)), none⟩,
    ⟨(some 4), .op (.mov (.tmp 10)), none⟩])
  (.seq (.region [⟨(some 11), .op (.mov (.tmp 4)), none⟩,
    ⟨(some 12), .op (.fieldAddr 0 (.tmp 1)), none⟩,
    ⟨(some 13), .op (.load none (.tmp 12)), none⟩,
    ⟨(some 14), .op (.lenS (.tmp 13)), none⟩,
    ⟨(some 15), .call (.fnv 38) [(.tmp 11), (.tmp 14), (.val (.int .i64 32))], none⟩])
  (.seq (.seq (.region [⟨(some 5), .op (.mov (.val (.int .i64 0))), none⟩])
   (.block 0 (.loop (.seq (.seq (.region [⟨(some 16), .op (.mov (.tmp 5)), none⟩,
        ⟨(some 17), .op (.fieldAddr 0 (.tmp 1)), none⟩,
        ⟨(some 18), .op (.load none (.tmp 17)), none⟩,
        ⟨(some 19), .op (.lenS (.tmp 18)), none⟩,
        ⟨(some 20), .op (.bin .lss (.tmp 16) (.tmp 19)), none⟩])
      (.cond (.tmp 20) (.skip)
      (.exit 0)))
     (.seq (.block 1 (.seq (.seq (.region [⟨(some 23), .op (.fieldAddr 0 (.tmp 1)), none⟩,
          ⟨(some 24), .op (.load none (.tmp 23)), none⟩,
          ⟨(some 25), .op (.mov (.tmp 5)), none⟩,
          ⟨(some 26), .op (.idxS 2 (.tmp 24) (.tmp 25)), none⟩,
          ⟨(some 27), .op (.fieldAddr 0 (.tmp 26)), none⟩,
          ⟨(some 28), .op (.load none (.tmp 27)), none⟩])
        (.cond (.tmp 28) (.region [⟨(some 29), .op (.mov (.tmp 4)), none⟩,
          ⟨(some 30), .call (.fnv 39) [(.tmp 29), (.val (.int .i64 1))], none⟩])
        (.region [⟨(some 31), .op (.mov (.tmp 4)), none⟩,
         ⟨(some 32), .call (.fnv 39) [(.tmp 31), (.val (.int .i64 0))], none⟩])))
       (.region [⟨(some 33), .op (.mov (.tmp 4)), none⟩,
        ⟨(some 34), .op (.fieldAddr 0 (.tmp 1)), none⟩,
        ⟨(some 35), .op (.load none (.tmp 34)), none⟩,
        ⟨(some 36), .op (.mov (.tmp 5)), none⟩,
        ⟨(some 37), .op (.idxS 2 (.tmp 35) (.tmp 36)), none⟩,
        ⟨(some 38), .op (.fieldAddr 1 (.tmp 37)), none⟩,
        ⟨(some 39), .op (.load none (.tmp 38)), none⟩,
        ⟨(some 40), .call (.fnv 40) [(.tmp 33), (.tmp 39), (.val (.int .i64 16))], none⟩])))
     (.region [⟨(some 21), .op (.mov (.tmp 5)), none⟩,
      ⟨(some 22), .op (.bin .add (.tmp 21) (.val (.int .i64 1))), none⟩,
      ⟨(some 5), .op (.mov (.tmp 22)), none⟩]))))))
  (.seq (.region [⟨(some 41), .op (.mov (.tmp 4)), none⟩,
    ⟨(some 42), .op (.fieldAddr 1 (.tmp 1)), none⟩,
    ⟨(some 43), .op (.load none (.tmp 42)), none⟩,
    ⟨(some 44), .call (.fnv 40) [(.tmp 41), (.tmp 43), (.val (.int .i64 32))], none⟩])
  (.seq (.region [⟨(some 45), .op (.mov (.tmp 4)), none⟩,
    ⟨(some 46), .op (.fieldAddr 2 (.tmp 1)), none⟩,
    ⟨(some 47), .op (.load none (.tmp 46)), none⟩,
    ⟨(some 48), .op (.lenS (.tmp 47)), none⟩,
    ⟨(some 49), .call (.fnv 38) [(.tmp 45), (.tmp 48), (.val (.int .i64 32))], none⟩])
  (.seq (.seq (.region [⟨(some 6), .op (.mov (.val (.int .i64 0))), none⟩])
   (.block 2 (.loop (.seq (.seq (.region [⟨(some 50), .op (.mov (.tmp 6)), none⟩,
        ⟨(some 51), .op (.fieldAddr 2 (.tmp 1)), none⟩,
        ⟨(some 52), .op (.load none (.tmp 51)), none⟩,
        ⟨(some 53), .op (.lenS (.tmp 52)), none⟩,
        ⟨(some 54), .op (.bin .lss (.tmp 50) (.tmp 53)), none⟩])
      (.cond (.tmp 54) (.skip)
      (.exit 2)))
     (.seq (.block 3 (.seq (.region [⟨(some 57), .op (.fieldAddr 2 (.tmp 1)), none⟩,
         ⟨(some 58), .op (.load none (.tmp 57)), none⟩,
         ⟨(some 59), .op (.mov (.tmp 6)), none⟩,
         ⟨(some 60), .op (.idxS 4 (.tmp 58) (.tmp 59)), none⟩,
         ⟨(some 61), .op (.load (some 4) (.tmp 60)), none⟩,
         ⟨(some 7), .op (.alloc [(.int .i64 0), .nils, .nils, .nils]), none⟩,
         ⟨none, .op (.store 4 (.tmp 7) (.tmp 61)), none⟩])
       (.seq (.region [⟨(some 62), .op (.mov (.tmp 4)), none⟩,
         ⟨(some 63), .op (.fieldAddr 0 (.tmp 7)), none⟩,
         ⟨(some 64), .op (.load none (.tmp 63)), none⟩,
         ⟨(some 65), .call (.fnv 39) [(.tmp 62), (.tmp 64)], none⟩])
       (.seq (.region [⟨(some 66), .op (.mov (.tmp 4)), none⟩,
         ⟨(some 67), .op (.fieldAddr 1 (.tmp 7)), none⟩,
         ⟨(some 68), .op (.load none (.tmp 67)), none⟩,
         ⟨(some 69), .call (.fnv 40) [(.tmp 66), (.tmp 68), (.val (.int .i64 32))], none⟩])
       (.seq (.region [⟨(some 70), .op (.mov (.tmp 4)), none⟩,
         ⟨(some 71), .op (.fieldAddr 2 (.tmp 7)), none⟩,
         ⟨(some 72), .op (.load none (.tmp 71)), none⟩,
         ⟨(some 73), .call (.fnv 40) [(.tmp 70), (.tmp 72), (.val (.int .i64 32))], none⟩])
       (.seq (.region [⟨(some 74), .op (.mov (.tmp 4)), none⟩,
         ⟨(some 75), .op (.fieldAddr 3 (.tmp 7)), none⟩,
         ⟨(some 76), .op (.load none (.tmp 75)), none⟩,
         ⟨(some 77), .op (.lenS (.tmp 76)), none⟩,
         ⟨(some 78), .call (.fnv 38) [(.tmp 74), (.tmp 77), (.val (.int .i64 256))], none⟩])
       (.seq (.region [⟨(some 8), .op (.mov (.val (.int .i64 0))), none⟩])
       (.block 4 (.loop (.seq (.seq (.region [⟨(some 79), .op (.mov (.tmp 8)), none⟩,
            ⟨(some 80), .op (.fieldAddr 3 (.tmp 7)), none⟩,
            ⟨(some 81), .op (.load none (.tmp 80)), none⟩,
            ⟨(some 82), .op (.lenS (.tmp 81)), none⟩,
            ⟨(some 83), .op (.bin .lss (.tmp 79) (.tmp 82)), none⟩])
          (.cond (.tmp 83) (.skip)
          (.exit 4)))
         (.seq (.block 5 (.region [⟨(some 86), .op (.mov (.tmp 4)), none⟩,
            ⟨(some 87), .op (.fieldAddr 3 (.tmp 7)), none⟩,
            ⟨(some 88), .op (.load none (.tmp 87)), none⟩,
            ⟨(some 89), .op (.mov (.tmp 8)), none⟩,
            ⟨(some 90), .op (.idxS 6 (.tmp 88) (.tmp 89)), none⟩,
            ⟨(some 91), .op (.load (some 6) (.tmp 90)), none⟩,
            ⟨(some 92), .call (.fnv 41) [(.tmp 86), (.tmp 91)], none⟩]))
         (.region [⟨(some 84), .op (.mov (.tmp 8)), none⟩,
          ⟨(some 85), .op (.bin .add (.tmp 84) (.val (.int .i64 1))), none⟩,
          ⟨(some 8), .op (.mov (.tmp 85)), none⟩]))))))))))))
     (.region [⟨(some 55), .op (.mov (.tmp 6)), none⟩,
      ⟨(some 56), .op (.bin .add (.tmp 55) (.val (.int .i64 1))), none⟩,
      ⟨(some 6), .op (.mov (.tmp 56)), none⟩]))))))
  (.seq (.seq (.region [⟨(some 93), .op (.mov (.tmp 4)), none⟩,
     ⟨(some 94), .op (.nilCheck (.tmp 93)), none⟩,
     ⟨(some 95), .op (.fieldAddr 1 (.tmp 94)), none⟩,
     ⟨(some 96), .op (.load none (.tmp 95)), none⟩,
     ⟨(some 97), .op (.bin .eql (.tmp 96) (.val (.int .i64 0))), none⟩,
     ⟨(some 98), .op (.mov (.tmp 97)), none⟩,
     ⟨(some 99), .op (.mov (.tmp 4)), (some (98, true))⟩,
     ⟨(some 100), .op (.nilCheck (.tmp 99)), (some (98, true))⟩,
     ⟨(some 101), .op (.fieldAddr 0 (.tmp 100)), (some (98, true))⟩,
     ⟨(some 102), .op (.load none (.tmp 101)), (some (98, true))⟩,
     ⟨(some 103), .op (.lenS (.tmp 102)), (some (98, true))⟩,
     ⟨(some 104), .op (.bin .gtr (.tmp 103) (.val (.int .i64 16384))), (some (98, true))⟩,
     ⟨(some 105), .op (.pick (.tmp 98) (.tmp 104) (.val (.bool false))), none⟩])
   (.cond (.tmp 105) (.region [⟨(some 106), .op (.mov (.tmp 4)), none⟩,
     ⟨(some 107), .op (.nilCheck (.tmp 106)), none⟩,
     ⟨(some 108), .op (.fieldAddr 1 (.tmp 107)), none⟩,
     ⟨none, .op (.store 1 (.tmp 108) (.val (.int .i64 2))), none⟩])
   (.skip)))
  (.seq (.seq (.region [⟨(some 109), .op (.mov (.tmp 4)), none⟩,
     ⟨(some 110), .op (.nilCheck (.tmp 109)), none⟩,
     ⟨(some 111), .op (.fieldAddr 1 (.tmp 110)), none⟩,
     ⟨(some 112), .op (.load none (.tmp 111)), none⟩,
     ⟨(some 113), .op (.bin .neq (.tmp 112) (.val (.int .i64 0))), none⟩])
   (.cond (.tmp 113) (.seq (.region [⟨(some 114), .op (.mov (.tmp 4)), none⟩,
      ⟨(some 115), .op (.nilCheck (.tmp 114)), none⟩,
      ⟨(some 116), .op (.fieldAddr 1 (.tmp 115)), none⟩,
      ⟨(some 117), .op (.load none (.tmp 116)), none⟩,
      ⟨(some 2), .op (.mov (.val .nils)), none⟩,
      ⟨(some 3), .op (.mov (.tmp 117)), none⟩])
    (.ret))
   (.skip)))
  (.seq (.region [⟨(some 118), .op (.mov (.tmp 4)), none⟩,
    ⟨(some 119), .op (.nilCheck (.tmp 118)), none⟩,
    ⟨(some 120), .op (.fieldAddr 0 (.tmp 119)), none⟩,
    ⟨(some 121), .op (.load none (.tmp 120)), none⟩,
    ⟨(some 2), .op (.mov (.tmp 121)), none⟩,
    ⟨(some 3), .op (.mov (.val (.int .i64 0))), none⟩])
  (.ret)))))))))),
  [.tmp 2, .tmp 3], none, none⟩
def A32 : AFun := ⟨.seq (.region [⟨(some 2), .op (.mov (.val (.int .i64 0))), none⟩,
    ⟨(some 3), .op (.mov (.val (.int .i64 0))), none⟩])
  (.seq (.seq (.region [⟨(some 10), .op (.mov (.tmp 0)), none⟩,
     ⟨(some 11), .op (.nilCheck (.tmp 10)), none⟩,
     ⟨(some 12), .op (.fieldAddr 0 (.tmp 11)), none⟩,
     ⟨(some 13), .op (.fieldAddr 0 (.tmp 12)), none⟩,
     ⟨(some 14), .op (.load none (.tmp 13)), none⟩,
     ⟨(some 15), .op (.lenS (.tmp 14)), none⟩,
     ⟨(some 16), .op (.bin .gtr (.tmp 15) (.val (.int .i64 32))), none⟩,
     ⟨(some 17), .op (.mov (.tmp 16)), none⟩,
     ⟨(some 18), .op (.mov (.tmp 0)), (some (17, false))⟩,
     ⟨(some 19), .op (.nilCheck (.tmp 18)), (some (17, false))⟩,
     ⟨(some 20), .op (.fieldAddr 0 (.tmp 19)), (some (17, false))⟩,
     ⟨(some 21), .op (.fieldAddr 1 (.tmp 20)), (some (17, false))⟩,
     ⟨(some 22), .op (.load none (.tmp 21)), (some (17, false))⟩,
     ⟨(some 23), .op (.lenS (.tmp 22)), (some (17, false))⟩,
     ⟨(some 24), .op (.bin .gtr (.tmp 23) (.val (.int .i64 32))), (some (17, false))⟩,
     ⟨(some 25), .op (.pick (.tmp 17) (.val (.bool true)) (.tmp 24)), none⟩,
     ⟨(some 26), .op (.mov (.tmp 25)), none⟩,
     ⟨(some 27), .op (.mov (.tmp 0)), (some (26, false))⟩,
     ⟨(some 28), .op (.nilCheck (.tmp 27)), (some (26, false))⟩,
     ⟨(some 29), .op (.fieldAddr 0 (.tmp 28)), (some (26, false))⟩,
     ⟨(some 30), .op (.fieldAddr 2 (.tmp 29)), (some (26, false))⟩,
     ⟨(some 31), .op (.load none (.tmp 30)), (some (26, false))⟩,
     ⟨(some 32), .op (.lenS (.tmp 31)), (some (26, false))⟩,
     ⟨(some 33), .op (.bin .gtr (.tmp 32) (.val (.int .i64 32))), (some (26, false))⟩,
     ⟨(some 34), .op (.pick (.tmp 26) (.val (.bool true)) (.tmp 33)), none⟩,
     ⟨(some 35), .op (.mov (.tmp 34)), none⟩,
     ⟨(some 36), .op (.mov (.tmp 0)), (some (35, false))⟩,
     ⟨(some 37), .op (.nilCheck (.tmp 36)), (some (35, false))⟩,
     ⟨(some 38), .op (.fieldAddr 0 (.tmp 37)), (some (35, false))⟩,
     ⟨(some 39), .op (.fieldAddr 2 (.tmp 38)), (some (35, false))⟩,
     ⟨(some 40), .op (.load none (.tmp 39)), (some (35, false))⟩,
     ⟨(some 41), .op (.lenS (.tmp 40)), (some (35, false))⟩,
     ⟨(some 42), .op (.bin .lss (.tmp 41) (.val (.int .i64 1))), (some (35, false))⟩,
     ⟨(some 43), .op (.pick (.tmp 35) (.val (.bool true)) (.tmp 42)), none⟩])
   (.cond (.tmp 43) (.seq (.region [⟨(some 2), .op (.mov (.val (.int .i64 16))), none⟩,
      ⟨(some 3), .op (.mov (.val (.int .i64 0))), none⟩])
    (.ret))
   (.skip)))
  (.seq (.seq (.region [⟨(some 44), .op (.mov (.tmp 0)), none⟩,
     ⟨(some 45), .op (.nilCheck (.tmp 44)), none⟩,
     ⟨(some 46), .op (.fieldAddr 0 (.tmp 45)), none⟩,
     ⟨(some 47), .op (.fieldAddr 0 (.tmp 46)), none⟩,
     ⟨(some 48), .op (.load none (.tmp 47)), none⟩,
     ⟨(some 49), .op (.lenS (.tmp 48)), none⟩,
     ⟨(some 50), .op (.mov (.val (.int .i64 0))), none⟩])
   (.block 0 (.loop (.seq (.region [⟨(some 51), .op (.bin .lss (.tmp 50) (.tmp 49)), none⟩])
     (.seq (.cond (.tmp 51) (.skip)
      (.exit 0))
     (.seq (.block 1 (.seq (.region [⟨(some 52), .op (.mov (.tmp 50)), none⟩,
         ⟨(some 53), .op (.idxS 2 (.tmp 48) (.tmp 50)), none⟩,
         ⟨(some 54), .op (.load (some 2) (.tmp 53)), none⟩,
         ⟨(some 5), .op (.alloc [(.bool false), .nils]), none⟩,
         ⟨(some 4), .op (.mov (.tmp 52)), none⟩,
         ⟨none, .op (.store 2 (.tmp 5) (.tmp 54)), none⟩])
       (.seq (.seq (.region [⟨(some 55), .op (.fieldAddr 1 (.tmp 5)), none⟩,
          ⟨(some 56), .op (.load none (.tmp 55)), none⟩,
          ⟨(some 57), .op (.lenS (.tmp 56)), none⟩,
          ⟨(some 58), .op (.bin .gtr (.tmp 57) (.val (.int .i64 16))), none⟩,
          ⟨(some 59), .op (.mov (.tmp 58)), none⟩,
          ⟨(some 60), .op (.fieldAddr 1 (.tmp 5)), (some (59, false))⟩,
          ⟨(some 61), .op (.load none (.tmp 60)), (some (59, false))⟩,
          ⟨(some 62), .op (.lenS (.tmp 61)), (some (59, false))⟩,
          ⟨(some 63), .op (.bin .lss (.tmp 62) (.val (.int .i64 1))), (some (59, false))⟩,
          ⟨(some 64), .op (.pick (.tmp 59) (.val (.bool true)) (.tmp 63)), none⟩,
          ⟨(some 65), .op (.mov (.tmp 64)), none⟩,
          ⟨(some 66), .op (.fieldAddr 0 (.tmp 5)), (some (65, false))⟩,
          ⟨(some 67), .op (.load none (.tmp 66)), (some (65, false))⟩,
          ⟨(some 68), .op (.mov (.tmp 67)), (some (65, false))⟩,
          ⟨(some 69), .op (.fieldAddr 1 (.tmp 5)), (some (68, true))⟩,
          ⟨(some 70), .op (.load none (.tmp 69)), (some (68, true))⟩,
          ⟨(some 71), .op (.lenS (.tmp 70)), (some (68, true))⟩,
          ⟨(some 72), .op (.bin .neq (.tmp 71) (.val (.int .i64 1))), (some (68, true))⟩,
          ⟨(some 73), .op (.pick (.tmp 68) (.tmp 72) (.val (.bool false))), (some (65, false))⟩,
          ⟨(some 74), .op (.pick (.tmp 65) (.val (.bool true)) (.tmp 73)), none⟩])
        (.cond (.tmp 74) (.seq (.region [⟨(some 75), .op (.mov (.tmp 4)), none⟩,
           ⟨(some 2), .op (.mov (.val (.int .i64 16))), none⟩,
           ⟨(some 3), .op (.mov (.tmp 75)), none⟩])
         (.ret))
        (.skip)))
       (.seq (.region [⟨(some 76), .op (.fieldAddr 1 (.tmp 5)), none⟩,
         ⟨(some 77), .op (.load none (.tmp 76)), none⟩,
         ⟨(some 78), .op (.lenS (.tmp 77)), none⟩,
         ⟨(some 79), .op (.mov (.val (.int .i64 0))), none⟩])
       (.block 2 (.loop (.seq (.region [⟨(some 80), .op (.bin .lss (.tmp 79) (.tmp 78)), none⟩])
         (.seq (.cond (.tmp 80) (.skip)
          (.exit 2))
         (.seq (.block 3 (.seq (.region [⟨(some 81), .op (.idxS 1 (.tmp 77) (.tmp 79)), none⟩,
             ⟨(some 82), .op (.load none (.tmp 81)), none⟩,
             ⟨(some 7), .op (.mov (.tmp 82)), none⟩])
           (.seq (.region [⟨(some 83), .op (.mov (.tmp 0)), none⟩,
             ⟨(some 84), .op (.mov (.tmp 7)), none⟩,
             ⟨(some 85), .call (.fnv 50) [(.tmp 83), (.tmp 84)], none⟩,
             ⟨(some 86), .op (.un .not (.tmp 85)), none⟩])
           (.cond (.tmp 86) (.seq (.region [⟨(some 87), .op (.mov (.tmp 4)), none⟩,
              ⟨(some 2), .op (.mov (.val (.int .i64 10))), none⟩,
              ⟨(some 3), .op (.mov (.tmp 87)), none⟩])
            (.ret))
           (.skip)))))
         (.region [⟨(some 88), .op (.bin .add (.tmp 79) (.val (.int .i64 1))), none⟩,
          ⟨(some 79), .op (.mov (.tmp 88)), none⟩]))))))))))
     (.region [⟨(some 89), .op (.bin .add (.tmp 50) (.val (.int .i64 1))), none⟩,
      ⟨(some 50), .op (.mov (.tmp 89)), none⟩])))))))
  (.seq (.seq (.region [⟨(some 90), .op (.mov (.tmp 0)), none⟩,
     ⟨(some 91), .op (.nilCheck (.tmp 90)), none⟩,
     ⟨(some 92), .op (.fieldAddr 0 (.tmp 91)), none⟩,
     ⟨(some 93), .op (.fieldAddr 1 (.tmp 92)), none⟩,
     ⟨(some 94), .op (.load none (.tmp 93)), none⟩,
     ⟨(some 95), .op (.lenS (.tmp 94)), none⟩,
     ⟨(some 96), .op (.mov (.val (.int .i64 0))), none⟩])
   (.block 4 (.loop (.seq (.region [⟨(some 97), .op (.bin .lss (.tmp 96) (.tmp 95)), none⟩])
     (.seq (.cond (.tmp 97) (.skip)
      (.exit 4))
     (.seq (.block 5 (.seq (.region [⟨(some 98), .op (.mov (.tmp 96)), none⟩,
         ⟨(some 99), .op (.idxS 1 (.tmp 94) (.tmp 96)), none⟩,
         ⟨(some 100), .op (.load none (.tmp 99)), none⟩,
         ⟨(some 8), .op (.mov (.tmp 98)), none⟩,
         ⟨(some 9), .op (.mov (.tmp 100)), none⟩])
       (.seq (.region [⟨(some 101), .op (.mov (.tmp 0)), none⟩,
         ⟨(some 102), .op (.mov (.tmp 9)), none⟩,
         ⟨(some 103), .call (.fnv 50) [(.tmp 101), (.tmp 102)], none⟩,
         ⟨(some 104), .op (.un .not (.tmp 103)), none⟩])
       (.cond (.tmp 104) (.seq (.region [⟨(some 105), .op (.mov (.tmp 8)), none⟩,
          ⟨(some 2), .op (.mov (.val (.int .i64 15))), none⟩,
          ⟨(some 3), .op (.mov (.tmp 105)), none⟩])
        (.ret))
       (.skip)))))
     (.region [⟨(some 106), .op (.bin .add (.tmp 96) (.val (.int .i64 1))), none⟩,
      ⟨(some 96), .op (.mov (.tmp 106)), none⟩])))))))
  (.seq (.region [⟨(some 2), .op (.mov (.val (.int .i64 0))), none⟩,
    ⟨(some 3), .op (.mov (.val (.int .i64 0))), none⟩])
  (.ret))))),
  [.tmp 2, .tmp 3], none, none⟩
def A33 : AFun := ⟨.seq (.region [⟨(some 4), .op (.mov (.val (.int .i64 0))), none⟩])
  (.seq (.region [⟨(some 10), .op (.mov (.tmp 0)), none⟩,
    ⟨(some 11), .op (.nilCheck (.tmp 10)), none⟩,
    ⟨(some 12), .op (.fieldAddr 3 (.tmp 11)), none⟩,
    ⟨(some 13), .op (.load (some 4) (.tmp 12)), none⟩,
    ⟨(some 5), .op (.alloc [(.int .i64 0), .nils, .nils, .nils]), none⟩,
    ⟨none, .op (.store 4 (.tmp 5) (.tmp 13)), none⟩])
  (.seq (.seq (.region [⟨(some 14), .op (.fieldAddr 1 (.tmp 5)), none⟩,
     ⟨(some 15), .op (.load none (.tmp 14)), none⟩,
     ⟨(some 16), .op (.lenS (.tmp 15)), none⟩,
     ⟨(some 17), .op (.bin .gtr (.tmp 16) (.val (.int .i64 32))), none⟩,
     ⟨(some 18), .op (.mov (.tmp 17)), none⟩,
     ⟨(some 19), .op (.fieldAddr 2 (.tmp 5)), (some (18, false))⟩,
     ⟨(some 20), .op (.load none (.tmp 19)), (some (18, false))⟩,
     ⟨(some 21), .op (.lenS (.tmp 20)), (some (18, false))⟩,
     ⟨(some 22), .op (.bin .gtr (.tmp 21) (.val (.int .i64 32))), (some (18, false))⟩,
     ⟨(some 23), .op (.pick (.tmp 18) (.val (.bool true)) (.tmp 22)), none⟩,
     ⟨(some 24), .op (.mov (.tmp 23)), none⟩,
     ⟨(some 25), .op (.fieldAddr 3 (.tmp 5)), (some (24, false))⟩,
     ⟨(some 26), .op (.load none (.tmp 25)), (some (24, false))⟩,
     ⟨(some 27), .op (.lenS (.tmp 26)), (some (24, false))⟩,
     ⟨(some 28), .op (.bin .gtr (.tmp 27) (.val (.int .i64 256))), (some (24, false))⟩,
     ⟨(some 29), .op (.pick (.tmp 24) (.val (.bool true)) (.tmp 28)), none⟩,
     ⟨(some 30), .op (.mov (.tmp 29)), none⟩,
     ⟨(some 31), .op (.fieldAddr 0 (.tmp 5)), (some (30, false))⟩,
     ⟨(some 32), .op (.load none (.tmp 31)), (some (30, false))⟩,
     ⟨(some 33), .op (.bin .lss (.tmp 32) (.val (.int .i64 0))), (some (30, false))⟩,
     ⟨(some 34), .op (.pick (.tmp 30) (.val (.bool true)) (.tmp 33)), none⟩,
     ⟨(some 35), .op (.mov (.tmp 34)), none⟩,
     ⟨(some 36), .op (.fieldAddr 0 (.tmp 5)), (some (35, false))⟩,
     ⟨(some 37), .op (.load none (.tmp 36)), (some (35, false))⟩,
     ⟨(some 38), .op (.fieldAddr 1 (.tmp 5)), (some (35, false))⟩,
     ⟨(some 39), .op (.load none (.tmp 38)), (some (35, false))⟩,
     ⟨(some 40), .op (.lenS (.tmp 39)), (some (35, false))⟩,
     ⟨(some 41), .op (.bin .gtr (.tmp 37) (.tmp 40)), (some (35, false))⟩,
     ⟨(some 42), .op (.pick (.tmp 35) (.val (.bool true)) (.tmp 41)), none⟩])
   (.cond (.tmp 42) (.seq (.region [⟨(some 4), .op (.mov (.val (.int .i64 16))), none⟩])
    (.ret))
   (.skip)))
  (.seq (.seq (.region [⟨(some 43), .op (.mov (.tmp 1)), none⟩,
     ⟨(some 44), .op (.mov (.tmp 43)), none⟩,
     ⟨(some 45), .op (.fieldAddr 0 (.tmp 5)), (some (44, true))⟩,
     ⟨(some 46), .op (.load none (.tmp 45)), (some (44, true))⟩,
     ⟨(some 47), .op (.bin .neq (.tmp 46) (.val (.int .i64 0))), (some (44, true))⟩,
     ⟨(some 48), .op (.mov (.tmp 47)), (some (44, true))⟩,
     ⟨(some 49), .op (.fieldAddr 2 (.tmp 5)), (some (48, false))⟩,
     ⟨(some 50), .op (.load none (.tmp 49)), (some (48, false))⟩,
     ⟨(some 51), .op (.lenS (.tmp 50)), (some (48, false))⟩,
     ⟨(some 52), .op (.bin .neq (.tmp 51) (.val (.int .i64 0))), (some (48, false))⟩,
     ⟨(some 53), .op (.pick (.tmp 48) (.val (.bool true)) (.tmp 52)), (some (44, true))⟩,
     ⟨(some 54), .op (.pick (.tmp 44) (.tmp 53) (.val (.bool false))), none⟩])
   (.cond (.tmp 54) (.seq (.region [⟨(some 4), .op (.mov (.val (.int .i64 13))), none⟩])
    (.ret))
   (.skip)))
  (.seq (.seq (.region [⟨(some 55), .op (.fieldAddr 1 (.tmp 5)), none⟩,
     ⟨(some 56), .op (.load none (.tmp 55)), none⟩,
     ⟨(some 57), .op (.lenS (.tmp 56)), none⟩,
     ⟨(some 58), .op (.mov (.val (.int .i64 0))), none⟩])
   (.block 0 (.loop (.seq (.region [⟨(some 59), .op (.bin .lss (.tmp 58) (.tmp 57)), none⟩])
     (.seq (.cond (.tmp 59) (.skip)
      (.exit 0))
     (.seq (.block 1 (.seq (.region [⟨(some 60), .op (.idxS 1 (.tmp 56) (.tmp 58)), none⟩,
         ⟨(some 61), .op (.load none (.tmp 60)), none⟩,
         ⟨(some 7), .op (.mov (.tmp 61)), none⟩])
       (.seq (.region [⟨(some 62), .op (.mov (.tmp 7)), none⟩,
         ⟨(some 63), .op (.bin .neq (.tmp 62) (.val (.int .i64 2))), none⟩,
         ⟨(some 64), .op (.mov (.tmp 63)), none⟩,
         ⟨(some 65), .op (.mov (.tmp 0)), (some (64, true))⟩,
         ⟨(some 66), .op (.mov (.tmp 7)), (some (64, true))⟩,
         ⟨(some 67), .call (.fnv 50) [(.tmp 65), (.tmp 66)], (some (64, true))⟩,
         ⟨(some 68), .op (.un .not (.tmp 67)), (some (64, true))⟩,
         ⟨(some 69), .op (.pick (.tmp 64) (.tmp 68) (.val (.bool false))), none⟩])
       (.cond (.tmp 69) (.seq (.region [⟨(some 4), .op (.mov (.val (.int .i64 10))), none⟩])
        (.ret))
       (.skip)))))
     (.region [⟨(some 70), .op (.bin .add (.tmp 58) (.val (.int .i64 1))), none⟩,
      ⟨(some 58), .op (.mov (.tmp 70)), none⟩])))))))
  (.seq (.seq (.region [⟨(some 71), .op (.fieldAddr 2 (.tmp 5)), none⟩,
     ⟨(some 72), .op (.load none (.tmp 71)), none⟩,
     ⟨(some 73), .op (.lenS (.tmp 72)), none⟩,
     ⟨(some 74), .op (.mov (.val (.int .i64 0))), none⟩])
   (.block 2 (.loop (.seq (.region [⟨(some 75), .op (.bin .lss (.tmp 74) (.tmp 73)), none⟩])
     (.seq (.cond (.tmp 75) (.skip)
      (.exit 2))
     (.seq (.block 3 (.seq (.region [⟨(some 76), .op (.idxS 1 (.tmp 72) (.tmp 74)), none⟩,
         ⟨(some 77), .op (.load none (.tmp 76)), none⟩,
         ⟨(some 9), .op (.mov (.tmp 77)), none⟩])
       (.seq (.region [⟨(some 78), .op (.mov (.tmp 0)), none⟩,
         ⟨(some 79), .op (.mov (.tmp 9)), none⟩,
         ⟨(some 80), .call (.fnv 50) [(.tmp 78), (.tmp 79)], none⟩,
         ⟨(some 81), .op (.un .not (.tmp 80)), none⟩])
       (.cond (.tmp 81) (.seq (.region [⟨(some 4), .op (.mov (.val (.int .i64 10))), none⟩])
        (.ret))
       (.skip)))))
     (.region [⟨(some 82), .op (.bin .add (.tmp 74) (.val (.int .i64 1))), none⟩,
      ⟨(some 74), .op (.mov (.tmp 82)), none⟩])))))))
  (.seq (.seq (.region [⟨(some 83), .op (.fieldAddr 3 (.tmp 5)), none⟩,
     ⟨(some 84), .op (.load none (.tmp 83)), none⟩,
     ⟨(some 85), .op (.lenS (.tmp 84)), none⟩,
     ⟨(some 86), .op (.bin .eql (.tmp 85) (.val (.int .i64 0))), none⟩])
   (.cond (.tmp 86) (.seq (.region [⟨(some 4), .op (.mov (.val (.int .i64 7))), none⟩])
    (.ret))
   (.skip)))
  (.seq (.seq (.region [⟨(some 87), .op (.fieldAddr 3 (.tmp 5)), none⟩,
     ⟨(some 88), .op (.load none (.tmp 87)), none⟩,
     ⟨(some 89), .op (.fieldAddr 3 (.tmp 5)), none⟩,
     ⟨(some 90), .op (.load none (.tmp 89)), none⟩,
     ⟨(some 91), .op (.lenS (.tmp 90)), none⟩,
     ⟨(some 92), .op (.bin .sub (.tmp 91) (.val (.int .i64 1))), none⟩,
     ⟨(some 93), .op (.idxS 6 (.tmp 88) (.tmp 92)), none⟩,
     ⟨(some 94), .op (.fieldAddr 0 (.tmp 93)), none⟩,
     ⟨(some 95), .op (.load none (.tmp 94)), none⟩])
   (.block 4 (.seq (.seq (.region [⟨(some 97), .op (.bin .eql (.tmp 95) (.val (.int .i64 36))), none⟩,
       ⟨(some 96), .op (.mov (.tmp 97)), none⟩])
     (.cond (.tmp 96) (.skip)
     (.seq (.region [⟨(some 98), .op (.bin .eql (.tmp 95) (.val (.int .i64 24))), none⟩,
       ⟨(some 96), .op (.mov (.tmp 98)), none⟩])
     (.cond (.tmp 96) (.skip)
     (.seq (.region [⟨(some 99), .op (.bin .eql (.tmp 95) (.val (.int .i64 52))), none⟩,
       ⟨(some 96), .op (.mov (.tmp 99)), none⟩])
     (.cond (.tmp 96) (.skip)
     (.region [⟨(some 100), .op (.bin .eql (.tmp 95) (.val (.int .i64 39))), none⟩,
      ⟨(some 96), .op (.mov (.tmp 100)), none⟩])))))))
    (.cond (.tmp 96) (.seq (.region [⟨(some 4), .op (.mov (.val (.int .i64 0))), none⟩])
     (.ret))
    (.skip)))))
  (.seq (.region [⟨(some 4), .op (.mov (.val (.int .i64 7))), none⟩])
  (.ret))))))))),
  [.tmp 4], none, none⟩
def A34 : AFun := ⟨.seq (.region [⟨(some 2), .op (.mov (.val (.int .i64 0))), none⟩])
  (.seq (.seq (.region [⟨(some 6), .op (.mov (.tmp 0)), none⟩,
     ⟨(some 7), .op (.nilCheck (.tmp 6)), none⟩,
     ⟨(some 8), .op (.fieldAddr 8 (.tmp 7)), none⟩,
     ⟨(some 9), .op (.fieldAddr 0 (.tmp 8)), none⟩,
     ⟨(some 10), .op (.load none (.tmp 9)), none⟩,
     ⟨(some 11), .op (.bin .lss (.tmp 10) (.val (.int .i64 1))), none⟩,
     ⟨(some 12), .op (.mov (.tmp 11)), none⟩,
     ⟨(some 13), .op (.mov (.tmp 0)), (some (12, false))⟩,
     ⟨(some 14), .op (.nilCheck (.tmp 13)), (some (12, false))⟩,
     ⟨(some 15), .op (.fieldAddr 8 (.tmp 14)), (some (12, false))⟩,
     ⟨(some 16), .op (.fieldAddr 0 (.tmp 15)), (some (12, false))⟩,
     ⟨(some 17), .op (.load none (.tmp 16)), (some (12, false))⟩,
     ⟨(some 18), .op (.bin .gtr (.tmp 17) (.val (.int .i64 52))), (some (12, false))⟩,
     ⟨(some 19), .op (.pick (.tmp 12) (.val (.bool true)) (.tmp 18)), none⟩])
   (.cond (.tmp 19) (.seq (.region [⟨(some 2), .op (.mov (.val (.int .i64 9))), none⟩])
    (.ret))
   (.skip)))
  (.seq (.seq (.region [⟨(some 20), .op (.mov (.tmp 0)), none⟩,
     ⟨(some 21), .op (.mov (.tmp 0)), none⟩,
     ⟨(some 22), .op (.nilCheck (.tmp 21)), none⟩,
     ⟨(some 23), .op (.fieldAddr 8 (.tmp 22)), none⟩,
     ⟨(some 24), .op (.fieldAddr 0 (.tmp 23)), none⟩,
     ⟨(some 25), .op (.load none (.tmp 24)), none⟩,
     ⟨(some 26), .call (.fnv 52) [(.tmp 25)], none⟩,
     ⟨(some 27), .op (.extract (.tmp 26) 0), none⟩,
     ⟨(some 28), .op (.extract (.tmp 26) 1), none⟩,
     ⟨(some 29), .op (.extract (.tmp 26) 2), none⟩,
     ⟨(some 30), .call (.fnv 51) [(.tmp 20), (.tmp 27), (.tmp 28), (.tmp 29)], none⟩,
     ⟨(some 3), .op (.mov (.tmp 30)), none⟩])
   (.seq (.region [⟨(some 31), .op (.mov (.tmp 3)), none⟩,
     ⟨(some 32), .op (.bin .neq (.tmp 31) (.val (.int .i64 0))), none⟩])
   (.cond (.tmp 32) (.seq (.region [⟨(some 33), .op (.mov (.tmp 3)), none⟩,
      ⟨(some 2), .op (.mov (.tmp 33)), none⟩])
    (.ret))
   (.skip))))
  (.seq (.region [⟨(some 34), .op (.mov (.tmp 0)), none⟩,
    ⟨(some 35), .op (.nilCheck (.tmp 34)), none⟩,
    ⟨(some 36), .op (.fieldAddr 8 (.tmp 35)), none⟩,
    ⟨(some 37), .op (.load (some 6) (.tmp 36)), none⟩,
    ⟨(some 4), .op (.alloc [(.int .i64 0), (.int .i64 0), (.int .i64 0), (.int .i64 0), (.int .u64 0), .nils]), none⟩,
    ⟨none, .op (.store 6 (.tmp 4) (.tmp 37)), none⟩])
  (.seq (.seq (.region [⟨(some 38), .op (.fieldAddr 0 (.tmp 4)), none⟩,
     ⟨(some 39), .op (.load none (.tmp 38)), none⟩])
   (.block 0 (.seq (.seq (.region [⟨(some 41), .op (.bin .eql (.tmp 39) (.val (.int .i64 1))), none⟩,
       ⟨(some 40), .op (.mov (.tmp 41)), none⟩])
     (.cond (.tmp 40) (.skip)
     (.region [⟨(some 42), .op (.bin .eql (.tmp 39) (.val (.int .i64 48))), none⟩,
      ⟨(some 40), .op (.mov (.tmp 42)), none⟩])))
    (.cond (.tmp 40) (.seq (.region [⟨(some 43), .op (.mov (.tmp 0)), none⟩,
       ⟨(some 44), .op (.fieldAddr 1 (.tmp 4)), none⟩,
       ⟨(some 45), .op (.load none (.tmp 44)), none⟩,
       ⟨(some 46), .op (.buildSlice 1 1 [(.int .i64 0)] [(0, (.tmp 45))]), none⟩,
       ⟨(some 47), .call (.fnv 53) [(.tmp 43), (.fnv 54), (.tmp 46)], none⟩,
       ⟨(some 2), .op (.mov (.tmp 47)), none⟩])
     (.ret))
    (.seq (.region [⟨(some 49), .op (.bin .eql (.tmp 39) (.val (.int .i64 2))), none⟩,
      ⟨(some 48), .op (.mov (.tmp 49)), none⟩])
    (.cond (.tmp 48) (.seq (.region [⟨(some 50), .op (.mov (.tmp 0)), none⟩,
       ⟨(some 51), .op (.fieldAddr 1 (.tmp 4)), none⟩,
       ⟨(some 52), .op (.load none (.tmp 51)), none⟩,
       ⟨(some 53), .op (.fieldAddr 2 (.tmp 4)), none⟩,
       ⟨(some 54), .op (.load none (.tmp 53)), none⟩,
       ⟨(some 55), .op (.buildSlice 1 2 [(.int .i64 0)] [(0, (.tmp 52)), (1, (.tmp 54))]), none⟩,
       ⟨(some 56), .call (.fnv 53) [(.tmp 50), (.fnv 55), (.tmp 55)], none⟩,
       ⟨(some 2), .op (.mov (.tmp 56)), none⟩])
     (.ret))
    (.seq (.seq (.region [⟨(some 58), .op (.bin .eql (.tmp 39) (.val (.int .i64 3))), none⟩,
       ⟨(some 57), .op (.mov (.tmp 58)), none⟩])
     (.cond (.tmp 57) (.skip)
     (.seq (.region [⟨(some 59), .op (.bin .eql (.tmp 39) (.val (.int .i64 4))), none⟩,
       ⟨(some 57), .op (.mov (.tmp 59)), none⟩])
     (.cond (.tmp 57) (.skip)
     (.seq (.region [⟨(some 60), .op (.bin .eql (.tmp 39) (.val (.int .i64 5))), none⟩,
       ⟨(some 57), .op (.mov (.tmp 60)), none⟩])
     (.cond (.tmp 57) (.skip)
     (.seq (.region [⟨(some 61), .op (.bin .eql (.tmp 39) (.val (.int .i64 6))), none⟩,
       ⟨(some 57), .op (.mov (.tmp 61)), none⟩])
     (.cond (.tmp 57) (.skip)
     (.seq (.region [⟨(some 62), .op (.bin .eql (.tmp 39) (.val (.int .i64 7))), none⟩,
       ⟨(some 57), .op (.mov (.tmp 62)), none⟩])
     (.cond (.tmp 57) (.skip)
     (.seq (.region [⟨(some 63), .op (.bin .eql (.tmp 39) (.val (.int .i64 8))), none⟩,
       ⟨(some 57), .op (.mov (.tmp 63)), none⟩])
     (.cond (.tmp 57) (.skip)
     (.seq (.region [⟨(some 64), .op (.bin .eql (.tmp 39) (.val (.int .i64 9))), none⟩,
       ⟨(some 57), .op (.mov (.tmp 64)), none⟩])
     (.cond (.tmp 57) (.skip)
     (.seq (.region [⟨(some 65), .op (.bin .eql (.tmp 39) (.val (.int .i64 10))), none⟩,
       ⟨(some 57), .op (.mov (.tmp 65)), none⟩])
     (.cond (.tmp 57) (.skip)
     (.seq (.region [⟨(some 66), .op (.bin .eql (.tmp 39) (.val (.int .i64 11))), none⟩,
       ⟨(some 57), .op (.mov (.tmp 66)), none⟩])
     (.cond (.tmp 57) (.skip)
     (.seq (.region [⟨(some 67), .op (.bin .eql (.tmp 39) (.val (.int .i64 12))), none⟩,
       ⟨(some 57), .op (.mov (.tmp 67)), none⟩])
     (.cond (.tmp 57) (.skip)
     (.seq (.region [⟨(some 68), .op (.bin .eql (.tmp 39) (.val (.int .i64 13))), none⟩,
       ⟨(some 57), .op (.mov (.tmp 68)), none⟩])
     (.cond (.tmp 57) (.skip)
     (.region [⟨(some 69), .op (.bin .eql (.tmp 39) (.val (.int .i64 14))), none⟩,
      ⟨(some 57), .op (.mov (.tmp 69)), none⟩])))))))))))))))))))))))
    (.cond (.tmp 57) (.seq (.region [⟨(some 70), .op (.mov (.tmp 0)), none⟩,
       ⟨(some 71), .op (.fieldAddr 1 (.tmp 4)), none⟩,
       ⟨(some 72), .op (.load none (.tmp 71)), none⟩,
       ⟨(some 73), .op (.fieldAddr 2 (.tmp 4)), none⟩,
       ⟨(some 74), .op (.load none (.tmp 73)), none⟩,
       ⟨(some 75), .op (.fieldAddr 3 (.tmp 4)), none⟩,
       ⟨(some 76), .op (.load none (.tmp 75)), none⟩,
       ⟨(some 77), .op (.buildSlice 1 6 [(.int .i64 0)] [(0, (.tmp 72)), (1, (.val (.int .i64 0))), (2, (.tmp 74)), (3, (.val (.int .i64 0))), (4, (.tmp 76)), (5, (.val (.int .i64 0)))]), none⟩,
       ⟨(some 78), .call (.fnv 56) [(.tmp 70), (.tmp 77)], none⟩,
       ⟨(some 2), .op (.mov (.tmp 78)), none⟩])
     (.ret))
    (.seq (.seq (.region [⟨(some 80), .op (.bin .eql (.tmp 39) (.val (.int .i64 15))), none⟩,
       ⟨(some 79), .op (.mov (.tmp 80)), none⟩])
     (.cond (.tmp 79) (.skip)
     (.seq (.region [⟨(some 81), .op (.bin .eql (.tmp 39) (.val (.int .i64 16))), none⟩,
       ⟨(some 79), .op (.mov (.tmp 81)), none⟩])
     (.cond (.tmp 79) (.skip)
     (.seq (.region [⟨(some 82), .op (.bin .eql (.tmp 39) (.val (.int .i64 17))), none⟩,
       ⟨(some 79), .op (.mov (.tmp 82)), none⟩])
     (.cond (.tmp 79) (.skip)
     (.region [⟨(some 83), .op (.bin .eql (.tmp 39) (.val (.int .i64 18))), none⟩,
      ⟨(some 79), .op (.mov (.tmp 83)), none⟩])))))))
    (.cond (.tmp 79) (.seq (.region [⟨(some 84), .op (.mov (.tmp 0)), none⟩,
       ⟨(some 85), .op (.fieldAddr 1 (.tmp 4)), none⟩,
       ⟨(some 86), .op (.load none (.tmp 85)), none⟩,
       ⟨(some 87), .op (.fieldAddr 2 (.tmp 4)), none⟩,
       ⟨(some 88), .op (.load none (.tmp 87)), none⟩,
       ⟨(some 89), .op (.fieldAddr 3 (.tmp 4)), none⟩,
       ⟨(some 90), .op (.load none (.tmp 89)), none⟩,
       ⟨(some 91), .op (.buildSlice 1 6 [(.int .i64 0)] [(0, (.tmp 86)), (1, (.val (.int .i64 1))), (2, (.tmp 88)), (3, (.val (.int .i64 1))), (4, (.tmp 90)), (5, (.val (.int .i64 1)))]), none⟩,
       ⟨(some 92), .call (.fnv 56) [(.tmp 84), (.tmp 91)], none⟩,
       ⟨(some 2), .op (.mov (.tmp 92)), none⟩])
     (.ret))
    (.seq (.seq (.region [⟨(some 94), .op (.bin .eql (.tmp 39) (.val (.int .i64 19))), none⟩,
       ⟨(some 93), .op (.mov (.tmp 94)), none⟩])
     (.cond (.tmp 93) (.skip)
     (.region [⟨(some 95), .op (.bin .eql (.tmp 39) (.val (.int .i64 20))), none⟩,
      ⟨(some 93), .op (.mov (.tmp 95)), none⟩])))
    (.cond (.tmp 93) (.seq (.region [⟨(some 96), .op (.mov (.tmp 0)), none⟩,
       ⟨(some 97), .op (.fieldAddr 1 (.tmp 4)), none⟩,
       ⟨(some 98), .op (.load none (.tmp 97)), none⟩,
       ⟨(some 99), .op (.fieldAddr 2 (.tmp 4)), none⟩,
       ⟨(some 100), .op (.load none (.tmp 99)), none⟩,
       ⟨(some 101), .op (.fieldAddr 3 (.tmp 4)), none⟩,
       ⟨(some 102), .op (.load none (.tmp 101)), none⟩,
       ⟨(some 103), .op (.buildSlice 1 6 [(.int .i64 0)] [(0, (.tmp 98)), (1, (.val (.int .i64 0))), (2, (.tmp 100)), (3, (.val (.int .i64 1))), (4, (.tmp 102)), (5, (.val (.int .i64 1)))]), none⟩,
       ⟨(some 104), .call (.fnv 56) [(.tmp 96), (.tmp 103)], none⟩,
       ⟨(some 2), .op (.mov (.tmp 104)), none⟩])
     (.ret))
    (.seq (.region [⟨(some 106), .op (.bin .eql (.tmp 39) (.val (.int .i64 21))), none⟩,
      ⟨(some 105), .op (.mov (.tmp 106)), none⟩])
    (.cond (.tmp 105) (.seq (.region [⟨(some 107), .op (.mov (.tmp 0)), none⟩,
       ⟨(some 108), .op (.fieldAddr 1 (.tmp 4)), none⟩,
       ⟨(some 109), .op (.load none (.tmp 108)), none⟩,
       ⟨(some 110), .op (.fieldAddr 2 (.tmp 4)), none⟩,
       ⟨(some 111), .op (.load none (.tmp 110)), none⟩,
       ⟨(some 112), .op (.buildSlice 1 4 [(.int .i64 0)] [(0, (.tmp 109)), (1, (.val (.int .i64 1))), (2, (.tmp 111)), (3, (.val (.int .i64 0)))]), none⟩,
       ⟨(some 113), .call (.fnv 56) [(.tmp 107), (.tmp 112)], none⟩,
       ⟨(some 2), .op (.mov (.tmp 113)), none⟩])
     (.ret))
    (.seq (.seq (.region [⟨(some 115), .op (.bin .eql (.tmp 39) (.val (.int .i64 22))), none⟩,
       ⟨(some 114), .op (.mov (.tmp 115)), none⟩])
     (.cond (.tmp 114) (.skip)
     (.region [⟨(some 116), .op (.bin .eql (.tmp 39) (.val (.int .i64 40))), none⟩,
      ⟨(some 114), .op (.mov (.tmp 116)), none⟩])))
    (.cond (.tmp 114) (.seq (.seq (.region [⟨(some 117), .op (.fieldAddr 0 (.tmp 4)), none⟩,
        ⟨(some 118), .op (.load none (.tmp 117)), none⟩,
        ⟨(some 119), .op (.bin .eql (.tmp 118) (.val (.int .i64 40))), none⟩])
      (.cond (.tmp 119) (.seq (.region [⟨(some 120), .op (.mov (.tmp 0)), none⟩,
         ⟨(some 121), .op (.fieldAddr 1 (.tmp 4)), none⟩,
         ⟨(some 122), .op (.load none (.tmp 121)), none⟩,
         ⟨(some 123), .op (.fieldAddr 2 (.tmp 4)), none⟩,
         ⟨(some 124), .op (.load none (.tmp 123)), none⟩,
         ⟨(some 125), .op (.buildSlice 1 4 [(.int .i64 0)] [(0, (.tmp 122)), (1, (.val (.int .i64 0))), (2, (.tmp 124)), (3, (.val (.int .i64 0)))]), none⟩,
         ⟨(some 126), .call (.fnv 56) [(.tmp 120), (.tmp 125)], none⟩,
         ⟨(some 2), .op (.mov (.tmp 126)), none⟩])
       (.ret))
      (.skip)))
     (.seq (.region [⟨(some 127), .op (.mov (.tmp 0)), none⟩,
       ⟨(some 128), .op (.fieldAddr 1 (.tmp 4)), none⟩,
       ⟨(some 129), .op (.load none (.tmp 128)), none⟩,
       ⟨(some 130), .op (.fieldAddr 2 (.tmp 4)), none⟩,
       ⟨(some 131), .op (.load none (.tmp 130)), none⟩,
       ⟨(some 132), .op (.buildSlice 1 4 [(.int .i64 0)] [(0, (.tmp 129)), (1, (.val (.int .i64 0))), (2, (.tmp 131)), (3, (.val (.int .i64 1)))]), none⟩,
       ⟨(some 133), .call (.fnv 56) [(.tmp 127), (.tmp 132)], none⟩,
       ⟨(some 2), .op (.mov (.tmp 133)), none⟩])
     (.ret)))
    (.seq (.region [⟨(some 135), .op (.bin .eql (.tmp 39) (.val (.int .i64 23))), none⟩,
      ⟨(some 134), .op (.mov (.tmp 135)), none⟩])
    (.cond (.tmp 134) (.seq (.seq (.region [⟨(some 136), .op (.mov (.tmp 0)), none⟩,
        ⟨(some 137), .op (.fieldAddr 1 (.tmp 4)), none⟩,
        ⟨(some 138), .op (.load none (.tmp 137)), none⟩,
        ⟨(some 139), .op (.buildSlice 1 2 [(.int .i64 0)] [(0, (.tmp 138)), (1, (.val (.int .i64 0)))]), none⟩,
        ⟨(some 140), .call (.fnv 56) [(.tmp 136), (.tmp 139)], none⟩,
        ⟨(some 5), .op (.mov (.tmp 140)), none⟩])
      (.seq (.region [⟨(some 141), .op (.mov (.tmp 5)), none⟩,
        ⟨(some 142), .op (.bin .neq (.tmp 141) (.val (.int .i64 0))), none⟩])
      (.cond (.tmp 142) (.seq (.region [⟨(some 143), .op (.mov (.tmp 5)), none⟩,
         ⟨(some 2), .op (.mov (.tmp 143)), none⟩])
       (.ret))
      (.skip))))
     (.seq (.region [⟨(some 144), .op (.mov (.tmp 0)), none⟩,
       ⟨(some 145), .op (.fieldAddr 2 (.tmp 4)), none⟩,
       ⟨(some 146), .op (.load none (.tmp 145)), none⟩,
       ⟨(some 147), .op (.fieldAddr 3 (.tmp 4)), none⟩,
       ⟨(some 148), .op (.load none (.tmp 147)), none⟩,
       ⟨(some 149), .op (.buildSlice 1 2 [(.int .i64 0)] [(0, (.tmp 146)), (1, (.tmp 148))]), none⟩,
       ⟨(some 150), .call (.fnv 53) [(.tmp 144), (.fnv 19), (.tmp 149)], none⟩,
       ⟨(some 2), .op (.mov (.tmp 150)), none⟩])
     (.ret)))
    (.seq (.seq (.region [⟨(some 152), .op (.bin .eql (.tmp 39) (.val (.int .i64 24))), none⟩,
       ⟨(some 151), .op (.mov (.tmp 152)), none⟩])
     (.cond (.tmp 151) (.skip)
     (.region [⟨(some 153), .op (.bin .eql (.tmp 39) (.val (.int .i64 25))), none⟩,
      ⟨(some 151), .op (.mov (.tmp 153)), none⟩])))
    (.cond (.tmp 151) (.seq (.region [⟨(some 154), .op (.mov (.tmp 0)), none⟩,
       ⟨(some 155), .op (.load (some 6) (.tmp 4)), none⟩,
       ⟨(some 156), .call (.fnv 57) [(.tmp 154), (.tmp 155)], none⟩,
       ⟨(some 2), .op (.mov (.tmp 156)), none⟩])
     (.ret))
    (.seq (.seq (.region [⟨(some 158), .op (.bin .eql (.tmp 39) (.val (.int .i64 39))), none⟩,
       ⟨(some 157), .op (.mov (.tmp 158)), none⟩])
     (.cond (.tmp 157) (.skip)
     (.seq (.region [⟨(some 159), .op (.bin .eql (.tmp 39) (.val (.int .i64 46))), none⟩,
       ⟨(some 157), .op (.mov (.tmp 159)), none⟩])
     (.cond (.tmp 157) (.skip)
     (.region [⟨(some 160), .op (.bin .eql (.tmp 39) (.val (.int .i64 52))), none⟩,
      ⟨(some 157), .op (.mov (.tmp 160)), none⟩])))))
    (.cond (.tmp 157) (.seq (.region [⟨(some 161), .op (.mov (.tmp 0)), none⟩,
       ⟨(some 162), .op (.fieldAddr 1 (.tmp 4)), none⟩,
       ⟨(some 163), .op (.load none (.tmp 162)), none⟩,
       ⟨(some 164), .op (.buildSlice 1 2 [(.int .i64 0)] [(0, (.tmp 163)), (1, (.val (.int .i64 0)))]), none⟩,
       ⟨(some 165), .call (.fnv 56) [(.tmp 161), (.tmp 164)], none⟩,
       ⟨(some 2), .op (.mov (.tmp 165)), none⟩])
     (.ret))
    (.seq (.region [⟨(some 167), .op (.bin .eql (.tmp 39) (.val (.int .i64 47))), none⟩,
      ⟨(some 166), .op (.mov (.tmp 167)), none⟩])
    (.cond (.tmp 166) (.seq (.region [⟨(some 2), .op (.mov (.val (.int .i64 0))), none⟩])
     (.ret))
    (.seq (.seq (.region [⟨(some 169), .op (.bin .eql (.tmp 39) (.val (.int .i64 49))), none⟩,
       ⟨(some 168), .op (.mov (.tmp 169)), none⟩])
     (.cond (.tmp 168) (.skip)
     (.region [⟨(some 170), .op (.bin .eql (.tmp 39) (.val (.int .i64 51))), none⟩,
      ⟨(some 168), .op (.mov (.tmp 170)), none⟩])))
    (.cond (.tmp 168) (.seq (.region [⟨(some 171), .op (.mov (.tmp 0)), none⟩,
       ⟨(some 172), .op (.fieldAddr 1 (.tmp 4)), none⟩,
       ⟨(some 173), .op (.load none (.tmp 172)), none⟩,
       ⟨(some 174), .op (.fieldAddr 2 (.tmp 4)), none⟩,
       ⟨(some 175), .op (.load none (.tmp 174)), none⟩,
       ⟨(some 176), .op (.buildSlice 1 4 [(.int .i64 0)] [(0, (.tmp 173)), (1, (.val (.int .i64 2))), (2, (.tmp 175)), (3, (.val (.int .i64 0)))]), none⟩,
       ⟨(some 177), .call (.fnv 56) [(.tmp 171), (.tmp 176)], none⟩,
       ⟨(some 2), .op (.mov (.tmp 177)), none⟩])
     (.ret))
    (.seq (.region [⟨(some 179), .op (.bin .eql (.tmp 39) (.val (.int .i64 50))), none⟩,
      ⟨(some 178), .op (.mov (.tmp 179)), none⟩])
    (.cond (.tmp 178) (.seq (.region [⟨(some 180), .op (.mov (.tmp 0)), none⟩,
       ⟨(some 181), .op (.fieldAddr 1 (.tmp 4)), none⟩,
       ⟨(some 182), .op (.load none (.tmp 181)), none⟩,
       ⟨(some 183), .op (.fieldAddr 2 (.tmp 4)), none⟩,
       ⟨(some 184), .op (.load none (.tmp 183)), none⟩,
       ⟨(some 185), .op (.buildSlice 1 4 [(.int .i64 0)] [(0, (.tmp 182)), (1, (.val (.int .i64 0))), (2, (.tmp 184)), (3, (.val (.int .i64 2)))]), none⟩,
       ⟨(some 186), .call (.fnv 56) [(.tmp 180), (.tmp 185)], none⟩,
       ⟨(some 2), .op (.mov (.tmp 186)), none⟩])
     (.ret))
    (.seq (.seq (.region [⟨(some 188), .op (.bin .eql (.tmp 39) (.val (.int .i64 26))), none⟩,
       ⟨(some 187), .op (.mov (.tmp 188)), none⟩])
     (.cond (.tmp 187) (.skip)
     (.seq (.region [⟨(some 189), .op (.bin .eql (.tmp 39) (.val (.int .i64 27))), none⟩,
       ⟨(some 187), .op (.mov (.tmp 189)), none⟩])
     (.cond (.tmp 187) (.skip)
     (.seq (.region [⟨(some 190), .op (.bin .eql (.tmp 39) (.val (.int .i64 28))), none⟩,
       ⟨(some 187), .op (.mov (.tmp 190)), none⟩])
     (.cond (.tmp 187) (.skip)
     (.seq (.region [⟨(some 191), .op (.bin .eql (.tmp 39) (.val (.int .i64 29))), none⟩,
       ⟨(some 187), .op (.mov (.tmp 191)), none⟩])
     (.cond (.tmp 187) (.skip)
     (.seq (.region [⟨(some 192), .op (.bin .eql (.tmp 39) (.val (.int .i64 30))), none⟩,
       ⟨(some 187), .op (.mov (.tmp 192)), none⟩])
     (.cond (.tmp 187) (.skip)
     (.seq (.region [⟨(some 193), .op (.bin .eql (.tmp 39) (.val (.int .i64 31))), none⟩,
       ⟨(some 187), .op (.mov (.tmp 193)), none⟩])
     (.cond (.tmp 187) (.skip)
     (.seq (.region [⟨(some 194), .op (.bin .eql (.tmp 39) (.val (.int .i64 32))), none⟩,
       ⟨(some 187), .op (.mov (.tmp 194)), none⟩])
     (.cond (.tmp 187) (.skip)
     (.seq (.region [⟨(some 195), .op (.bin .eql (.tmp 39) (.val (.int .i64 33))), none⟩,
       ⟨(some 187), .op (.mov (.tmp 195)), none⟩])
     (.cond (.tmp 187) (.skip)
     (.region [⟨(some 196), .op (.bin .eql (.tmp 39) (.val (.int .i64 34))), none⟩,
      ⟨(some 187), .op (.mov (.tmp 196)), none⟩])))))))))))))))))
    (.cond (.tmp 187) (.seq (.region [⟨(some 197), .op (.mov (.tmp 0)), none⟩,
       ⟨(some 198), .op (.load (some 6) (.tmp 4)), none⟩,
       ⟨(some 199), .call (.fnv 58) [(.tmp 197), (.tmp 198)], none⟩,
       ⟨(some 2), .op (.mov (.tmp 199)), none⟩])
     (.ret))
    (.seq (.seq (.region [⟨(some 201), .op (.bin .eql (.tmp 39) (.val (.int .i64 35))), none⟩,
       ⟨(some 200), .op (.mov (.tmp 201)), none⟩])
     (.cond (.tmp 200) (.skip)
     (.seq (.region [⟨(some 202), .op (.bin .eql (.tmp 39) (.val (.int .i64 36))), none⟩,
       ⟨(some 200), .op (.mov (.tmp 202)), none⟩])
     (.cond (.tmp 200) (.skip)
     (.seq (.region [⟨(some 203), .op (.bin .eql (.tmp 39) (.val (.int .i64 37))), none⟩,
       ⟨(some 200), .op (.mov (.tmp 203)), none⟩])
     (.cond (.tmp 200) (.skip)
     (.region [⟨(some 204), .op (.bin .eql (.tmp 39) (.val (.int .i64 38))), none⟩,
      ⟨(some 200), .op (.mov (.tmp 204)), none⟩])))))))
    (.cond (.tmp 200) (.seq (.region [⟨(some 205), .op (.mov (.tmp 0)), none⟩,
       ⟨(some 206), .op (.load (some 6) (.tmp 4)), none⟩,
       ⟨(some 207), .call (.fnv 59) [(.tmp 205), (.tmp 206)], none⟩,
       ⟨(some 2), .op (.mov (.tmp 207)), none⟩])
     (.ret))
    (.skip)))))))))))))))))))))))))))))))))
  (.seq (.region [⟨(some 208), .op (.mov (.tmp 0)), none⟩,
    ⟨(some 209), .op (.load (some 6) (.tmp 4)), none⟩,
    ⟨(some 210), .call (.fnv 60) [(.tmp 208), (.tmp 209)], none⟩,
    ⟨(some 2), .op (.mov (.tmp 210)), none⟩])
  (.ret)))))),
  [.tmp 2], none, none⟩
def A35 : AFun := ⟨.seq (.region [⟨(some 1), .op (.box (.tmp 0)), none⟩,
    ⟨(some 2), .op (.mov (.val (.int .i64 0))), none⟩,
    ⟨(some 3), .op (.mov (.val (.int .i64 0))), none⟩])
  (.seq (.seq (.region [⟨(some 8), .op (.fieldAddr 0 (.tmp 1)), none⟩,
     ⟨(some 9), .op (.load none (.tmp 8)), none⟩,
     ⟨(some 10), .op (.lenS (.tmp 9)), none⟩,
     ⟨(some 11), .op (.bin .gtr (.tmp 10) (.val (.int .i64 32))), none⟩,
     ⟨(some 12), .op (.mov (.tmp 11)), none⟩,
     ⟨(some 13), .op (.fieldAddr 1 (.tmp 1)), (some (12, false))⟩,
     ⟨(some 14), .op (.load none (.tmp 13)), (some (12, false))⟩,
     ⟨(some 15), .op (.lenS (.tmp 14)), (some (12, false))⟩,
     ⟨(some 16), .op (.bin .gtr (.tmp 15) (.val (.int .i64 32))), (some (12, false))⟩,
     ⟨(some 17), .op (.pick (.tmp 12) (.val (.bool true)) (.tmp 16)), none⟩,
     ⟨(some 18), .op (.mov (.tmp 17)), none⟩,
     ⟨(some 19), .op (.fieldAddr 2 (.tmp 1)), (some (18, false))⟩,
     ⟨(some 20), .op (.load none (.tmp 19)), (some (18, false))⟩,
     ⟨(some 21), .op (.lenS (.tmp 20)), (some (18, false))⟩,
     ⟨(some 22), .op (.bin .gtr (.tmp 21) (.val (.int .i64 32))), (some (18, false))⟩,
     ⟨(some 23), .op (.pick (.tmp 18) (.val (.bool true)) (.tmp 22)), none⟩,
     ⟨(some 24), .op (.mov (.tmp 23)), none⟩,
     ⟨(some 25), .op (.fieldAddr 2 (.tmp 1)), (some (24, false))⟩,
     ⟨(some 26), .op (.load none (.tmp 25)), (some (24, false))⟩,
     ⟨(some 27), .op (.lenS (.tmp 26)), (some (24, false))⟩,
     ⟨(some 28), .op (.bin .eql (.tmp 27) (.val (.int .i64 0))), (some (24, false))⟩,
     ⟨(some 29), .op (.pick (.tmp 24) (.val (.bool true)) (.tmp 28)), none⟩])
   (.cond (.tmp 29) (.seq (.region [⟨(some 2), .op (.mov (.val (.int .i64 16))), none⟩,
      ⟨(some 3), .op (.mov (.val (.int .i64 0))), none⟩])
    (.ret))
   (.skip)))
  (.seq (.seq (.region [⟨(some 4), .op (.mov (.val (.int .i64 0))), none⟩])
   (.block 0 (.loop (.seq (.seq (.region [⟨(some 30), .op (.mov (.tmp 4)), none⟩,
        ⟨(some 31), .op (.fieldAddr 0 (.tmp 1)), none⟩,
        ⟨(some 32), .op (.load none (.tmp 31)), none⟩,
        ⟨(some 33), .op (.lenS (.tmp 32)), none⟩,
        ⟨(some 34), .op (.bin .lss (.tmp 30) (.tmp 33)), none⟩])
      (.cond (.tmp 34) (.skip)
      (.exit 0)))
     (.seq (.block 1 (.seq (.region [⟨(some 37), .op (.fieldAddr 0 (.tmp 1)), none⟩,
         ⟨(some 38), .op (.load none (.tmp 37)), none⟩,
         ⟨(some 39), .op (.mov (.tmp 4)), none⟩,
         ⟨(some 40), .op (.idxS 2 (.tmp 38) (.tmp 39)), none⟩,
         ⟨(some 41), .op (.load (some 2) (.tmp 40)), none⟩,
         ⟨(some 5), .op (.alloc [(.bool false), .nils]), none⟩,
         ⟨none, .op (.store 2 (.tmp 5) (.tmp 41)), none⟩])
       (.seq (.region [⟨(some 42), .op (.fieldAddr 1 (.tmp 5)), none⟩,
         ⟨(some 43), .op (.load none (.tmp 42)), none⟩,
         ⟨(some 44), .op (.lenS (.tmp 43)), none⟩,
         ⟨(some 6), .op (.mov (.tmp 44)), none⟩])
       (.seq (.seq (.region [⟨(some 45), .op (.mov (.tmp 6)), none⟩,
          ⟨(some 46), .op (.bin .eql (.tmp 45) (.val (.int .i64 0))), none⟩,
          ⟨(some 47), .op (.mov (.tmp 46)), none⟩,
          ⟨(some 48), .op (.mov (.tmp 6)), (some (47, false))⟩,
          ⟨(some 49), .op (.bin .gtr (.tmp 48) (.val (.int .i64 16))), (some (47, false))⟩,
          ⟨(some 50), .op (.pick (.tmp 47) (.val (.bool true)) (.tmp 49)), none⟩,
          ⟨(some 51), .op (.mov (.tmp 50)), none⟩,
          ⟨(some 52), .op (.fieldAddr 0 (.tmp 5)), (some (51, false))⟩,
          ⟨(some 53), .op (.load none (.tmp 52)), (some (51, false))⟩,
          ⟨(some 54), .op (.mov (.tmp 53)), (some (51, false))⟩,
          ⟨(some 55), .op (.mov (.tmp 6)), (some (54, true))⟩,
          ⟨(some 56), .op (.bin .gtr (.tmp 55) (.val (.int .i64 1))), (some (54, true))⟩,
          ⟨(some 57), .op (.pick (.tmp 54) (.tmp 56) (.val (.bool false))), (some (51, false))⟩,
          ⟨(some 58), .op (.pick (.tmp 51) (.val (.bool true)) (.tmp 57)), none⟩])
        (.cond (.tmp 58) (.seq (.region [⟨(some 59), .op (.mov (.tmp 4)), none⟩,
           ⟨(some 2), .op (.mov (.val (.int .i64 16))), none⟩,
           ⟨(some 3), .op (.mov (.tmp 59)), none⟩])
         (.ret))
        (.skip)))
       (.seq (.region [⟨(some 60), .op (.load (some 3) (.tmp 1)), none⟩,
         ⟨(some 61), .op (.fieldAddr 1 (.tmp 5)), none⟩,
         ⟨(some 62), .op (.load none (.tmp 61)), none⟩,
         ⟨(some 63), .call (.fnv 61) [(.tmp 60), (.tmp 62), (.val (.bool false))], none⟩,
         ⟨(some 64), .op (.un .not (.tmp 63)), none⟩])
       (.cond (.tmp 64) (.seq (.region [⟨(some 65), .op (.mov (.tmp 4)), none⟩,
          ⟨(some 2), .op (.mov (.val (.int .i64 10))), none⟩,
          ⟨(some 3), .op (.mov (.tmp 65)), none⟩])
        (.ret))
       (.skip)))))))
     (.region [⟨(some 35), .op (.mov (.tmp 4)), none⟩,
      ⟨(some 36), .op (.bin .add (.tmp 35) (.val (.int .i64 1))), none⟩,
      ⟨(some 4), .op (.mov (.tmp 36)), none⟩]))))))
  (.seq (.seq (.region [⟨(some 7), .op (.mov (.val (.int .i64 0))), none⟩])
   (.block 2 (.loop (.seq (.seq (.region [⟨(some 66), .op (.mov (.tmp 7)), none⟩,
        ⟨(some 67), .op (.fieldAddr 1 (.tmp 1)), none⟩,
        ⟨(some 68), .op (.load none (.tmp 67)), none⟩,
        ⟨(some 69), .op (.lenS (.tmp 68)), none⟩,
        ⟨(some 70), .op (.bin .lss (.tmp 66) (.tmp 69)), none⟩])
      (.cond (.tmp 70) (.skip)
      (.exit 2)))
     (.seq (.block 3 (.seq (.draw [⟨⟨(some 73), .op (.load (some 3) (.tmp 1)), none⟩, .read []⟩,
         ⟨⟨(some 74), .op (.fieldAddr 1 (.tmp 1)), none⟩, .pure⟩,
         ⟨⟨(some 75), .op (.load none (.tmp 74)), none⟩, .read []⟩,
         ⟨⟨(some 76), .op (.mov (.tmp 7)), none⟩, .pure⟩,
         ⟨⟨(some 77), .op (.idxS 1 (.tmp 75) (.tmp 76)), none⟩, .read []⟩,
         ⟨⟨(some 78), .op (.load none (.tmp 77)), none⟩, .read []⟩,
         ⟨⟨(some 79), .call (.fnv 62) [(.tmp 73), (.tmp 78)], none⟩, .act true⟩,
         ⟨⟨(some 80), .op (.un .not (.tmp 79)), none⟩, .pure⟩])
       (.cond (.tmp 80) (.seq (.region [⟨(some 81), .op (.mov (.tmp 7)), none⟩,
          ⟨(some 2), .op (.mov (.val (.int .i64 15))), none⟩,
          ⟨(some 3), .op (.mov (.tmp 81)), none⟩])
        (.ret))
       (.skip))))
     (.region [⟨(some 71), .op (.mov (.tmp 7)), none⟩,
      ⟨(some 72), .op (.bin .add (.tmp 71) (.val (.int .i64 1))), none⟩,
      ⟨(some 7), .op (.mov (.tmp 72)), none⟩]))))))
  (.seq (.region [⟨(some 2), .op (.mov (.val (.int .i64 0))), none⟩,
    ⟨(some 3), .op (.mov (.val (.int .i64 0))), none⟩])
  (.ret))))),
  [.tmp 2, .tmp 3], none, none⟩
def A36 : AFun := ⟨.seq (.region [⟨(some 2), .op (.box (.tmp 0)), none⟩,
    ⟨(some 4), .op (.mov (.val (.int .i64 0))), none⟩])
  (.seq (.region [⟨(some 7), .op (.fieldAddr 2 (.tmp 2)), none⟩,
    ⟨(some 8), .op (.load none (.tmp 7)), none⟩,
    ⟨(some 9), .op (.mov (.tmp 1)), none⟩,
    ⟨(some 10), .op (.idxS 4 (.tmp 8) (.tmp 9)), none⟩,
    ⟨(some 11), .op (.load (some 4) (.tmp 10)), none⟩,
    ⟨(some 5), .op (.alloc [(.int .i64 0), .nils, .nils, .nils]), none⟩,
    ⟨none, .op (.store 4 (.tmp 5) (.tmp 11)), none⟩])
  (.seq (.seq (.region [⟨(some 12), .op (.fieldAddr 1 (.tmp 5)), none⟩,
     ⟨(some 13), .op (.load none (.tmp 12)), none⟩,
     ⟨(some 14), .op (.lenS (.tmp 13)), none⟩,
     ⟨(some 15), .op (.bin .gtr (.tmp 14) (.val (.int .i64 32))), none⟩,
     ⟨(some 16), .op (.mov (.tmp 15)), none⟩,
     ⟨(some 17), .op (.fieldAddr 2 (.tmp 5)), (some (16, false))⟩,
     ⟨(some 18), .op (.load none (.tmp 17)), (some (16, false))⟩,
     ⟨(some 19), .op (.lenS (.tmp 18)), (some (16, false))⟩,
     ⟨(some 20), .op (.bin .gtr (.tmp 19) (.val (.int .i64 32))), (some (16, false))⟩,
     ⟨(some 21), .op (.pick (.tmp 16) (.val (.bool true)) (.tmp 20)), none⟩,
     ⟨(some 22), .op (.mov (.tmp 21)), none⟩,
     ⟨(some 23), .op (.fieldAddr 3 (.tmp 5)), (some (22, false))⟩,
     ⟨(some 24), .op (.load none (.tmp 23)), (some (22, false))⟩,
     ⟨(some 25), .op (.lenS (.tmp 24)), (some (22, false))⟩,
     ⟨(some 26), .op (.bin .gtr (.tmp 25) (.val (.int .i64 256))), (some (22, false))⟩,
     ⟨(some 27), .op (.pick (.tmp 22) (.val (.bool true)) (.tmp 26)), none⟩,
     ⟨(some 28), .op (.mov (.tmp 27)), none⟩,
     ⟨(some 29), .op (.fieldAddr 0 (.tmp 5)), (some (28, false))⟩,
     ⟨(some 30), .op (.load none (.tmp 29)), (some (28, false))⟩,
     ⟨(some 31), .op (.bin .lss (.tmp 30) (.val (.int .i64 0))), (some (28, false))⟩,
     ⟨(some 32), .op (.pick (.tmp 28) (.val (.bool true)) (.tmp 31)), none⟩,
     ⟨(some 33), .op (.mov (.tmp 32)), none⟩,
     ⟨(some 34), .op (.fieldAddr 0 (.tmp 5)), (some (33, false))⟩,
     ⟨(some 35), .op (.load none (.tmp 34)), (some (33, false))⟩,
     ⟨(some 36), .op (.fieldAddr 1 (.tmp 5)), (some (33, false))⟩,
     ⟨(some 37), .op (.load none (.tmp 36)), (some (33, false))⟩,
     ⟨(some 38), .op (.lenS (.tmp 37)), (some (33, false))⟩,
     ⟨(some 39), .op (.bin .gtr (.tmp 35) (.tmp 38)), (some (33, false))⟩,
     ⟨(some 40), .op (.pick (.tmp 33) (.val (.bool true)) (.tmp 39)), none⟩])
   (.cond (.tmp 40) (.seq (.region [⟨(some 4), .op (.mov (.val (.int .i64 16))), none⟩])
    (.ret))
   (.skip)))
  (.seq (.seq (.region [⟨(some 41), .op (.mov (.tmp 1)), none⟩,
     ⟨(some 42), .op (.bin .eql (.tmp 41) (.val (.int .i64 0))), none⟩,
     ⟨(some 43), .op (.mov (.tmp 42)), none⟩,
     ⟨(some 44), .op (.fieldAddr 0 (.tmp 5)), (some (43, true))⟩,
     ⟨(some 45), .op (.load none (.tmp 44)), (some (43, true))⟩,
     ⟨(some 46), .op (.fieldAddr 2 (.tmp 5)), (some (43, true))⟩,
     ⟨(some 47), .op (.load none (.tmp 46)), (some (43, true))⟩,
     ⟨(some 48), .op (.lenS (.tmp 47)), (some (43, true))⟩,
     ⟨(some 49), .op (.bin .add (.tmp 45) (.tmp 48)), (some (43, true))⟩,
     ⟨(some 50), .op (.bin .gtr (.tmp 49) (.val (.int .i64 0))), (some (43, true))⟩,
     ⟨(some 51), .op (.pick (.tmp 43) (.tmp 50) (.val (.bool false))), none⟩])
   (.cond (.tmp 51) (.seq (.region [⟨(some 4), .op (.mov (.val (.int .i64 13))), none⟩])
    (.ret))
   (.skip)))
  (.seq (.seq (.region [⟨(some 52), .op (.load (some 3) (.tmp 2)), none⟩,
     ⟨(some 53), .op (.fieldAddr 1 (.tmp 5)), none⟩,
     ⟨(some 54), .op (.load none (.tmp 53)), none⟩,
     ⟨(some 55), .call (.fnv 61) [(.tmp 52), (.tmp 54), (.val (.bool true))], none⟩,
     ⟨(some 56), .op (.un .not (.tmp 55)), none⟩,
     ⟨(some 57), .op (.mov (.tmp 56)), none⟩,
     ⟨(some 58), .op (.load (some 3) (.tmp 2)), (some (57, false))⟩,
     ⟨(some 59), .op (.fieldAddr 2 (.tmp 5)), (some (57, false))⟩,
     ⟨(some 60), .op (.load none (.tmp 59)), (some (57, false))⟩,
     ⟨(some 61), .call (.fnv 61) [(.tmp 58), (.tmp 60), (.val (.bool false))], (some (57, false))⟩,
     ⟨(some 62), .op (.un .not (.tmp 61)), (some (57, false))⟩,
     ⟨(some 63), .op (.pick (.tmp 57) (.val (.bool true)) (.tmp 62)), none⟩])
   (.cond (.tmp 63) (.seq (.region [⟨(some 4), .op (.mov (.val (.int .i64 10))), none⟩])
    (.ret))
   (.skip)))
  (.seq (.seq (.region [⟨(some 64), .op (.fieldAddr 3 (.tmp 5)), none⟩,
     ⟨(some 65), .op (.load none (.tmp 64)), none⟩,
     ⟨(some 66), .op (.lenS (.tmp 65)), none⟩,
     ⟨(some 67), .op (.bin .eql (.tmp 66) (.val (.int .i64 0))), none⟩])
   (.cond (.tmp 67) (.seq (.region [⟨(some 4), .op (.mov (.val (.int .i64 7))), none⟩])
    (.ret))
   (.skip)))
  (.seq (.region [⟨(some 68), .op (.fieldAddr 3 (.tmp 5)), none⟩,
    ⟨(some 69), .op (.load none (.tmp 68)), none⟩,
    ⟨(some 70), .op (.fieldAddr 3 (.tmp 5)), none⟩,
    ⟨(some 71), .op (.load none (.tmp 70)), none⟩,
    ⟨(some 72), .op (.lenS (.tmp 71)), none⟩,
    ⟨(some 73), .op (.bin .sub (.tmp 72) (.val (.int .i64 1))), none⟩,
    ⟨(some 74), .op (.idxS 6 (.tmp 69) (.tmp 73)), none⟩,
    ⟨(some 75), .op (.fieldAddr 0 (.tmp 74)), none⟩,
    ⟨(some 76), .op (.load none (.tmp 75)), none⟩,
    ⟨(some 6), .op (.mov (.tmp 76)), none⟩])
  (.seq (.seq (.region [⟨(some 77), .op (.mov (.tmp 6)), none⟩,
     ⟨(some 78), .op (.bin .neq (.tmp 77) (.val (.int .i64 36))), none⟩,
     ⟨(some 79), .op (.mov (.tmp 78)), none⟩,
     ⟨(some 80), .op (.mov (.tmp 6)), (some (79, true))⟩,
     ⟨(some 81), .op (.bin .neq (.tmp 80) (.val (.int .i64 24))), (some (79, true))⟩,
     ⟨(some 82), .op (.pick (.tmp 79) (.tmp 81) (.val (.bool false))), none⟩,
     ⟨(some 83), .op (.mov (.tmp 82)), none⟩,
     ⟨(some 84), .op (.mov (.tmp 6)), (some (83, true))⟩,
     ⟨(some 85), .op (.bin .neq (.tmp 84) (.val (.int .i64 52))), (some (83, true))⟩,
     ⟨(some 86), .op (.pick (.tmp 83) (.tmp 85) (.val (.bool false))), none⟩,
     ⟨(some 87), .op (.mov (.tmp 86)), none⟩,
     ⟨(some 88), .op (.mov (.tmp 6)), (some (87, true))⟩,
     ⟨(some 89), .op (.bin .neq (.tmp 88) (.val (.int .i64 39))), (some (87, true))⟩,
     ⟨(some 90), .op (.pick (.tmp 87) (.tmp 89) (.val (.bool false))), none⟩])
   (.cond (.tmp 90) (.seq (.region [⟨(some 4), .op (.mov (.val (.int .i64 7))), none⟩])
    (.ret))
   (.skip)))
  (.seq (.region [⟨(some 4), .op (.mov (.val (.int .i64 0))), none⟩])
  (.ret))))))))),
  [.tmp 4], none, none⟩
def A37 : AFun := ⟨.seq (.region [⟨(some 3), .op (.box (.tmp 0)), none⟩,
    ⟨(some 4), .op (.box (.tmp 1)), none⟩,
    ⟨(some 5), .op (.box (.tmp 2)), none⟩,
    ⟨(some 6), .op (.mov (.val (.int .i64 0))), none⟩])
  (.seq (.seq (.region [⟨(some 9), .op (.fieldAddr 0 (.tmp 5)), none⟩,
     ⟨(some 10), .op (.load none (.tmp 9)), none⟩,
     ⟨(some 11), .op (.bin .lss (.tmp 10) (.val (.int .i64 1))), none⟩,
     ⟨(some 12), .op (.mov (.tmp 11)), none⟩,
     ⟨(some 13), .op (.fieldAddr 0 (.tmp 5)), (some (12, false))⟩,
     ⟨(some 14), .op (.load none (.tmp 13)), (some (12, false))⟩,
     ⟨(some 15), .op (.bin .gtr (.tmp 14) (.val (.int .i64 52))), (some (12, false))⟩,
     ⟨(some 16), .op (.pick (.tmp 12) (.val (.bool true)) (.tmp 15)), none⟩])
   (.cond (.tmp 16) (.seq (.region [⟨(some 6), .op (.mov (.val (.int .i64 9))), none⟩])
    (.ret))
   (.skip)))
  (.seq (.region [⟨(some 17), .op (.load (some 6) (.tmp 5)), none⟩,
    ⟨(some 18), .call (.fnv 63) [(.tmp 17)], none⟩,
    ⟨(some 7), .op (.mov (.tmp 18)), none⟩])
  (.seq (.seq (.region [⟨(some 19), .op (.mov (.tmp 7)), none⟩,
     ⟨(some 20), .op (.bin .neq (.tmp 19) (.val (.int .i64 0))), none⟩])
   (.cond (.tmp 20) (.seq (.region [⟨(some 21), .op (.mov (.tmp 7)), none⟩,
      ⟨(some 6), .op (.mov (.tmp 21)), none⟩])
    (.ret))
   (.skip)))
  (.seq (.region [⟨(some 8), .op (.alloc [.nils, .nils]), none⟩])
  (.seq (.block 0 (.seq (.region [⟨(some 23), .op (.fieldAddr 0 (.tmp 5)), none⟩,
      ⟨(some 24), .op (.load none (.tmp 23)), none⟩,
      ⟨(some 25), .op (.bin .geq (.tmp 24) (.val (.int .i64 3))), none⟩,
      ⟨(some 26), .op (.mov (.tmp 25)), none⟩,
      ⟨(some 27), .op (.fieldAddr 0 (.tmp 5)), (some (26, true))⟩,
      ⟨(some 28), .op (.load none (.tmp 27)), (some (26, true))⟩,
      ⟨(some 29), .op (.bin .leq (.tmp 28) (.val (.int .i64 14))), (some (26, true))⟩,
      ⟨(some 30), .op (.pick (.tmp 26) (.tmp 29) (.val (.bool false))), none⟩,
      ⟨(some 22), .op (.mov (.tmp 30)), none⟩])
    (.cond (.tmp 22) (.seq (.draw [⟨⟨(some 31), .op (.load (some 4) (.tmp 4)), none⟩, .read [7, 10, 11]⟩,
       ⟨⟨(some 32), .op (.load (some 2) (.tmp 8)), none⟩, .read []⟩,
       ⟨⟨(some 33), .op (.fieldAddr 1 (.tmp 5)), none⟩, .pure⟩,
       ⟨⟨(some 34), .op (.load none (.tmp 33)), none⟩, .read []⟩,
       ⟨⟨(some 35), .call (.fnv 65) [(.tmp 32), (.tmp 34), (.val (.int .i64 0))], none⟩, .act false⟩,
       ⟨⟨(some 36), .op (.fieldAddr 2 (.tmp 5)), none⟩, .pure⟩,
       ⟨⟨(some 37), .op (.load none (.tmp 36)), none⟩, .read [4]⟩,
       ⟨⟨(some 38), .call (.fnv 65) [(.tmp 35), (.tmp 37), (.val (.int .i64 0))], none⟩, .act false⟩,
       ⟨⟨(some 39), .op (.fieldAddr 3 (.tmp 5)), none⟩, .pure⟩,
       ⟨⟨(some 40), .op (.load none (.tmp 39)), none⟩, .read [4, 7]⟩,
       ⟨⟨(some 41), .call (.fnv 65) [(.tmp 38), (.tmp 40), (.val (.int .i64 0))], none⟩, .act true⟩,
       ⟨⟨(some 42), .call (.fnv 64) [(.tmp 31), (.tmp 41)], none⟩, .act true⟩,
       ⟨⟨(some 6), .op (.mov (.tmp 42)), none⟩, .pure⟩])
     (.ret))
    (.seq (.region [⟨(some 44), .op (.fieldAddr 0 (.tmp 5)), none⟩,
      ⟨(some 45), .op (.load none (.tmp 44)), none⟩,
      ⟨(some 46), .op (.bin .geq (.tmp 45) (.val (.int .i64 15))), none⟩,
      ⟨(some 47), .op (.mov (.tmp 46)), none⟩,
      ⟨(some 48), .op (.fieldAddr 0 (.tmp 5)), (some (47, true))⟩,
      ⟨(some 49), .op (.load none (.tmp 48)), (some (47, true))⟩,
      ⟨(some 50), .op (.bin .leq (.tmp 49) (.val (.int .i64 18))), (some (47, true))⟩,
      ⟨(some 51), .op (.pick (.tmp 47) (.tmp 50) (.val (.bool false))), none⟩,
      ⟨(some 43), .op (.mov (.tmp 51)), none⟩])
    (.cond (.tmp 43) (.seq (.draw [⟨⟨(some 52), .op (.load (some 4) (.tmp 4)), none⟩, .read [7, 10, 11]⟩,
       ⟨⟨(some 53), .op (.load (some 2) (.tmp 8)), none⟩, .read []⟩,
       ⟨⟨(some 54), .op (.fieldAddr 1 (.tmp 5)), none⟩, .pure⟩,
       ⟨⟨(some 55), .op (.load none (.tmp 54)), none⟩, .read []⟩,
       ⟨⟨(some 56), .call (.fnv 65) [(.tmp 53), (.tmp 55), (.val (.int .i64 1))], none⟩, .act false⟩,
       ⟨⟨(some 57), .op (.fieldAddr 2 (.tmp 5)), none⟩, .pure⟩,
       ⟨⟨(some 58), .op (.load none (.tmp 57)), none⟩, .read [4]⟩,
       ⟨⟨(some 59), .call (.fnv 65) [(.tmp 56), (.tmp 58), (.val (.int .i64 1))], none⟩, .act false⟩,
       ⟨⟨(some 60), .op (.fieldAddr 3 (.tmp 5)), none⟩, .pure⟩,
       ⟨⟨(some 61), .op (.load none (.tmp 60)), none⟩, .read [4, 7]⟩,
       ⟨⟨(some 62), .call (.fnv 65) [(.tmp 59), (.tmp 61), (.val (.int .i64 1))], none⟩, .act true⟩,
       ⟨⟨(some 63), .call (.fnv 64) [(.tmp 52), (.tmp 62)], none⟩, .act true⟩,
       ⟨⟨(some 6), .op (.mov (.tmp 63)), none⟩, .pure⟩])
     (.ret))
    (.seq (.region [⟨(some 65), .op (.fieldAddr 0 (.tmp 5)), none⟩,
      ⟨(some 66), .op (.load none (.tmp 65)), none⟩,
      ⟨(some 67), .op (.bin .eql (.tmp 66) (.val (.int .i64 19))), none⟩,
      ⟨(some 68), .op (.mov (.tmp 67)), none⟩,
      ⟨(some 69), .op (.fieldAddr 0 (.tmp 5)), (some (68, false))⟩,
      ⟨(some 70), .op (.load none (.tmp 69)), (some (68, false))⟩,
      ⟨(some 71), .op (.bin .eql (.tmp 70) (.val (.int .i64 20))), (some (68, false))⟩,
      ⟨(some 72), .op (.pick (.tmp 68) (.val (.bool true)) (.tmp 71)), none⟩,
      ⟨(some 64), .op (.mov (.tmp 72)), none⟩])
    (.cond (.tmp 64) (.seq (.draw [⟨⟨(some 73), .op (.load (some 4) (.tmp 4)), none⟩, .read [7, 10, 11]⟩,
       ⟨⟨(some 74), .op (.load (some 2) (.tmp 8)), none⟩, .read []⟩,
       ⟨⟨(some 75), .op (.fieldAddr 1 (.tmp 5)), none⟩, .pure⟩,
       ⟨⟨(some 76), .op (.load none (.tmp 75)), none⟩, .read []⟩,
       ⟨⟨(some 77), .call (.fnv 65) [(.tmp 74), (.tmp 76), (.val (.int .i64 0))], none⟩, .act false⟩,
       ⟨⟨(some 78), .op (.fieldAddr 2 (.tmp 5)), none⟩, .pure⟩,
       ⟨⟨(some 79), .op (.load none (.tmp 78)), none⟩, .read [4]⟩,
       ⟨⟨(some 80), .call (.fnv 65) [(.tmp 77), (.tmp 79), (.val (.int .i64 1))], none⟩, .act false⟩,
       ⟨⟨(some 81), .op (.fieldAddr 3 (.tmp 5)), none⟩, .pure⟩,
       ⟨⟨(some 82), .op (.load none (.tmp 81)), none⟩, .read [4, 7]⟩,
       ⟨⟨(some 83), .call (.fnv 65) [(.tmp 80), (.tmp 82), (.val (.int .i64 1))], none⟩, .act true⟩,
       ⟨⟨(some 84), .call (.fnv 64) [(.tmp 73), (.tmp 83)], none⟩, .act true⟩,
       ⟨⟨(some 6), .op (.mov (.tmp 84)), none⟩, .pure⟩])
     (.ret))
    (.seq (.region [⟨(some 86), .op (.fieldAddr 0 (.tmp 5)), none⟩,
      ⟨(some 87), .op (.load none (.tmp 86)), none⟩,
      ⟨(some 88), .op (.bin .eql (.tmp 87) (.val (.int .i64 21))), none⟩,
      ⟨(some 85), .op (.mov (.tmp 88)), none⟩])
    (.cond (.tmp 85) (.seq (.draw [⟨⟨(some 89), .op (.load (some 4) (.tmp 4)), none⟩, .read [7, 8]⟩,
       ⟨⟨(some 90), .op (.load (some 2) (.tmp 8)), none⟩, .read []⟩,
       ⟨⟨(some 91), .op (.fieldAddr 1 (.tmp 5)), none⟩, .pure⟩,
       ⟨⟨(some 92), .op (.load none (.tmp 91)), none⟩, .read []⟩,
       ⟨⟨(some 93), .call (.fnv 65) [(.tmp 90), (.tmp 92), (.val (.int .i64 1))], none⟩, .act false⟩,
       ⟨⟨(some 94), .op (.fieldAddr 2 (.tmp 5)), none⟩, .pure⟩,
       ⟨⟨(some 95), .op (.load none (.tmp 94)), none⟩, .read [4]⟩,
       ⟨⟨(some 96), .call (.fnv 65) [(.tmp 93), (.tmp 95), (.val (.int .i64 0))], none⟩, .act true⟩,
       ⟨⟨(some 97), .call (.fnv 64) [(.tmp 89), (.tmp 96)], none⟩, .act true⟩,
       ⟨⟨(some 6), .op (.mov (.tmp 97)), none⟩, .pure⟩])
     (.ret))
    (.seq (.region [⟨(some 99), .op (.fieldAddr 0 (.tmp 5)), none⟩,
      ⟨(some 100), .op (.load none (.tmp 99)), none⟩,
      ⟨(some 101), .op (.bin .eql (.tmp 100) (.val (.int .i64 22))), none⟩,
      ⟨(some 98), .op (.mov (.tmp 101)), none⟩])
    (.cond (.tmp 98) (.seq (.draw [⟨⟨(some 102), .op (.load (some 4) (.tmp 4)), none⟩, .read [7, 8]⟩,
       ⟨⟨(some 103), .op (.load (some 2) (.tmp 8)), none⟩, .read []⟩,
       ⟨⟨(some 104), .op (.fieldAddr 1 (.tmp 5)), none⟩, .pure⟩,
       ⟨⟨(some 105), .op (.load none (.tmp 104)), none⟩, .read []⟩,
       ⟨⟨(some 106), .call (.fnv 65) [(.tmp 103), (.tmp 105), (.val (.int .i64 0))], none⟩, .act false⟩,
       ⟨⟨(some 107), .op (.fieldAddr 2 (.tmp 5)), none⟩, .pure⟩,
       ⟨⟨(some 108), .op (.load none (.tmp 107)), none⟩, .read [4]⟩,
       ⟨⟨(some 109), .call (.fnv 65) [(.tmp 106), (.tmp 108), (.val (.int .i64 1))], none⟩, .act true⟩,
       ⟨⟨(some 110), .call (.fnv 64) [(.tmp 102), (.tmp 109)], none⟩, .act true⟩,
       ⟨⟨(some 6), .op (.mov (.tmp 110)), none⟩, .pure⟩])
     (.ret))
    (.seq (.region [⟨(some 112), .op (.fieldAddr 0 (.tmp 5)), none⟩,
      ⟨(some 113), .op (.load none (.tmp 112)), none⟩,
      ⟨(some 114), .op (.bin .eql (.tmp 113) (.val (.int .i64 40))), none⟩,
      ⟨(some 111), .op (.mov (.tmp 114)), none⟩])
    (.cond (.tmp 111) (.seq (.draw [⟨⟨(some 115), .op (.load (some 4) (.tmp 4)), none⟩, .read [7, 8]⟩,
       ⟨⟨(some 116), .op (.load (some 2) (.tmp 8)), none⟩, .read []⟩,
       ⟨⟨(some 117), .op (.fieldAddr 1 (.tmp 5)), none⟩, .pure⟩,
       ⟨⟨(some 118), .op (.load none (.tmp 117)), none⟩, .read []⟩,
       ⟨⟨(some 119), .call (.fnv 65) [(.tmp 116), (.tmp 118), (.val (.int .i64 0))], none⟩, .act false⟩,
       ⟨⟨(some 120), .op (.fieldAddr 2 (.tmp 5)), none⟩, .pure⟩,
       ⟨⟨(some 121), .op (.load none (.tmp 120)), none⟩, .read [4]⟩,
       ⟨⟨(some 122), .call (.fnv 65) [(.tmp 119), (.tmp 121), (.val (.int .i64 0))], none⟩, .act true⟩,
       ⟨⟨(some 123), .call (.fnv 64) [(.tmp 115), (.tmp 122)], none⟩, .act true⟩,
       ⟨⟨(some 6), .op (.mov (.tmp 123)), none⟩, .pure⟩])
     (.ret))
    (.seq (.region [⟨(some 125), .op (.fieldAddr 0 (.tmp 5)), none⟩,
      ⟨(some 126), .op (.load none (.tmp 125)), none⟩,
      ⟨(some 127), .op (.bin .eql (.tmp 126) (.val (.int .i64 39))), none⟩,
      ⟨(some 128), .op (.mov (.tmp 127)), none⟩,
      ⟨(some 129), .op (.fieldAddr 0 (.tmp 5)), (some (128, false))⟩,
      ⟨(some 130), .op (.load none (.tmp 129)), (some (128, false))⟩,
      ⟨(some 131), .op (.bin .eql (.tmp 130) (.val (.int .i64 46))), (some (128, false))⟩,
      ⟨(some 132), .op (.pick (.tmp 128) (.val (.bool true)) (.tmp 131)), none⟩,
      ⟨(some 133), .op (.mov (.tmp 132)), none⟩,
      ⟨(some 134), .op (.fieldAddr 0 (.tmp 5)), (some (133, false))⟩,
      ⟨(some 135), .op (.load none (.tmp 134)), (some (133, false))⟩,
      ⟨(some 136), .op (.bin .eql (.tmp 135) (.val (.int .i64 52))), (some (133, false))⟩,
      ⟨(some 137), .op (.pick (.tmp 133) (.val (.bool true)) (.tmp 136)), none⟩,
      ⟨(some 124), .op (.mov (.tmp 137)), none⟩])
    (.cond (.tmp 124) (.seq (.draw [⟨⟨(some 138), .op (.load (some 4) (.tmp 4)), none⟩, .read [5]⟩,
       ⟨⟨(some 139), .op (.load (some 2) (.tmp 8)), none⟩, .read []⟩,
       ⟨⟨(some 140), .op (.fieldAddr 1 (.tmp 5)), none⟩, .pure⟩,
       ⟨⟨(some 141), .op (.load none (.tmp 140)), none⟩, .read []⟩,
       ⟨⟨(some 142), .call (.fnv 65) [(.tmp 139), (.tmp 141), (.val (.int .i64 0))], none⟩, .act true⟩,
       ⟨⟨(some 143), .call (.fnv 64) [(.tmp 138), (.tmp 142)], none⟩, .act true⟩,
       ⟨⟨(some 6), .op (.mov (.tmp 143)), none⟩, .pure⟩])
     (.ret))
    (.seq (.region [⟨(some 145), .op (.fieldAddr 0 (.tmp 5)), none⟩,
      ⟨(some 146), .op (.load none (.tmp 145)), none⟩,
      ⟨(some 147), .op (.bin .eql (.tmp 146) (.val (.int .i64 49))), none⟩,
      ⟨(some 148), .op (.mov (.tmp 147)), none⟩,
      ⟨(some 149), .op (.fieldAddr 0 (.tmp 5)), (some (148, false))⟩,
      ⟨(some 150), .op (.load none (.tmp 149)), (some (148, false))⟩,
      ⟨(some 151), .op (.bin .eql (.tmp 150) (.val (.int .i64 51))), (some (148, false))⟩,
      ⟨(some 152), .op (.pick (.tmp 148) (.val (.bool true)) (.tmp 151)), none⟩,
      ⟨(some 144), .op (.mov (.tmp 152)), none⟩])
    (.cond (.tmp 144) (.seq (.draw [⟨⟨(some 153), .op (.load (some 4) (.tmp 4)), none⟩, .read [7, 8]⟩,
       ⟨⟨(some 154), .op (.load (some 2) (.tmp 8)), none⟩, .read []⟩,
       ⟨⟨(some 155), .op (.fieldAddr 1 (.tmp 5)), none⟩, .pure⟩,
       ⟨⟨(some 156), .op (.load none (.tmp 155)), none⟩, .read []⟩,
       ⟨⟨(some 157), .call (.fnv 65) [(.tmp 154), (.tmp 156), (.val (.int .i64 2))], none⟩, .act false⟩,
       ⟨⟨(some 158), .op (.fieldAddr 2 (.tmp 5)), none⟩, .pure⟩,
       ⟨⟨(some 159), .op (.load none (.tmp 158)), none⟩, .read [4]⟩,
       ⟨⟨(some 160), .call (.fnv 65) [(.tmp 157), (.tmp 159), (.val (.int .i64 0))], none⟩, .act true⟩,
       ⟨⟨(some 161), .call (.fnv 64) [(.tmp 153), (.tmp 160)], none⟩, .act true⟩,
       ⟨⟨(some 6), .op (.mov (.tmp 161)), none⟩, .pure⟩])
     (.ret))
    (.seq (.region [⟨(some 163), .op (.fieldAddr 0 (.tmp 5)), none⟩,
      ⟨(some 164), .op (.load none (.tmp 163)), none⟩,
      ⟨(some 165), .op (.bin .eql (.tmp 164) (.val (.int .i64 50))), none⟩,
      ⟨(some 162), .op (.mov (.tmp 165)), none⟩])
    (.cond (.tmp 162) (.seq (.draw [⟨⟨(some 166), .op (.load (some 4) (.tmp 4)), none⟩, .read [7, 8]⟩,
       ⟨⟨(some 167), .op (.load (some 2) (.tmp 8)), none⟩, .read []⟩,
       ⟨⟨(some 168), .op (.fieldAddr 1 (.tmp 5)), none⟩, .pure⟩,
       ⟨⟨(some 169), .op (.load none (.tmp 168)), none⟩, .read []⟩,
       ⟨⟨(some 170), .call (.fnv 65) [(.tmp 167), (.tmp 169), (.val (.int .i64 0))], none⟩, .act false⟩,
       ⟨⟨(some 171), .op (.fieldAddr 2 (.tmp 5)), none⟩, .pure⟩,
       ⟨⟨(some 172), .op (.load none (.tmp 171)), none⟩, .read [4]⟩,
       ⟨⟨(some 173), .call (.fnv 65) [(.tmp 170), (.tmp 172), (.val (.int .i64 2))], none⟩, .act true⟩,
       ⟨⟨(some 174), .call (.fnv 64) [(.tmp 166), (.tmp 173)], none⟩, .act true⟩,
       ⟨⟨(some 6), .op (.mov (.tmp 174)), none⟩, .pure⟩])
     (.ret))
    (.seq (.region [⟨(some 176), .op (.fieldAddr 0 (.tmp 5)), none⟩,
      ⟨(some 177), .op (.load none (.tmp 176)), none⟩,
      ⟨(some 178), .op (.bin .eql (.tmp 177) (.val (.int .i64 47))), none⟩,
      ⟨(some 175), .op (.mov (.tmp 178)), none⟩])
    (.cond (.tmp 175) (.seq (.region [⟨(some 6), .op (.mov (.val (.int .i64 0))), none⟩])
     (.ret))
    (.skip))))))))))))))))))))))
  (.seq (.region [⟨(some 179), .op (.load (some 3) (.tmp 3)), none⟩,
    ⟨(some 180), .op (.load (some 4) (.tmp 4)), none⟩,
    ⟨(some 181), .op (.load (some 6) (.tmp 5)), none⟩,
    ⟨(some 182), .call (.fnv 66) [(.tmp 179), (.tmp 180), (.tmp 181)], none⟩,
    ⟨(some 6), .op (.mov (.tmp 182)), none⟩])
  (.ret))))))),
  [.tmp 6], none, none⟩
def A38 : AFun := ⟨.seq (.seq (.region [⟨(some 6), .op (.mov (.tmp 1)), none⟩,
     ⟨(some 7), .op (.mov (.tmp 2)), none⟩,
     ⟨(some 8), .op (.bin .gtr (.tmp 6) (.tmp 7)), none⟩,
     ⟨(some 9), .op (.mov (.tmp 8)), none⟩,
     ⟨(some 10), .op (.mov (.tmp 0)), (some (9, true))⟩,
     ⟨(some 11), .op (.nilCheck (.tmp 10)), (some (9, true))⟩,
     ⟨(some 12), .op (.fieldAddr 1 (.tmp 11)), (some (9, true))⟩,
     ⟨(some 13), .op (.load none (.tmp 12)), (some (9, true))⟩,
     ⟨(some 14), .op (.bin .eql (.tmp 13) (.val (.int .i64 0))), (some (9, true))⟩,
     ⟨(some 15), .op (.pick (.tmp 9) (.tmp 14) (.val (.bool false))), none⟩])
   (.cond (.tmp 15) (.region [⟨(some 16), .op (.mov (.tmp 0)), none⟩,
     ⟨(some 17), .op (.nilCheck (.tmp 16)), none⟩,
     ⟨(some 18), .op (.fieldAddr 1 (.tmp 17)), none⟩,
     ⟨none, .op (.store 1 (.tmp 18) (.val (.int .i64 16))), none⟩])
   (.skip)))
  (.region [⟨(some 19), .op (.mov (.tmp 0)), none⟩,
   ⟨(some 20), .op (.mov (.tmp 1)), none⟩,
   ⟨(some 21), .call (.fnv 39) [(.tmp 19), (.tmp 20)], none⟩]),
  [], none, none⟩
def A39 : AFun := ⟨.seq (.seq (.region [⟨(some 4), .op (.mov (.tmp 1)), none⟩,
     ⟨(some 5), .op (.bin .lss (.tmp 4) (.val (.int .i64 0))), none⟩,
     ⟨(some 6), .op (.mov (.tmp 5)), none⟩,
     ⟨(some 7), .op (.mov (.tmp 1)), (some (6, false))⟩,
     ⟨(some 8), .op (.bin .gtr (.tmp 7) (.val (.int .i64 65535))), (some (6, false))⟩,
     ⟨(some 9), .op (.pick (.tmp 6) (.val (.bool true)) (.tmp 8)), none⟩,
     ⟨(some 10), .op (.mov (.tmp 9)), none⟩,
     ⟨(some 11), .op (.mov (.tmp 0)), (some (10, true))⟩,
     ⟨(some 12), .op (.nilCheck (.tmp 11)), (some (10, true))⟩,
     ⟨(some 13), .op (.fieldAddr 1 (.tmp 12)), (some (10, true))⟩,
     ⟨(some 14), .op (.load none (.tmp 13)), (some (10, true))⟩,
     ⟨(some 15), .op (.bin .eql (.tmp 14) (.val (.int .i64 0))), (some (10, true))⟩,
     ⟨(some 16), .op (.pick (.tmp 10) (.tmp 15) (.val (.bool false))), none⟩])
   (.cond (.tmp 16) (.region [⟨(some 17), .op (.mov (.tmp 0)), none⟩,
     ⟨(some 18), .op (.nilCheck (.tmp 17)), none⟩,
     ⟨(some 19), .op (.fieldAddr 1 (.tmp 18)), none⟩,
     ⟨none, .op (.store 1 (.tmp 19) (.val (.int .i64 1))), none⟩])
   (.skip)))
  (.seq (.region [⟨(some 20), .op (.mov (.tmp 1)), none⟩,
    ⟨(some 21), .op (.bin .geq (.tmp 20) (.val (.int .i64 0))), none⟩])
  (.cond (.tmp 21) (.draw [⟨⟨(some 22), .op (.mov (.tmp 0)), none⟩, .pure⟩,
    ⟨⟨(some 23), .op (.mov (.tmp 0)), none⟩, .pure⟩,
    ⟨⟨(some 24), .op (.nilCheck (.tmp 23)), none⟩, .pure⟩,
    ⟨⟨(some 25), .op (.fieldAddr 0 (.tmp 24)), none⟩, .pure⟩,
    ⟨⟨(some 26), .op (.load none (.tmp 25)), none⟩, .read [8]⟩,
    ⟨⟨(some 27), .op (.mov (.tmp 1)), none⟩, .pure⟩,
    ⟨⟨(some 28), .op (.conv .u64 (.tmp 27)), none⟩, .pure⟩,
    ⟨⟨(some 29), .call (.fnv 67) [(.tmp 28)], none⟩, .act true⟩,
    ⟨⟨(some 30), .op (.append 1 1 (.tmp 26) (.tmp 29)), none⟩, .act true⟩,
    ⟨⟨(some 31), .op (.nilCheck (.tmp 22)), none⟩, .pure⟩,
    ⟨⟨(some 32), .op (.fieldAddr 0 (.tmp 31)), none⟩, .pure⟩,
    ⟨⟨none, .op (.store 1 (.tmp 32) (.tmp 30)), none⟩, .act true⟩])
  (.skip))),
  [], none, none⟩
def A40 : AFun := ⟨.seq (.region [⟨(some 7), .op (.mov (.tmp 0)), none⟩,
    ⟨(some 8), .op (.mov (.tmp 1)), none⟩,
    ⟨(some 9), .op (.lenS (.tmp 8)), none⟩,
    ⟨(some 10), .op (.mov (.tmp 2)), none⟩,
    ⟨(some 11), .call (.fnv 38) [(.tmp 7), (.tmp 9), (.tmp 10)], none⟩])
  (.seq (.region [⟨(some 6), .op (.mov (.val (.int .i64 0))), none⟩])
  (.block 0 (.loop (.seq (.seq (.region [⟨(some 12), .op (.mov (.tmp 6)), none⟩,
       ⟨(some 13), .op (.mov (.tmp 1)), none⟩,
       ⟨(some 14), .op (.lenS (.tmp 13)), none⟩,
       ⟨(some 15), .op (.bin .lss (.tmp 12) (.tmp 14)), none⟩])
     (.cond (.tmp 15) (.skip)
     (.exit 0)))
    (.seq (.block 1 (.region [⟨(some 18), .op (.mov (.tmp 0)), none⟩,
       ⟨(some 19), .op (.mov (.tmp 1)), none⟩,
       ⟨(some 20), .op (.mov (.tmp 6)), none⟩,
       ⟨(some 21), .op (.idxS 1 (.tmp 19) (.tmp 20)), none⟩,
       ⟨(some 22), .op (.load none (.tmp 21)), none⟩,
       ⟨(some 23), .call (.fnv 39) [(.tmp 18), (.tmp 22)], none⟩]))
    (.region [⟨(some 16), .op (.mov (.tmp 6)), none⟩,
     ⟨(some 17), .op (.bin .add (.tmp 16) (.val (.int .i64 1))), none⟩,
     ⟨(some 6), .op (.mov (.tmp 17)), none⟩])))))),
  [], none, none⟩
def A41 : AFun := ⟨.seq (.region [⟨(some 3), .op (.box (.tmp 1)), none⟩])
  (.seq (.region [⟨(some 5), .op (.mov (.tmp 0)), none⟩,
    ⟨(some 6), .op (.fieldAddr 0 (.tmp 3)), none⟩,
    ⟨(some 7), .op (.load none (.tmp 6)), none⟩,
    ⟨(some 8), .call (.fnv 39) [(.tmp 5), (.tmp 7)], none⟩])
  (.seq (.region [⟨(some 9), .op (.mov (.tmp 0)), none⟩,
    ⟨(some 10), .op (.fieldAddr 1 (.tmp 3)), none⟩,
    ⟨(some 11), .op (.load none (.tmp 10)), none⟩,
    ⟨(some 12), .call (.fnv 39) [(.tmp 9), (.tmp 11)], none⟩])
  (.seq (.region [⟨(some 13), .op (.mov (.tmp 0)), none⟩,
    ⟨(some 14), .op (.fieldAddr 2 (.tmp 3)), none⟩,
    ⟨(some 15), .op (.load none (.tmp 14)), none⟩,
    ⟨(some 16), .call (.fnv 39) [(.tmp 13), (.tmp 15)], none⟩])
  (.seq (.region [⟨(some 17), .op (.mov (.tmp 0)), none⟩,
    ⟨(some 18), .op (.fieldAddr 3 (.tmp 3)), none⟩,
    ⟨(some 19), .op (.load none (.tmp 18)), none⟩,
    ⟨(some 20), .call (.fnv 39) [(.tmp 17), (.tmp 19)], none⟩])
  (.seq (.draw [⟨⟨(some 21), .op (.mov (.tmp 0)), none⟩, .pure⟩,
    ⟨⟨(some 22), .op (.mov (.tmp 0)), none⟩, .pure⟩,
    ⟨⟨(some 23), .op (.nilCheck (.tmp 22)), none⟩, .pure⟩,
    ⟨⟨(some 24), .op (.fieldAddr 0 (.tmp 23)), none⟩, .pure⟩,
    ⟨⟨(some 25), .op (.load none (.tmp 24)), none⟩, .read [8]⟩,
    ⟨⟨(some 26), .op (.fieldAddr 4 (.tmp 3)), none⟩, .pure⟩,
    ⟨⟨(some 27), .op (.load none (.tmp 26)), none⟩, .read []⟩,
    ⟨⟨(some 28), .call (.fnv 67) [(.tmp 27)], none⟩, .act true⟩,
    ⟨⟨(some 29), .op (.append 1 1 (.tmp 25) (.tmp 28)), none⟩, .act true⟩,
    ⟨⟨(some 30), .op (.nilCheck (.tmp 21)), none⟩, .pure⟩,
    ⟨⟨(some 31), .op (.fieldAddr 0 (.tmp 30)), none⟩, .pure⟩,
    ⟨⟨none, .op (.store 1 (.tmp 31) (.tmp 29)), none⟩, .act true⟩])
  (.seq (.region [⟨(some 32), .op (.mov (.tmp 0)), none⟩,
    ⟨(some 33), .op (.fieldAddr 5 (.tmp 3)), none⟩,
    ⟨(some 34), .op (.load none (.tmp 33)), none⟩,
    ⟨(some 35), .op (.lenS (.tmp 34)), none⟩,
    ⟨(some 36), .call (.fnv 38) [(.tmp 32), (.tmp 35), (.val (.int .i64 24))], none⟩])
  (.seq (.region [⟨(some 4), .op (.mov (.val (.int .i64 0))), none⟩])
  (.block 0 (.loop (.seq (.seq (.region [⟨(some 37), .op (.mov (.tmp 4)), none⟩,
       ⟨(some 38), .op (.fieldAddr 5 (.tmp 3)), none⟩,
       ⟨(some 39), .op (.load none (.tmp 38)), none⟩,
       ⟨(some 40), .op (.lenS (.tmp 39)), none⟩,
       ⟨(some 41), .op (.bin .lss (.tmp 37) (.tmp 40)), none⟩])
     (.cond (.tmp 41) (.skip)
     (.exit 0)))
    (.seq (.block 1 (.region [⟨(some 44), .op (.mov (.tmp 0)), none⟩,
       ⟨(some 45), .op (.fieldAddr 5 (.tmp 3)), none⟩,
       ⟨(some 46), .op (.load none (.tmp 45)), none⟩,
       ⟨(some 47), .op (.mov (.tmp 4)), none⟩,
       ⟨(some 48), .op (.idxS 1 (.tmp 46) (.tmp 47)), none⟩,
       ⟨(some 49), .op (.load none (.tmp 48)), none⟩,
       ⟨(some 50), .call (.fnv 39) [(.tmp 44), (.tmp 49)], none⟩]))
    (.region [⟨(some 42), .op (.mov (.tmp 4)), none⟩,
     ⟨(some 43), .op (.bin .add (.tmp 42) (.val (.int .i64 1))), none⟩,
     ⟨(some 4), .op (.mov (.tmp 43)), none⟩])))))))))))),
  [], none, none⟩
def A50 : AFun := ⟨.seq (.region [⟨(some 4), .op (.mov (.val (.bool false))), none⟩])
  (.seq (.block 0 (.seq (.region [⟨(some 7), .op (.mov (.tmp 1)), none⟩,
      ⟨(some 8), .op (.bin .eql (.tmp 7) (.val (.int .i64 0))), none⟩,
      ⟨(some 9), .op (.mov (.tmp 8)), none⟩,
      ⟨(some 10), .op (.mov (.tmp 1)), (some (9, false))⟩,
      ⟨(some 11), .op (.bin .eql (.tmp 10) (.val (.int .i64 1))), (some (9, false))⟩,
      ⟨(some 12), .op (.pick (.tmp 9) (.val (.bool true)) (.tmp 11)), none⟩,
      ⟨(some 6), .op (.mov (.tmp 12)), none⟩])
    (.cond (.tmp 6) (.seq (.region [⟨(some 4), .op (.mov (.val (.bool true))), none⟩])
     (.ret))
    (.seq (.region [⟨(some 14), .op (.mov (.tmp 1)), none⟩,
      ⟨(some 15), .op (.bin .geq (.tmp 14) (.val (.int .i64 16))), none⟩,
      ⟨(some 16), .op (.mov (.tmp 15)), none⟩,
      ⟨(some 17), .op (.mov (.tmp 1)), (some (16, true))⟩,
      ⟨(some 18), .op (.bin .lss (.tmp 17) (.val (.int .i64 64))), (some (16, true))⟩,
      ⟨(some 19), .op (.pick (.tmp 16) (.tmp 18) (.val (.bool false))), none⟩,
      ⟨(some 13), .op (.mov (.tmp 19)), none⟩])
    (.cond (.tmp 13) (.seq (.region [⟨(some 20), .op (.mov (.tmp 1)), none⟩,
       ⟨(some 21), .op (.bin .sub (.tmp 20) (.val (.int .i64 16))), none⟩,
       ⟨(some 22), .op (.mov (.tmp 0)), none⟩,
       ⟨(some 23), .op (.nilCheck (.tmp 22)), none⟩,
       ⟨(some 24), .op (.fieldAddr 0 (.tmp 23)), none⟩,
       ⟨(some 25), .op (.fieldAddr 0 (.tmp 24)), none⟩,
       ⟨(some 26), .op (.load none (.tmp 25)), none⟩,
       ⟨(some 27), .op (.lenS (.tmp 26)), none⟩,
       ⟨(some 28), .op (.bin .lss (.tmp 21) (.tmp 27)), none⟩,
       ⟨(some 4), .op (.mov (.tmp 28)), none⟩])
     (.ret))
    (.seq (.region [⟨(some 30), .op (.mov (.tmp 1)), none⟩,
      ⟨(some 31), .op (.bin .geq (.tmp 30) (.val (.int .i64 64))), none⟩,
      ⟨(some 29), .op (.mov (.tmp 31)), none⟩])
    (.cond (.tmp 29) (.seq (.region [⟨(some 32), .op (.mov (.tmp 1)), none⟩,
       ⟨(some 33), .op (.bin .sub (.tmp 32) (.val (.int .i64 64))), none⟩,
       ⟨(some 5), .op (.mov (.tmp 33)), none⟩])
     (.seq (.region [⟨(some 34), .op (.mov (.tmp 5)), none⟩,
       ⟨(some 35), .op (.bin .lss (.tmp 34) (.val (.int .i64 64))), none⟩,
       ⟨(some 36), .op (.mov (.tmp 35)), none⟩,
       ⟨(some 37), .op (.mov (.tmp 0)), (some (36, true))⟩,
       ⟨(some 38), .op (.mov (.tmp 5)), (some (36, true))⟩,
       ⟨(some 39), .call (.fnv 50) [(.tmp 37), (.tmp 38)], (some (36, true))⟩,
       ⟨(some 40), .op (.pick (.tmp 36) (.tmp 39) (.val (.bool false))), none⟩,
       ⟨(some 4), .op (.mov (.tmp 40)), none⟩])
     (.ret)))
    (.skip))))))))
  (.seq (.region [⟨(some 4), .op (.mov (.val (.bool false))), none⟩])
  (.ret))),
  [.tmp 4], none, none⟩
def A51 : AFun := ⟨.seq (.region [⟨(some 8), .op (.mov (.val (.int .i64 0))), none⟩])
  (.seq (.region [⟨(some 10), .op (.mov (.tmp 0)), none⟩,
    ⟨(some 11), .op (.nilCheck (.tmp 10)), none⟩,
    ⟨(some 12), .op (.fieldAddr 8 (.tmp 11)), none⟩,
    ⟨(some 13), .op (.load (some 6) (.tmp 12)), none⟩,
    ⟨(some 9), .op (.alloc [(.int .i64 0), (.int .i64 0), (.int .i64 0), (.int .i64 0), (.int .u64 0), .nils]), none⟩,
    ⟨none, .op (.store 6 (.tmp 9) (.tmp 13)), none⟩])
  (.seq (.seq (.region [⟨(some 14), .op (.mov (.tmp 1)), none⟩,
     ⟨(some 15), .op (.bin .lss (.tmp 14) (.val (.int .i64 1))), none⟩,
     ⟨(some 16), .op (.mov (.tmp 15)), none⟩,
     ⟨(some 17), .op (.fieldAddr 1 (.tmp 9)), (some (16, true))⟩,
     ⟨(some 18), .op (.load none (.tmp 17)), (some (16, true))⟩,
     ⟨(some 19), .op (.bin .neq (.tmp 18) (.val (.int .i64 0))), (some (16, true))⟩,
     ⟨(some 20), .op (.pick (.tmp 16) (.tmp 19) (.val (.bool false))), none⟩,
     ⟨(some 21), .op (.mov (.tmp 20)), none⟩,
     ⟨(some 22), .op (.mov (.tmp 1)), (some (21, false))⟩,
     ⟨(some 23), .op (.bin .lss (.tmp 22) (.val (.int .i64 2))), (some (21, false))⟩,
     ⟨(some 24), .op (.mov (.tmp 23)), (some (21, false))⟩,
     ⟨(some 25), .op (.fieldAddr 2 (.tmp 9)), (some (24, true))⟩,
     ⟨(some 26), .op (.load none (.tmp 25)), (some (24, true))⟩,
     ⟨(some 27), .op (.bin .neq (.tmp 26) (.val (.int .i64 0))), (some (24, true))⟩,
     ⟨(some 28), .op (.pick (.tmp 24) (.tmp 27) (.val (.bool false))), (some (21, false))⟩,
     ⟨(some 29), .op (.pick (.tmp 21) (.val (.bool true)) (.tmp 28)), none⟩,
     ⟨(some 30), .op (.mov (.tmp 29)), none⟩,
     ⟨(some 31), .op (.mov (.tmp 1)), (some (30, false))⟩,
     ⟨(some 32), .op (.bin .lss (.tmp 31) (.val (.int .i64 3))), (some (30, false))⟩,
     ⟨(some 33), .op (.mov (.tmp 32)), (some (30, false))⟩,
     ⟨(some 34), .op (.fieldAddr 3 (.tmp 9)), (some (33, true))⟩,
     ⟨(some 35), .op (.load none (.tmp 34)), (some (33, true))⟩,
     ⟨(some 36), .op (.bin .neq (.tmp 35) (.val (.int .i64 0))), (some (33, true))⟩,
     ⟨(some 37), .op (.pick (.tmp 33) (.tmp 36) (.val (.bool false))), (some (30, false))⟩,
     ⟨(some 38), .op (.pick (.tmp 30) (.val (.bool true)) (.tmp 37)), none⟩,
     ⟨(some 39), .op (.mov (.tmp 38)), none⟩,
     ⟨(some 40), .op (.mov (.tmp 2)), (some (39, false))⟩,
     ⟨(some 41), .op (.un .not (.tmp 40)), (some (39, false))⟩,
     ⟨(some 42), .op (.mov (.tmp 41)), (some (39, false))⟩,
     ⟨(some 43), .op (.fieldAddr 4 (.tmp 9)), (some (42, true))⟩,
     ⟨(some 44), .op (.load none (.tmp 43)), (some (42, true))⟩,
     ⟨(some 45), .op (.bin .neq (.tmp 44) (.val (.int .u64 0))), (some (42, true))⟩,
     ⟨(some 46), .op (.pick (.tmp 42) (.tmp 45) (.val (.bool false))), (some (39, false))⟩,
     ⟨(some 47), .op (.pick (.tmp 39) (.val (.bool true)) (.tmp 46)), none⟩,
     ⟨(some 48), .op (.mov (.tmp 47)), none⟩,
     ⟨(some 49), .op (.mov (.tmp 3)), (some (48, false))⟩,
     ⟨(some 50), .op (.un .not (.tmp 49)), (some (48, false))⟩,
     ⟨(some 51), .op (.mov (.tmp 50)), (some (48, false))⟩,
     ⟨(some 52), .op (.fieldAddr 5 (.tmp 9)), (some (51, true))⟩,
     ⟨(some 53), .op (.load none (.tmp 52)), (some (51, true))⟩,
     ⟨(some 54), .op (.lenS (.tmp 53)), (some (51, true))⟩,
     ⟨(some 55), .op (.bin .neq (.tmp 54) (.val (.int .i64 0))), (some (51, true))⟩,
     ⟨(some 56), .op (.pick (.tmp 51) (.tmp 55) (.val (.bool false))), (some (48, false))⟩,
     ⟨(some 57), .op (.pick (.tmp 48) (.val (.bool true)) (.tmp 56)), none⟩])
   (.cond (.tmp 57) (.seq (.region [⟨(some 8), .op (.mov (.val (.int .i64 8))), none⟩])
    (.ret))
   (.skip)))
  (.seq (.seq (.region [⟨(some 58), .op (.fieldAddr 5 (.tmp 9)), none⟩,
     ⟨(some 59), .op (.load none (.tmp 58)), none⟩,
     ⟨(some 60), .op (.lenS (.tmp 59)), none⟩,
     ⟨(some 61), .op (.bin .gtr (.tmp 60) (.val (.int .i64 24))), none⟩])
   (.cond (.tmp 61) (.seq (.region [⟨(some 8), .op (.mov (.val (.int .i64 16))), none⟩])
    (.ret))
   (.skip)))
  (.seq (.region [⟨(some 8), .op (.mov (.val (.int .i64 0))), none⟩])
  (.ret))))),
  [.tmp 8], none, none⟩
def A52 : AFun := ⟨.seq (.region [⟨(some 2), .op (.mov (.val (.int .i64 0))), none⟩,
    ⟨(some 3), .op (.mov (.val (.bool false))), none⟩,
    ⟨(some 4), .op (.mov (.val (.bool false))), none⟩])
  (.seq (.seq (.region [⟨(some 5), .op (.mov (.tmp 0)), none⟩])
   (.block 0 (.seq (.seq (.region [⟨(some 7), .op (.bin .eql (.tmp 5) (.val (.int .i64 1))), none⟩,
       ⟨(some 6), .op (.mov (.tmp 7)), none⟩])
     (.cond (.tmp 6) (.skip)
     (.region [⟨(some 8), .op (.bin .eql (.tmp 5) (.val (.int .i64 41))), none⟩,
      ⟨(some 6), .op (.mov (.tmp 8)), none⟩])))
    (.cond (.tmp 6) (.seq (.region [⟨(some 2), .op (.mov (.val (.int .i64 1))), none⟩,
       ⟨(some 3), .op (.mov (.val (.bool true))), none⟩,
       ⟨(some 4), .op (.mov (.val (.bool false))), none⟩])
     (.ret))
    (.seq (.region [⟨(some 10), .op (.bin .eql (.tmp 5) (.val (.int .i64 36))), none⟩,
      ⟨(some 9), .op (.mov (.tmp 10)), none⟩])
    (.cond (.tmp 9) (.seq (.region [⟨(some 2), .op (.mov (.val (.int .i64 0))), none⟩,
       ⟨(some 3), .op (.mov (.val (.bool false))), none⟩,
       ⟨(some 4), .op (.mov (.val (.bool true))), none⟩])
     (.ret))
    (.seq (.seq (.region [⟨(some 12), .op (.bin .eql (.tmp 5) (.val (.int .i64 35))), none⟩,
       ⟨(some 11), .op (.mov (.tmp 12)), none⟩])
     (.cond (.tmp 11) (.skip)
     (.seq (.region [⟨(some 13), .op (.bin .eql (.tmp 5) (.val (.int .i64 37))), none⟩,
       ⟨(some 11), .op (.mov (.tmp 13)), none⟩])
     (.cond (.tmp 11) (.skip)
     (.region [⟨(some 14), .op (.bin .eql (.tmp 5) (.val (.int .i64 38))), none⟩,
      ⟨(some 11), .op (.mov (.tmp 14)), none⟩])))))
    (.cond (.tmp 11) (.seq (.region [⟨(some 2), .op (.mov (.val (.int .i64 1))), none⟩,
       ⟨(some 3), .op (.mov (.val (.bool false))), none⟩,
       ⟨(some 4), .op (.mov (.val (.bool true))), none⟩])
     (.ret))
    (.seq (.region [⟨(some 16), .op (.bin .eql (.tmp 5) (.val (.int .i64 45))), none⟩,
      ⟨(some 15), .op (.mov (.tmp 16)), none⟩])
    (.cond (.tmp 15) (.seq (.region [⟨(some 2), .op (.mov (.val (.int .i64 2))), none⟩,
       ⟨(some 3), .op (.mov (.val (.bool false))), none⟩,
       ⟨(some 4), .op (.mov (.val (.bool true))), none⟩])
     (.ret))
    (.seq (.region [⟨(some 18), .op (.bin .eql (.tmp 5) (.val (.int .i64 47))), none⟩,
      ⟨(some 17), .op (.mov (.tmp 18)), none⟩])
    (.cond (.tmp 17) (.seq (.region [⟨(some 2), .op (.mov (.val (.int .i64 0))), none⟩,
       ⟨(some 3), .op (.mov (.val (.bool false))), none⟩,
       ⟨(some 4), .op (.mov (.val (.bool false))), none⟩])
     (.ret))
    (.seq (.seq (.region [⟨(some 20), .op (.bin .eql (.tmp 5) (.val (.int .i64 24))), none⟩,
       ⟨(some 19), .op (.mov (.tmp 20)), none⟩])
     (.cond (.tmp 19) (.skip)
     (.seq (.region [⟨(some 21), .op (.bin .eql (.tmp 5) (.val (.int .i64 39))), none⟩,
       ⟨(some 19), .op (.mov (.tmp 21)), none⟩])
     (.cond (.tmp 19) (.skip)
     (.seq (.region [⟨(some 22), .op (.bin .eql (.tmp 5) (.val (.int .i64 44))), none⟩,
       ⟨(some 19), .op (.mov (.tmp 22)), none⟩])
     (.cond (.tmp 19) (.skip)
     (.seq (.region [⟨(some 23), .op (.bin .eql (.tmp 5) (.val (.int .i64 46))), none⟩,
       ⟨(some 19), .op (.mov (.tmp 23)), none⟩])
     (.cond (.tmp 19) (.skip)
     (.seq (.region [⟨(some 24), .op (.bin .eql (.tmp 5) (.val (.int .i64 48))), none⟩,
       ⟨(some 19), .op (.mov (.tmp 24)), none⟩])
     (.cond (.tmp 19) (.skip)
     (.region [⟨(some 25), .op (.bin .eql (.tmp 5) (.val (.int .i64 52))), none⟩,
      ⟨(some 19), .op (.mov (.tmp 25)), none⟩])))))))))))
    (.cond (.tmp 19) (.seq (.region [⟨(some 2), .op (.mov (.val (.int .i64 1))), none⟩,
       ⟨(some 3), .op (.mov (.val (.bool false))), none⟩,
       ⟨(some 4), .op (.mov (.val (.bool false))), none⟩])
     (.ret))
    (.seq (.seq (.region [⟨(some 27), .op (.bin .eql (.tmp 5) (.val (.int .i64 2))), none⟩,
       ⟨(some 26), .op (.mov (.tmp 27)), none⟩])
     (.cond (.tmp 26) (.skip)
     (.seq (.region [⟨(some 28), .op (.bin .eql (.tmp 5) (.val (.int .i64 21))), none⟩,
       ⟨(some 26), .op (.mov (.tmp 28)), none⟩])
     (.cond (.tmp 26) (.skip)
     (.seq (.region [⟨(some 29), .op (.bin .eql (.tmp 5) (.val (.int .i64 22))), none⟩,
       ⟨(some 26), .op (.mov (.tmp 29)), none⟩])
     (.cond (.tmp 26) (.skip)
     (.seq (.region [⟨(some 30), .op (.bin .eql (.tmp 5) (.val (.int .i64 25))), none⟩,
       ⟨(some 26), .op (.mov (.tmp 30)), none⟩])
     (.cond (.tmp 26) (.skip)
     (.seq (.region [⟨(some 31), .op (.bin .eql (.tmp 5) (.val (.int .i64 26))), none⟩,
       ⟨(some 26), .op (.mov (.tmp 31)), none⟩])
     (.cond (.tmp 26) (.skip)
     (.seq (.region [⟨(some 32), .op (.bin .eql (.tmp 5) (.val (.int .i64 28))), none⟩,
       ⟨(some 26), .op (.mov (.tmp 32)), none⟩])
     (.cond (.tmp 26) (.skip)
     (.seq (.region [⟨(some 33), .op (.bin .eql (.tmp 5) (.val (.int .i64 33))), none⟩,
       ⟨(some 26), .op (.mov (.tmp 33)), none⟩])
     (.cond (.tmp 26) (.skip)
     (.seq (.region [⟨(some 34), .op (.bin .eql (.tmp 5) (.val (.int .i64 34))), none⟩,
       ⟨(some 26), .op (.mov (.tmp 34)), none⟩])
     (.cond (.tmp 26) (.skip)
     (.seq (.region [⟨(some 35), .op (.bin .eql (.tmp 5) (.val (.int .i64 40))), none⟩,
       ⟨(some 26), .op (.mov (.tmp 35)), none⟩])
     (.cond (.tmp 26) (.skip)
     (.seq (.region [⟨(some 36), .op (.bin .eql (.tmp 5) (.val (.int .i64 42))), none⟩,
       ⟨(some 26), .op (.mov (.tmp 36)), none⟩])
     (.cond (.tmp 26) (.skip)
     (.seq (.region [⟨(some 37), .op (.bin .eql (.tmp 5) (.val (.int .i64 49))), none⟩,
       ⟨(some 26), .op (.mov (.tmp 37)), none⟩])
     (.cond (.tmp 26) (.skip)
     (.seq (.region [⟨(some 38), .op (.bin .eql (.tmp 5) (.val (.int .i64 50))), none⟩,
       ⟨(some 26), .op (.mov (.tmp 38)), none⟩])
     (.cond (.tmp 26) (.skip)
     (.region [⟨(some 39), .op (.bin .eql (.tmp 5) (.val (.int .i64 51))), none⟩,
      ⟨(some 26), .op (.mov (.tmp 39)), none⟩])))))))))))))))))))))))))
    (.cond (.tmp 26) (.seq (.region [⟨(some 2), .op (.mov (.val (.int .i64 2))), none⟩,
       ⟨(some 3), .op (.mov (.val (.bool false))), none⟩,
       ⟨(some 4), .op (.mov (.val (.bool false))), none⟩])
     (.ret))
    (.skip)))))))))))))))))
  (.seq (.region [⟨(some 2), .op (.mov (.val (.int .i64 3))), none⟩,
    ⟨(some 3), .op (.mov (.val (.bool false))), none⟩,
    ⟨(some 4), .op (.mov (.val (.bool false))), none⟩])
  (.ret))),
  [.tmp 2, .tmp 3, .tmp 4], none, none⟩
def A53 : AFun := ⟨.seq (.region [⟨(some 6), .op (.mov (.val (.int .i64 0))), none⟩])
  (.seq (.region [⟨(some 7), .op (.mov (.val (.int .i64 (-1)))), none⟩])
  (.seq (.seq (.region [⟨(some 16), .op (.mov (.tmp 2)), none⟩,
     ⟨(some 17), .op (.lenS (.tmp 16)), none⟩,
     ⟨(some 18), .op (.mov (.val (.int .i64 0))), none⟩])
   (.block 0 (.loop (.seq (.region [⟨(some 19), .op (.bin .lss (.tmp 18) (.tmp 17)), none⟩])
     (.seq (.cond (.tmp 19) (.skip)
      (.exit 0))
     (.seq (.block 1 (.seq (.region [⟨(some 20), .op (.idxS 1 (.tmp 16) (.tmp 18)), none⟩,
         ⟨(some 21), .op (.load none (.tmp 20)), none⟩,
         ⟨(some 9), .op (.mov (.tmp 21)), none⟩])
       (.seq (.region [⟨(some 23), .op (.mov (.tmp 0)), none⟩,
         ⟨(some 24), .op (.mov (.tmp 9)), none⟩,
         ⟨(some 25), .call (.fnv 81) [(.tmp 23), (.tmp 24)], none⟩,
         ⟨(some 22), .op (.mov (.tmp 25)), none⟩,
         ⟨(some 26), .op (.extract (.tmp 22) 0), none⟩,
         ⟨(some 27), .op (.extract (.tmp 22) 1), none⟩,
         ⟨(some 10), .op (.mov (.tmp 26)), none⟩,
         ⟨(some 11), .op (.mov (.tmp 27)), none⟩])
       (.seq (.region [⟨(some 28), .op (.mov (.tmp 11)), none⟩,
         ⟨(some 29), .op (.un .not (.tmp 28)), none⟩])
       (.cond (.tmp 29) (.seq (.region [⟨(some 6), .op (.mov (.val (.int .i64 11))), none⟩])
        (.ret))
       (.skip))))))
     (.region [⟨(some 30), .op (.bin .add (.tmp 18) (.val (.int .i64 1))), none⟩,
      ⟨(some 18), .op (.mov (.tmp 30)), none⟩])))))))
  (.seq (.seq (.region [⟨(some 31), .op (.mov (.tmp 2)), none⟩,
     ⟨(some 32), .op (.lenS (.tmp 31)), none⟩,
     ⟨(some 33), .op (.mov (.val (.int .i64 0))), none⟩])
   (.block 2 (.loop (.seq (.region [⟨(some 34), .op (.bin .lss (.tmp 33) (.tmp 32)), none⟩])
     (.seq (.cond (.tmp 34) (.skip)
      (.exit 2))
     (.seq (.block 3 (.seq (.region [⟨(some 35), .op (.mov (.tmp 33)), none⟩,
         ⟨(some 36), .op (.idxS 1 (.tmp 31) (.tmp 33)), none⟩,
         ⟨(some 37), .op (.load none (.tmp 36)), none⟩,
         ⟨(some 12), .op (.mov (.tmp 35)), none⟩,
         ⟨(some 13), .op (.mov (.tmp 37)), none⟩])
       (.seq (.region [⟨(some 39), .op (.mov (.tmp 0)), none⟩,
         ⟨(some 40), .op (.mov (.tmp 13)), none⟩,
         ⟨(some 41), .call (.fnv 81) [(.tmp 39), (.tmp 40)], none⟩,
         ⟨(some 38), .op (.mov (.tmp 41)), none⟩,
         ⟨(some 42), .op (.extract (.tmp 38) 0), none⟩,
         ⟨(some 43), .op (.extract (.tmp 38) 1), none⟩,
         ⟨(some 14), .op (.mov (.tmp 42)), none⟩,
         ⟨(some 15), .op (.mov (.tmp 43)), none⟩])
       (.seq (.seq (.region [⟨(some 44), .op (.mov (.tmp 12)), none⟩,
          ⟨(some 45), .op (.bin .eql (.tmp 44) (.val (.int .i64 0))), none⟩])
        (.cond (.tmp 45) (.region [⟨(some 46), .op (.mov (.tmp 14)), none⟩,
          ⟨(some 7), .op (.mov (.tmp 46)), none⟩])
        (.skip)))
       (.seq (.region [⟨(some 47), .op (.mov (.tmp 14)), none⟩,
         ⟨(some 48), .op (.mov (.tmp 7)), none⟩,
         ⟨(some 49), .op (.bin .neq (.tmp 47) (.tmp 48)), none⟩,
         ⟨(some 50), .op (.mov (.tmp 49)), none⟩,
         ⟨(some 51), .op (.mov (.tmp 1)), (some (50, false))⟩,
         ⟨(some 52), .op (.mov (.tmp 14)), (some (50, false))⟩,
         ⟨(some 53), .call (.tmp 51) [(.tmp 52)], (some (50, false))⟩,
         ⟨(some 54), .op (.un .not (.tmp 53)), (some (50, false))⟩,
         ⟨(some 55), .op (.pick (.tmp 50) (.val (.bool true)) (.tmp 54)), none⟩])
       (.cond (.tmp 55) (.seq (.region [⟨(some 6), .op (.mov (.val (.int .i64 10))), none⟩])
        (.ret))
       (.skip)))))))
     (.region [⟨(some 56), .op (.bin .add (.tmp 33) (.val (.int .i64 1))), none⟩,
      ⟨(some 33), .op (.mov (.tmp 56)), none⟩])))))))
  (.seq (.region [⟨(some 6), .op (.mov (.val (.int .i64 0))), none⟩])
  (.ret))))),
  [.tmp 6], none, none⟩
def A54 : AFun := ⟨.seq (.region [⟨(some 2), .op (.mov (.val (.bool false))), none⟩])
  (.seq (.region [⟨(some 3), .op (.mov (.tmp 0)), none⟩,
    ⟨(some 4), .op (.bin .eql (.tmp 3) (.val (.int .i64 0))), none⟩,
    ⟨(some 5), .op (.mov (.tmp 4)), none⟩,
    ⟨(some 6), .op (.mov (.tmp 0)), (some (5, false))⟩,
    ⟨(some 7), .op (.bin .eql (.tmp 6) (.val (.int .i64 1))), (some (5, false))⟩,
    ⟨(some 8), .op (.pick (.tmp 5) (.val (.bool true)) (.tmp 7)), none⟩,
    ⟨(some 2), .op (.mov (.tmp 8)), none⟩])
  (.ret)),
  [.tmp 2], none, none⟩
def A55 : AFun := ⟨.seq (.region [⟨(some 2), .op (.mov (.val (.bool false))), none⟩])
  (.seq (.region [⟨(some 2), .op (.mov (.val (.bool true))), none⟩])
  (.ret)),
  [.tmp 2], none, none⟩
def A56 : AFun := ⟨.seq (.region [⟨(some 4), .op (.mov (.val (.int .i64 0))), none⟩])
  (.seq (.seq (.region [⟨(some 5), .op (.mov (.val (.int .i64 0))), none⟩])
   (.block 0 (.loop (.seq (.seq (.region [⟨(some 11), .op (.mov (.tmp 5)), none⟩,
        ⟨(some 12), .op (.mov (.tmp 1)), none⟩,
        ⟨(some 13), .op (.lenS (.tmp 12)), none⟩,
        ⟨(some 14), .op (.bin .lss (.tmp 11) (.tmp 13)), none⟩])
      (.cond (.tmp 14) (.skip)
      (.exit 0)))
     (.seq (.block 1 (.seq (.region [⟨(some 18), .op (.mov (.tmp 0)), none⟩,
         ⟨(some 19), .op (.mov (.tmp 1)), none⟩,
         ⟨(some 20), .op (.mov (.tmp 5)), none⟩,
         ⟨(some 21), .op (.idxS 1 (.tmp 19) (.tmp 20)), none⟩,
         ⟨(some 22), .op (.load none (.tmp 21)), none⟩,
         ⟨(some 23), .call (.fnv 81) [(.tmp 18), (.tmp 22)], none⟩,
         ⟨(some 17), .op (.mov (.tmp 23)), none⟩,
         ⟨(some 24), .op (.extract (.tmp 17) 0), none⟩,
         ⟨(some 25), .op (.extract (.tmp 17) 1), none⟩,
         ⟨(some 6), .op (.mov (.tmp 24)), none⟩,
         ⟨(some 7), .op (.mov (.tmp 25)), none⟩])
       (.seq (.region [⟨(some 26), .op (.mov (.tmp 7)), none⟩,
         ⟨(some 27), .op (.un .not (.tmp 26)), none⟩])
       (.cond (.tmp 27) (.seq (.region [⟨(some 4), .op (.mov (.val (.int .i64 11))), none⟩])
        (.ret))
       (.skip)))))
     (.region [⟨(some 15), .op (.mov (.tmp 5)), none⟩,
      ⟨(some 16), .op (.bin .add (.tmp 15) (.val (.int .i64 2))), none⟩,
      ⟨(some 5), .op (.mov (.tmp 16)), none⟩]))))))
  (.seq (.seq (.region [⟨(some 8), .op (.mov (.val (.int .i64 0))), none⟩])
   (.block 2 (.loop (.seq (.seq (.region [⟨(some 28), .op (.mov (.tmp 8)), none⟩,
        ⟨(some 29), .op (.mov (.tmp 1)), none⟩,
        ⟨(some 30), .op (.lenS (.tmp 29)), none⟩,
        ⟨(some 31), .op (.bin .lss (.tmp 28) (.tmp 30)), none⟩])
      (.cond (.tmp 31) (.skip)
      (.exit 2)))
     (.seq (.block 3 (.seq (.region [⟨(some 35), .op (.mov (.tmp 0)), none⟩,
         ⟨(some 36), .op (.mov (.tmp 1)), none⟩,
         ⟨(some 37), .op (.mov (.tmp 8)), none⟩,
         ⟨(some 38), .op (.idxS 1 (.tmp 36) (.tmp 37)), none⟩,
         ⟨(some 39), .op (.load none (.tmp 38)), none⟩,
         ⟨(some 40), .call (.fnv 81) [(.tmp 35), (.tmp 39)], none⟩,
         ⟨(some 34), .op (.mov (.tmp 40)), none⟩,
         ⟨(some 41), .op (.extract (.tmp 34) 0), none⟩,
         ⟨(some 42), .op (.extract (.tmp 34) 1), none⟩,
         ⟨(some 9), .op (.mov (.tmp 41)), none⟩,
         ⟨(some 10), .op (.mov (.tmp 42)), none⟩])
       (.seq (.region [⟨(some 43), .op (.mov (.tmp 9)), none⟩,
         ⟨(some 44), .op (.mov (.tmp 1)), none⟩,
         ⟨(some 45), .op (.mov (.tmp 8)), none⟩,
         ⟨(some 46), .op (.bin .add (.tmp 45) (.val (.int .i64 1))), none⟩,
         ⟨(some 47), .op (.idxS 1 (.tmp 44) (.tmp 46)), none⟩,
         ⟨(some 48), .op (.load none (.tmp 47)), none⟩,
         ⟨(some 49), .op (.bin .neq (.tmp 43) (.tmp 48)), none⟩])
       (.cond (.tmp 49) (.seq (.region [⟨(some 4), .op (.mov (.val (.int .i64 10))), none⟩])
        (.ret))
       (.skip)))))
     (.region [⟨(some 32), .op (.mov (.tmp 8)), none⟩,
      ⟨(some 33), .op (.bin .add (.tmp 32) (.val (.int .i64 2))), none⟩,
      ⟨(some 8), .op (.mov (.tmp 33)), none⟩]))))))
  (.seq (.region [⟨(some 4), .op (.mov (.val (.int .i64 0))), none⟩])
  (.ret)))),
  [.tmp 4], none, none⟩
def A57 : AFun := ⟨.seq (.region [⟨(some 3), .op (.box (.tmp 1)), none⟩,
    ⟨(some 4), .op (.mov (.val (.int .i64 0))), none⟩])
  (.seq (.region [⟨(some 7), .op (.fieldAddr 1 (.tmp 3)), none⟩,
    ⟨(some 8), .op (.load none (.tmp 7)), none⟩,
    ⟨(some 5), .op (.mov (.tmp 8)), none⟩])
  (.seq (.seq (.region [⟨(some 9), .op (.fieldAddr 0 (.tmp 3)), none⟩,
     ⟨(some 10), .op (.load none (.tmp 9)), none⟩,
     ⟨(some 11), .op (.bin .eql (.tmp 10) (.val (.int .i64 25))), none⟩])
   (.cond (.tmp 11) (.seq (.seq (.region [⟨(some 12), .op (.mov (.tmp 0)), none⟩,
       ⟨(some 13), .op (.fieldAddr 1 (.tmp 3)), none⟩,
       ⟨(some 14), .op (.load none (.tmp 13)), none⟩,
       ⟨(some 15), .op (.buildSlice 1 2 [(.int .i64 0)] [(0, (.tmp 14)), (1, (.val (.int .i64 0)))]), none⟩,
       ⟨(some 16), .call (.fnv 56) [(.tmp 12), (.tmp 15)], none⟩,
       ⟨(some 6), .op (.mov (.tmp 16)), none⟩])
     (.seq (.region [⟨(some 17), .op (.mov (.tmp 6)), none⟩,
       ⟨(some 18), .op (.bin .neq (.tmp 17) (.val (.int .i64 0))), none⟩])
     (.cond (.tmp 18) (.seq (.region [⟨(some 19), .op (.mov (.tmp 6)), none⟩,
        ⟨(some 4), .op (.mov (.tmp 19)), none⟩])
      (.ret))
     (.skip))))
    (.region [⟨(some 20), .op (.fieldAddr 2 (.tmp 3)), none⟩,
     ⟨(some 21), .op (.load none (.tmp 20)), none⟩,
     ⟨(some 5), .op (.mov (.tmp 21)), none⟩]))
   (.skip)))
  (.seq (.seq (.region [⟨(some 22), .op (.mov (.tmp 5)), none⟩,
     ⟨(some 23), .op (.bin .lss (.tmp 22) (.val (.int .i64 0))), none⟩,
     ⟨(some 24), .op (.mov (.tmp 23)), none⟩,
     ⟨(some 25), .op (.mov (.tmp 5)), (some (24, false))⟩,
     ⟨(some 26), .op (.mov (.tmp 0)), (some (24, false))⟩,
     ⟨(some 27), .op (.nilCheck (.tmp 26)), (some (24, false))⟩,
     ⟨(some 28), .op (.fieldAddr 3 (.tmp 27)), (some (24, false))⟩,
     ⟨(some 29), .op (.fieldAddr 3 (.tmp 28)), (some (24, false))⟩,
     ⟨(some 30), .op (.load none (.tmp 29)), (some (24, false))⟩,
     ⟨(some 31), .op (.lenS (.tmp 30)), (some (24, false))⟩,
     ⟨(some 32), .op (.bin .geq (.tmp 25) (.tmp 31)), (some (24, false))⟩,
     ⟨(some 33), .op (.pick (.tmp 24) (.val (.bool true)) (.tmp 32)), none⟩])
   (.cond (.tmp 33) (.seq (.region [⟨(some 4), .op (.mov (.val (.int .i64 12))), none⟩])
    (.ret))
   (.skip)))
  (.seq (.region [⟨(some 4), .op (.mov (.val (.int .i64 0))), none⟩])
  (.ret))))),
  [.tmp 4], none, none⟩
def A58 : AFun := ⟨.seq (.region [⟨(some 3), .op (.box (.tmp 1)), none⟩,
    ⟨(some 4), .op (.mov (.val (.int .i64 0))), none⟩])
  (.seq (.seq (.region [⟨(some 14), .op (.fieldAddr 0 (.tmp 3)), none⟩,
     ⟨(some 15), .op (.load none (.tmp 14)), none⟩])
   (.block 0 (.seq (.seq (.region [⟨(some 17), .op (.bin .eql (.tmp 15) (.val (.int .i64 26))), none⟩,
       ⟨(some 16), .op (.mov (.tmp 17)), none⟩])
     (.cond (.tmp 16) (.skip)
     (.region [⟨(some 18), .op (.bin .eql (.tmp 15) (.val (.int .i64 27))), none⟩,
      ⟨(some 16), .op (.mov (.tmp 18)), none⟩])))
    (.cond (.tmp 16) (.seq (.seq (.region [⟨(some 19), .op (.fieldAddr 2 (.tmp 3)), none⟩,
        ⟨(some 20), .op (.load none (.tmp 19)), none⟩,
        ⟨(some 21), .op (.mov (.tmp 0)), none⟩,
        ⟨(some 22), .op (.nilCheck (.tmp 21)), none⟩,
        ⟨(some 23), .op (.fieldAddr 0 (.tmp 22)), none⟩,
        ⟨(some 24), .op (.fieldAddr 0 (.tmp 23)), none⟩,
        ⟨(some 25), .op (.load none (.tmp 24)), none⟩,
        ⟨(some 26), .op (.lenS (.tmp 25)), none⟩,
        ⟨(some 27), .op (.bin .geq (.tmp 20) (.tmp 26)), none⟩,
        ⟨(some 28), .op (.mov (.tmp 27)), none⟩,
        ⟨(some 29), .op (.fieldAddr 2 (.tmp 3)), (some (28, false))⟩,
        ⟨(some 30), .op (.load none (.tmp 29)), (some (28, false))⟩,
        ⟨(some 31), .op (.bin .lss (.tmp 30) (.val (.int .i64 0))), (some (28, false))⟩,
        ⟨(some 32), .op (.pick (.tmp 28) (.val (.bool true)) (.tmp 31)), none⟩,
        ⟨(some 33), .op (.mov (.tmp 32)), none⟩,
        ⟨(some 34), .op (.mov (.tmp 0)), (some (33, false))⟩,
        ⟨(some 35), .op (.nilCheck (.tmp 34)), (some (33, false))⟩,
        ⟨(some 36), .op (.fieldAddr 0 (.tmp 35)), (some (33, false))⟩,
        ⟨(some 37), .op (.fieldAddr 0 (.tmp 36)), (some (33, false))⟩,
        ⟨(some 38), .op (.load none (.tmp 37)), (some (33, false))⟩,
        ⟨(some 39), .op (.fieldAddr 2 (.tmp 3)), (some (33, false))⟩,
        ⟨(some 40), .op (.load none (.tmp 39)), (some (33, false))⟩,
        ⟨(some 41), .op (.idxS 2 (.tmp 38) (.tmp 40)), (some (33, false))⟩,
        ⟨(some 42), .op (.fieldAddr 0 (.tmp 41)), (some (33, false))⟩,
        ⟨(some 43), .op (.load none (.tmp 42)), (some (33, false))⟩,
        ⟨(some 44), .op (.fieldAddr 0 (.tmp 3)), (some (33, false))⟩,
        ⟨(some 45), .op (.load none (.tmp 44)), (some (33, false))⟩,
        ⟨(some 46), .op (.bin .eql (.tmp 45) (.val (.int .i64 27))), (some (33, false))⟩,
        ⟨(some 47), .op (.eql true .bool (.tmp 43) (.tmp 46)), (some (33, false))⟩,
        ⟨(some 48), .op (.pick (.tmp 33) (.val (.bool true)) (.tmp 47)), none⟩])
      (.cond (.tmp 48) (.seq (.region [⟨(some 4), .op (.mov (.val (.int .i64 14))), none⟩])
       (.ret))
      (.skip)))
     (.seq (.seq (.region [⟨(some 49), .op (.fieldAddr 0 (.tmp 3)), none⟩,
        ⟨(some 50), .op (.load none (.tmp 49)), none⟩,
        ⟨(some 51), .op (.bin .eql (.tmp 50) (.val (.int .i64 27))), none⟩])
      (.cond (.tmp 51) (.seq (.region [⟨(some 52), .op (.mov (.tmp 0)), none⟩,
         ⟨(some 53), .op (.fieldAddr 1 (.tmp 3)), none⟩,
         ⟨(some 54), .op (.load none (.tmp 53)), none⟩,
         ⟨(some 55), .op (.fieldAddr 2 (.tmp 3)), none⟩,
         ⟨(some 56), .op (.load none (.tmp 55)), none⟩,
         ⟨(some 57), .op (.bin .add (.val (.int .i64 16)) (.tmp 56)), none⟩,
         ⟨(some 58), .op (.fieldAddr 3 (.tmp 3)), none⟩,
         ⟨(some 59), .op (.load none (.tmp 58)), none⟩,
         ⟨(some 60), .op (.buildSlice 1 4 [(.int .i64 0)] [(0, (.tmp 54)), (1, (.tmp 57)), (2, (.tmp 59)), (3, (.val (.int .i64 0)))]), none⟩,
         ⟨(some 61), .call (.fnv 56) [(.tmp 52), (.tmp 60)], none⟩,
         ⟨(some 4), .op (.mov (.tmp 61)), none⟩])
       (.ret))
      (.skip)))
     (.seq (.region [⟨(some 62), .op (.mov (.tmp 0)), none⟩,
       ⟨(some 63), .op (.fieldAddr 1 (.tmp 3)), none⟩,
       ⟨(some 64), .op (.load none (.tmp 63)), none⟩,
       ⟨(some 65), .op (.fieldAddr 2 (.tmp 3)), none⟩,
       ⟨(some 66), .op (.load none (.tmp 65)), none⟩,
       ⟨(some 67), .op (.bin .add (.val (.int .i64 16)) (.tmp 66)), none⟩,
       ⟨(some 68), .op (.buildSlice 1 2 [(.int .i64 0)] [(0, (.tmp 64)), (1, (.tmp 67))]), none⟩,
       ⟨(some 69), .call (.fnv 56) [(.tmp 62), (.tmp 68)], none⟩,
       ⟨(some 4), .op (.mov (.tmp 69)), none⟩])
     (.ret))))
    (.seq (.region [⟨(some 71), .op (.bin .eql (.tmp 15) (.val (.int .i64 28))), none⟩,
      ⟨(some 70), .op (.mov (.tmp 71)), none⟩])
    (.cond (.tmp 70) (.seq (.seq (.region [⟨(some 73), .op (.mov (.tmp 0)), none⟩,
        ⟨(some 74), .op (.fieldAddr 2 (.tmp 3)), none⟩,
        ⟨(some 75), .op (.load none (.tmp 74)), none⟩,
        ⟨(some 76), .call (.fnv 82) [(.tmp 73), (.tmp 75), (.val (.bool true))], none⟩,
        ⟨(some 72), .op (.mov (.tmp 76)), none⟩,
        ⟨(some 77), .op (.extract (.tmp 72) 0), none⟩,
        ⟨(some 78), .op (.extract (.tmp 72) 1), none⟩,
        ⟨(some 5), .op (.alloc [(.bool false), .nils]), none⟩,
        ⟨none, .op (.store 2 (.tmp 5) (.tmp 77)), none⟩,
        ⟨(some 6), .op (.mov (.tmp 78)), none⟩])
      (.seq (.region [⟨(some 79), .op (.mov (.tmp 6)), none⟩,
        ⟨(some 80), .op (.bin .neq (.tmp 79) (.val (.int .i64 0))), none⟩])
      (.cond (.tmp 80) (.seq (.region [⟨(some 81), .op (.mov (.tmp 6)), none⟩,
         ⟨(some 4), .op (.mov (.tmp 81)), none⟩])
       (.ret))
      (.skip))))
     (.seq (.region [⟨(some 82), .op (.mov (.tmp 0)), none⟩,
       ⟨(some 83), .op (.fieldAddr 1 (.tmp 3)), none⟩,
       ⟨(some 84), .op (.load none (.tmp 83)), none⟩,
       ⟨(some 85), .op (.buildSlice 1 2 [(.int .i64 0)] [(0, (.tmp 84)), (1, (.val (.int .i64 0)))]), none⟩,
       ⟨(some 86), .call (.fnv 56) [(.tmp 82), (.tmp 85)], none⟩,
       ⟨(some 4), .op (.mov (.tmp 86)), none⟩])
     (.ret)))
    (.seq (.seq (.region [⟨(some 88), .op (.bin .eql (.tmp 15) (.val (.int .i64 33))), none⟩,
       ⟨(some 87), .op (.mov (.tmp 88)), none⟩])
     (.cond (.tmp 87) (.skip)
     (.region [⟨(some 89), .op (.bin .eql (.tmp 15) (.val (.int .i64 34))), none⟩,
      ⟨(some 87), .op (.mov (.tmp 89)), none⟩])))
    (.cond (.tmp 87) (.seq (.region [⟨(some 90), .op (.fieldAddr 1 (.tmp 3)), none⟩,
       ⟨(some 91), .op (.load none (.tmp 90)), none⟩,
       ⟨(some 92), .op (.fieldAddr 2 (.tmp 3)), none⟩,
       ⟨(some 93), .op (.load none (.tmp 92)), none⟩,
       ⟨(some 7), .op (.mov (.tmp 91)), none⟩,
       ⟨(some 8), .op (.mov (.tmp 93)), none⟩])
     (.seq (.seq (.region [⟨(some 94), .op (.fieldAddr 0 (.tmp 3)), none⟩,
        ⟨(some 95), .op (.load none (.tmp 94)), none⟩,
        ⟨(some 96), .op (.bin .eql (.tmp 95) (.val (.int .i64 34))), none⟩])
      (.cond (.tmp 96) (.region [⟨(some 97), .op (.fieldAddr 2 (.tmp 3)), none⟩,
        ⟨(some 98), .op (.load none (.tmp 97)), none⟩,
        ⟨(some 99), .op (.fieldAddr 1 (.tmp 3)), none⟩,
        ⟨(some 100), .op (.load none (.tmp 99)), none⟩,
        ⟨(some 7), .op (.mov (.tmp 98)), none⟩,
        ⟨(some 8), .op (.mov (.tmp 100)), none⟩])
      (.skip)))
     (.seq (.seq (.region [⟨(some 101), .op (.mov (.tmp 8)), none⟩,
        ⟨(some 102), .op (.bin .lss (.tmp 101) (.val (.int .i64 0))), none⟩,
        ⟨(some 103), .op (.mov (.tmp 102)), none⟩,
        ⟨(some 104), .op (.mov (.tmp 8)), (some (103, false))⟩,
        ⟨(some 105), .op (.mov (.tmp 0)), (some (103, false))⟩,
        ⟨(some 106), .op (.nilCheck (.tmp 105)), (some (103, false))⟩,
        ⟨(some 107), .op (.fieldAddr 0 (.tmp 106)), (some (103, false))⟩,
        ⟨(some 108), .op (.fieldAddr 1 (.tmp 107)), (some (103, false))⟩,
        ⟨(some 109), .op (.load none (.tmp 108)), (some (103, false))⟩,
        ⟨(some 110), .op (.lenS (.tmp 109)), (some (103, false))⟩,
        ⟨(some 111), .op (.bin .geq (.tmp 104) (.tmp 110)), (some (103, false))⟩,
        ⟨(some 112), .op (.pick (.tmp 103) (.val (.bool true)) (.tmp 111)), none⟩])
      (.cond (.tmp 112) (.seq (.region [⟨(some 4), .op (.mov (.val (.int .i64 15))), none⟩])
       (.ret))
      (.skip)))
     (.seq (.region [⟨(some 113), .op (.mov (.tmp 0)), none⟩,
       ⟨(some 114), .op (.mov (.tmp 7)), none⟩,
       ⟨(some 115), .op (.mov (.tmp 0)), none⟩,
       ⟨(some 116), .op (.nilCheck (.tmp 115)), none⟩,
       ⟨(some 117), .op (.fieldAddr 0 (.tmp 116)), none⟩,
       ⟨(some 118), .op (.fieldAddr 1 (.tmp 117)), none⟩,
       ⟨(some 119), .op (.load none (.tmp 118)), none⟩,
       ⟨(some 120), .op (.mov (.tmp 8)), none⟩,
       ⟨(some 121), .op (.idxS 1 (.tmp 119) (.tmp 120)), none⟩,
       ⟨(some 122), .op (.load none (.tmp 121)), none⟩,
       ⟨(some 123), .op (.buildSlice 1 2 [(.int .i64 0)] [(0, (.tmp 114)), (1, (.tmp 122))]), none⟩,
       ⟨(some 124), .call (.fnv 56) [(.tmp 113), (.tmp 123)], none⟩,
       ⟨(some 4), .op (.mov (.tmp 124)), none⟩])
     (.ret)))))
    (.skip)))))))))
  (.seq (.region [⟨(some 125), .op (.fieldAddr 2 (.tmp 3)), none⟩,
    ⟨(some 126), .op (.load none (.tmp 125)), none⟩,
    ⟨(some 127), .op (.fieldAddr 1 (.tmp 3)), none⟩,
    ⟨(some 128), .op (.load none (.tmp 127)), none⟩,
    ⟨(some 129), .op (.fieldAddr 0 (.tmp 3)), none⟩,
    ⟨(some 130), .op (.load none (.tmp 129)), none⟩,
    ⟨(some 131), .op (.bin .eql (.tmp 130) (.val (.int .i64 31))), none⟩,
    ⟨(some 132), .op (.mov (.tmp 131)), none⟩,
    ⟨(some 133), .op (.fieldAddr 0 (.tmp 3)), (some (132, false))⟩,
    ⟨(some 134), .op (.load none (.tmp 133)), (some (132, false))⟩,
    ⟨(some 135), .op (.bin .eql (.tmp 134) (.val (.int .i64 32))), (some (132, false))⟩,
    ⟨(some 136), .op (.pick (.tmp 132) (.val (.bool true)) (.tmp 135)), none⟩,
    ⟨(some 9), .op (.mov (.tmp 126)), none⟩,
    ⟨(some 10), .op (.mov (.tmp 128)), none⟩,
    ⟨(some 11), .op (.mov (.tmp 136)), none⟩])
  (.seq (.seq (.region [⟨(some 137), .op (.fieldAddr 0 (.tmp 3)), none⟩,
     ⟨(some 138), .op (.load none (.tmp 137)), none⟩,
     ⟨(some 139), .op (.bin .eql (.tmp 138) (.val (.int .i64 30))), none⟩,
     ⟨(some 140), .op (.mov (.tmp 139)), none⟩,
     ⟨(some 141), .op (.fieldAddr 0 (.tmp 3)), (some (140, false))⟩,
     ⟨(some 142), .op (.load none (.tmp 141)), (some (140, false))⟩,
     ⟨(some 143), .op (.bin .eql (.tmp 142) (.val (.int .i64 32))), (some (140, false))⟩,
     ⟨(some 144), .op (.pick (.tmp 140) (.val (.bool true)) (.tmp 143)), none⟩])
   (.cond (.tmp 144) (.region [⟨(some 145), .op (.fieldAddr 1 (.tmp 3)), none⟩,
     ⟨(some 146), .op (.load none (.tmp 145)), none⟩,
     ⟨(some 147), .op (.fieldAddr 2 (.tmp 3)), none⟩,
     ⟨(some 148), .op (.load none (.tmp 147)), none⟩,
     ⟨(some 9), .op (.mov (.tmp 146)), none⟩,
     ⟨(some 10), .op (.mov (.tmp 148)), none⟩])
   (.skip)))
  (.seq (.region [⟨(some 150), .op (.mov (.tmp 0)), none⟩,
    ⟨(some 151), .op (.mov (.tmp 9)), none⟩,
    ⟨(some 152), .op (.mov (.tmp 11)), none⟩,
    ⟨(some 153), .call (.fnv 82) [(.tmp 150), (.tmp 151), (.tmp 152)], none⟩,
    ⟨(some 149), .op (.mov (.tmp 153)), none⟩,
    ⟨(some 154), .op (.extract (.tmp 149) 0), none⟩,
    ⟨(some 155), .op (.extract (.tmp 149) 1), none⟩,
    ⟨(some 12), .op (.alloc [(.bool false), .nils]), none⟩,
    ⟨none, .op (.store 2 (.tmp 12) (.tmp 154)), none⟩,
    ⟨(some 13), .op (.mov (.tmp 155)), none⟩])
  (.seq (.seq (.region [⟨(some 156), .op (.mov (.tmp 13)), none⟩,
     ⟨(some 157), .op (.bin .neq (.tmp 156) (.val (.int .i64 0))), none⟩])
   (.cond (.tmp 157) (.seq (.region [⟨(some 158), .op (.mov (.tmp 13)), none⟩,
      ⟨(some 4), .op (.mov (.tmp 158)), none⟩])
    (.ret))
   (.skip)))
  (.seq (.seq (.region [⟨(some 159), .op (.mov (.tmp 11)), none⟩])
   (.cond (.tmp 159) (.seq (.draw [⟨⟨(some 160), .op (.mov (.tmp 0)), none⟩, .pure⟩,
      ⟨⟨(some 161), .op (.mov (.tmp 10)), none⟩, .pure⟩,
      ⟨⟨(some 162), .op (.fieldAddr 1 (.tmp 12)), none⟩, .pure⟩,
      ⟨⟨(some 163), .op (.load none (.tmp 162)), none⟩, .read []⟩,
      ⟨⟨(some 164), .op (.idxS 1 (.tmp 163) (.val (.int .i64 0))), none⟩, .read []⟩,
      ⟨⟨(some 165), .op (.load none (.tmp 164)), none⟩, .read []⟩,
      ⟨⟨(some 166), .op (.fieldAddr 3 (.tmp 3)), none⟩, .pure⟩,
      ⟨⟨(some 167), .op (.load none (.tmp 166)), none⟩, .read []⟩,
      ⟨⟨(some 168), .op (.buildSlice 1 4 [(.int .i64 0)] [(0, (.tmp 161)), (1, (.tmp 165)), (2, (.tmp 167)), (3, (.val (.int .i64 0)))]), none⟩, .act true⟩,
      ⟨⟨(some 169), .call (.fnv 56) [(.tmp 160), (.tmp 168)], none⟩, .act true⟩,
      ⟨⟨(some 4), .op (.mov (.tmp 169)), none⟩, .pure⟩])
    (.ret))
   (.skip)))
  (.seq (.seq (.region [⟨(some 170), .op (.fieldAddr 3 (.tmp 3)), none⟩,
     ⟨(some 171), .op (.load none (.tmp 170)), none⟩,
     ⟨(some 172), .op (.bin .lss (.tmp 171) (.val (.int .i64 0))), none⟩,
     ⟨(some 173), .op (.mov (.tmp 172)), none⟩,
     ⟨(some 174), .op (.fieldAddr 3 (.tmp 3)), (some (173, false))⟩,
     ⟨(some 175), .op (.load none (.tmp 174)), (some (173, false))⟩,
     ⟨(some 176), .op (.fieldAddr 1 (.tmp 12)), (some (173, false))⟩,
     ⟨(some 177), .op (.load none (.tmp 176)), (some (173, false))⟩,
     ⟨(some 178), .op (.lenS (.tmp 177)), (some (173, false))⟩,
     ⟨(some 179), .op (.bin .geq (.tmp 175) (.tmp 178)), (some (173, false))⟩,
     ⟨(some 180), .op (.pick (.tmp 173) (.val (.bool true)) (.tmp 179)), none⟩])
   (.cond (.tmp 180) (.seq (.region [⟨(some 4), .op (.mov (.val (.int .i64 14))), none⟩])
    (.ret))
   (.skip)))
  (.seq (.region [⟨(some 181), .op (.mov (.tmp 0)), none⟩,
    ⟨(some 182), .op (.mov (.tmp 10)), none⟩,
    ⟨(some 183), .op (.fieldAddr 1 (.tmp 12)), none⟩,
    ⟨(some 184), .op (.load none (.tmp 183)), none⟩,
    ⟨(some 185), .op (.fieldAddr 3 (.tmp 3)), none⟩,
    ⟨(some 186), .op (.load none (.tmp 185)), none⟩,
    ⟨(some 187), .op (.idxS 1 (.tmp 184) (.tmp 186)), none⟩,
    ⟨(some 188), .op (.load none (.tmp 187)), none⟩,
    ⟨(some 189), .op (.buildSlice 1 2 [(.int .i64 0)] [(0, (.tmp 182)), (1, (.tmp 188))]), none⟩,
    ⟨(some 190), .call (.fnv 56) [(.tmp 181), (.tmp 189)], none⟩,
    ⟨(some 4), .op (.mov (.tmp 190)), none⟩])
  (.ret))))))))),
  [.tmp 4], none, none⟩
def A59 : AFun := ⟨.seq (.region [⟨(some 3), .op (.box (.tmp 1)), none⟩,
    ⟨(some 4), .op (.mov (.val (.int .i64 0))), none⟩])
  (.seq (.seq (.region [⟨(some 10), .op (.fieldAddr 0 (.tmp 3)), none⟩,
     ⟨(some 11), .op (.load none (.tmp 10)), none⟩,
     ⟨(some 12), .op (.bin .eql (.tmp 11) (.val (.int .i64 36))), none⟩])
   (.cond (.tmp 12) (.seq (.draw [⟨⟨(some 13), .op (.mov (.tmp 0)), none⟩, .pure⟩,
      ⟨⟨(some 14), .op (.fieldAddr 5 (.tmp 3)), none⟩, .pure⟩,
      ⟨⟨(some 15), .op (.load none (.tmp 14)), none⟩, .read []⟩,
      ⟨⟨(some 16), .op (.mov (.tmp 0)), none⟩, .pure⟩,
      ⟨⟨(some 17), .op (.nilCheck (.tmp 16)), none⟩, .pure⟩,
      ⟨⟨(some 18), .op (.fieldAddr 3 (.tmp 17)), none⟩, .pure⟩,
      ⟨⟨(some 19), .op (.fieldAddr 2 (.tmp 18)), none⟩, .pure⟩,
      ⟨⟨(some 20), .op (.load none (.tmp 19)), none⟩, .read []⟩,
      ⟨⟨(some 21), .call (.fnv 83) [(.tmp 13), (.tmp 15), (.tmp 20)], none⟩, .act true⟩,
      ⟨⟨(some 4), .op (.mov (.tmp 21)), none⟩, .pure⟩])
    (.ret))
   (.skip)))
  (.seq (.seq (.region [⟨(some 22), .op (.fieldAddr 1 (.tmp 3)), none⟩,
     ⟨(some 23), .op (.load none (.tmp 22)), none⟩,
     ⟨(some 24), .op (.bin .lss (.tmp 23) (.val (.int .i64 0))), none⟩,
     ⟨(some 25), .op (.mov (.tmp 24)), none⟩,
     ⟨(some 26), .op (.fieldAddr 1 (.tmp 3)), (some (25, false))⟩,
     ⟨(some 27), .op (.load none (.tmp 26)), (some (25, false))⟩,
     ⟨(some 28), .op (.mov (.tmp 0)), (some (25, false))⟩,
     ⟨(some 29), .op (.nilCheck (.tmp 28)), (some (25, false))⟩,
     ⟨(some 30), .op (.fieldAddr 0 (.tmp 29)), (some (25, false))⟩,
     ⟨(some 31), .op (.fieldAddr 2 (.tmp 30)), (some (25, false))⟩,
     ⟨(some 32), .op (.load none (.tmp 31)), (some (25, false))⟩,
     ⟨(some 33), .op (.lenS (.tmp 32)), (some (25, false))⟩,
     ⟨(some 34), .op (.bin .geq (.tmp 27) (.tmp 33)), (some (25, false))⟩,
     ⟨(some 35), .op (.pick (.tmp 25) (.val (.bool true)) (.tmp 34)), none⟩])
   (.cond (.tmp 35) (.seq (.region [⟨(some 4), .op (.mov (.val (.int .i64 13))), none⟩])
    (.ret))
   (.skip)))
  (.seq (.draw [⟨⟨(some 36), .op (.mov (.tmp 0)), none⟩, .pure⟩,
    ⟨⟨(some 37), .op (.nilCheck (.tmp 36)), none⟩, .pure⟩,
    ⟨⟨(some 38), .op (.fieldAddr 0 (.tmp 37)), none⟩, .pure⟩,
    ⟨⟨(some 39), .op (.fieldAddr 2 (.tmp 38)), none⟩, .pure⟩,
    ⟨⟨(some 40), .op (.load none (.tmp 39)), none⟩, .read [10]⟩,
    ⟨⟨(some 41), .op (.fieldAddr 1 (.tmp 3)), none⟩, .pure⟩,
    ⟨⟨(some 42), .op (.load none (.tmp 41)), none⟩, .read [10]⟩,
    ⟨⟨(some 43), .op (.idxS 4 (.tmp 40) (.tmp 42)), none⟩, .read [10]⟩,
    ⟨⟨(some 44), .op (.load (some 4) (.tmp 43)), none⟩, .read [10]⟩,
    ⟨⟨(some 5), .op (.alloc [(.int .i64 0), .nils, .nils, .nils]), none⟩, .act true⟩,
    ⟨⟨none, .op (.store 4 (.tmp 5) (.tmp 44)), none⟩, .act true⟩])
  (.seq (.region [⟨(some 45), .op (.fieldAddr 1 (.tmp 5)), none⟩,
    ⟨(some 46), .op (.load none (.tmp 45)), none⟩,
    ⟨(some 47), .op (.fieldAddr 0 (.tmp 5)), none⟩,
    ⟨(some 48), .op (.load none (.tmp 47)), none⟩,
    ⟨(some 49), .op (.slice 1 (.tmp 46) none (some (.tmp 48))), none⟩,
    ⟨(some 6), .op (.mov (.tmp 49)), none⟩])
  (.seq (.seq (.region [⟨(some 50), .op (.fieldAddr 0 (.tmp 3)), none⟩,
     ⟨(some 51), .op (.load none (.tmp 50)), none⟩,
     ⟨(some 52), .op (.bin .neq (.tmp 51) (.val (.int .i64 35))), none⟩])
   (.cond (.tmp 52) (.seq (.seq (.region [⟨(some 53), .op (.fieldAddr 2 (.tmp 5)), none⟩,
       ⟨(some 54), .op (.load none (.tmp 53)), none⟩,
       ⟨(some 55), .op (.lenS (.tmp 54)), none⟩,
       ⟨(some 56), .op (.bin .neq (.tmp 55) (.val (.int .i64 0))), none⟩])
     (.cond (.tmp 56) (.seq (.region [⟨(some 4), .op (.mov (.val (.int .i64 13))), none⟩])
      (.ret))
     (.skip)))
    (.seq (.seq (.region [⟨(some 57), .op (.mov (.tmp 6)), none⟩,
       ⟨(some 58), .op (.lenS (.tmp 57)), none⟩,
       ⟨(some 59), .op (.mov (.val (.int .i64 0))), none⟩])
     (.block 0 (.loop (.seq (.region [⟨(some 60), .op (.bin .lss (.tmp 59) (.tmp 58)), none⟩])
       (.seq (.cond (.tmp 60) (.skip)
        (.exit 0))
       (.seq (.block 1 (.seq (.region [⟨(some 61), .op (.idxS 1 (.tmp 57) (.tmp 59)), none⟩,
           ⟨(some 62), .op (.load none (.tmp 61)), none⟩,
           ⟨(some 8), .op (.mov (.tmp 62)), none⟩])
         (.seq (.region [⟨(some 63), .op (.mov (.tmp 8)), none⟩,
           ⟨(some 64), .op (.bin .eql (.tmp 63) (.val (.int .i64 2))), none⟩])
         (.cond (.tmp 64) (.seq (.region [⟨(some 4), .op (.mov (.val (.int .i64 10))), none⟩])
          (.ret))
         (.skip)))))
       (.region [⟨(some 65), .op (.bin .add (.tmp 59) (.val (.int .i64 1))), none⟩,
        ⟨(some 59), .op (.mov (.tmp 65)), none⟩])))))))
    (.seq (.region [⟨(some 66), .op (.mov (.tmp 0)), none⟩,
      ⟨(some 67), .op (.fieldAddr 5 (.tmp 3)), none⟩,
      ⟨(some 68), .op (.load none (.tmp 67)), none⟩,
      ⟨(some 69), .op (.mov (.tmp 6)), none⟩,
      ⟨(some 70), .call (.fnv 83) [(.tmp 66), (.tmp 68), (.tmp 69)], none⟩,
      ⟨(some 4), .op (.mov (.tmp 70)), none⟩])
    (.ret))))
   (.skip)))
  (.seq (.draw [⟨⟨(some 71), .op (.mov (.tmp 6)), none⟩, .pure⟩,
    ⟨⟨(some 72), .op (.append 1 8 (.val .nils) (.tmp 71)), none⟩, .act false⟩,
    ⟨⟨(some 73), .op (.fieldAddr 2 (.tmp 5)), none⟩, .pure⟩,
    ⟨⟨(some 74), .op (.load none (.tmp 73)), none⟩, .read [1]⟩,
    ⟨⟨(some 75), .op (.append 1 8 (.tmp 72) (.tmp 74)), none⟩, .act true⟩,
    ⟨⟨(some 9), .op (.mov (.tmp 75)), none⟩, .pure⟩])
  (.seq (.region [⟨(some 76), .op (.mov (.tmp 0)), none⟩,
    ⟨(some 77), .op (.fieldAddr 5 (.tmp 3)), none⟩,
    ⟨(some 78), .op (.load none (.tmp 77)), none⟩,
    ⟨(some 79), .op (.mov (.tmp 9)), none⟩,
    ⟨(some 80), .call (.fnv 83) [(.tmp 76), (.tmp 78), (.tmp 79)], none⟩,
    ⟨(some 4), .op (.mov (.tmp 80)), none⟩])
  (.ret)))))))),
  [.tmp 4], none, none⟩
def A60 : AFun := ⟨.seq (.region [⟨(some 3), .op (.box (.tmp 1)), none⟩,
    ⟨(some 4), .op (.mov (.val (.int .i64 0))), none⟩])
  (.seq (.region [⟨(some 11), .op (.fieldAddr 1 (.tmp 3)), none⟩,
    ⟨(some 12), .op (.load none (.tmp 11)), none⟩,
    ⟨(some 13), .op (.fieldAddr 2 (.tmp 3)), none⟩,
    ⟨(some 14), .op (.load none (.tmp 13)), none⟩,
    ⟨(some 5), .op (.mov (.tmp 12)), none⟩,
    ⟨(some 6), .op (.mov (.tmp 14)), none⟩])
  (.seq (.seq (.region [⟨(some 15), .op (.fieldAddr 0 (.tmp 3)), none⟩,
     ⟨(some 16), .op (.load none (.tmp 15)), none⟩])
   (.block 0 (.seq (.seq (.region [⟨(some 18), .op (.bin .eql (.tmp 16) (.val (.int .i64 41))), none⟩,
       ⟨(some 17), .op (.mov (.tmp 18)), none⟩])
     (.cond (.tmp 17) (.skip)
     (.region [⟨(some 19), .op (.bin .eql (.tmp 16) (.val (.int .i64 44))), none⟩,
      ⟨(some 17), .op (.mov (.tmp 19)), none⟩])))
    (.cond (.tmp 17) (.seq (.seq (.region [⟨(some 20), .op (.fieldAddr 4 (.tmp 3)), none⟩,
        ⟨(some 21), .op (.load none (.tmp 20)), none⟩,
        ⟨(some 22), .op (.bin .gtr (.tmp 21) (.val (.int .u64 16))), none⟩])
      (.cond (.tmp 22) (.seq (.region [⟨(some 4), .op (.mov (.val (.int .i64 16))), none⟩])
       (.ret))
      (.skip)))
     (.seq (.region [⟨(some 24), .op (.mov (.tmp 0)), none⟩,
       ⟨(some 25), .op (.fieldAddr 1 (.tmp 3)), none⟩,
       ⟨(some 26), .op (.load none (.tmp 25)), none⟩,
       ⟨(some 27), .call (.fnv 84) [(.tmp 24), (.tmp 26)], none⟩,
       ⟨(some 23), .op (.mov (.tmp 27)), none⟩,
       ⟨(some 28), .op (.extract (.tmp 23) 0), none⟩,
       ⟨(some 29), .op (.extract (.tmp 23) 1), none⟩,
       ⟨(some 7), .op (.mov (.tmp 28)), none⟩,
       ⟨(some 8), .op (.mov (.tmp 29)), none⟩])
     (.seq (.region [⟨(some 30), .op (.mov (.tmp 8)), none⟩,
       ⟨(some 4), .op (.mov (.tmp 30)), none⟩])
     (.ret))))
    (.seq (.region [⟨(some 32), .op (.bin .eql (.tmp 16) (.val (.int .i64 43))), none⟩,
      ⟨(some 31), .op (.mov (.tmp 32)), none⟩])
    (.cond (.tmp 31) (.region [⟨(some 33), .op (.fieldAddr 2 (.tmp 3)), none⟩,
      ⟨(some 34), .op (.load none (.tmp 33)), none⟩,
      ⟨(some 35), .op (.fieldAddr 1 (.tmp 3)), none⟩,
      ⟨(some 36), .op (.load none (.tmp 35)), none⟩,
      ⟨(some 5), .op (.mov (.tmp 34)), none⟩,
      ⟨(some 6), .op (.mov (.tmp 36)), none⟩])
    (.seq (.region [⟨(some 38), .op (.bin .eql (.tmp 16) (.val (.int .i64 45))), none⟩,
      ⟨(some 37), .op (.mov (.tmp 38)), none⟩])
    (.cond (.tmp 37) (.seq (.region [⟨(some 39), .op (.mov (.tmp 0)), none⟩,
       ⟨(some 40), .op (.load (some 6) (.tmp 3)), none⟩,
       ⟨(some 41), .call (.fnv 85) [(.tmp 39), (.tmp 40)], none⟩,
       ⟨(some 4), .op (.mov (.tmp 41)), none⟩])
     (.ret))
    (.skip)))))))))
  (.seq (.region [⟨(some 43), .op (.mov (.tmp 0)), none⟩,
    ⟨(some 44), .op (.mov (.tmp 5)), none⟩,
    ⟨(some 45), .call (.fnv 84) [(.tmp 43), (.tmp 44)], none⟩,
    ⟨(some 42), .op (.mov (.tmp 45)), none⟩,
    ⟨(some 46), .op (.extract (.tmp 42) 0), none⟩,
    ⟨(some 47), .op (.extract (.tmp 42) 1), none⟩,
    ⟨(some 9), .op (.mov (.tmp 46)), none⟩,
    ⟨(some 10), .op (.mov (.tmp 47)), none⟩])
  (.seq (.seq (.region [⟨(some 48), .op (.mov (.tmp 10)), none⟩,
     ⟨(some 49), .op (.bin .neq (.tmp 48) (.val (.int .i64 0))), none⟩])
   (.cond (.tmp 49) (.seq (.region [⟨(some 50), .op (.mov (.tmp 10)), none⟩,
      ⟨(some 4), .op (.mov (.tmp 50)), none⟩])
    (.ret))
   (.skip)))
  (.seq (.seq (.region [⟨(some 51), .op (.fieldAddr 0 (.tmp 3)), none⟩,
     ⟨(some 52), .op (.load none (.tmp 51)), none⟩,
     ⟨(some 53), .op (.bin .eql (.tmp 52) (.val (.int .i64 43))), none⟩])
   (.cond (.tmp 53) (.seq (.region [⟨(some 54), .op (.mov (.tmp 0)), none⟩,
      ⟨(some 55), .op (.mov (.tmp 6)), none⟩,
      ⟨(some 56), .op (.mov (.tmp 9)), none⟩,
      ⟨(some 57), .op (.fieldAddr 3 (.tmp 3)), none⟩,
      ⟨(some 58), .op (.load none (.tmp 57)), none⟩,
      ⟨(some 59), .op (.buildSlice 1 4 [(.int .i64 0)] [(0, (.tmp 55)), (1, (.tmp 56)), (2, (.tmp 58)), (3, (.val (.int .i64 0)))]), none⟩,
      ⟨(some 60), .call (.fnv 56) [(.tmp 54), (.tmp 59)], none⟩,
      ⟨(some 4), .op (.mov (.tmp 60)), none⟩])
    (.ret))
   (.skip)))
  (.seq (.region [⟨(some 61), .op (.mov (.tmp 0)), none⟩,
    ⟨(some 62), .op (.mov (.tmp 6)), none⟩,
    ⟨(some 63), .op (.mov (.tmp 9)), none⟩,
    ⟨(some 64), .op (.buildSlice 1 2 [(.int .i64 0)] [(0, (.tmp 62)), (1, (.tmp 63))]), none⟩,
    ⟨(some 65), .call (.fnv 56) [(.tmp 61), (.tmp 64)], none⟩,
    ⟨(some 4), .op (.mov (.tmp 65)), none⟩])
  (.ret))))))),
  [.tmp 4], none, none⟩
def A61 : AFun := ⟨.seq (.region [⟨(some 3), .op (.box (.tmp 0)), none⟩,
    ⟨(some 6), .op (.mov (.val (.bool false))), none⟩])
  (.seq (.seq (.region [⟨(some 7), .op (.mov (.val (.int .i64 0))), none⟩])
   (.block 0 (.loop (.seq (.seq (.region [⟨(some 8), .op (.mov (.tmp 7)), none⟩,
        ⟨(some 9), .op (.mov (.tmp 1)), none⟩,
        ⟨(some 10), .op (.lenS (.tmp 9)), none⟩,
        ⟨(some 11), .op (.bin .lss (.tmp 8) (.tmp 10)), none⟩])
      (.cond (.tmp 11) (.skip)
      (.exit 0)))
     (.seq (.block 1 (.seq (.draw [⟨⟨(some 14), .op (.load (some 3) (.tmp 3)), none⟩, .read []⟩,
         ⟨⟨(some 15), .op (.mov (.tmp 1)), none⟩, .pure⟩,
         ⟨⟨(some 16), .op (.mov (.tmp 7)), none⟩, .pure⟩,
         ⟨⟨(some 17), .op (.idxS 1 (.tmp 15) (.tmp 16)), none⟩, .read []⟩,
         ⟨⟨(some 18), .op (.load none (.tmp 17)), none⟩, .read []⟩,
         ⟨⟨(some 19), .call (.fnv 62) [(.tmp 14), (.tmp 18)], none⟩, .act true⟩,
         ⟨⟨(some 20), .op (.un .not (.tmp 19)), none⟩, .pure⟩,
         ⟨⟨(some 21), .op (.mov (.tmp 20)), none⟩, .pure⟩,
         ⟨⟨(some 22), .op (.mov (.tmp 2)), (some (21, true))⟩, .pure⟩,
         ⟨⟨(some 23), .op (.mov (.tmp 22)), (some (21, true))⟩, .pure⟩,
         ⟨⟨(some 24), .op (.mov (.tmp 1)), (some (23, true))⟩, .pure⟩,
         ⟨⟨(some 25), .op (.mov (.tmp 7)), (some (23, true))⟩, .pure⟩,
         ⟨⟨(some 26), .op (.idxS 1 (.tmp 24) (.tmp 25)), (some (23, true))⟩, .read []⟩,
         ⟨⟨(some 27), .op (.load none (.tmp 26)), (some (23, true))⟩, .read []⟩,
         ⟨⟨(some 28), .op (.bin .eql (.tmp 27) (.val (.int .i64 2))), (some (23, true))⟩, .pure⟩,
         ⟨⟨(some 29), .op (.pick (.tmp 23) (.tmp 28) (.val (.bool false))), (some (21, true))⟩, .pure⟩,
         ⟨⟨(some 30), .op (.un .not (.tmp 29)), (some (21, true))⟩, .pure⟩,
         ⟨⟨(some 31), .op (.pick (.tmp 21) (.tmp 30) (.val (.bool false))), none⟩, .pure⟩])
       (.cond (.tmp 31) (.seq (.region [⟨(some 6), .op (.mov (.val (.bool false))), none⟩])
        (.ret))
       (.skip))))
     (.region [⟨(some 12), .op (.mov (.tmp 7)), none⟩,
      ⟨(some 13), .op (.bin .add (.tmp 12) (.val (.int .i64 1))), none⟩,
      ⟨(some 7), .op (.mov (.tmp 13)), none⟩]))))))
  (.seq (.region [⟨(some 6), .op (.mov (.val (.bool true))), none⟩])
  (.ret))),
  [.tmp 6], none, none⟩
def A62 : AFun := ⟨.seq (.region [⟨(some 2), .op (.box (.tmp 0)), none⟩,
    ⟨(some 4), .op (.mov (.val (.bool false))), none⟩])
  (.seq (.seq (.region [⟨(some 5), .op (.mov (.tmp 1)), none⟩,
     ⟨(some 6), .op (.bin .geq (.tmp 5) (.val (.int .i64 64))), none⟩])
   (.cond (.tmp 6) (.seq (.region [⟨(some 7), .op (.mov (.tmp 1)), none⟩,
      ⟨(some 8), .op (.bin .sub (.tmp 7) (.val (.int .i64 64))), none⟩,
      ⟨(some 1), .op (.mov (.tmp 8)), none⟩])
    (.seq (.region [⟨(some 9), .op (.mov (.tmp 1)), none⟩,
      ⟨(some 10), .op (.bin .geq (.tmp 9) (.val (.int .i64 64))), none⟩])
    (.cond (.tmp 10) (.seq (.region [⟨(some 4), .op (.mov (.val (.bool false))), none⟩])
     (.ret))
    (.skip))))
   (.skip)))
  (.seq (.seq (.region [⟨(some 11), .op (.mov (.tmp 1)), none⟩,
     ⟨(some 12), .op (.bin .geq (.tmp 11) (.val (.int .i64 16))), none⟩])
   (.cond (.tmp 12) (.seq (.region [⟨(some 13), .op (.mov (.tmp 1)), none⟩,
      ⟨(some 14), .op (.bin .sub (.tmp 13) (.val (.int .i64 16))), none⟩,
      ⟨(some 15), .op (.fieldAddr 0 (.tmp 2)), none⟩,
      ⟨(some 16), .op (.load none (.tmp 15)), none⟩,
      ⟨(some 17), .op (.lenS (.tmp 16)), none⟩,
      ⟨(some 18), .op (.bin .lss (.tmp 14) (.tmp 17)), none⟩,
      ⟨(some 4), .op (.mov (.tmp 18)), none⟩])
    (.ret))
   (.skip)))
  (.seq (.region [⟨(some 19), .op (.mov (.tmp 1)), none⟩,
    ⟨(some 20), .op (.bin .eql (.tmp 19) (.val (.int .i64 0))), none⟩,
    ⟨(some 21), .op (.mov (.tmp 20)), none⟩,
    ⟨(some 22), .op (.mov (.tmp 1)), (some (21, false))⟩,
    ⟨(some 23), .op (.bin .eql (.tmp 22) (.val (.int .i64 1))), (some (21, false))⟩,
    ⟨(some 24), .op (.pick (.tmp 21) (.val (.bool true)) (.tmp 23)), none⟩,
    ⟨(some 4), .op (.mov (.tmp 24)), none⟩])
  (.ret)))),
  [.tmp 4], none, none⟩
def A63 : AFun := ⟨.seq (.region [⟨(some 1), .op (.box (.tmp 0)), none⟩,
    ⟨(some 2), .op (.mov (.val (.int .i64 0))), none⟩])
  (.seq (.region [⟨(some 4), .op (.fieldAddr 0 (.tmp 1)), none⟩,
    ⟨(some 5), .op (.load none (.tmp 4)), none⟩,
    ⟨(some 6), .call (.fnv 86) [(.tmp 5)], none⟩,
    ⟨(some 3), .op (.mov (.tmp 6)), none⟩])
  (.seq (.seq (.region [⟨(some 7), .op (.mov (.tmp 3)), none⟩,
     ⟨(some 8), .call (.fnv 87) [(.tmp 7), (.val (.int .u8 97))], none⟩,
     ⟨(some 9), .op (.un .not (.tmp 8)), none⟩,
     ⟨(some 10), .op (.mov (.tmp 9)), none⟩,
     ⟨(some 11), .op (.fieldAddr 1 (.tmp 1)), (some (10, true))⟩,
     ⟨(some 12), .op (.load none (.tmp 11)), (some (10, true))⟩,
     ⟨(some 13), .op (.bin .neq (.tmp 12) (.val (.int .i64 0))), (some (10, true))⟩,
     ⟨(some 14), .op (.pick (.tmp 10) (.tmp 13) (.val (.bool false))), none⟩,
     ⟨(some 15), .op (.mov (.tmp 14)), none⟩,
     ⟨(some 16), .op (.mov (.tmp 3)), (some (15, false))⟩,
     ⟨(some 17), .call (.fnv 87) [(.tmp 16), (.val (.int .u8 98))], (some (15, false))⟩,
     ⟨(some 18), .op (.un .not (.tmp 17)), (some (15, false))⟩,
     ⟨(some 19), .op (.mov (.tmp 18)), (some (15, false))⟩,
     ⟨(some 20), .op (.fieldAddr 2 (.tmp 1)), (some (19, true))⟩,
     ⟨(some 21), .op (.load none (.tmp 20)), (some (19, true))⟩,
     ⟨(some 22), .op (.bin .neq (.tmp 21) (.val (.int .i64 0))), (some (19, true))⟩,
     ⟨(some 23), .op (.pick (.tmp 19) (.tmp 22) (.val (.bool false))), (some (15, false))⟩,
     ⟨(some 24), .op (.pick (.tmp 15) (.val (.bool true)) (.tmp 23)), none⟩,
     ⟨(some 25), .op (.mov (.tmp 24)), none⟩,
     ⟨(some 26), .op (.mov (.tmp 3)), (some (25, false))⟩,
     ⟨(some 27), .call (.fnv 87) [(.tmp 26), (.val (.int .u8 99))], (some (25, false))⟩,
     ⟨(some 28), .op (.un .not (.tmp 27)), (some (25, false))⟩,
     ⟨(some 29), .op (.mov (.tmp 28)), (some (25, false))⟩,
     ⟨(some 30), .op (.fieldAddr 3 (.tmp 1)), (some (29, true))⟩,
     ⟨(some 31), .op (.load none (.tmp 30)), (some (29, true))⟩,
     ⟨(some 32), .op (.bin .neq (.tmp 31) (.val (.int .i64 0))), (some (29, true))⟩,
     ⟨(some 33), .op (.pick (.tmp 29) (.tmp 32) (.val (.bool false))), (some (25, false))⟩,
     ⟨(some 34), .op (.pick (.tmp 25) (.val (.bool true)) (.tmp 33)), none⟩,
     ⟨(some 35), .op (.mov (.tmp 34)), none⟩,
     ⟨(some 36), .op (.mov (.tmp 3)), (some (35, false))⟩,
     ⟨(some 37), .call (.fnv 87) [(.tmp 36), (.val (.int .u8 109))], (some (35, false))⟩,
     ⟨(some 38), .op (.un .not (.tmp 37)), (some (35, false))⟩,
     ⟨(some 39), .op (.mov (.tmp 38)), (some (35, false))⟩,
     ⟨(some 40), .op (.fieldAddr 4 (.tmp 1)), (some (39, true))⟩,
     ⟨(some 41), .op (.load none (.tmp 40)), (some (39, true))⟩,
     ⟨(some 42), .op (.bin .neq (.tmp 41) (.val (.int .u64 0))), (some (39, true))⟩,
     ⟨(some 43), .op (.pick (.tmp 39) (.tmp 42) (.val (.bool false))), (some (35, false))⟩,
     ⟨(some 44), .op (.pick (.tmp 35) (.val (.bool true)) (.tmp 43)), none⟩,
     ⟨(some 45), .op (.mov (.tmp 44)), none⟩,
     ⟨(some 46), .op (.mov (.tmp 3)), (some (45, false))⟩,
     ⟨(some 47), .call (.fnv 87) [(.tmp 46), (.val (.int .u8 108))], (some (45, false))⟩,
     ⟨(some 48), .op (.un .not (.tmp 47)), (some (45, false))⟩,
     ⟨(some 49), .op (.mov (.tmp 48)), (some (45, false))⟩,
     ⟨(some 50), .op (.fieldAddr 5 (.tmp 1)), (some (49, true))⟩,
     ⟨(some 51), .op (.load none (.tmp 50)), (some (49, true))⟩,
     ⟨(some 52), .op (.lenS (.tmp 51)), (some (49, true))⟩,
     ⟨(some 53), .op (.bin .gtr (.tmp 52) (.val (.int .i64 0))), (some (49, true))⟩,
     ⟨(some 54), .op (.pick (.tmp 49) (.tmp 53) (.val (.bool false))), (some (45, false))⟩,
     ⟨(some 55), .op (.pick (.tmp 45) (.val (.bool true)) (.tmp 54)), none⟩])
   (.cond (.tmp 55) (.seq (.region [⟨(some 2), .op (.mov (.val (.int .i64 8))), none⟩])
    (.ret))
   (.skip)))
  (.seq (.seq (.region [⟨(some 56), .op (.fieldAddr 5 (.tmp 1)), none⟩,
     ⟨(some 57), .op (.load none (.tmp 56)), none⟩,
     ⟨(some 58), .op (.lenS (.tmp 57)), none⟩,
     ⟨(some 59), .op (.bin .gtr (.tmp 58) (.val (.int .i64 24))), none⟩])
   (.cond (.tmp 59) (.seq (.region [⟨(some 2), .op (.mov (.val (.int .i64 16))), none⟩])
    (.ret))
   (.skip)))
  (.seq (.region [⟨(some 2), .op (.mov (.val (.int .i64 0))), none⟩])
  (.ret))))),
  [.tmp 2], none, none⟩
def A64 : AFun := ⟨.seq (.region [⟨(some 2), .op (.box (.tmp 0)), none⟩,
    ⟨(some 3), .op (.box (.tmp 1)), none⟩,
    ⟨(some 4), .op (.mov (.val (.int .i64 0))), none⟩])
  (.seq (.seq (.region [⟨(some 5), .op (.mov (.val (.int .i64 0))), none⟩])
   (.block 0 (.loop (.seq (.seq (.region [⟨(some 7), .op (.mov (.tmp 5)), none⟩,
        ⟨(some 8), .op (.fieldAddr 0 (.tmp 3)), none⟩,
        ⟨(some 9), .op (.load none (.tmp 8)), none⟩,
        ⟨(some 10), .op (.lenS (.tmp 9)), none⟩,
        ⟨(some 11), .op (.bin .lss (.tmp 7) (.tmp 10)), none⟩])
      (.cond (.tmp 11) (.skip)
      (.exit 0)))
     (.seq (.block 1 (.seq (.region [⟨(some 14), .op (.fieldAddr 0 (.tmp 3)), none⟩,
         ⟨(some 15), .op (.load none (.tmp 14)), none⟩,
         ⟨(some 16), .op (.mov (.tmp 5)), none⟩,
         ⟨(some 17), .op (.idxS 1 (.tmp 15) (.tmp 16)), none⟩,
         ⟨(some 18), .op (.load none (.tmp 17)), none⟩,
         ⟨(some 19), .op (.bin .lss (.tmp 18) (.val (.int .i64 0))), none⟩,
         ⟨(some 20), .op (.mov (.tmp 19)), none⟩,
         ⟨(some 21), .op (.fieldAddr 0 (.tmp 3)), (some (20, false))⟩,
         ⟨(some 22), .op (.load none (.tmp 21)), (some (20, false))⟩,
         ⟨(some 23), .op (.mov (.tmp 5)), (some (20, false))⟩,
         ⟨(some 24), .op (.idxS 1 (.tmp 22) (.tmp 23)), (some (20, false))⟩,
         ⟨(some 25), .op (.load none (.tmp 24)), (some (20, false))⟩,
         ⟨(some 26), .op (.fieldAddr 1 (.tmp 2)), (some (20, false))⟩,
         ⟨(some 27), .op (.load none (.tmp 26)), (some (20, false))⟩,
         ⟨(some 28), .op (.lenS (.tmp 27)), (some (20, false))⟩,
         ⟨(some 29), .op (.bin .geq (.tmp 25) (.tmp 28)), (some (20, false))⟩,
         ⟨(some 30), .op (.pick (.tmp 20) (.val (.bool true)) (.tmp 29)), none⟩])
       (.cond (.tmp 30) (.seq (.region [⟨(some 4), .op (.mov (.val (.int .i64 11))), none⟩])
        (.ret))
       (.skip))))
     (.region [⟨(some 12), .op (.mov (.tmp 5)), none⟩,
      ⟨(some 13), .op (.bin .add (.tmp 12) (.val (.int .i64 1))), none⟩,
      ⟨(some 5), .op (.mov (.tmp 13)), none⟩]))))))
  (.seq (.seq (.region [⟨(some 6), .op (.mov (.val (.int .i64 0))), none⟩])
   (.block 2 (.loop (.seq (.seq (.region [⟨(some 31), .op (.mov (.tmp 6)), none⟩,
        ⟨(some 32), .op (.fieldAddr 0 (.tmp 3)), none⟩,
        ⟨(some 33), .op (.load none (.tmp 32)), none⟩,
        ⟨(some 34), .op (.lenS (.tmp 33)), none⟩,
        ⟨(some 35), .op (.bin .lss (.tmp 31) (.tmp 34)), none⟩])
      (.cond (.tmp 35) (.skip)
      (.exit 2)))
     (.seq (.block 3 (.seq (.region [⟨(some 38), .op (.fieldAddr 1 (.tmp 2)), none⟩,
         ⟨(some 39), .op (.load none (.tmp 38)), none⟩,
         ⟨(some 40), .op (.fieldAddr 0 (.tmp 3)), none⟩,
         ⟨(some 41), .op (.load none (.tmp 40)), none⟩,
         ⟨(some 42), .op (.mov (.tmp 6)), none⟩,
         ⟨(some 43), .op (.idxS 1 (.tmp 41) (.tmp 42)), none⟩,
         ⟨(some 44), .op (.load none (.tmp 43)), none⟩,
         ⟨(some 45), .op (.idxS 1 (.tmp 39) (.tmp 44)), none⟩,
         ⟨(some 46), .op (.load none (.tmp 45)), none⟩,
         ⟨(some 47), .op (.fieldAddr 1 (.tmp 3)), none⟩,
         ⟨(some 48), .op (.load none (.tmp 47)), none⟩,
         ⟨(some 49), .op (.mov (.tmp 6)), none⟩,
         ⟨(some 50), .op (.idxS 1 (.tmp 48) (.tmp 49)), none⟩,
         ⟨(some 51), .op (.load none (.tmp 50)), none⟩,
         ⟨(some 52), .op (.bin .neq (.tmp 46) (.tmp 51)), none⟩])
       (.cond (.tmp 52) (.seq (.region [⟨(some 4), .op (.mov (.val (.int .i64 10))), none⟩])
        (.ret))
       (.skip))))
     (.region [⟨(some 36), .op (.mov (.tmp 6)), none⟩,
      ⟨(some 37), .op (.bin .add (.tmp 36) (.val (.int .i64 1))), none⟩,
      ⟨(some 6), .op (.mov (.tmp 37)), none⟩]))))))
  (.seq (.region [⟨(some 4), .op (.mov (.val (.int .i64 0))), none⟩])
  (.ret)))),
  [.tmp 4], none, none⟩
def A65 : AFun := ⟨.seq (.region [⟨(some 3), .op (.box (.tmp 0)), none⟩,
    ⟨(some 6), .op (.alloc [.nils, .nils]), none⟩])
  (.seq (.region [⟨(some 7), .op (.alloc [.nils, .nils]), none⟩])
  (.seq (.region [⟨(some 8), .op (.fieldAddr 0 (.tmp 7)), none⟩,
    ⟨(some 9), .op (.load none (.tmp 8)), none⟩,
    ⟨(some 10), .op (.fieldAddr 0 (.tmp 3)), none⟩,
    ⟨(some 11), .op (.load none (.tmp 10)), none⟩,
    ⟨(some 12), .op (.append 1 8 (.tmp 9) (.tmp 11)), none⟩,
    ⟨(some 13), .op (.fieldAddr 0 (.tmp 7)), none⟩,
    ⟨none, .op (.store 1 (.tmp 13) (.tmp 12)), none⟩])
  (.seq (.region [⟨(some 14), .op (.fieldAddr 1 (.tmp 7)), none⟩,
    ⟨(some 15), .op (.load none (.tmp 14)), none⟩,
    ⟨(some 16), .op (.fieldAddr 1 (.tmp 3)), none⟩,
    ⟨(some 17), .op (.load none (.tmp 16)), none⟩,
    ⟨(some 18), .op (.append 1 8 (.tmp 15) (.tmp 17)), none⟩,
    ⟨(some 19), .op (.fieldAddr 1 (.tmp 7)), none⟩,
    ⟨none, .op (.store 1 (.tmp 19) (.tmp 18)), none⟩])
  (.seq (.region [⟨(some 20), .op (.fieldAddr 0 (.tmp 7)), none⟩,
    ⟨(some 21), .op (.load none (.tmp 20)), none⟩,
    ⟨(some 22), .op (.mov (.tmp 1)), none⟩,
    ⟨(some 23), .op (.buildSlice 1 1 [(.int .i64 0)] [(0, (.tmp 22))]), none⟩,
    ⟨(some 24), .op (.append 1 8 (.tmp 21) (.tmp 23)), none⟩,
    ⟨(some 25), .op (.fieldAddr 0 (.tmp 7)), none⟩,
    ⟨none, .op (.store 1 (.tmp 25) (.tmp 24)), none⟩])
  (.seq (.region [⟨(some 26), .op (.fieldAddr 1 (.tmp 7)), none⟩,
    ⟨(some 27), .op (.load none (.tmp 26)), none⟩,
    ⟨(some 28), .op (.mov (.tmp 2)), none⟩,
    ⟨(some 29), .op (.buildSlice 1 1 [(.int .i64 0)] [(0, (.tmp 28))]), none⟩,
    ⟨(some 30), .op (.append 1 8 (.tmp 27) (.tmp 29)), none⟩,
    ⟨(some 31), .op (.fieldAddr 1 (.tmp 7)), none⟩,
    ⟨none, .op (.store 1 (.tmp 31) (.tmp 30)), none⟩])
  (.seq (.region [⟨(some 32), .op (.load (some 2) (.tmp 7)), none⟩,
    ⟨none, .op (.store 2 (.tmp 6) (.tmp 32)), none⟩])
  (.ret))))))),
  [.cell 6 (some 2)], none, none⟩
def A66 : AFun := ⟨.seq (.region [⟨(some 3), .op (.box (.tmp 0)), none⟩,
    ⟨(some 4), .op (.box (.tmp 1)), none⟩,
    ⟨(some 5), .op (.box (.tmp 2)), none⟩,
    ⟨(some 6), .op (.mov (.val (.int .i64 0))), none⟩])
  (.seq (.region [⟨(some 16), .op (.load (some 4) (.tmp 4)), none⟩,
    ⟨(some 17), .op (.fieldAddr 1 (.tmp 5)), none⟩,
    ⟨(some 18), .op (.load none (.tmp 17)), none⟩,
    ⟨(some 19), .call (.fnv 88) [(.tmp 16), (.tmp 18)], none⟩,
    ⟨(some 15), .op (.mov (.tmp 19)), none⟩,
    ⟨(some 20), .op (.extract (.tmp 15) 0), none⟩,
    ⟨(some 21), .op (.extract (.tmp 15) 1), none⟩,
    ⟨(some 7), .op (.mov (.tmp 20)), none⟩,
    ⟨(some 8), .op (.mov (.tmp 21)), none⟩])
  (.seq (.region [⟨(some 23), .op (.load (some 4) (.tmp 4)), none⟩,
    ⟨(some 24), .op (.fieldAddr 2 (.tmp 5)), none⟩,
    ⟨(some 25), .op (.load none (.tmp 24)), none⟩,
    ⟨(some 26), .call (.fnv 88) [(.tmp 23), (.tmp 25)], none⟩,
    ⟨(some 22), .op (.mov (.tmp 26)), none⟩,
    ⟨(some 27), .op (.extract (.tmp 22) 0), none⟩,
    ⟨(some 28), .op (.extract (.tmp 22) 1), none⟩,
    ⟨(some 9), .op (.mov (.tmp 27)), none⟩,
    ⟨(some 10), .op (.mov (.tmp 28)), none⟩])
  (.seq (.region [⟨(some 30), .op (.load (some 4) (.tmp 4)), none⟩,
    ⟨(some 31), .op (.fieldAddr 3 (.tmp 5)), none⟩,
    ⟨(some 32), .op (.load none (.tmp 31)), none⟩,
    ⟨(some 33), .call (.fnv 88) [(.tmp 30), (.tmp 32)], none⟩,
    ⟨(some 29), .op (.mov (.tmp 33)), none⟩,
    ⟨(some 34), .op (.extract (.tmp 29) 0), none⟩,
    ⟨(some 35), .op (.extract (.tmp 29) 1), none⟩,
    ⟨(some 11), .op (.mov (.tmp 34)), none⟩,
    ⟨(some 12), .op (.mov (.tmp 35)), none⟩])
  (.seq (.region [⟨(some 13), .op (.alloc [.nils, .nils]), none⟩])
  (.seq (.seq (.region [⟨(some 36), .op (.fieldAddr 0 (.tmp 5)), none⟩,
     ⟨(some 37), .op (.load none (.tmp 36)), none⟩])
   (.block 0 (.seq (.seq (.region [⟨(some 39), .op (.bin .eql (.tmp 37) (.val (.int .i64 1))), none⟩,
       ⟨(some 38), .op (.mov (.tmp 39)), none⟩])
     (.cond (.tmp 38) (.skip)
     (.region [⟨(some 40), .op (.bin .eql (.tmp 37) (.val (.int .i64 48))), none⟩,
      ⟨(some 38), .op (.mov (.tmp 40)), none⟩])))
    (.cond (.tmp 38) (.seq (.seq (.region [⟨(some 41), .op (.mov (.tmp 8)), none⟩,
        ⟨(some 42), .op (.un .not (.tmp 41)), none⟩])
      (.cond (.tmp 42) (.seq (.region [⟨(some 6), .op (.mov (.val (.int .i64 11))), none⟩])
       (.ret))
      (.skip)))
     (.seq (.seq (.region [⟨(some 43), .op (.mov (.tmp 7)), none⟩,
        ⟨(some 44), .op (.bin .neq (.tmp 43) (.val (.int .i64 0))), none⟩,
        ⟨(some 45), .op (.mov (.tmp 44)), none⟩,
        ⟨(some 46), .op (.mov (.tmp 7)), (some (45, true))⟩,
        ⟨(some 47), .op (.bin .neq (.tmp 46) (.val (.int .i64 1))), (some (45, true))⟩,
        ⟨(some 48), .op (.pick (.tmp 45) (.tmp 47) (.val (.bool false))), none⟩])
      (.cond (.tmp 48) (.seq (.region [⟨(some 6), .op (.mov (.val (.int .i64 10))), none⟩])
       (.ret))
      (.skip)))
     (.seq (.region [⟨(some 6), .op (.mov (.val (.int .i64 0))), none⟩])
     (.ret))))
    (.seq (.region [⟨(some 50), .op (.bin .eql (.tmp 37) (.val (.int .i64 2))), none⟩,
      ⟨(some 49), .op (.mov (.tmp 50)), none⟩])
    (.cond (.tmp 49) (.seq (.seq (.region [⟨(some 51), .op (.mov (.tmp 8)), none⟩,
        ⟨(some 52), .op (.un .not (.tmp 51)), none⟩,
        ⟨(some 53), .op (.mov (.tmp 52)), none⟩,
        ⟨(some 54), .op (.mov (.tmp 10)), (some (53, false))⟩,
        ⟨(some 55), .op (.un .not (.tmp 54)), (some (53, false))⟩,
        ⟨(some 56), .op (.pick (.tmp 53) (.val (.bool true)) (.tmp 55)), none⟩])
      (.cond (.tmp 56) (.seq (.region [⟨(some 6), .op (.mov (.val (.int .i64 11))), none⟩])
       (.ret))
      (.skip)))
     (.seq (.seq (.region [⟨(some 57), .op (.mov (.tmp 7)), none⟩,
        ⟨(some 58), .op (.mov (.tmp 9)), none⟩,
        ⟨(some 59), .op (.bin .neq (.tmp 57) (.tmp 58)), none⟩])
      (.cond (.tmp 59) (.seq (.region [⟨(some 6), .op (.mov (.val (.int .i64 10))), none⟩])
       (.ret))
      (.skip)))
     (.seq (.region [⟨(some 6), .op (.mov (.val (.int .i64 0))), none⟩])
     (.ret))))
    (.seq (.region [⟨(some 61), .op (.bin .eql (.tmp 37) (.val (.int .i64 23))), none⟩,
      ⟨(some 60), .op (.mov (.tmp 61)), none⟩])
    (.cond (.tmp 60) (.seq (.draw [⟨⟨(some 62), .op (.load (some 4) (.tmp 4)), none⟩, .read [5]⟩,
       ⟨⟨(some 63), .op (.load (some 2) (.tmp 13)), none⟩, .read []⟩,
       ⟨⟨(some 64), .op (.fieldAddr 1 (.tmp 5)), none⟩, .pure⟩,
       ⟨⟨(some 65), .op (.load none (.tmp 64)), none⟩, .read []⟩,
       ⟨⟨(some 66), .call (.fnv 65) [(.tmp 63), (.tmp 65), (.val (.int .i64 0))], none⟩, .act true⟩,
       ⟨⟨(some 67), .call (.fnv 64) [(.tmp 62), (.tmp 66)], none⟩, .act true⟩,
       ⟨⟨(some 14), .op (.mov (.tmp 67)), none⟩, .pure⟩])
     (.seq (.seq (.region [⟨(some 68), .op (.mov (.tmp 14)), none⟩,
        ⟨(some 69), .op (.bin .neq (.tmp 68) (.val (.int .i64 0))), none⟩])
      (.cond (.tmp 69) (.seq (.region [⟨(some 70), .op (.mov (.tmp 14)), none⟩,
         ⟨(some 6), .op (.mov (.tmp 70)), none⟩])
       (.ret))
      (.skip)))
     (.seq (.seq (.region [⟨(some 71), .op (.mov (.tmp 10)), none⟩,
        ⟨(some 72), .op (.un .not (.tmp 71)), none⟩,
        ⟨(some 73), .op (.mov (.tmp 72)), none⟩,
        ⟨(some 74), .op (.mov (.tmp 12)), (some (73, false))⟩,
        ⟨(some 75), .op (.un .not (.tmp 74)), (some (73, false))⟩,
        ⟨(some 76), .op (.pick (.tmp 73) (.val (.bool true)) (.tmp 75)), none⟩])
      (.cond (.tmp 76) (.seq (.region [⟨(some 6), .op (.mov (.val (.int .i64 11))), none⟩])
       (.ret))
      (.skip)))
     (.seq (.seq (.region [⟨(some 77), .op (.mov (.tmp 9)), none⟩,
        ⟨(some 78), .op (.mov (.tmp 11)), none⟩,
        ⟨(some 79), .op (.bin .neq (.tmp 77) (.tmp 78)), none⟩,
        ⟨(some 80), .op (.mov (.tmp 79)), none⟩,
        ⟨(some 81), .op (.mov (.tmp 9)), (some (80, false))⟩,
        ⟨(some 82), .call (.fnv 89) [(.tmp 81)], (some (80, false))⟩,
        ⟨(some 83), .op (.un .not (.tmp 82)), (some (80, false))⟩,
        ⟨(some 84), .op (.pick (.tmp 80) (.val (.bool true)) (.tmp 83)), none⟩])
      (.cond (.tmp 84) (.seq (.region [⟨(some 6), .op (.mov (.val (.int .i64 10))), none⟩])
       (.ret))
      (.skip)))
     (.seq (.region [⟨(some 6), .op (.mov (.val (.int .i64 0))), none⟩])
     (.ret))))))
    (.seq (.seq (.region [⟨(some 86), .op (.bin .eql (.tmp 37) (.val (.int .i64 24))), none⟩,
       ⟨(some 85), .op (.mov (.tmp 86)), none⟩])
     (.cond (.tmp 85) (.skip)
     (.region [⟨(some 87), .op (.bin .eql (.tmp 37) (.val (.int .i64 25))), none⟩,
      ⟨(some 85), .op (.mov (.tmp 87)), none⟩])))
    (.cond (.tmp 85) (.seq (.region [⟨(some 88), .op (.load (some 4) (.tmp 4)), none⟩,
       ⟨(some 89), .op (.load (some 6) (.tmp 5)), none⟩,
       ⟨(some 90), .call (.fnv 90) [(.tmp 88), (.tmp 89)], none⟩,
       ⟨(some 6), .op (.mov (.tmp 90)), none⟩])
     (.ret))
    (.seq (.seq (.region [⟨(some 92), .op (.bin .eql (.tmp 37) (.val (.int .i64 35))), none⟩,
       ⟨(some 91), .op (.mov (.tmp 92)), none⟩])
     (.cond (.tmp 91) (.skip)
     (.seq (.region [⟨(some 93), .op (.bin .eql (.tmp 37) (.val (.int .i64 36))), none⟩,
       ⟨(some 91), .op (.mov (.tmp 93)), none⟩])
     (.cond (.tmp 91) (.skip)
     (.seq (.region [⟨(some 94), .op (.bin .eql (.tmp 37) (.val (.int .i64 37))), none⟩,
       ⟨(some 91), .op (.mov (.tmp 94)), none⟩])
     (.cond (.tmp 91) (.skip)
     (.region [⟨(some 95), .op (.bin .eql (.tmp 37) (.val (.int .i64 38))), none⟩,
      ⟨(some 91), .op (.mov (.tmp 95)), none⟩])))))))
    (.cond (.tmp 91) (.seq (.region [⟨(some 96), .op (.load (some 3) (.tmp 3)), none⟩,
       ⟨(some 97), .op (.load (some 4) (.tmp 4)), none⟩,
       ⟨(some 98), .op (.load (some 6) (.tmp 5)), none⟩,
       ⟨(some 99), .call (.fnv 91) [(.tmp 96), (.tmp 97), (.tmp 98)], none⟩,
       ⟨(some 6), .op (.mov (.tmp 99)), none⟩])
     (.ret))
    (.seq (.seq (.region [⟨(some 101), .op (.bin .eql (.tmp 37) (.val (.int .i64 41))), none⟩,
       ⟨(some 100), .op (.mov (.tmp 101)), none⟩])
     (.cond (.tmp 100) (.skip)
     (.seq (.region [⟨(some 102), .op (.bin .eql (.tmp 37) (.val (.int .i64 44))), none⟩,
       ⟨(some 100), .op (.mov (.tmp 102)), none⟩])
     (.cond (.tmp 100) (.skip)
     (.seq (.region [⟨(some 103), .op (.bin .eql (.tmp 37) (.val (.int .i64 42))), none⟩,
       ⟨(some 100), .op (.mov (.tmp 103)), none⟩])
     (.cond (.tmp 100) (.skip)
     (.seq (.region [⟨(some 104), .op (.bin .eql (.tmp 37) (.val (.int .i64 43))), none⟩,
       ⟨(some 100), .op (.mov (.tmp 104)), none⟩])
     (.cond (.tmp 100) (.skip)
     (.region [⟨(some 105), .op (.bin .eql (.tmp 37) (.val (.int .i64 45))), none⟩,
      ⟨(some 100), .op (.mov (.tmp 105)), none⟩])))))))))
    (.cond (.tmp 100) (.seq (.region [⟨(some 106), .op (.load (some 4) (.tmp 4)), none⟩,
       ⟨(some 107), .op (.load (some 6) (.tmp 5)), none⟩,
       ⟨(some 108), .call (.fnv 92) [(.tmp 106), (.tmp 107)], none⟩,
       ⟨(some 6), .op (.mov (.tmp 108)), none⟩])
     (.ret))
    (.skip)))))))))))))))
  (.seq (.region [⟨(some 109), .op (.load (some 3) (.tmp 3)), none⟩,
    ⟨(some 110), .op (.load (some 4) (.tmp 4)), none⟩,
    ⟨(some 111), .op (.load (some 6) (.tmp 5)), none⟩,
    ⟨(some 112), .call (.fnv 93) [(.tmp 109), (.tmp 110), (.tmp 111)], none⟩,
    ⟨(some 6), .op (.mov (.tmp 112)), none⟩])
  (.ret))))))),
  [.tmp 6], none, none⟩
def A67 : AFun := ⟨.seq (.region [⟨(some 2), .op (.mov (.val .nils)), none⟩])
  (.seq (.region [⟨(some 3), .op (.mov (.val .nils)), none⟩])
  (.seq (.block 0 (.loop (.seq (.seq (.region [⟨(some 4), .op (.mov (.tmp 0)), none⟩,
        ⟨(some 5), .op (.bin .geq (.tmp 4) (.val (.int .u64 128))), none⟩])
      (.cond (.tmp 5) (.skip)
      (.exit 0)))
     (.block 1 (.seq (.region [⟨(some 6), .op (.mov (.tmp 3)), none⟩,
        ⟨(some 7), .op (.mov (.tmp 0)), none⟩,
        ⟨(some 8), .op (.bin .rem (.tmp 7) (.val (.int .u64 128))), none⟩,
        ⟨(some 9), .op (.bin .add (.tmp 8) (.val (.int .u64 128))), none⟩,
        ⟨(some 10), .op (.conv .u8 (.tmp 9)), none⟩,
        ⟨(some 11), .op (.buildSlice 1 1 [(.int .u8 0)] [(0, (.tmp 10))]), none⟩,
        ⟨(some 12), .op (.append 1 1 (.tmp 6) (.tmp 11)), none⟩,
        ⟨(some 3), .op (.mov (.tmp 12)), none⟩])
      (.region [⟨(some 13), .op (.mov (.tmp 0)), none⟩,
       ⟨(some 14), .op (.bin .quo (.tmp 13) (.val (.int .u64 128))), none⟩,
       ⟨(some 0), .op (.mov (.tmp 14)), none⟩]))))))
  (.seq (.region [⟨(some 15), .op (.mov (.tmp 3)), none⟩,
    ⟨(some 16), .op (.mov (.tmp 0)), none⟩,
    ⟨(some 17), .op (.conv .u8 (.tmp 16)), none⟩,
    ⟨(some 18), .op (.buildSlice 1 1 [(.int .u8 0)] [(0, (.tmp 17))]), none⟩,
    ⟨(some 19), .op (.append 1 1 (.tmp 15) (.tmp 18)), none⟩,
    ⟨(some 3), .op (.mov (.tmp 19)), none⟩])
  (.seq (.region [⟨(some 20), .op (.mov (.tmp 3)), none⟩,
    ⟨(some 2), .op (.mov (.tmp 20)), none⟩])
  (.ret))))),
  [.tmp 2], none, none⟩
def A81 : AFun := ⟨.seq (.region [⟨(some 4), .op (.mov (.val (.int .i64 0))), none⟩,
    ⟨(some 5), .op (.mov (.val (.bool false))), none⟩])
  (.seq (.seq (.region [⟨(some 6), .op (.mov (.tmp 1)), none⟩,
     ⟨(some 7), .op (.bin .lss (.tmp 6) (.val (.int .i64 0))), none⟩,
     ⟨(some 8), .op (.mov (.tmp 7)), none⟩,
     ⟨(some 9), .op (.mov (.tmp 1)), (some (8, false))⟩,
     ⟨(some 10), .op (.mov (.tmp 0)), (some (8, false))⟩,
     ⟨(some 11), .op (.nilCheck (.tmp 10)), (some (8, false))⟩,
     ⟨(some 12), .op (.fieldAddr 3 (.tmp 11)), (some (8, false))⟩,
     ⟨(some 13), .op (.fieldAddr 1 (.tmp 12)), (some (8, false))⟩,
     ⟨(some 14), .op (.load none (.tmp 13)), (some (8, false))⟩,
     ⟨(some 15), .op (.lenS (.tmp 14)), (some (8, false))⟩,
     ⟨(some 16), .op (.bin .geq (.tmp 9) (.tmp 15)), (some (8, false))⟩,
     ⟨(some 17), .op (.pick (.tmp 8) (.val (.bool true)) (.tmp 16)), none⟩])
   (.cond (.tmp 17) (.seq (.region [⟨(some 4), .op (.mov (.val (.int .i64 0))), none⟩,
      ⟨(some 5), .op (.mov (.val (.bool false))), none⟩])
    (.ret))
   (.skip)))
  (.seq (.region [⟨(some 18), .op (.mov (.tmp 0)), none⟩,
    ⟨(some 19), .op (.nilCheck (.tmp 18)), none⟩,
    ⟨(some 20), .op (.fieldAddr 3 (.tmp 19)), none⟩,
    ⟨(some 21), .op (.fieldAddr 1 (.tmp 20)), none⟩,
    ⟨(some 22), .op (.load none (.tmp 21)), none⟩,
    ⟨(some 23), .op (.mov (.tmp 1)), none⟩,
    ⟨(some 24), .op (.idxS 1 (.tmp 22) (.tmp 23)), none⟩,
    ⟨(some 25), .op (.load none (.tmp 24)), none⟩,
    ⟨(some 4), .op (.mov (.tmp 25)), none⟩,
    ⟨(some 5), .op (.mov (.val (.bool true))), none⟩])
  (.ret))),
  [.tmp 4, .tmp 5], none, none⟩
def A82 : AFun := ⟨.seq (.region [⟨(some 6), .op (.alloc [(.bool false), .nils]), none⟩,
    ⟨(some 7), .op (.mov (.val (.int .i64 0))), none⟩])
  (.seq (.region [⟨(some 12), .op (.mov (.tmp 0)), none⟩,
    ⟨(some 13), .op (.mov (.tmp 1)), none⟩,
    ⟨(some 14), .call (.fnv 81) [(.tmp 12), (.tmp 13)], none⟩,
    ⟨(some 11), .op (.mov (.tmp 14)), none⟩,
    ⟨(some 15), .op (.extract (.tmp 11) 0), none⟩,
    ⟨(some 16), .op (.extract (.tmp 11) 1), none⟩,
    ⟨(some 8), .op (.mov (.tmp 15)), none⟩,
    ⟨(some 9), .op (.mov (.tmp 16)), none⟩])
  (.seq (.seq (.region [⟨(some 17), .op (.mov (.tmp 9)), none⟩,
     ⟨(some 18), .op (.un .not (.tmp 17)), none⟩])
   (.cond (.tmp 18) (.seq (.region [⟨(some 19), .op (.build [(.bool false), .nils] []), none⟩,
      ⟨none, .op (.store 2 (.tmp 6) (.tmp 19)), none⟩,
      ⟨(some 7), .op (.mov (.val (.int .i64 11))), none⟩])
    (.ret))
   (.skip)))
  (.seq (.seq (.region [⟨(some 20), .op (.mov (.tmp 8)), none⟩,
     ⟨(some 21), .op (.bin .lss (.tmp 20) (.val (.int .i64 16))), none⟩,
     ⟨(some 22), .op (.mov (.tmp 21)), none⟩,
     ⟨(some 23), .op (.mov (.tmp 8)), (some (22, false))⟩,
     ⟨(some 24), .op (.bin .geq (.tmp 23) (.val (.int .i64 64))), (some (22, false))⟩,
     ⟨(some 25), .op (.pick (.tmp 22) (.val (.bool true)) (.tmp 24)), none⟩])
   (.cond (.tmp 25) (.seq (.region [⟨(some 26), .op (.build [(.bool false), .nils] []), none⟩,
      ⟨none, .op (.store 2 (.tmp 6) (.tmp 26)), none⟩,
      ⟨(some 7), .op (.mov (.val (.int .i64 10))), none⟩])
    (.ret))
   (.skip)))
  (.seq (.region [⟨(some 27), .op (.mov (.tmp 0)), none⟩,
    ⟨(some 28), .op (.nilCheck (.tmp 27)), none⟩,
    ⟨(some 29), .op (.fieldAddr 0 (.tmp 28)), none⟩,
    ⟨(some 30), .op (.fieldAddr 0 (.tmp 29)), none⟩,
    ⟨(some 31), .op (.load none (.tmp 30)), none⟩,
    ⟨(some 32), .op (.mov (.tmp 8)), none⟩,
    ⟨(some 33), .op (.bin .sub (.tmp 32) (.val (.int .i64 16))), none⟩,
    ⟨(some 34), .op (.idxS 2 (.tmp 31) (.tmp 33)), none⟩,
    ⟨(some 35), .op (.load (some 2) (.tmp 34)), none⟩,
    ⟨(some 10), .op (.alloc [(.bool false), .nils]), none⟩,
    ⟨none, .op (.store 2 (.tmp 10) (.tmp 35)), none⟩])
  (.seq (.seq (.region [⟨(some 36), .op (.fieldAddr 0 (.tmp 10)), none⟩,
     ⟨(some 37), .op (.load none (.tmp 36)), none⟩,
     ⟨(some 38), .op (.mov (.tmp 2)), none⟩,
     ⟨(some 39), .op (.eql true .bool (.tmp 37) (.tmp 38)), none⟩])
   (.cond (.tmp 39) (.seq (.region [⟨(some 40), .op (.build [(.bool false), .nils] []), none⟩,
      ⟨none, .op (.store 2 (.tmp 6) (.tmp 40)), none⟩,
      ⟨(some 7), .op (.mov (.val (.int .i64 14))), none⟩])
    (.ret))
   (.skip)))
  (.seq (.region [⟨(some 41), .op (.load (some 2) (.tmp 10)), none⟩,
    ⟨none, .op (.store 2 (.tmp 6) (.tmp 41)), none⟩,
    ⟨(some 7), .op (.mov (.val (.int .i64 0))), none⟩])
  (.ret))))))),
  [.cell 6 (some 2), .tmp 7], none, none⟩
def A83 : AFun := ⟨.seq (.region [⟨(some 6), .op (.mov (.val (.int .i64 0))), none⟩])
  (.seq (.seq (.region [⟨(some 10), .op (.mov (.tmp 1)), none⟩,
     ⟨(some 11), .op (.lenS (.tmp 10)), none⟩,
     ⟨(some 12), .op (.mov (.tmp 2)), none⟩,
     ⟨(some 13), .op (.lenS (.tmp 12)), none⟩,
     ⟨(some 14), .op (.bin .neq (.tmp 11) (.tmp 13)), none⟩])
   (.cond (.tmp 14) (.seq (.region [⟨(some 6), .op (.mov (.val (.int .i64 16))), none⟩])
    (.ret))
   (.skip)))
  (.seq (.region [⟨(some 7), .op (.mov (.val .nils)), none⟩])
  (.seq (.seq (.region [⟨(some 15), .op (.mov (.tmp 1)), none⟩,
     ⟨(some 16), .op (.lenS (.tmp 15)), none⟩,
     ⟨(some 17), .op (.mov (.val (.int .i64 0))), none⟩])
   (.block 0 (.loop (.seq (.region [⟨(some 18), .op (.bin .lss (.tmp 17) (.tmp 16)), none⟩])
     (.seq (.cond (.tmp 18) (.skip)
      (.exit 0))
     (.seq (.block 1 (.seq (.region [⟨(some 19), .op (.mov (.tmp 17)), none⟩,
         ⟨(some 20), .op (.idxS 1 (.tmp 15) (.tmp 17)), none⟩,
         ⟨(some 21), .op (.load none (.tmp 20)), none⟩,
         ⟨(some 8), .op (.mov (.tmp 19)), none⟩,
         ⟨(some 9), .op (.mov (.tmp 21)), none⟩])
       (.region [⟨(some 22), .op (.mov (.tmp 7)), none⟩,
        ⟨(some 23), .op (.mov (.tmp 9)), none⟩,
        ⟨(some 24), .op (.mov (.tmp 2)), none⟩,
        ⟨(some 25), .op (.mov (.tmp 8)), none⟩,
        ⟨(some 26), .op (.idxS 1 (.tmp 24) (.tmp 25)), none⟩,
        ⟨(some 27), .op (.load none (.tmp 26)), none⟩,
        ⟨(some 28), .op (.buildSlice 1 2 [(.int .i64 0)] [(0, (.tmp 23)), (1, (.tmp 27))]), none⟩,
        ⟨(some 29), .op (.append 1 8 (.tmp 22) (.tmp 28)), none⟩,
        ⟨(some 7), .op (.mov (.tmp 29)), none⟩])))
     (.region [⟨(some 30), .op (.bin .add (.tmp 17) (.val (.int .i64 1))), none⟩,
      ⟨(some 17), .op (.mov (.tmp 30)), none⟩])))))))
  (.seq (.region [⟨(some 31), .op (.mov (.tmp 0)), none⟩,
    ⟨(some 32), .op (.mov (.tmp 7)), none⟩,
    ⟨(some 33), .call (.fnv 56) [(.tmp 31), (.tmp 32)], none⟩,
    ⟨(some 6), .op (.mov (.tmp 33)), none⟩])
  (.ret))))),
  [.tmp 6], none, none⟩
def A84 : AFun := ⟨.seq (.region [⟨(some 4), .op (.mov (.val (.int .i64 0))), none⟩,
    ⟨(some 5), .op (.mov (.val (.int .i64 0))), none⟩])
  (.seq (.region [⟨(some 9), .op (.mov (.tmp 0)), none⟩,
    ⟨(some 10), .op (.mov (.tmp 1)), none⟩,
    ⟨(some 11), .call (.fnv 81) [(.tmp 9), (.tmp 10)], none⟩,
    ⟨(some 8), .op (.mov (.tmp 11)), none⟩,
    ⟨(some 12), .op (.extract (.tmp 8) 0), none⟩,
    ⟨(some 13), .op (.extract (.tmp 8) 1), none⟩,
    ⟨(some 6), .op (.mov (.tmp 12)), none⟩,
    ⟨(some 7), .op (.mov (.tmp 13)), none⟩])
  (.seq (.seq (.region [⟨(some 14), .op (.mov (.tmp 7)), none⟩,
     ⟨(some 15), .op (.un .not (.tmp 14)), none⟩])
   (.cond (.tmp 15) (.seq (.region [⟨(some 4), .op (.mov (.val (.int .i64 0))), none⟩,
      ⟨(some 5), .op (.mov (.val (.int .i64 11))), none⟩])
    (.ret))
   (.skip)))
  (.seq (.seq (.region [⟨(some 16), .op (.mov (.tmp 6)), none⟩,
     ⟨(some 17), .op (.bin .lss (.tmp 16) (.val (.int .i64 64))), none⟩])
   (.cond (.tmp 17) (.seq (.region [⟨(some 4), .op (.mov (.val (.int .i64 0))), none⟩,
      ⟨(some 5), .op (.mov (.val (.int .i64 10))), none⟩])
    (.ret))
   (.skip)))
  (.seq (.region [⟨(some 18), .op (.mov (.tmp 6)), none⟩,
    ⟨(some 19), .op (.bin .sub (.tmp 18) (.val (.int .i64 64))), none⟩,
    ⟨(some 4), .op (.mov (.tmp 19)), none⟩,
    ⟨(some 5), .op (.mov (.val (.int .i64 0))), none⟩])
  (.ret))))),
  [.tmp 4, .tmp 5], none, none⟩
def A85 : AFun := ⟨.seq (.region [⟨(some 3), .op (.box (.tmp 1)), none⟩,
    ⟨(some 4), .op (.mov (.val (.int .i64 0))), none⟩])
  (.seq (.seq (.region [⟨(some 8), .op (.fieldAddr 2 (.tmp 3)), none⟩,
     ⟨(some 9), .op (.load none (.tmp 8)), none⟩,
     ⟨(some 10), .op (.bin .lss (.tmp 9) (.val (.int .i64 0))), none⟩,
     ⟨(some 11), .op (.mov (.tmp 10)), none⟩,
     ⟨(some 12), .op (.fieldAddr 2 (.tmp 3)), (some (11, false))⟩,
     ⟨(some 13), .op (.load none (.tmp 12)), (some (11, false))⟩,
     ⟨(some 14), .op (.bin .gtr (.tmp 13) (.val (.int .i64 1))), (some (11, false))⟩,
     ⟨(some 15), .op (.pick (.tmp 11) (.val (.bool true)) (.tmp 14)), none⟩,
     ⟨(some 16), .op (.mov (.tmp 15)), none⟩,
     ⟨(some 17), .op (.fieldAddr 5 (.tmp 3)), (some (16, false))⟩,
     ⟨(some 18), .op (.load none (.tmp 17)), (some (16, false))⟩,
     ⟨(some 19), .op (.lenS (.tmp 18)), (some (16, false))⟩,
     ⟨(some 20), .op (.bin .rem (.tmp 19) (.val (.int .i64 3))), (some (16, false))⟩,
     ⟨(some 21), .op (.bin .neq (.tmp 20) (.val (.int .i64 0))), (some (16, false))⟩,
     ⟨(some 22), .op (.pick (.tmp 16) (.val (.bool true)) (.tmp 21)), none⟩])
   (.cond (.tmp 22) (.seq (.region [⟨(some 4), .op (.mov (.val (.int .i64 16))), none⟩])
    (.ret))
   (.skip)))
  (.seq (.seq (.region [⟨(some 5), .op (.mov (.val (.int .i64 0))), none⟩])
   (.block 0 (.loop (.seq (.seq (.region [⟨(some 23), .op (.mov (.tmp 5)), none⟩,
        ⟨(some 24), .op (.fieldAddr 5 (.tmp 3)), none⟩,
        ⟨(some 25), .op (.load none (.tmp 24)), none⟩,
        ⟨(some 26), .op (.lenS (.tmp 25)), none⟩,
        ⟨(some 27), .op (.bin .lss (.tmp 23) (.tmp 26)), none⟩])
      (.cond (.tmp 27) (.skip)
      (.exit 0)))
     (.seq (.block 1 (.seq (.seq (.region [⟨(some 30), .op (.fieldAddr 5 (.tmp 3)), none⟩,
          ⟨(some 31), .op (.load none (.tmp 30)), none⟩,
          ⟨(some 32), .op (.mov (.tmp 5)), none⟩,
          ⟨(some 33), .op (.idxS 1 (.tmp 31) (.tmp 32)), none⟩,
          ⟨(some 34), .op (.load none (.tmp 33)), none⟩,
          ⟨(some 35), .op (.bin .neq (.tmp 34) (.val (.int .i64 0))), none⟩,
          ⟨(some 36), .op (.mov (.tmp 35)), none⟩,
          ⟨(some 37), .op (.fieldAddr 5 (.tmp 3)), (some (36, true))⟩,
          ⟨(some 38), .op (.load none (.tmp 37)), (some (36, true))⟩,
          ⟨(some 39), .op (.mov (.tmp 5)), (some (36, true))⟩,
          ⟨(some 40), .op (.idxS 1 (.tmp 38) (.tmp 39)), (some (36, true))⟩,
          ⟨(some 41), .op (.load none (.tmp 40)), (some (36, true))⟩,
          ⟨(some 42), .op (.bin .neq (.tmp 41) (.val (.int .i64 1))), (some (36, true))⟩,
          ⟨(some 43), .op (.pick (.tmp 36) (.tmp 42) (.val (.bool false))), none⟩])
        (.cond (.tmp 43) (.seq (.region [⟨(some 4), .op (.mov (.val (.int .i64 8))), none⟩])
         (.ret))
        (.skip)))
       (.seq (.region [⟨(some 45), .op (.mov (.tmp 0)), none⟩,
         ⟨(some 46), .op (.fieldAddr 5 (.tmp 3)), none⟩,
         ⟨(some 47), .op (.load none (.tmp 46)), none⟩,
         ⟨(some 48), .op (.mov (.tmp 5)), none⟩,
         ⟨(some 49), .op (.bin .add (.tmp 48) (.val (.int .i64 1))), none⟩,
         ⟨(some 50), .op (.idxS 1 (.tmp 47) (.tmp 49)), none⟩,
         ⟨(some 51), .op (.load none (.tmp 50)), none⟩,
         ⟨(some 52), .call (.fnv 84) [(.tmp 45), (.tmp 51)], none⟩,
         ⟨(some 44), .op (.mov (.tmp 52)), none⟩,
         ⟨(some 53), .op (.extract (.tmp 44) 0), none⟩,
         ⟨(some 54), .op (.extract (.tmp 44) 1), none⟩,
         ⟨(some 6), .op (.mov (.tmp 53)), none⟩,
         ⟨(some 7), .op (.mov (.tmp 54)), none⟩])
       (.seq (.seq (.region [⟨(some 55), .op (.mov (.tmp 7)), none⟩,
          ⟨(some 56), .op (.bin .neq (.tmp 55) (.val (.int .i64 0))), none⟩])
        (.cond (.tmp 56) (.seq (.region [⟨(some 57), .op (.mov (.tmp 7)), none⟩,
           ⟨(some 4), .op (.mov (.tmp 57)), none⟩])
         (.ret))
        (.skip)))
       (.seq (.region [⟨(some 58), .op (.mov (.tmp 0)), none⟩,
         ⟨(some 59), .op (.fieldAddr 5 (.tmp 3)), none⟩,
         ⟨(some 60), .op (.load none (.tmp 59)), none⟩,
         ⟨(some 61), .op (.mov (.tmp 5)), none⟩,
         ⟨(some 62), .op (.bin .add (.tmp 61) (.val (.int .i64 2))), none⟩,
         ⟨(some 63), .op (.idxS 1 (.tmp 60) (.tmp 62)), none⟩,
         ⟨(some 64), .op (.load none (.tmp 63)), none⟩,
         ⟨(some 65), .op (.mov (.tmp 6)), none⟩,
         ⟨(some 66), .op (.buildSlice 1 2 [(.int .i64 0)] [(0, (.tmp 64)), (1, (.tmp 65))]), none⟩,
         ⟨(some 67), .call (.fnv 56) [(.tmp 58), (.tmp 66)], none⟩,
         ⟨(some 7), .op (.mov (.tmp 67)), none⟩])
       (.seq (.region [⟨(some 68), .op (.mov (.tmp 7)), none⟩,
         ⟨(some 69), .op (.bin .neq (.tmp 68) (.val (.int .i64 0))), none⟩])
       (.cond (.tmp 69) (.seq (.region [⟨(some 70), .op (.mov (.tmp 7)), none⟩,
          ⟨(some 4), .op (.mov (.tmp 70)), none⟩])
        (.ret))
       (.skip))))))))
     (.region [⟨(some 28), .op (.mov (.tmp 5)), none⟩,
      ⟨(some 29), .op (.bin .add (.tmp 28) (.val (.int .i64 3))), none⟩,
      ⟨(some 5), .op (.mov (.tmp 29)), none⟩]))))))
  (.seq (.region [⟨(some 71), .op (.mov (.tmp 0)), none⟩,
    ⟨(some 72), .op (.fieldAddr 1 (.tmp 3)), none⟩,
    ⟨(some 73), .op (.load none (.tmp 72)), none⟩,
    ⟨(some 74), .op (.buildSlice 1 2 [(.int .i64 0)] [(0, (.tmp 73)), (1, (.val (.int .i64 0)))]), none⟩,
    ⟨(some 75), .call (.fnv 56) [(.tmp 71), (.tmp 74)], none⟩,
    ⟨(some 4), .op (.mov (.tmp 75)), none⟩])
  (.ret)))),
  [.tmp 4], none, none⟩
def A86 : AFun := ⟨.seq (.region [⟨(some 2), .op (.mov (.val (.str ⟨#[]⟩))), none⟩])
  (.seq (.seq (.region [⟨(some 3), .op (.mov (.tmp 0)), none⟩])
   (.block 0 (.seq (.seq (.region [⟨(some 5), .op (.bin .eql (.tmp 3) (.val (.int .i64 1))), none⟩,
       ⟨(some 4), .op (.mov (.tmp 5)), none⟩])
     (.cond (.tmp 4) (.skip)
     (.region [⟨(some 6), .op (.bin .eql (.tmp 3) (.val (.int .i64 41))), none⟩,
      ⟨(some 4), .op (.mov (.tmp 6)), none⟩])))
    (.cond (.tmp 4) (.seq (.region [⟨(some 2), .op (.mov (.val (.str ⟨#[97, 109]⟩))), none⟩])
     (.ret))
    (.seq (.region [⟨(some 8), .op (.bin .eql (.tmp 3) (.val (.int .i64 36))), none⟩,
      ⟨(some 7), .op (.mov (.tmp 8)), none⟩])
    (.cond (.tmp 7) (.seq (.region [⟨(some 2), .op (.mov (.val (.str ⟨#[108]⟩))), none⟩])
     (.ret))
    (.seq (.seq (.region [⟨(some 10), .op (.bin .eql (.tmp 3) (.val (.int .i64 35))), none⟩,
       ⟨(some 9), .op (.mov (.tmp 10)), none⟩])
     (.cond (.tmp 9) (.skip)
     (.seq (.region [⟨(some 11), .op (.bin .eql (.tmp 3) (.val (.int .i64 37))), none⟩,
       ⟨(some 9), .op (.mov (.tmp 11)), none⟩])
     (.cond (.tmp 9) (.skip)
     (.region [⟨(some 12), .op (.bin .eql (.tmp 3) (.val (.int .i64 38))), none⟩,
      ⟨(some 9), .op (.mov (.tmp 12)), none⟩])))))
    (.cond (.tmp 9) (.seq (.region [⟨(some 2), .op (.mov (.val (.str ⟨#[97, 108]⟩))), none⟩])
     (.ret))
    (.seq (.region [⟨(some 14), .op (.bin .eql (.tmp 3) (.val (.int .i64 45))), none⟩,
      ⟨(some 13), .op (.mov (.tmp 14)), none⟩])
    (.cond (.tmp 13) (.seq (.region [⟨(some 2), .op (.mov (.val (.str ⟨#[97, 98, 108]⟩))), none⟩])
     (.ret))
    (.seq (.region [⟨(some 16), .op (.bin .eql (.tmp 3) (.val (.int .i64 47))), none⟩,
      ⟨(some 15), .op (.mov (.tmp 16)), none⟩])
    (.cond (.tmp 15) (.seq (.region [⟨(some 2), .op (.mov (.val (.str ⟨#[]⟩))), none⟩])
     (.ret))
    (.seq (.seq (.region [⟨(some 18), .op (.bin .eql (.tmp 3) (.val (.int .i64 24))), none⟩,
       ⟨(some 17), .op (.mov (.tmp 18)), none⟩])
     (.cond (.tmp 17) (.skip)
     (.seq (.region [⟨(some 19), .op (.bin .eql (.tmp 3) (.val (.int .i64 39))), none⟩,
       ⟨(some 17), .op (.mov (.tmp 19)), none⟩])
     (.cond (.tmp 17) (.skip)
     (.seq (.region [⟨(some 20), .op (.bin .eql (.tmp 3) (.val (.int .i64 44))), none⟩,
       ⟨(some 17), .op (.mov (.tmp 20)), none⟩])
     (.cond (.tmp 17) (.skip)
     (.seq (.region [⟨(some 21), .op (.bin .eql (.tmp 3) (.val (.int .i64 46))), none⟩,
       ⟨(some 17), .op (.mov (.tmp 21)), none⟩])
     (.cond (.tmp 17) (.skip)
     (.seq (.region [⟨(some 22), .op (.bin .eql (.tmp 3) (.val (.int .i64 48))), none⟩,
       ⟨(some 17), .op (.mov (.tmp 22)), none⟩])
     (.cond (.tmp 17) (.skip)
     (.region [⟨(some 23), .op (.bin .eql (.tmp 3) (.val (.int .i64 52))), none⟩,
      ⟨(some 17), .op (.mov (.tmp 23)), none⟩])))))))))))
    (.cond (.tmp 17) (.seq (.region [⟨(some 2), .op (.mov (.val (.str ⟨#[97]⟩))), none⟩])
     (.ret))
    (.seq (.seq (.region [⟨(some 25), .op (.bin .eql (.tmp 3) (.val (.int .i64 2))), none⟩,
       ⟨(some 24), .op (.mov (.tmp 25)), none⟩])
     (.cond (.tmp 24) (.skip)
     (.seq (.region [⟨(some 26), .op (.bin .eql (.tmp 3) (.val (.int .i64 21))), none⟩,
       ⟨(some 24), .op (.mov (.tmp 26)), none⟩])
     (.cond (.tmp 24) (.skip)
     (.seq (.region [⟨(some 27), .op (.bin .eql (.tmp 3) (.val (.int .i64 22))), none⟩,
       ⟨(some 24), .op (.mov (.tmp 27)), none⟩])
     (.cond (.tmp 24) (.skip)
     (.seq (.region [⟨(some 28), .op (.bin .eql (.tmp 3) (.val (.int .i64 25))), none⟩,
       ⟨(some 24), .op (.mov (.tmp 28)), none⟩])
     (.cond (.tmp 24) (.skip)
     (.seq (.region [⟨(some 29), .op (.bin .eql (.tmp 3) (.val (.int .i64 26))), none⟩,
       ⟨(some 24), .op (.mov (.tmp 29)), none⟩])
     (.cond (.tmp 24) (.skip)
     (.seq (.region [⟨(some 30), .op (.bin .eql (.tmp 3) (.val (.int .i64 28))), none⟩,
       ⟨(some 24), .op (.mov (.tmp 30)), none⟩])
     (.cond (.tmp 24) (.skip)
     (.seq (.region [⟨(some 31), .op (.bin .eql (.tmp 3) (.val (.int .i64 33))), none⟩,
       ⟨(some 24), .op (.mov (.tmp 31)), none⟩])
     (.cond (.tmp 24) (.skip)
     (.seq (.region [⟨(some 32), .op (.bin .eql (.tmp 3) (.val (.int .i64 34))), none⟩,
       ⟨(some 24), .op (.mov (.tmp 32)), none⟩])
     (.cond (.tmp 24) (.skip)
     (.seq (.region [⟨(some 33), .op (.bin .eql (.tmp 3) (.val (.int .i64 40))), none⟩,
       ⟨(some 24), .op (.mov (.tmp 33)), none⟩])
     (.cond (.tmp 24) (.skip)
     (.seq (.region [⟨(some 34), .op (.bin .eql (.tmp 3) (.val (.int .i64 42))), none⟩,
       ⟨(some 24), .op (.mov (.tmp 34)), none⟩])
     (.cond (.tmp 24) (.skip)
     (.seq (.region [⟨(some 35), .op (.bin .eql (.tmp 3) (.val (.int .i64 49))), none⟩,
       ⟨(some 24), .op (.mov (.tmp 35)), none⟩])
     (.cond (.tmp 24) (.skip)
     (.seq (.region [⟨(some 36), .op (.bin .eql (.tmp 3) (.val (.int .i64 50))), none⟩,
       ⟨(some 24), .op (.mov (.tmp 36)), none⟩])
     (.cond (.tmp 24) (.skip)
     (.region [⟨(some 37), .op (.bin .eql (.tmp 3) (.val (.int .i64 51))), none⟩,
      ⟨(some 24), .op (.mov (.tmp 37)), none⟩])))))))))))))))))))))))))
    (.cond (.tmp 24) (.seq (.region [⟨(some 2), .op (.mov (.val (.str ⟨#[97, 98]⟩))), none⟩])
     (.ret))
    (.skip)))))))))))))))))
  (.seq (.region [⟨(some 2), .op (.mov (.val (.str ⟨#[97, 98, 99]⟩))), none⟩])
  (.ret))),
  [.tmp 2], none, none⟩
def A87 : AFun := ⟨.seq (.region [⟨(some 4), .op (.mov (.val (.bool false))), none⟩])
  (.seq (.seq (.region [⟨(some 5), .op (.mov (.val (.int .i64 0))), none⟩])
   (.block 0 (.loop (.seq (.seq (.region [⟨(some 6), .op (.mov (.tmp 5)), none⟩,
        ⟨(some 7), .op (.mov (.tmp 0)), none⟩,
        ⟨(some 8), .op (.lenT (.tmp 7)), none⟩,
        ⟨(some 9), .op (.bin .lss (.tmp 6) (.tmp 8)), none⟩])
      (.cond (.tmp 9) (.skip)
      (.exit 0)))
     (.seq (.block 1 (.seq (.region [⟨(some 12), .op (.mov (.tmp 0)), none⟩,
         ⟨(some 13), .op (.mov (.tmp 5)), none⟩,
         ⟨(some 14), .op (.indexStr (.tmp 12) (.tmp 13)), none⟩,
         ⟨(some 15), .op (.mov (.tmp 1)), none⟩,
         ⟨(some 16), .op (.bin .eql (.tmp 14) (.tmp 15)), none⟩])
       (.cond (.tmp 16) (.seq (.region [⟨(some 4), .op (.mov (.val (.bool true))), none⟩])
        (.ret))
       (.skip))))
     (.region [⟨(some 10), .op (.mov (.tmp 5)), none⟩,
      ⟨(some 11), .op (.bin .add (.tmp 10) (.val (.int .i64 1))), none⟩,
      ⟨(some 5), .op (.mov (.tmp 11)), none⟩]))))))
  (.seq (.region [⟨(some 4), .op (.mov (.val (.bool false))), none⟩])
  (.ret))),
  [.tmp 4], none, none⟩
def A88 : AFun := ⟨.seq (.region [⟨(some 2), .op (.box (.tmp 0)), none⟩,
    ⟨(some 4), .op (.mov (.val (.int .i64 0))), none⟩,
    ⟨(some 5), .op (.mov (.val (.bool false))), none⟩])
  (.seq (.seq (.region [⟨(some 6), .op (.mov (.tmp 1)), none⟩,
     ⟨(some 7), .op (.bin .lss (.tmp 6) (.val (.int .i64 0))), none⟩,
     ⟨(some 8), .op (.mov (.tmp 7)), none⟩,
     ⟨(some 9), .op (.mov (.tmp 1)), (some (8, false))⟩,
     ⟨(some 10), .op (.fieldAddr 1 (.tmp 2)), (some (8, false))⟩,
     ⟨(some 11), .op (.load none (.tmp 10)), (some (8, false))⟩,
     ⟨(some 12), .op (.lenS (.tmp 11)), (some (8, false))⟩,
     ⟨(some 13), .op (.bin .geq (.tmp 9) (.tmp 12)), (some (8, false))⟩,
     ⟨(some 14), .op (.pick (.tmp 8) (.val (.bool true)) (.tmp 13)), none⟩])
   (.cond (.tmp 14) (.seq (.region [⟨(some 4), .op (.mov (.val (.int .i64 0))), none⟩,
      ⟨(some 5), .op (.mov (.val (.bool false))), none⟩])
    (.ret))
   (.skip)))
  (.seq (.region [⟨(some 15), .op (.fieldAddr 1 (.tmp 2)), none⟩,
    ⟨(some 16), .op (.load none (.tmp 15)), none⟩,
    ⟨(some 17), .op (.mov (.tmp 1)), none⟩,
    ⟨(some 18), .op (.idxS 1 (.tmp 16) (.tmp 17)), none⟩,
    ⟨(some 19), .op (.load none (.tmp 18)), none⟩,
    ⟨(some 4), .op (.mov (.tmp 19)), none⟩,
    ⟨(some 5), .op (.mov (.val (.bool true))), none⟩])
  (.ret))),
  [.tmp 4, .tmp 5], none, none⟩
def A89 : AFun := ⟨.seq (.region [⟨(some 2), .op (.mov (.val (.bool false))), none⟩])
  (.seq (.region [⟨(some 3), .op (.mov (.tmp 0)), none⟩,
    ⟨(some 4), .op (.bin .geq (.tmp 3) (.val (.int .i64 16))), none⟩,
    ⟨(some 2), .op (.mov (.tmp 4)), none⟩])
  (.ret)),
  [.tmp 2], none, none⟩
def A90 : AFun := ⟨.seq (.region [⟨(some 2), .op (.box (.tmp 0)), none⟩,
    ⟨(some 3), .op (.box (.tmp 1)), none⟩,
    ⟨(some 4), .op (.mov (.val (.int .i64 0))), none⟩])
  (.seq (.region [⟨(some 8), .op (.fieldAddr 1 (.tmp 3)), none⟩,
    ⟨(some 9), .op (.load none (.tmp 8)), none⟩,
    ⟨(some 5), .op (.mov (.tmp 9)), none⟩])
  (.seq (.seq (.region [⟨(some 10), .op (.fieldAddr 0 (.tmp 3)), none⟩,
     ⟨(some 11), .op (.load none (.tmp 10)), none⟩,
     ⟨(some 12), .op (.bin .eql (.tmp 11) (.val (.int .i64 25))), none⟩])
   (.cond (.tmp 12) (.seq (.region [⟨(some 6), .op (.alloc [.nils, .nils]), none⟩])
    (.seq (.draw [⟨⟨(some 13), .op (.load (some 4) (.tmp 2)), none⟩, .read [5]⟩,
      ⟨⟨(some 14), .op (.load (some 2) (.tmp 6)), none⟩, .read []⟩,
      ⟨⟨(some 15), .op (.fieldAddr 1 (.tmp 3)), none⟩, .pure⟩,
      ⟨⟨(some 16), .op (.load none (.tmp 15)), none⟩, .read []⟩,
      ⟨⟨(some 17), .call (.fnv 65) [(.tmp 14), (.tmp 16), (.val (.int .i64 0))], none⟩, .act true⟩,
      ⟨⟨(some 18), .call (.fnv 64) [(.tmp 13), (.tmp 17)], none⟩, .act true⟩,
      ⟨⟨(some 7), .op (.mov (.tmp 18)), none⟩, .pure⟩])
    (.seq (.seq (.region [⟨(some 19), .op (.mov (.tmp 7)), none⟩,
       ⟨(some 20), .op (.bin .neq (.tmp 19) (.val (.int .i64 0))), none⟩])
     (.cond (.tmp 20) (.seq (.region [⟨(some 21), .op (.mov (.tmp 7)), none⟩,
        ⟨(some 4), .op (.mov (.tmp 21)), none⟩])
      (.ret))
     (.skip)))
    (.region [⟨(some 22), .op (.fieldAddr 2 (.tmp 3)), none⟩,
     ⟨(some 23), .op (.load none (.tmp 22)), none⟩,
     ⟨(some 5), .op (.mov (.tmp 23)), none⟩]))))
   (.skip)))
  (.seq (.seq (.region [⟨(some 24), .op (.mov (.tmp 5)), none⟩,
     ⟨(some 25), .op (.bin .lss (.tmp 24) (.val (.int .i64 0))), none⟩,
     ⟨(some 26), .op (.mov (.tmp 25)), none⟩,
     ⟨(some 27), .op (.mov (.tmp 5)), (some (26, false))⟩,
     ⟨(some 28), .op (.fieldAddr 3 (.tmp 2)), (some (26, false))⟩,
     ⟨(some 29), .op (.load none (.tmp 28)), (some (26, false))⟩,
     ⟨(some 30), .op (.lenS (.tmp 29)), (some (26, false))⟩,
     ⟨(some 31), .op (.bin .geq (.tmp 27) (.tmp 30)), (some (26, false))⟩,
     ⟨(some 32), .op (.pick (.tmp 26) (.val (.bool true)) (.tmp 31)), none⟩])
   (.cond (.tmp 32) (.seq (.region [⟨(some 4), .op (.mov (.val (.int .i64 12))), none⟩])
    (.ret))
   (.skip)))
  (.seq (.region [⟨(some 4), .op (.mov (.val (.int .i64 0))), none⟩])
  (.ret))))),
  [.tmp 4], none, none⟩
def A91 : AFun := ⟨.seq (.region [⟨(some 3), .op (.box (.tmp 0)), none⟩,
    ⟨(some 4), .op (.box (.tmp 1)), none⟩,
    ⟨(some 5), .op (.box (.tmp 2)), none⟩,
    ⟨(some 6), .op (.mov (.val (.int .i64 0))), none⟩])
  (.seq (.seq (.region [⟨(some 11), .op (.fieldAddr 0 (.tmp 5)), none⟩,
     ⟨(some 12), .op (.load none (.tmp 11)), none⟩,
     ⟨(some 13), .op (.bin .eql (.tmp 12) (.val (.int .i64 36))), none⟩])
   (.cond (.tmp 13) (.seq (.region [⟨(some 14), .op (.load (some 4) (.tmp 4)), none⟩,
      ⟨(some 15), .op (.fieldAddr 5 (.tmp 5)), none⟩,
      ⟨(some 16), .op (.load none (.tmp 15)), none⟩,
      ⟨(some 17), .op (.fieldAddr 2 (.tmp 4)), none⟩,
      ⟨(some 18), .op (.load none (.tmp 17)), none⟩,
      ⟨(some 19), .call (.fnv 114) [(.tmp 14), (.tmp 16), (.tmp 18)], none⟩,
      ⟨(some 6), .op (.mov (.tmp 19)), none⟩])
    (.ret))
   (.skip)))
  (.seq (.seq (.region [⟨(some 20), .op (.fieldAddr 1 (.tmp 5)), none⟩,
     ⟨(some 21), .op (.load none (.tmp 20)), none⟩,
     ⟨(some 22), .op (.bin .lss (.tmp 21) (.val (.int .i64 0))), none⟩,
     ⟨(some 23), .op (.mov (.tmp 22)), none⟩,
     ⟨(some 24), .op (.fieldAddr 1 (.tmp 5)), (some (23, false))⟩,
     ⟨(some 25), .op (.load none (.tmp 24)), (some (23, false))⟩,
     ⟨(some 26), .op (.fieldAddr 2 (.tmp 3)), (some (23, false))⟩,
     ⟨(some 27), .op (.load none (.tmp 26)), (some (23, false))⟩,
     ⟨(some 28), .op (.lenS (.tmp 27)), (some (23, false))⟩,
     ⟨(some 29), .op (.bin .geq (.tmp 25) (.tmp 28)), (some (23, false))⟩,
     ⟨(some 30), .op (.pick (.tmp 23) (.val (.bool true)) (.tmp 29)), none⟩])
   (.cond (.tmp 30) (.seq (.region [⟨(some 6), .op (.mov (.val (.int .i64 13))), none⟩])
    (.ret))
   (.skip)))
  (.seq (.region [⟨(some 31), .op (.fieldAddr 2 (.tmp 3)), none⟩,
    ⟨(some 32), .op (.load none (.tmp 31)), none⟩,
    ⟨(some 33), .op (.fieldAddr 1 (.tmp 5)), none⟩,
    ⟨(some 34), .op (.load none (.tmp 33)), none⟩,
    ⟨(some 35), .op (.idxS 4 (.tmp 32) (.tmp 34)), none⟩,
    ⟨(some 36), .op (.load (some 4) (.tmp 35)), none⟩,
    ⟨(some 7), .op (.alloc [(.int .i64 0), .nils, .nils, .nils]), none⟩,
    ⟨none, .op (.store 4 (.tmp 7) (.tmp 36)), none⟩])
  (.seq (.region [⟨(some 8), .op (.mov (.val .nils)), none⟩])
  (.seq (.seq (.region [⟨(some 9), .op (.mov (.val (.int .i64 0))), none⟩])
   (.block 0 (.loop (.seq (.seq (.region [⟨(some 37), .op (.mov (.tmp 9)), none⟩,
        ⟨(some 38), .op (.fieldAddr 0 (.tmp 7)), none⟩,
        ⟨(some 39), .op (.load none (.tmp 38)), none⟩,
        ⟨(some 40), .op (.bin .lss (.tmp 37) (.tmp 39)), none⟩])
      (.cond (.tmp 40) (.skip)
      (.exit 0)))
     (.seq (.block 1 (.region [⟨(some 43), .op (.mov (.tmp 8)), none⟩,
        ⟨(some 44), .op (.fieldAddr 1 (.tmp 7)), none⟩,
        ⟨(some 45), .op (.load none (.tmp 44)), none⟩,
        ⟨(some 46), .op (.mov (.tmp 9)), none⟩,
        ⟨(some 47), .op (.idxS 1 (.tmp 45) (.tmp 46)), none⟩,
        ⟨(some 48), .op (.load none (.tmp 47)), none⟩,
        ⟨(some 49), .op (.buildSlice 1 1 [(.int .i64 0)] [(0, (.tmp 48))]), none⟩,
        ⟨(some 50), .op (.append 1 8 (.tmp 43) (.tmp 49)), none⟩,
        ⟨(some 8), .op (.mov (.tmp 50)), none⟩]))
     (.region [⟨(some 41), .op (.mov (.tmp 9)), none⟩,
      ⟨(some 42), .op (.bin .add (.tmp 41) (.val (.int .i64 1))), none⟩,
      ⟨(some 9), .op (.mov (.tmp 42)), none⟩]))))))
  (.seq (.seq (.region [⟨(some 51), .op (.fieldAddr 0 (.tmp 5)), none⟩,
     ⟨(some 52), .op (.load none (.tmp 51)), none⟩,
     ⟨(some 53), .op (.bin .eql (.tmp 52) (.val (.int .i64 35))), none⟩])
   (.cond (.tmp 53) (.seq (.region [⟨(some 54), .op (.mov (.tmp 8)), none⟩,
      ⟨(some 55), .op (.fieldAddr 2 (.tmp 7)), none⟩,
      ⟨(some 56), .op (.load none (.tmp 55)), none⟩,
      ⟨(some 57), .op (.append 1 8 (.tmp 54) (.tmp 56)), none⟩,
      ⟨(some 8), .op (.mov (.tmp 57)), none⟩])
    (.seq (.region [⟨(some 58), .op (.load (some 4) (.tmp 4)), none⟩,
      ⟨(some 59), .op (.fieldAddr 5 (.tmp 5)), none⟩,
      ⟨(some 60), .op (.load none (.tmp 59)), none⟩,
      ⟨(some 61), .op (.mov (.tmp 8)), none⟩,
      ⟨(some 62), .call (.fnv 114) [(.tmp 58), (.tmp 60), (.tmp 61)], none⟩,
      ⟨(some 6), .op (.mov (.tmp 62)), none⟩])
    (.ret)))
   (.skip)))
  (.seq (.seq (.region [⟨(some 63), .op (.fieldAddr 2 (.tmp 7)), none⟩,
     ⟨(some 64), .op (.load none (.tmp 63)), none⟩,
     ⟨(some 65), .op (.lenS (.tmp 64)), none⟩,
     ⟨(some 66), .op (.bin .gtr (.tmp 65) (.val (.int .i64 0))), none⟩])
   (.cond (.tmp 66) (.seq (.region [⟨(some 6), .op (.mov (.val (.int .i64 13))), none⟩])
    (.ret))
   (.skip)))
  (.seq (.seq (.region [⟨(some 10), .op (.mov (.val (.int .i64 0))), none⟩])
   (.block 2 (.loop (.seq (.seq (.region [⟨(some 67), .op (.mov (.tmp 10)), none⟩,
        ⟨(some 68), .op (.mov (.tmp 8)), none⟩,
        ⟨(some 69), .op (.lenS (.tmp 68)), none⟩,
        ⟨(some 70), .op (.bin .lss (.tmp 67) (.tmp 69)), none⟩])
      (.cond (.tmp 70) (.skip)
      (.exit 2)))
     (.seq (.block 3 (.seq (.region [⟨(some 73), .op (.mov (.tmp 8)), none⟩,
         ⟨(some 74), .op (.mov (.tmp 10)), none⟩,
         ⟨(some 75), .op (.idxS 1 (.tmp 73) (.tmp 74)), none⟩,
         ⟨(some 76), .op (.load none (.tmp 75)), none⟩,
         ⟨(some 77), .op (.bin .eql (.tmp 76) (.val (.int .i64 2))), none⟩])
       (.cond (.tmp 77) (.seq (.region [⟨(some 6), .op (.mov (.val (.int .i64 10))), none⟩])
        (.ret))
       (.skip))))
     (.region [⟨(some 71), .op (.mov (.tmp 10)), none⟩,
      ⟨(some 72), .op (.bin .add (.tmp 71) (.val (.int .i64 1))), none⟩,
      ⟨(some 10), .op (.mov (.tmp 72)), none⟩]))))))
  (.seq (.region [⟨(some 78), .op (.load (some 4) (.tmp 4)), none⟩,
    ⟨(some 79), .op (.fieldAddr 5 (.tmp 5)), none⟩,
    ⟨(some 80), .op (.load none (.tmp 79)), none⟩,
    ⟨(some 81), .op (.mov (.tmp 8)), none⟩,
    ⟨(some 82), .call (.fnv 114) [(.tmp 78), (.tmp 80), (.tmp 81)], none⟩,
    ⟨(some 6), .op (.mov (.tmp 82)), none⟩])
  (.ret)))))))))),
  [.tmp 6], none, none⟩
end Go.Proofs.Ytofcnjglnnoimaa.AmGW
