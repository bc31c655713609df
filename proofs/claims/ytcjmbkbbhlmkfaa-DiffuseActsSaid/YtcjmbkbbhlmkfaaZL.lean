/- The functions of this seat as trees' code (printed). -/
import Derived.Test.YtcjmbkbbhlmkfaaZE
import Derived.Tactics
import Derived.IntWalk
import Derived.Test.YtcjmbkbbhlmkfaaProg
set_option linter.unusedVariables false
set_option linter.unusedSimpArgs false
namespace Go.Proofs.Ytcjmbkbbhlmkfaa
open Go.RowKit Go.Proofs
/-- clusterlocks/clusterlockslaw35.DiffuseActs -/
def F3 : Fr := ⟨214, [0, 1, 2, 3, 4, 10, 11, 12, 14, 16, 18, 19, 21, 23, 25, 27, 29]⟩
def a3 : ACode :=
  (.seq (.reg 0 [] [
      ⟨(.t 6), .box 7 (.v 1), none⟩,
      ⟨(.v 5), .asg (.c (.bool false)), none⟩] none ⟨[], [], [], []⟩)
  (.seq (.seq (.reg 1 [] [
      ⟨(.t 30), .mv (.v 0), none⟩,
      ⟨(.t 31), .call 7 [(.t 30)], none⟩,
      ⟨(.t 32), .un .not (.t 31), none⟩,
      ⟨(.t 33), .mv (.t 32), none⟩,
      ⟨(.t 34), .fa 0 (.t 6), some (33, false)⟩,
      ⟨(.t 35), .ld 1 false (.t 34), some (33, false)⟩,
      ⟨(.t 36), .call 7 [(.t 35)], some (33, false)⟩,
      ⟨(.t 37), .un .not (.t 36), some (33, false)⟩,
      ⟨(.t 38), .pick (.t 33) (.c (.bool true)) (.t 37), none⟩,
      ⟨(.t 39), .mv (.t 38), none⟩,
      ⟨(.t 40), .fa 2 (.t 6), some (39, false)⟩,
      ⟨(.t 41), .ld 1 false (.t 40), some (39, false)⟩,
      ⟨(.t 42), .len (.t 41), some (39, false)⟩,
      ⟨(.t 43), .bin .gtr (.t 42) (.c (.int .i64 60)), some (39, false)⟩,
      ⟨(.t 44), .pick (.t 39) (.c (.bool true)) (.t 43), none⟩,
      ⟨(.t 45), .mv (.t 44), none⟩,
      ⟨(.t 46), .fa 3 (.t 6), some (45, false)⟩,
      ⟨(.t 47), .ld 1 false (.t 46), some (45, false)⟩,
      ⟨(.t 48), .len (.t 47), some (45, false)⟩,
      ⟨(.t 49), .bin .gtr (.t 48) (.c (.int .i64 40)), some (45, false)⟩,
      ⟨(.t 50), .pick (.t 45) (.c (.bool true)) (.t 49), none⟩,
      ⟨(.t 51), .mv (.t 50), none⟩,
      ⟨(.t 52), .fa 4 (.t 6), some (51, false)⟩,
      ⟨(.t 53), .ld 1 false (.t 52), some (51, false)⟩,
      ⟨(.t 54), .len (.t 53), some (51, false)⟩,
      ⟨(.t 55), .bin .gtr (.t 54) (.c (.int .i64 40)), some (51, false)⟩,
      ⟨(.t 56), .pick (.t 51) (.c (.bool true)) (.t 55), none⟩,
      ⟨(.t 57), .mv (.t 56), none⟩,
      ⟨(.t 58), .fa 5 (.t 6), some (57, false)⟩,
      ⟨(.t 59), .ld 1 false (.t 58), some (57, false)⟩,
      ⟨(.t 60), .len (.t 59), some (57, false)⟩,
      ⟨(.t 61), .bin .gtr (.t 60) (.c (.int .i64 40)), some (57, false)⟩,
      ⟨(.t 62), .pick (.t 57) (.c (.bool true)) (.t 61), none⟩,
      ⟨(.t 63), .mv (.t 62), none⟩,
      ⟨(.t 64), .mv (.v 3), some (63, false)⟩,
      ⟨(.t 65), .len (.t 64), some (63, false)⟩,
      ⟨(.t 66), .bin .gtr (.t 65) (.c (.int .i64 120)), some (63, false)⟩,
      ⟨(.t 67), .pick (.t 63) (.c (.bool true)) (.t 66), none⟩,
      ⟨(.t 68), .mv (.t 67), none⟩,
      ⟨(.t 69), .mv (.v 4), some (68, false)⟩,
      ⟨(.t 70), .len (.t 69), some (68, false)⟩,
      ⟨(.t 71), .bin .gtr (.t 70) (.c (.int .i64 60)), some (68, false)⟩,
      ⟨(.t 72), .pick (.t 68) (.c (.bool true)) (.t 71), none⟩] none ⟨[], [], [], []⟩)
  (.cond (.t 72)
    (.seq (.reg 2 [] [
        ⟨(.t 73), .call 8 [], none⟩,
        ⟨(.v 5), .asg (.t 73), none⟩] none ⟨[], [], [], []⟩)
    .ret)
    .skip))
  (.seq (.reg 3 [] [
      ⟨(.t 74), .mv (.v 3), none⟩,
      ⟨(.t 75), .call 9 [(.t 74), (.c (.bool false))], none⟩,
      ⟨(.v 6), .asg (.t 75), none⟩] none ⟨[], [], [], []⟩)
  (.seq (.seq (.reg 4 [] [
      ⟨(.v 7), .asg (.c (.int .i64 (-1))), none⟩] none ⟨[], [], [], []⟩)
  (.block 0
    (.loop
      (.seq (.seq (.reg 5 [] [
          ⟨(.t 76), .mv (.v 7), none⟩,
          ⟨(.t 77), .mv (.v 6), none⟩,
          ⟨(.t 78), .len (.t 77), none⟩,
          ⟨(.t 79), .bin .leq (.t 76) (.t 78), none⟩] none ⟨[], [], [], []⟩)
      (.cond (.t 79)
        .skip
        (.exit 0)))
      (.seq (.block 1
        (.seq (.reg 7 [] [
            ⟨(.t 83), .mv (.v 6), none⟩,
            ⟨(.t 84), .mv (.v 7), none⟩,
            ⟨(.t 85), .call 10 [(.t 83), (.t 84)], none⟩,
            ⟨(.t 82), .mv (.t 85), none⟩,
            ⟨(.t 86), .ext 82 0, none⟩,
            ⟨(.t 87), .ext 82 1, none⟩,
            ⟨(.t 13), .allo [(.slice none 0 0), (.int .i64 0), (.slice none 0 0), (.slice none 0 0), (.slice none 0 0), (.slice none 0 0), (.bool false)], none⟩,
            ⟨.none, .st 7 (.t 13) (.t 86), none⟩,
            ⟨(.v 8), .asg (.t 87), none⟩] none ⟨[], [], [], []⟩)
        (.seq (.reg 8 [] [
            ⟨(.t 89), .mv (.v 6), none⟩,
            ⟨(.t 90), .mv (.v 7), none⟩,
            ⟨(.t 91), .call 11 [(.t 89), (.t 90)], none⟩,
            ⟨(.t 88), .mv (.t 91), none⟩,
            ⟨(.t 92), .ext 88 0, none⟩,
            ⟨(.t 93), .ext 88 1, none⟩,
            ⟨(.t 15), .allo [(.slice none 0 0), (.int .i64 0), (.slice none 0 0), (.slice none 0 0), (.slice none 0 0), (.slice none 0 0), (.bool false)], none⟩,
            ⟨.none, .st 7 (.t 15) (.t 92), none⟩,
            ⟨(.v 9), .asg (.t 93), none⟩] none ⟨[], [], [], []⟩)
        (.seq (.seq (.reg 9 [] [
            ⟨(.t 94), .mv (.v 8), none⟩,
            ⟨(.t 95), .mv (.v 9), none⟩,
            ⟨(.t 96), .bin .neq (.t 94) (.t 95), none⟩,
            ⟨(.t 97), .mv (.t 96), none⟩,
            ⟨(.t 98), .ld 7 true (.t 13), some (97, false)⟩,
            ⟨(.t 99), .ld 7 true (.t 15), some (97, false)⟩,
            ⟨(.t 100), .call 12 [(.t 98), (.t 99)], some (97, false)⟩,
            ⟨(.t 101), .un .not (.t 100), some (97, false)⟩,
            ⟨(.t 102), .pick (.t 97) (.c (.bool true)) (.t 101), none⟩] none ⟨[], [], [], []⟩)
        (.cond (.t 102)
          (.seq (.reg 10 [] [
              ⟨(.v 5), .asg (.c (.bool false)), none⟩] none ⟨[], [], [], []⟩)
          .ret)
          .skip))
        (.seq (.reg 11 [] [
            ⟨(.t 103), .mv (.v 4), none⟩,
            ⟨(.t 104), .len (.t 103), none⟩,
            ⟨(.t 105), .mv (.c (.int .i64 0)), none⟩] none ⟨[], [], [], []⟩)
        (.block 2
          (.loop
            (.seq (.reg 12 [] [
                ⟨(.t 106), .bin .lss (.t 105) (.t 104), none⟩] none ⟨[], [], [], []⟩)
            (.seq (.cond (.t 106)
              .skip
              (.exit 2))
            (.seq (.block 3
              (.seq (.reg 13 [] [
                  ⟨(.t 107), .ia 1 (.t 103) (.t 105), none⟩,
                  ⟨(.t 108), .ld 1 false (.t 107), none⟩,
                  ⟨(.v 10), .asg (.t 108), none⟩] none ⟨[], [], [], []⟩)
              (.seq (.seq (.reg 14 [] [
                  ⟨(.t 109), .mv (.v 9), none⟩,
                  ⟨(.t 110), .bin .neq (.t 109) (.c (.int .i64 0)), none⟩,
                  ⟨(.t 111), .mv (.t 110), none⟩,
                  ⟨(.t 112), .fa 2 (.t 15), some (111, false)⟩,
                  ⟨(.t 113), .ld 1 false (.t 112), some (111, false)⟩,
                  ⟨(.t 114), .len (.t 113), some (111, false)⟩,
                  ⟨(.t 115), .bin .eql (.t 114) (.c (.int .i64 0)), some (111, false)⟩,
                  ⟨(.t 116), .pick (.t 111) (.c (.bool true)) (.t 115), none⟩] none ⟨[], [], [], []⟩)
              (.cond (.t 116)
                (.exit 2)
                .skip))
              (.seq (.reg 15 [] [
                  ⟨(.t 117), .mv (.v 10), none⟩,
                  ⟨(.t 118), .fa 2 (.t 15), none⟩,
                  ⟨(.t 119), .ld 1 false (.t 118), none⟩,
                  ⟨(.t 120), .len (.t 119), none⟩,
                  ⟨(.t 121), .bin .add (.t 120) (.c (.int .i64 1)), none⟩,
                  ⟨(.t 122), .call 13 [(.t 117), (.t 121)], none⟩,
                  ⟨(.v 11), .asg (.t 122), none⟩] none ⟨[], [], [], []⟩)
              (.seq (.reg 16 [] [
                  ⟨(.t 124), .ld 7 true (.t 15), none⟩,
                  ⟨(.t 125), .mv (.v 11), none⟩,
                  ⟨(.t 126), .call 14 [(.t 124), (.t 125)], none⟩,
                  ⟨(.t 123), .mv (.t 126), none⟩,
                  ⟨(.t 127), .ext 123 0, none⟩,
                  ⟨(.t 128), .ext 123 1, none⟩,
                  ⟨.none, .st 7 (.t 13) (.t 127), none⟩,
                  ⟨(.v 8), .asg (.t 128), none⟩] none ⟨[], [], [], []⟩)
              (.seq (.reg 17 [] [
                  ⟨(.t 130), .ld 7 true (.t 15), none⟩,
                  ⟨(.t 131), .mv (.v 11), none⟩,
                  ⟨(.t 132), .call 15 [(.t 130), (.t 131)], none⟩,
                  ⟨(.t 129), .mv (.t 132), none⟩,
                  ⟨(.t 133), .ext 129 0, none⟩,
                  ⟨(.t 134), .ext 129 1, none⟩,
                  ⟨(.t 20), .allo [(.slice none 0 0), (.int .i64 0), (.slice none 0 0), (.slice none 0 0), (.slice none 0 0), (.slice none 0 0), (.bool false)], none⟩,
                  ⟨.none, .st 7 (.t 20) (.t 133), none⟩,
                  ⟨(.v 12), .asg (.t 134), none⟩] none ⟨[], [], [], []⟩)
              (.seq (.seq (.reg 18 [] [
                  ⟨(.t 135), .mv (.v 8), none⟩,
                  ⟨(.t 136), .mv (.v 12), none⟩,
                  ⟨(.t 137), .bin .neq (.t 135) (.t 136), none⟩,
                  ⟨(.t 138), .mv (.t 137), none⟩,
                  ⟨(.t 139), .ld 7 true (.t 13), some (138, false)⟩,
                  ⟨(.t 140), .ld 7 true (.t 20), some (138, false)⟩,
                  ⟨(.t 141), .call 12 [(.t 139), (.t 140)], some (138, false)⟩,
                  ⟨(.t 142), .un .not (.t 141), some (138, false)⟩,
                  ⟨(.t 143), .pick (.t 138) (.c (.bool true)) (.t 142), none⟩,
                  ⟨(.t 144), .mv (.t 143), none⟩,
                  ⟨(.t 145), .ld 7 true (.t 15), some (144, false)⟩,
                  ⟨(.t 146), .call 16 [(.t 145)], some (144, false)⟩,
                  ⟨(.t 147), .ld 7 true (.t 15), some (144, false)⟩,
                  ⟨(.t 148), .call 17 [(.t 147)], some (144, false)⟩,
                  ⟨(.t 149), .bib .neq (.t 146) (.t 148), some (144, false)⟩,
                  ⟨(.t 150), .pick (.t 144) (.c (.bool true)) (.t 149), none⟩] (some [[], [], [0, 1], [2], [3], [3], [4, 5, 3, 3], [6, 3], [3, 7], [8, 6], [9], [10, 9, 9], [9], [12, 11, 9], [11, 13, 9], [9, 14]]) ⟨[138, 15, 144], [], [], []⟩)
              (.cond (.t 150)
                (.seq (.reg 19 [] [
                    ⟨(.v 5), .asg (.c (.bool false)), none⟩] none ⟨[], [], [], []⟩)
                .ret)
                .skip))
              (.seq (.reg 20 [] [
                  ⟨(.t 151), .mv (.v 12), none⟩,
                  ⟨(.t 152), .bin .eql (.t 151) (.c (.int .i64 0)), none⟩] none ⟨[], [], [], []⟩)
              (.cond (.t 152)
                (.reg 21 [] [
                    ⟨(.t 153), .ld 7 true (.t 20), none⟩,
                    ⟨.none, .st 7 (.t 15) (.t 153), none⟩] none ⟨[], [], [], []⟩)
                .skip)))))))))
            (.reg 22 [] [
                ⟨(.t 154), .bin .add (.t 105) (.c (.int .i64 1)), none⟩,
                ⟨(.t 105), .mv (.t 154), none⟩] none ⟨[], [], [], []⟩)))))))))))
      (.reg 6 [] [
          ⟨(.t 80), .mv (.v 7), none⟩,
          ⟨(.t 81), .bin .add (.t 80) (.c (.int .i64 1)), none⟩,
          ⟨(.v 7), .asg (.t 81), none⟩] none ⟨[], [], [], []⟩))))))
  (.seq (.reg 23 [] [
      ⟨(.t 156), .mv (.v 0), none⟩,
      ⟨(.t 157), .mv (.v 2), none⟩,
      ⟨(.t 158), .call 10 [(.t 156), (.t 157)], none⟩,
      ⟨(.t 155), .mv (.t 158), none⟩,
      ⟨(.t 159), .ext 155 0, none⟩,
      ⟨(.t 160), .ext 155 1, none⟩,
      ⟨(.t 22), .allo [(.slice none 0 0), (.int .i64 0), (.slice none 0 0), (.slice none 0 0), (.slice none 0 0), (.slice none 0 0), (.bool false)], none⟩,
      ⟨.none, .st 7 (.t 22) (.t 159), none⟩,
      ⟨(.v 13), .asg (.t 160), none⟩] none ⟨[], [], [], []⟩)
  (.seq (.reg 24 [] [
      ⟨(.t 162), .mv (.v 0), none⟩,
      ⟨(.t 163), .mv (.v 2), none⟩,
      ⟨(.t 164), .call 11 [(.t 162), (.t 163)], none⟩,
      ⟨(.t 161), .mv (.t 164), none⟩,
      ⟨(.t 165), .ext 161 0, none⟩,
      ⟨(.t 166), .ext 161 1, none⟩,
      ⟨(.t 24), .allo [(.slice none 0 0), (.int .i64 0), (.slice none 0 0), (.slice none 0 0), (.slice none 0 0), (.slice none 0 0), (.bool false)], none⟩,
      ⟨.none, .st 7 (.t 24) (.t 165), none⟩,
      ⟨(.v 14), .asg (.t 166), none⟩] none ⟨[], [], [], []⟩)
  (.seq (.reg 25 [] [
      ⟨(.t 168), .ld 7 true (.t 6), none⟩,
      ⟨(.t 169), .mv (.v 2), none⟩,
      ⟨(.t 170), .call 14 [(.t 168), (.t 169)], none⟩,
      ⟨(.t 167), .mv (.t 170), none⟩,
      ⟨(.t 171), .ext 167 0, none⟩,
      ⟨(.t 172), .ext 167 1, none⟩,
      ⟨(.t 26), .allo [(.slice none 0 0), (.int .i64 0), (.slice none 0 0), (.slice none 0 0), (.slice none 0 0), (.slice none 0 0), (.bool false)], none⟩,
      ⟨.none, .st 7 (.t 26) (.t 171), none⟩,
      ⟨(.v 15), .asg (.t 172), none⟩] none ⟨[], [], [], []⟩)
  (.seq (.reg 26 [] [
      ⟨(.t 174), .ld 7 true (.t 6), none⟩,
      ⟨(.t 175), .mv (.v 2), none⟩,
      ⟨(.t 176), .call 15 [(.t 174), (.t 175)], none⟩,
      ⟨(.t 173), .mv (.t 176), none⟩,
      ⟨(.t 177), .ext 173 0, none⟩,
      ⟨(.t 178), .ext 173 1, none⟩,
      ⟨(.t 28), .allo [(.slice none 0 0), (.int .i64 0), (.slice none 0 0), (.slice none 0 0), (.slice none 0 0), (.slice none 0 0), (.bool false)], none⟩,
      ⟨.none, .st 7 (.t 28) (.t 177), none⟩,
      ⟨(.v 16), .asg (.t 178), none⟩] none ⟨[], [], [], []⟩)
  (.seq (.reg 27 [] [
      ⟨(.t 179), .call 8 [], none⟩,
      ⟨(.t 180), .mv (.t 179), none⟩,
      ⟨(.t 181), .mv (.v 13), some (180, true)⟩,
      ⟨(.t 182), .mv (.v 14), some (180, true)⟩,
      ⟨(.t 183), .bin .eql (.t 181) (.t 182), some (180, true)⟩,
      ⟨(.t 184), .pick (.t 180) (.t 183) (.c (.bool false)), none⟩,
      ⟨(.t 185), .mv (.t 184), none⟩,
      ⟨(.t 186), .mv (.v 15), some (185, true)⟩,
      ⟨(.t 187), .mv (.v 16), some (185, true)⟩,
      ⟨(.t 188), .bin .eql (.t 186) (.t 187), some (185, true)⟩,
      ⟨(.t 189), .pick (.t 185) (.t 188) (.c (.bool false)), none⟩,
      ⟨(.t 190), .mv (.t 189), none⟩,
      ⟨(.t 191), .ld 7 true (.t 22), some (190, true)⟩,
      ⟨(.t 192), .ld 7 true (.t 24), some (190, true)⟩,
      ⟨(.t 193), .call 12 [(.t 191), (.t 192)], some (190, true)⟩,
      ⟨(.t 194), .pick (.t 190) (.t 193) (.c (.bool false)), none⟩,
      ⟨(.t 195), .mv (.t 194), none⟩,
      ⟨(.t 196), .ld 7 true (.t 26), some (195, true)⟩,
      ⟨(.t 197), .ld 7 true (.t 28), some (195, true)⟩,
      ⟨(.t 198), .call 12 [(.t 196), (.t 197)], some (195, true)⟩,
      ⟨(.t 199), .pick (.t 195) (.t 198) (.c (.bool false)), none⟩,
      ⟨(.t 200), .mv (.t 199), none⟩,
      ⟨(.t 201), .ld 7 true (.t 6), some (200, true)⟩,
      ⟨(.t 202), .call 18 [(.t 201)], some (200, true)⟩,
      ⟨(.t 203), .ld 7 true (.t 6), some (200, true)⟩,
      ⟨(.t 204), .call 19 [(.t 203)], some (200, true)⟩,
      ⟨(.t 205), .bib .eql (.t 202) (.t 204), some (200, true)⟩,
      ⟨(.t 206), .pick (.t 200) (.t 205) (.c (.bool false)), none⟩,
      ⟨(.t 207), .mv (.t 206), none⟩,
      ⟨(.t 208), .ld 7 true (.t 6), some (207, true)⟩,
      ⟨(.t 209), .call 16 [(.t 208)], some (207, true)⟩,
      ⟨(.t 210), .ld 7 true (.t 6), some (207, true)⟩,
      ⟨(.t 211), .call 17 [(.t 210)], some (207, true)⟩,
      ⟨(.t 212), .bib .eql (.t 209) (.t 211), some (207, true)⟩,
      ⟨(.t 213), .pick (.t 207) (.t 212) (.c (.bool false)), none⟩,
      ⟨(.v 5), .asg (.t 213), none⟩] (some [[], [0, 0], [1], [1], [2, 3, 1], [1, 4], [5, 1], [6], [6], [7, 8, 6], [6, 9], [10, 6], [11], [11], [12, 13, 11, 11], [11, 14], [15, 14], [16], [16], [17, 18, 16, 16], [16, 19], [20, 19], [21], [22, 21, 21], [21], [24, 23, 21], [23, 25, 21], [21, 26], [27, 25], [28], [29, 28, 28], [28], [31, 30, 28], [30, 32, 28], [28, 33], [34, 32, 0, 1, 2, 3, 4, 5, 6, 7, 8, 9, 10, 11, 12, 13, 14, 15, 16, 17, 18, 19, 20, 21, 22, 23, 24, 25, 26, 27, 28, 29, 30, 31, 32, 33, 34]]) ⟨[180, 185, 190, 195, 6, 200, 207], [], [], []⟩)
  .ret)))))))))
theorem c3 : compFn Try.prog 3 F3 = some (5, strip a3, [.v 5]) ∧ lexAll a3 = true := ⟨by kernel_rfl, by kernel_rfl⟩
/-- clusterlocks/clusterlockslaw35.DiffuseFinds -/
def F4 : Fr := ⟨106, [0, 1, 2, 6, 7, 8, 10, 11, 12, 13, 17]⟩
def a4 : ACode :=
  (.seq (.reg 0 [] [
      ⟨(.v 3), .asg (.c (.bool false)), none⟩] none ⟨[], [], [], []⟩)
  (.seq (.seq (.reg 1 [] [
      ⟨(.t 18), .mv (.v 0), none⟩,
      ⟨(.t 19), .len (.t 18), none⟩,
      ⟨(.t 20), .bin .gtr (.t 19) (.c (.int .i64 120)), none⟩,
      ⟨(.t 21), .mv (.t 20), none⟩,
      ⟨(.t 22), .mv (.v 1), some (21, false)⟩,
      ⟨(.t 23), .len (.t 22), some (21, false)⟩,
      ⟨(.t 24), .bin .gtr (.t 23) (.c (.int .i64 200)), some (21, false)⟩,
      ⟨(.t 25), .pick (.t 21) (.c (.bool true)) (.t 24), none⟩] none ⟨[], [], [], []⟩)
  (.cond (.t 25)
    (.seq (.reg 2 [] [
        ⟨(.t 26), .call 8 [], none⟩,
        ⟨(.v 3), .asg (.t 26), none⟩] none ⟨[], [], [], []⟩)
    .ret)
    .skip))
  (.seq (.reg 3 [] [
      ⟨(.t 27), .mv (.v 0), none⟩,
      ⟨(.t 28), .call 9 [(.t 27), (.c (.bool false))], none⟩,
      ⟨(.v 4), .asg (.t 28), none⟩] none ⟨[], [], [], []⟩)
  (.seq (.reg 4 [] [
      ⟨(.t 29), .mv (.v 2), none⟩,
      ⟨(.t 30), .conv .i64 (.t 29), none⟩,
      ⟨(.t 31), .mv (.v 4), none⟩,
      ⟨(.t 32), .len (.t 31), none⟩,
      ⟨(.t 33), .bin .rem (.t 30) (.t 32), none⟩,
      ⟨(.v 5), .asg (.t 33), none⟩] none ⟨[], [], [], []⟩)
  (.seq (.reg 5 [] [
      ⟨(.t 35), .mv (.v 4), none⟩,
      ⟨(.t 36), .mv (.v 5), none⟩,
      ⟨(.t 37), .mv (.v 1), none⟩,
      ⟨(.t 38), .call 20 [(.t 35), (.t 36), (.t 37)], none⟩,
      ⟨(.t 34), .mv (.t 38), none⟩,
      ⟨(.t 39), .ext 34 0, none⟩,
      ⟨(.t 40), .ext 34 1, none⟩,
      ⟨(.t 41), .ext 34 2, none⟩,
      ⟨(.t 9), .allo [(.slice none 0 0), (.int .i64 0), (.slice none 0 0), (.slice none 0 0), (.slice none 0 0), (.slice none 0 0), (.bool false)], none⟩,
      ⟨.none, .st 7 (.t 9) (.t 39), none⟩,
      ⟨(.v 6), .asg (.t 40), none⟩,
      ⟨(.v 7), .asg (.t 41), none⟩] none ⟨[], [], [], []⟩)
  (.seq (.seq (.reg 6 [] [
      ⟨(.t 42), .mv (.v 4), none⟩,
      ⟨(.t 43), .mv (.v 5), none⟩,
      ⟨(.t 44), .ia 2 (.t 42) (.t 43), none⟩,
      ⟨(.t 45), .fa 0 (.t 44), none⟩,
      ⟨(.t 46), .ld 1 false (.t 45), none⟩,
      ⟨(.t 47), .bin .eql (.t 46) (.c (.int .i64 0)), none⟩] none ⟨[], [], [], []⟩)
  (.cond (.t 47)
    (.seq (.reg 7 [] [
        ⟨(.t 48), .call 8 [], none⟩,
        ⟨(.t 49), .mv (.t 48), none⟩,
        ⟨(.t 50), .mv (.v 7), some (49, true)⟩,
        ⟨(.t 51), .un .not (.t 50), some (49, true)⟩,
        ⟨(.t 52), .pick (.t 49) (.t 51) (.c (.bool false)), none⟩,
        ⟨(.v 3), .asg (.t 52), none⟩] none ⟨[], [], [], []⟩)
    .ret)
    .skip))
  (.seq (.reg 8 [] [
      ⟨(.v 8), .asg (.c (.int .i64 0)), none⟩,
      ⟨(.v 9), .asg (.c (.bool false)), none⟩] none ⟨[], [], [], []⟩)
  (.seq (.seq (.reg 9 [] [
      ⟨(.t 53), .mv (.v 4), none⟩,
      ⟨(.t 54), .len (.t 53), none⟩,
      ⟨(.t 55), .mv (.c (.int .i64 0)), none⟩] none ⟨[], [], [], []⟩)
  (.block 0
    (.loop
      (.seq (.reg 10 [] [
          ⟨(.t 56), .bin .lss (.t 55) (.t 54), none⟩] none ⟨[], [], [], []⟩)
      (.seq (.cond (.t 56)
        .skip
        (.exit 0))
      (.seq (.block 1
        (.seq (.reg 11 [] [
            ⟨(.t 57), .ia 2 (.t 53) (.t 55), none⟩,
            ⟨(.t 58), .ld 2 true (.t 57), none⟩,
            ⟨(.t 15), .allo [(.int .i64 0), (.slice none 0 0)], none⟩,
            ⟨.none, .st 2 (.t 15) (.t 58), none⟩] none ⟨[], [], [], []⟩)
        (.reg 12 [] [
            ⟨(.t 59), .mv (.v 8), none⟩,
            ⟨(.t 60), .fa 1 (.t 15), none⟩,
            ⟨(.t 61), .ld 1 false (.t 60), none⟩,
            ⟨(.t 62), .len (.t 61), none⟩,
            ⟨(.t 63), .bin .add (.t 59) (.t 62), none⟩,
            ⟨(.v 8), .asg (.t 63), none⟩] none ⟨[], [], [], []⟩)))
      (.reg 13 [] [
          ⟨(.t 64), .bin .add (.t 55) (.c (.int .i64 1)), none⟩,
          ⟨(.t 55), .mv (.t 64), none⟩] none ⟨[], [], [], []⟩)))))))
  (.seq (.seq (.reg 14 [] [
      ⟨(.t 65), .mv (.v 4), none⟩,
      ⟨(.t 66), .mv (.v 5), none⟩,
      ⟨(.t 67), .call 21 [(.t 65), (.t 66)], none⟩,
      ⟨(.t 68), .len (.t 67), none⟩,
      ⟨(.t 69), .mv (.c (.int .i64 0)), none⟩] none ⟨[], [], [], []⟩)
  (.block 2
    (.loop
      (.seq (.reg 15 [] [
          ⟨(.t 70), .bin .lss (.t 69) (.t 68), none⟩] none ⟨[], [], [], []⟩)
      (.seq (.cond (.t 70)
        .skip
        (.exit 2))
      (.seq (.block 3
        (.seq (.reg 16 [] [
            ⟨(.t 71), .ia 1 (.t 67) (.t 69), none⟩,
            ⟨(.t 72), .ld 1 false (.t 71), none⟩,
            ⟨(.v 10), .asg (.t 72), none⟩] none ⟨[], [], [], []⟩)
        (.reg 17 [] [
            ⟨(.t 73), .mv (.v 9), none⟩,
            ⟨(.t 74), .mv (.t 73), none⟩,
            ⟨(.t 75), .mv (.v 4), some (74, false)⟩,
            ⟨(.t 76), .mv (.v 10), some (74, false)⟩,
            ⟨(.t 77), .ia 2 (.t 75) (.t 76), some (74, false)⟩,
            ⟨(.t 78), .fa 0 (.t 77), some (74, false)⟩,
            ⟨(.t 79), .ld 1 false (.t 78), some (74, false)⟩,
            ⟨(.t 80), .bin .eql (.t 79) (.c (.int .i64 0)), some (74, false)⟩,
            ⟨(.t 81), .pick (.t 74) (.c (.bool true)) (.t 80), none⟩,
            ⟨(.v 9), .asg (.t 81), none⟩] none ⟨[], [], [], []⟩)))
      (.reg 18 [] [
          ⟨(.t 82), .bin .add (.t 69) (.c (.int .i64 1)), none⟩,
          ⟨(.t 69), .mv (.t 82), none⟩] none ⟨[], [], [], []⟩)))))))
  (.seq (.reg 19 [] [
      ⟨(.t 83), .call 8 [], none⟩,
      ⟨(.t 84), .mv (.t 83), none⟩,
      ⟨(.t 85), .mv (.v 7), some (84, true)⟩,
      ⟨(.t 86), .pick (.t 84) (.t 85) (.c (.bool false)), none⟩,
      ⟨(.t 87), .mv (.t 86), none⟩,
      ⟨(.t 88), .mv (.v 6), some (87, true)⟩,
      ⟨(.t 89), .mv (.v 8), some (87, true)⟩,
      ⟨(.t 90), .bin .mul (.c (.int .i64 2)) (.t 89), some (87, true)⟩,
      ⟨(.t 91), .bin .leq (.t 88) (.t 90), some (87, true)⟩,
      ⟨(.t 92), .pick (.t 87) (.t 91) (.c (.bool false)), none⟩,
      ⟨(.t 93), .mv (.t 92), none⟩,
      ⟨(.t 94), .fa 2 (.t 9), some (93, true)⟩,
      ⟨(.t 95), .ld 1 false (.t 94), some (93, true)⟩,
      ⟨(.t 96), .len (.t 95), some (93, true)⟩,
      ⟨(.t 97), .bin .eql (.t 96) (.c (.int .i64 0)), some (93, true)⟩,
      ⟨(.t 98), .pick (.t 93) (.t 97) (.c (.bool false)), none⟩,
      ⟨(.t 99), .mv (.t 98), none⟩,
      ⟨(.t 100), .fa 6 (.t 9), some (99, true)⟩,
      ⟨(.t 101), .ld 1 false (.t 100), some (99, true)⟩,
      ⟨(.t 102), .mv (.v 9), some (99, true)⟩,
      ⟨(.t 103), .un .not (.t 102), some (99, true)⟩,
      ⟨(.t 104), .bib .eql (.t 101) (.t 103), some (99, true)⟩,
      ⟨(.t 105), .pick (.t 99) (.t 104) (.c (.bool false)), none⟩,
      ⟨(.v 3), .asg (.t 105), none⟩] none ⟨[], [], [], []⟩)
  .ret))))))))))
theorem c4 : compFn Try.prog 4 F4 = some (3, strip a4, [.v 3]) ∧ lexAll a4 = true := ⟨by kernel_rfl, by kernel_rfl⟩
/-- clusterlocks/clusterlockslaw35.DiffuseOrder -/
def F5 : Fr := ⟨74, [0, 1, 2, 3, 8, 9, 10, 12, 13, 15, 16]⟩
def a5 : ACode :=
  (.seq (.reg 0 [] [
      ⟨(.v 4), .asg (.c (.bool false)), none⟩] none ⟨[], [], [], []⟩)
  (.seq (.seq (.reg 1 [] [
      ⟨(.t 17), .mv (.v 0), none⟩,
      ⟨(.t 18), .len (.t 17), none⟩,
      ⟨(.t 19), .bin .gtr (.t 18) (.c (.int .i64 120)), none⟩,
      ⟨(.t 20), .mv (.t 19), none⟩,
      ⟨(.t 21), .mv (.v 1), some (20, false)⟩,
      ⟨(.t 22), .len (.t 21), some (20, false)⟩,
      ⟨(.t 23), .bin .gtr (.t 22) (.c (.int .i64 200)), some (20, false)⟩,
      ⟨(.t 24), .pick (.t 20) (.c (.bool true)) (.t 23), none⟩,
      ⟨(.t 25), .mv (.t 24), none⟩,
      ⟨(.t 26), .mv (.v 2), some (25, false)⟩,
      ⟨(.t 27), .len (.t 26), some (25, false)⟩,
      ⟨(.t 28), .bin .gtr (.t 27) (.c (.int .i64 200)), some (25, false)⟩,
      ⟨(.t 29), .pick (.t 25) (.c (.bool true)) (.t 28), none⟩] none ⟨[], [], [], []⟩)
  (.cond (.t 29)
    (.seq (.reg 2 [] [
        ⟨(.t 30), .call 8 [], none⟩,
        ⟨(.v 4), .asg (.t 30), none⟩] none ⟨[], [], [], []⟩)
    .ret)
    .skip))
  (.seq (.reg 3 [] [
      ⟨(.t 31), .mv (.v 0), none⟩,
      ⟨(.t 32), .call 9 [(.t 31), (.c (.bool false))], none⟩,
      ⟨(.v 5), .asg (.t 32), none⟩] none ⟨[], [], [], []⟩)
  (.seq (.reg 4 [] [
      ⟨(.t 33), .mv (.v 3), none⟩,
      ⟨(.t 34), .conv .i64 (.t 33), none⟩,
      ⟨(.t 35), .mv (.v 5), none⟩,
      ⟨(.t 36), .len (.t 35), none⟩,
      ⟨(.t 37), .bin .rem (.t 34) (.t 36), none⟩,
      ⟨(.v 6), .asg (.t 37), none⟩] none ⟨[], [], [], []⟩)
  (.seq (.reg 5 [] [
      ⟨(.t 39), .mv (.v 5), none⟩,
      ⟨(.t 40), .mv (.v 6), none⟩,
      ⟨(.t 41), .mv (.v 1), none⟩,
      ⟨(.t 42), .call 20 [(.t 39), (.t 40), (.t 41)], none⟩,
      ⟨(.t 38), .mv (.t 42), none⟩,
      ⟨(.t 43), .ext 38 0, none⟩,
      ⟨(.t 44), .ext 38 1, none⟩,
      ⟨(.t 45), .ext 38 2, none⟩,
      ⟨(.t 11), .allo [(.slice none 0 0), (.int .i64 0), (.slice none 0 0), (.slice none 0 0), (.slice none 0 0), (.slice none 0 0), (.bool false)], none⟩,
      ⟨.none, .st 7 (.t 11) (.t 43), none⟩,
      ⟨(.v 7), .asg (.t 44), none⟩,
      ⟨(.v 8), .asg (.t 45), none⟩] none ⟨[], [], [], []⟩)
  (.seq (.reg 6 [] [
      ⟨(.t 47), .mv (.v 5), none⟩,
      ⟨(.t 48), .mv (.v 6), none⟩,
      ⟨(.t 49), .mv (.v 2), none⟩,
      ⟨(.t 50), .call 20 [(.t 47), (.t 48), (.t 49)], none⟩,
      ⟨(.t 46), .mv (.t 50), none⟩,
      ⟨(.t 51), .ext 46 0, none⟩,
      ⟨(.t 52), .ext 46 1, none⟩,
      ⟨(.t 53), .ext 46 2, none⟩,
      ⟨(.t 14), .allo [(.slice none 0 0), (.int .i64 0), (.slice none 0 0), (.slice none 0 0), (.slice none 0 0), (.slice none 0 0), (.bool false)], none⟩,
      ⟨.none, .st 7 (.t 14) (.t 51), none⟩,
      ⟨(.v 9), .asg (.t 52), none⟩,
      ⟨(.v 10), .asg (.t 53), none⟩] none ⟨[], [], [], []⟩)
  (.seq (.reg 7 [] [
      ⟨(.t 54), .call 8 [], none⟩,
      ⟨(.t 55), .mv (.t 54), none⟩,
      ⟨(.t 56), .mv (.v 8), some (55, true)⟩,
      ⟨(.t 57), .mv (.v 10), some (55, true)⟩,
      ⟨(.t 58), .bib .eql (.t 56) (.t 57), some (55, true)⟩,
      ⟨(.t 59), .pick (.t 55) (.t 58) (.c (.bool false)), none⟩,
      ⟨(.t 60), .mv (.t 59), none⟩,
      ⟨(.t 61), .fa 6 (.t 11), some (60, true)⟩,
      ⟨(.t 62), .ld 1 false (.t 61), some (60, true)⟩,
      ⟨(.t 63), .fa 6 (.t 14), some (60, true)⟩,
      ⟨(.t 64), .ld 1 false (.t 63), some (60, true)⟩,
      ⟨(.t 65), .bib .eql (.t 62) (.t 64), some (60, true)⟩,
      ⟨(.t 66), .pick (.t 60) (.t 65) (.c (.bool false)), none⟩,
      ⟨(.t 67), .mv (.t 66), none⟩,
      ⟨(.t 68), .fa 3 (.t 11), some (67, true)⟩,
      ⟨(.t 69), .ld 1 false (.t 68), some (67, true)⟩,
      ⟨(.t 70), .fa 3 (.t 14), some (67, true)⟩,
      ⟨(.t 71), .ld 1 false (.t 70), some (67, true)⟩,
      ⟨(.t 72), .call 22 [(.t 69), (.t 71)], some (67, true)⟩,
      ⟨(.t 73), .pick (.t 67) (.t 72) (.c (.bool false)), none⟩,
      ⟨(.v 4), .asg (.t 73), none⟩] none ⟨[], [], [], []⟩)
  .ret)))))))
theorem c5 : compFn Try.prog 5 F5 = some (4, strip a5, [.v 4]) ∧ lexAll a5 = true := ⟨by kernel_rfl, by kernel_rfl⟩
/-- clusterlocks/clusterlockslaw35.DiffuseStuck -/
def F6 : Fr := ⟨70, [0, 1, 2, 6, 7, 8, 10, 11, 12, 14]⟩
def a6 : ACode :=
  (.seq (.reg 0 [] [
      ⟨(.v 3), .asg (.c (.bool false)), none⟩] none ⟨[], [], [], []⟩)
  (.seq (.seq (.reg 1 [] [
      ⟨(.t 15), .mv (.v 0), none⟩,
      ⟨(.t 16), .len (.t 15), none⟩,
      ⟨(.t 17), .bin .gtr (.t 16) (.c (.int .i64 120)), none⟩,
      ⟨(.t 18), .mv (.t 17), none⟩,
      ⟨(.t 19), .mv (.v 1), some (18, false)⟩,
      ⟨(.t 20), .len (.t 19), some (18, false)⟩,
      ⟨(.t 21), .bin .gtr (.t 20) (.c (.int .i64 200)), some (18, false)⟩,
      ⟨(.t 22), .pick (.t 18) (.c (.bool true)) (.t 21), none⟩] none ⟨[], [], [], []⟩)
  (.cond (.t 22)
    (.seq (.reg 2 [] [
        ⟨(.t 23), .call 8 [], none⟩,
        ⟨(.v 3), .asg (.t 23), none⟩] none ⟨[], [], [], []⟩)
    .ret)
    .skip))
  (.seq (.reg 3 [] [
      ⟨(.t 24), .mv (.v 0), none⟩,
      ⟨(.t 25), .call 9 [(.t 24), (.c (.bool true))], none⟩,
      ⟨(.v 4), .asg (.t 25), none⟩] none ⟨[], [], [], []⟩)
  (.seq (.reg 4 [] [
      ⟨(.t 26), .mv (.v 2), none⟩,
      ⟨(.t 27), .conv .i64 (.t 26), none⟩,
      ⟨(.t 28), .mv (.v 4), none⟩,
      ⟨(.t 29), .len (.t 28), none⟩,
      ⟨(.t 30), .bin .rem (.t 27) (.t 29), none⟩,
      ⟨(.v 5), .asg (.t 30), none⟩] none ⟨[], [], [], []⟩)
  (.seq (.seq (.reg 5 [] [
      ⟨(.t 31), .mv (.v 4), none⟩,
      ⟨(.t 32), .mv (.v 5), none⟩,
      ⟨(.t 33), .ia 2 (.t 31) (.t 32), none⟩,
      ⟨(.t 34), .fa 0 (.t 33), none⟩,
      ⟨(.t 35), .ld 1 false (.t 34), none⟩,
      ⟨(.t 36), .bin .eql (.t 35) (.c (.int .i64 0)), none⟩] none ⟨[], [], [], []⟩)
  (.cond (.t 36)
    (.seq (.reg 6 [] [
        ⟨(.t 37), .call 8 [], none⟩,
        ⟨(.v 3), .asg (.t 37), none⟩] none ⟨[], [], [], []⟩)
    .ret)
    .skip))
  (.seq (.reg 7 [] [
      ⟨(.t 39), .mv (.v 4), none⟩,
      ⟨(.t 40), .mv (.v 5), none⟩,
      ⟨(.t 41), .mv (.v 1), none⟩,
      ⟨(.t 42), .call 20 [(.t 39), (.t 40), (.t 41)], none⟩,
      ⟨(.t 38), .mv (.t 42), none⟩,
      ⟨(.t 43), .ext 38 0, none⟩,
      ⟨(.t 44), .ext 38 1, none⟩,
      ⟨(.t 45), .ext 38 2, none⟩,
      ⟨(.t 9), .allo [(.slice none 0 0), (.int .i64 0), (.slice none 0 0), (.slice none 0 0), (.slice none 0 0), (.slice none 0 0), (.bool false)], none⟩,
      ⟨.none, .st 7 (.t 9) (.t 43), none⟩,
      ⟨(.v 6), .asg (.t 44), none⟩,
      ⟨(.v 7), .asg (.t 45), none⟩] none ⟨[], [], [], []⟩)
  (.seq (.reg 8 [] [
      ⟨(.v 8), .asg (.c (.bool false)), none⟩] none ⟨[], [], [], []⟩)
  (.seq (.seq (.reg 9 [] [
      ⟨(.t 46), .mv (.v 4), none⟩,
      ⟨(.t 47), .call 23 [(.t 46)], none⟩,
      ⟨(.t 48), .len (.t 47), none⟩,
      ⟨(.t 49), .mv (.c (.int .i64 0)), none⟩] none ⟨[], [], [], []⟩)
  (.block 0
    (.loop
      (.seq (.reg 10 [] [
          ⟨(.t 50), .bin .lss (.t 49) (.t 48), none⟩] none ⟨[], [], [], []⟩)
      (.seq (.cond (.t 50)
        .skip
        (.exit 0))
      (.seq (.block 1
        (.seq (.reg 11 [] [
            ⟨(.t 51), .ia 1 (.t 47) (.t 49), none⟩,
            ⟨(.t 52), .ld 1 false (.t 51), none⟩,
            ⟨(.v 9), .asg (.t 52), none⟩] none ⟨[], [], [], []⟩)
        (.reg 12 [] [
            ⟨(.t 53), .mv (.v 8), none⟩,
            ⟨(.t 54), .mv (.t 53), none⟩,
            ⟨(.t 55), .mv (.v 9), some (54, false)⟩,
            ⟨(.t 56), .mv (.v 5), some (54, false)⟩,
            ⟨(.t 57), .bin .eql (.t 55) (.t 56), some (54, false)⟩,
            ⟨(.t 58), .pick (.t 54) (.c (.bool true)) (.t 57), none⟩,
            ⟨(.v 8), .asg (.t 58), none⟩] none ⟨[], [], [], []⟩)))
      (.reg 13 [] [
          ⟨(.t 59), .bin .add (.t 49) (.c (.int .i64 1)), none⟩,
          ⟨(.t 49), .mv (.t 59), none⟩] none ⟨[], [], [], []⟩)))))))
  (.seq (.reg 14 [] [
      ⟨(.t 60), .call 8 [], none⟩,
      ⟨(.t 61), .mv (.t 60), none⟩,
      ⟨(.t 62), .mv (.v 7), some (61, true)⟩,
      ⟨(.t 63), .pick (.t 61) (.t 62) (.c (.bool false)), none⟩,
      ⟨(.t 64), .mv (.t 63), none⟩,
      ⟨(.t 65), .fa 6 (.t 9), some (64, true)⟩,
      ⟨(.t 66), .ld 1 false (.t 65), some (64, true)⟩,
      ⟨(.t 67), .mv (.v 8), some (64, true)⟩,
      ⟨(.t 68), .bib .eql (.t 66) (.t 67), some (64, true)⟩,
      ⟨(.t 69), .pick (.t 64) (.t 68) (.c (.bool false)), none⟩,
      ⟨(.v 3), .asg (.t 69), none⟩] none ⟨[], [], [], []⟩)
  .ret)))))))))
theorem c6 : compFn Try.prog 6 F6 = some (3, strip a6, [.v 3]) ∧ lexAll a6 = true := ⟨by kernel_rfl, by kernel_rfl⟩
/-- clusterlocks/clusterlockslaw35.small -/
def F7 : Fr := ⟨19, [0, 2]⟩
def a7 : ACode :=
  (.seq (.reg 0 [] [
      ⟨(.v 1), .asg (.c (.bool false)), none⟩] none ⟨[], [], [], []⟩)
  (.seq (.seq (.reg 1 [] [
      ⟨(.t 5), .mv (.v 0), none⟩,
      ⟨(.t 6), .len (.t 5), none⟩,
      ⟨(.t 7), .bin .gtr (.t 6) (.c (.int .i64 30)), none⟩] none ⟨[], [], [], []⟩)
  (.cond (.t 7)
    (.seq (.reg 2 [] [
        ⟨(.v 1), .asg (.c (.bool false)), none⟩] none ⟨[], [], [], []⟩)
    .ret)
    .skip))
  (.seq (.seq (.reg 3 [] [
      ⟨(.t 8), .mv (.v 0), none⟩,
      ⟨(.t 9), .len (.t 8), none⟩,
      ⟨(.t 10), .mv (.c (.int .i64 0)), none⟩] none ⟨[], [], [], []⟩)
  (.block 0
    (.loop
      (.seq (.reg 4 [] [
          ⟨(.t 11), .bin .lss (.t 10) (.t 9), none⟩] none ⟨[], [], [], []⟩)
      (.seq (.cond (.t 11)
        .skip
        (.exit 0))
      (.seq (.block 1
        (.seq (.reg 5 [] [
            ⟨(.t 12), .ia 2 (.t 8) (.t 10), none⟩,
            ⟨(.t 13), .ld 2 true (.t 12), none⟩,
            ⟨(.t 4), .allo [(.int .i64 0), (.slice none 0 0)], none⟩,
            ⟨.none, .st 2 (.t 4) (.t 13), none⟩] none ⟨[], [], [], []⟩)
        (.seq (.reg 6 [] [
            ⟨(.t 14), .fa 1 (.t 4), none⟩,
            ⟨(.t 15), .ld 1 false (.t 14), none⟩,
            ⟨(.t 16), .len (.t 15), none⟩,
            ⟨(.t 17), .bin .gtr (.t 16) (.c (.int .i64 30)), none⟩] none ⟨[], [], [], []⟩)
        (.cond (.t 17)
          (.seq (.reg 7 [] [
              ⟨(.v 1), .asg (.c (.bool false)), none⟩] none ⟨[], [], [], []⟩)
          .ret)
          .skip))))
      (.reg 8 [] [
          ⟨(.t 18), .bin .add (.t 10) (.c (.int .i64 1)), none⟩,
          ⟨(.t 10), .mv (.t 18), none⟩] none ⟨[], [], [], []⟩)))))))
  (.seq (.reg 9 [] [
      ⟨(.v 1), .asg (.c (.bool true)), none⟩] none ⟨[], [], [], []⟩)
  .ret))))
theorem c7 : compFn Try.prog 7 F7 = some (1, strip a7, [.v 1]) ∧ lexAll a7 = true := ⟨by kernel_rfl, by kernel_rfl⟩
/-- clusterlocks/clusterlockslaw35.awake -/
def F8 : Fr := ⟨51, [0, 1, 3, 4, 6, 7]⟩
def a8 : ACode :=
  (.seq (.reg 0 [] [
      ⟨(.v 0), .asg (.c (.bool false)), none⟩] none ⟨[], [], [], []⟩)
  (.seq (.reg 1 [] [
      ⟨(.t 8), .bls 3 1 (.int .i64 0) 2 [(0, (.c (.int .i64 1))), (1, (.c (.int .i64 2)))], none⟩,
      ⟨(.t 9), .bld [(.int .i64 0), (.slice none 0 0)] [(0, 1, (.c (.int .i64 1))), (1, 1, (.t 8))], none⟩,
      ⟨(.t 10), .bls 3 1 (.int .i64 0) 1 [(0, (.c (.int .i64 0)))], none⟩,
      ⟨(.t 11), .bld [(.int .i64 0), (.slice none 0 0)] [(0, 1, (.c (.int .i64 1))), (1, 1, (.t 10))], none⟩,
      ⟨(.t 12), .bld [(.int .i64 0), (.slice none 0 0)] [], none⟩,
      ⟨(.t 13), .bls 42 2 (.agg #[(.int .i64 0), (.slice none 0 0)]) 3 [(0, (.t 9)), (1, (.t 11)), (2, (.t 12))], none⟩,
      ⟨(.v 1), .asg (.t 13), none⟩] none ⟨[], [], [], []⟩)
  (.seq (.reg 2 [] [
      ⟨(.t 15), .mv (.v 1), none⟩,
      ⟨(.t 16), .call 20 [(.t 15), (.c (.int .i64 0)), (.c (.slice none 0 0))], none⟩,
      ⟨(.t 14), .mv (.t 16), none⟩,
      ⟨(.t 17), .ext 14 0, none⟩,
      ⟨(.t 18), .ext 14 1, none⟩,
      ⟨(.t 19), .ext 14 2, none⟩,
      ⟨(.t 2), .allo [(.slice none 0 0), (.int .i64 0), (.slice none 0 0), (.slice none 0 0), (.slice none 0 0), (.slice none 0 0), (.bool false)], none⟩,
      ⟨.none, .st 7 (.t 2) (.t 17), none⟩,
      ⟨(.v 2), .asg (.t 18), none⟩,
      ⟨(.v 3), .asg (.t 19), none⟩] none ⟨[], [], [], []⟩)
  (.seq (.reg 3 [] [
      ⟨(.t 20), .mv (.v 1), none⟩,
      ⟨(.t 21), .bls 3 1 (.int .i64 0) 1 [(0, (.c (.int .i64 0)))], none⟩,
      ⟨(.t 22), .bld [(.int .i64 0), (.slice none 0 0)] [(0, 1, (.c (.int .i64 1))), (1, 1, (.t 21))], none⟩,
      ⟨(.t 23), .ia 2 (.t 20) (.c (.int .i64 2)), none⟩,
      ⟨.none, .st 2 (.t 23) (.t 22), none⟩] none ⟨[], [], [], []⟩)
  (.seq (.reg 4 [] [
      ⟨(.t 25), .mv (.v 1), none⟩,
      ⟨(.t 26), .call 20 [(.t 25), (.c (.int .i64 0)), (.c (.slice none 0 0))], none⟩,
      ⟨(.t 24), .mv (.t 26), none⟩,
      ⟨(.t 27), .ext 24 0, none⟩,
      ⟨(.t 28), .ext 24 1, none⟩,
      ⟨(.t 29), .ext 24 2, none⟩,
      ⟨(.t 5), .allo [(.slice none 0 0), (.int .i64 0), (.slice none 0 0), (.slice none 0 0), (.slice none 0 0), (.slice none 0 0), (.bool false)], none⟩,
      ⟨.none, .st 7 (.t 5) (.t 27), none⟩,
      ⟨(.v 4), .asg (.t 28), none⟩,
      ⟨(.v 5), .asg (.t 29), none⟩] none ⟨[], [], [], []⟩)
  (.seq (.reg 5 [] [
      ⟨(.t 30), .mv (.v 3), none⟩,
      ⟨(.t 31), .mv (.t 30), none⟩,
      ⟨(.t 32), .mv (.v 5), some (31, true)⟩,
      ⟨(.t 33), .pick (.t 31) (.t 32) (.c (.bool false)), none⟩,
      ⟨(.t 34), .mv (.t 33), none⟩,
      ⟨(.t 35), .fa 6 (.t 2), some (34, true)⟩,
      ⟨(.t 36), .ld 1 false (.t 35), some (34, true)⟩,
      ⟨(.t 37), .un .not (.t 36), some (34, true)⟩,
      ⟨(.t 38), .pick (.t 34) (.t 37) (.c (.bool false)), none⟩,
      ⟨(.t 39), .mv (.t 38), none⟩,
      ⟨(.t 40), .fa 6 (.t 5), some (39, true)⟩,
      ⟨(.t 41), .ld 1 false (.t 40), some (39, true)⟩,
      ⟨(.t 42), .pick (.t 39) (.t 41) (.c (.bool false)), none⟩,
      ⟨(.t 43), .mv (.t 42), none⟩,
      ⟨(.t 44), .ld 7 true (.t 2), some (43, true)⟩,
      ⟨(.t 45), .call 16 [(.t 44)], some (43, true)⟩,
      ⟨(.t 46), .pick (.t 43) (.t 45) (.c (.bool false)), none⟩,
      ⟨(.t 47), .mv (.t 46), none⟩,
      ⟨(.t 48), .ld 7 true (.t 5), some (47, true)⟩,
      ⟨(.t 49), .call 18 [(.t 48)], some (47, true)⟩,
      ⟨(.t 50), .pick (.t 47) (.t 49) (.c (.bool false)), none⟩,
      ⟨(.v 0), .asg (.t 50), none⟩] none ⟨[], [], [], []⟩)
  .ret))))))
theorem c8 : compFn Try.prog 8 F8 = some (0, strip a8, [.v 0]) ∧ lexAll a8 = true := ⟨by kernel_rfl, by kernel_rfl⟩
/-- clusterlocks/clusterlockslaw35.graph -/
def F9 : Fr := ⟨70, [0, 1, 4, 5, 6, 7, 8, 9]⟩
def a9 : ACode :=
  (.seq (.reg 0 [] [
      ⟨(.v 2), .asg (.c (.slice none 0 0)), none⟩] none ⟨[], [], [], []⟩)
  (.seq (.reg 1 [] [
      ⟨(.t 10), .mv (.v 0), none⟩,
      ⟨(.t 11), .bld [(.slice none 0 0), (.int .i64 0)] [(0, 1, (.t 10))], none⟩,
      ⟨(.t 12), .box 2 (.t 11), none⟩,
      ⟨(.v 3), .asg (.t 12), none⟩] none ⟨[], [], [], []⟩)
  (.seq (.reg 2 [] [
      ⟨(.t 13), .mv (.v 3), none⟩,
      ⟨(.t 14), .call 24 [(.t 13), (.c (.int .i64 8))], none⟩,
      ⟨(.t 15), .bin .add (.c (.int .i64 1)) (.t 14), none⟩,
      ⟨(.v 4), .asg (.t 15), none⟩] none ⟨[], [], [], []⟩)
  (.seq (.reg 3 [] [
      ⟨(.t 16), .mv (.v 4), none⟩,
      ⟨(.t 17), .mk 42 2 32 (.agg #[(.int .i64 0), (.slice none 0 0)]) (.t 16) (.t 16), none⟩,
      ⟨(.v 5), .asg (.t 17), none⟩] none ⟨[], [], [], []⟩)
  (.seq (.seq (.reg 4 [] [
      ⟨(.t 18), .mv (.v 5), none⟩,
      ⟨(.t 19), .len (.t 18), none⟩,
      ⟨(.t 20), .mv (.c (.int .i64 0)), none⟩] none ⟨[], [], [], []⟩)
  (.block 0
    (.loop
      (.seq (.reg 5 [] [
          ⟨(.t 21), .bin .lss (.t 20) (.t 19), none⟩] none ⟨[], [], [], []⟩)
      (.seq (.cond (.t 21)
        .skip
        (.exit 0))
      (.seq (.block 1
        (.seq (.reg 6 [] [
            ⟨(.t 22), .mv (.t 20), none⟩,
            ⟨(.v 6), .asg (.t 22), none⟩] none ⟨[], [], [], []⟩)
        (.seq (.seq (.reg 7 [] [
            ⟨(.v 7), .asg (.c (.int .i64 0)), none⟩] none ⟨[], [], [], []⟩)
        (.block 2
          (.loop
            (.seq (.seq (.reg 8 [] [
                ⟨(.t 23), .mv (.v 7), none⟩,
                ⟨(.t 24), .mv (.v 4), none⟩,
                ⟨(.t 25), .bin .lss (.t 23) (.t 24), none⟩] none ⟨[], [], [], []⟩)
            (.cond (.t 25)
              .skip
              (.exit 2)))
            (.seq (.block 3
              (.seq (.reg 10 [] [
                  ⟨(.t 28), .mv (.v 3), none⟩,
                  ⟨(.t 29), .call 24 [(.t 28), (.c (.int .i64 3))], none⟩,
                  ⟨(.t 30), .bin .eql (.t 29) (.c (.int .i64 1)), none⟩] none ⟨[], [], [], []⟩)
              (.cond (.t 30)
                (.reg 11 [] [
                    ⟨(.t 31), .mv (.v 5), none⟩,
                    ⟨(.t 32), .mv (.v 6), none⟩,
                    ⟨(.t 33), .mv (.v 5), none⟩,
                    ⟨(.t 34), .mv (.v 6), none⟩,
                    ⟨(.t 35), .ia 2 (.t 33) (.t 34), none⟩,
                    ⟨(.t 36), .fa 1 (.t 35), none⟩,
                    ⟨(.t 37), .ld 1 false (.t 36), none⟩,
                    ⟨(.t 38), .mv (.v 7), none⟩,
                    ⟨(.t 39), .bls 3 1 (.int .i64 0) 1 [(0, (.t 38))], none⟩,
                    ⟨(.t 40), .app 3 1 8 (.t 37) (.t 39), none⟩,
                    ⟨(.t 41), .ia 2 (.t 31) (.t 32), none⟩,
                    ⟨(.t 42), .fa 1 (.t 41), none⟩,
                    ⟨.none, .st 1 (.t 42) (.t 40), none⟩] none ⟨[], [], [], []⟩)
                .skip)))
            (.reg 9 [] [
                ⟨(.t 26), .mv (.v 7), none⟩,
                ⟨(.t 27), .bin .add (.t 26) (.c (.int .i64 1)), none⟩,
                ⟨(.v 7), .asg (.t 27), none⟩] none ⟨[], [], [], []⟩))))))
        (.seq (.reg 12 [] [
            ⟨(.t 43), .mv (.v 5), none⟩,
            ⟨(.t 44), .mv (.v 6), none⟩,
            ⟨(.t 45), .ia 2 (.t 43) (.t 44), none⟩,
            ⟨(.t 46), .fa 1 (.t 45), none⟩,
            ⟨(.t 47), .ld 1 false (.t 46), none⟩,
            ⟨(.t 48), .len (.t 47), none⟩,
            ⟨(.t 49), .bin .gtr (.t 48) (.c (.int .i64 0)), none⟩] none ⟨[], [], [], []⟩)
        (.cond (.t 49)
          (.seq (.reg 13 [] [
              ⟨(.t 50), .mv (.v 5), none⟩,
              ⟨(.t 51), .mv (.v 6), none⟩,
              ⟨(.t 52), .mv (.v 3), none⟩,
              ⟨(.t 53), .mv (.v 5), none⟩,
              ⟨(.t 54), .mv (.v 6), none⟩,
              ⟨(.t 55), .ia 2 (.t 53) (.t 54), none⟩,
              ⟨(.t 56), .fa 1 (.t 55), none⟩,
              ⟨(.t 57), .ld 1 false (.t 56), none⟩,
              ⟨(.t 58), .len (.t 57), none⟩,
              ⟨(.t 59), .call 24 [(.t 52), (.t 58)], none⟩,
              ⟨(.t 60), .bin .add (.c (.int .i64 1)) (.t 59), none⟩,
              ⟨(.t 61), .ia 2 (.t 50) (.t 51), none⟩,
              ⟨(.t 62), .fa 0 (.t 61), none⟩,
              ⟨.none, .st 1 (.t 62) (.t 60), none⟩] none ⟨[], [], [], []⟩)
          (.seq (.reg 14 [] [
              ⟨(.t 63), .mv (.v 1), none⟩] none ⟨[], [], [], []⟩)
          (.cond (.t 63)
            (.reg 15 [] [
                ⟨(.t 64), .mv (.v 5), none⟩,
                ⟨(.t 65), .mv (.v 6), none⟩,
                ⟨(.t 66), .ia 2 (.t 64) (.t 65), none⟩,
                ⟨(.t 67), .fa 0 (.t 66), none⟩,
                ⟨.none, .st 1 (.t 67) (.c (.int .i64 1)), none⟩] none ⟨[], [], [], []⟩)
            .skip)))
          .skip)))))
      (.reg 16 [] [
          ⟨(.t 68), .bin .add (.t 20) (.c (.int .i64 1)), none⟩,
          ⟨(.t 20), .mv (.t 68), none⟩] none ⟨[], [], [], []⟩)))))))
  (.seq (.reg 17 [] [
      ⟨(.t 69), .mv (.v 5), none⟩,
      ⟨(.v 2), .asg (.t 69), none⟩] none ⟨[], [], [], []⟩)
  .ret))))))
theorem c9 : compFn Try.prog 9 F9 = some (2, strip a9, [.v 2]) ∧ lexAll a9 = true := ⟨by kernel_rfl, by kernel_rfl⟩
/-- clusterlocks/diffuse.Begin -/
def F10 : Fr := ⟨59, [0, 1, 5, 6, 8]⟩
def a10 : ACode :=
  (.seq (.reg 0 [] [
      ⟨(.t 4), .allo [(.slice none 0 0), (.int .i64 0), (.slice none 0 0), (.slice none 0 0), (.slice none 0 0), (.slice none 0 0), (.bool false)], none⟩,
      ⟨(.v 2), .asg (.c (.int .i64 0)), none⟩] none ⟨[], [], [], []⟩)
  (.seq (.seq (.reg 1 [] [
      ⟨(.t 9), .mv (.v 0), none⟩,
      ⟨(.t 10), .call 25 [(.t 9)], none⟩,
      ⟨(.t 11), .un .not (.t 10), none⟩] none ⟨[], [], [], []⟩)
  (.cond (.t 11)
    (.seq (.reg 2 [] [
        ⟨(.t 12), .bld [(.slice none 0 0), (.int .i64 0), (.slice none 0 0), (.slice none 0 0), (.slice none 0 0), (.slice none 0 0), (.bool false)] [], none⟩,
        ⟨.none, .st 7 (.t 4) (.t 12), none⟩,
        ⟨(.v 2), .asg (.c (.int .i64 2)), none⟩] none ⟨[], [], [], []⟩)
    .ret)
    .skip))
  (.seq (.seq (.reg 3 [] [
      ⟨(.t 13), .mv (.v 1), none⟩,
      ⟨(.t 14), .bin .lss (.t 13) (.c (.int .i64 0)), none⟩,
      ⟨(.t 15), .mv (.t 14), none⟩,
      ⟨(.t 16), .mv (.v 1), some (15, false)⟩,
      ⟨(.t 17), .mv (.v 0), some (15, false)⟩,
      ⟨(.t 18), .len (.t 17), some (15, false)⟩,
      ⟨(.t 19), .bin .geq (.t 16) (.t 18), some (15, false)⟩,
      ⟨(.t 20), .pick (.t 15) (.c (.bool true)) (.t 19), none⟩] none ⟨[], [], [], []⟩)
  (.cond (.t 20)
    (.seq (.reg 4 [] [
        ⟨(.t 21), .bld [(.slice none 0 0), (.int .i64 0), (.slice none 0 0), (.slice none 0 0), (.slice none 0 0), (.slice none 0 0), (.bool false)] [], none⟩,
        ⟨.none, .st 7 (.t 4) (.t 21), none⟩,
        ⟨(.v 2), .asg (.c (.int .i64 1)), none⟩] none ⟨[], [], [], []⟩)
    .ret)
    .skip))
  (.seq (.seq (.reg 5 [] [
      ⟨(.t 22), .mv (.v 0), none⟩,
      ⟨(.t 23), .mv (.v 1), none⟩,
      ⟨(.t 24), .ia 2 (.t 22) (.t 23), none⟩,
      ⟨(.t 25), .fa 0 (.t 24), none⟩,
      ⟨(.t 26), .ld 1 false (.t 25), none⟩,
      ⟨(.t 27), .bin .eql (.t 26) (.c (.int .i64 0)), none⟩] none ⟨[], [], [], []⟩)
  (.cond (.t 27)
    (.seq (.reg 6 [] [
        ⟨(.t 28), .bld [(.slice none 0 0), (.int .i64 0), (.slice none 0 0), (.slice none 0 0), (.slice none 0 0), (.slice none 0 0), (.bool false)] [], none⟩,
        ⟨.none, .st 7 (.t 4) (.t 28), none⟩,
        ⟨(.v 2), .asg (.c (.int .i64 14)), none⟩] none ⟨[], [], [], []⟩)
    .ret)
    .skip))
  (.seq (.reg 7 [] [
      ⟨(.t 29), .mv (.v 0), none⟩,
      ⟨(.t 30), .len (.t 29), none⟩,
      ⟨(.v 3), .asg (.t 30), none⟩] none ⟨[], [], [], []⟩)
  (.seq (.reg 8 [] [
      ⟨(.t 31), .mv (.v 0), none⟩,
      ⟨(.t 32), .call 26 [(.t 31)], none⟩,
      ⟨(.t 33), .mv (.v 1), none⟩,
      ⟨(.t 34), .mv (.v 3), none⟩,
      ⟨(.t 35), .mk 4 1 1 (.bool false) (.t 34) (.t 34), none⟩,
      ⟨(.t 36), .mv (.v 3), none⟩,
      ⟨(.t 37), .mk 3 1 8 (.int .i64 0) (.t 36) (.t 36), none⟩,
      ⟨(.t 38), .mv (.v 3), none⟩,
      ⟨(.t 39), .mk 3 1 8 (.int .i64 0) (.t 38) (.t 38), none⟩,
      ⟨(.t 40), .bld [(.slice none 0 0), (.int .i64 0), (.slice none 0 0), (.slice none 0 0), (.slice none 0 0), (.slice none 0 0), (.bool false)] [(0, 1, (.t 32)), (1, 1, (.t 33)), (3, 1, (.t 35)), (4, 1, (.t 37)), (5, 1, (.t 39))], none⟩,
      ⟨(.t 7), .allo [(.slice none 0 0), (.int .i64 0), (.slice none 0 0), (.slice none 0 0), (.slice none 0 0), (.slice none 0 0), (.bool false)], none⟩,
      ⟨.none, .st 7 (.t 7) (.t 40), none⟩] (some [[], [0], [], [], [3, 3], [], [5, 5], [], [7, 7], [1, 2, 4, 6, 8], [], [10, 9, 1, 0, 1, 2, 3, 4, 5, 6, 7, 8, 9, 10]]) ⟨[], [], [], []⟩)
  (.seq (.seq (.reg 9 [] [
      ⟨(.t 41), .fa 4 (.t 7), none⟩,
      ⟨(.t 42), .ld 1 false (.t 41), none⟩,
      ⟨(.t 43), .len (.t 42), none⟩,
      ⟨(.t 44), .mv (.c (.int .i64 0)), none⟩] none ⟨[], [], [], []⟩)
  (.block 0
    (.loop
      (.seq (.reg 10 [] [
          ⟨(.t 45), .bin .lss (.t 44) (.t 43), none⟩] none ⟨[], [], [], []⟩)
      (.seq (.cond (.t 45)
        .skip
        (.exit 0))
      (.seq (.block 1
        (.seq (.reg 11 [] [
            ⟨(.t 46), .mv (.t 44), none⟩,
            ⟨(.v 4), .asg (.t 46), none⟩] none ⟨[], [], [], []⟩)
        (.reg 12 [] [
            ⟨(.t 47), .fa 4 (.t 7), none⟩,
            ⟨(.t 48), .ld 1 false (.t 47), none⟩,
            ⟨(.t 49), .mv (.v 4), none⟩,
            ⟨(.t 50), .ia 1 (.t 48) (.t 49), none⟩,
            ⟨.none, .st 1 (.t 50) (.c (.int .i64 (-1))), none⟩] none ⟨[], [], [], []⟩)))
      (.reg 13 [] [
          ⟨(.t 51), .bin .add (.t 44) (.c (.int .i64 1)), none⟩,
          ⟨(.t 44), .mv (.t 51), none⟩] none ⟨[], [], [], []⟩)))))))
  (.seq (.reg 14 [.own (.cell 1 2) 59 3] [
      ⟨(.t 52), .fa 3 (.t 7), none⟩,
      ⟨(.t 53), .ld 1 false (.t 52), none⟩,
      ⟨(.t 54), .mv (.v 1), none⟩,
      ⟨(.t 55), .ia 1 (.t 53) (.t 54), none⟩,
      ⟨.none, .st 1 (.t 55) (.c (.bool true)), none⟩] none ⟨[], [], [], []⟩)
  (.seq (.reg 15 [] [
      ⟨(.t 56), .mv (.v 1), none⟩,
      ⟨(.t 57), .call 27 [(.t 7), (.t 56)], none⟩] none ⟨[], [], [], []⟩)
  (.seq (.reg 16 [.freeze (.cell 1 0), .freeze (.cell 1 2), .freeze (.cell 1 3), .freeze (.cell 1 4), .freeze (.cell 1 5)] [
      ⟨(.t 58), .ld 7 true (.t 7), none⟩,
      ⟨.none, .st 7 (.t 4) (.t 58), none⟩,
      ⟨(.v 2), .asg (.c (.int .i64 0)), none⟩] none ⟨[], [], [], []⟩)
  .ret))))))))))
theorem c10 : compFn Try.prog 10 F10 = some (2, strip a10, [.c 4 7 true, .v 2]) ∧ lexAll a10 = true := ⟨by kernel_rfl, by kernel_rfl⟩
/-- clusterlocks/clusterlocksref35.Begin -/
def F11 : Fr := ⟨73, [0, 1, 5, 8, 13, 23, 7]⟩
def a11 : ACode :=
  (.seq (.reg 0 [] [
      ⟨(.t 4), .allo [(.slice none 0 0), (.int .i64 0), (.slice none 0 0), (.slice none 0 0), (.slice none 0 0), (.slice none 0 0), (.bool false)], none⟩,
      ⟨(.v 2), .asg (.c (.int .i64 0)), none⟩] none ⟨[], [], [], []⟩)
  (.seq (.block 0
    (.seq (.reg 1 [] [
        ⟨(.t 9), .mv (.v 0), none⟩,
        ⟨(.t 10), .call 28 [(.t 9)], none⟩,
        ⟨(.t 11), .un .not (.t 10), none⟩,
        ⟨(.v 3), .asg (.t 11), none⟩] none ⟨[], [], [], []⟩)
    (.cond (.v 3)
      (.seq (.reg 2 [] [
          ⟨(.t 12), .bld [(.slice none 0 0), (.int .i64 0), (.slice none 0 0), (.slice none 0 0), (.slice none 0 0), (.slice none 0 0), (.bool false)] [], none⟩,
          ⟨.none, .st 7 (.t 4) (.t 12), none⟩,
          ⟨(.v 2), .asg (.c (.int .i64 2)), none⟩] none ⟨[], [], [], []⟩)
      .ret)
      (.seq (.reg 3 [] [
          ⟨(.t 14), .mv (.v 1), none⟩,
          ⟨(.t 15), .bin .lss (.t 14) (.c (.int .i64 0)), none⟩,
          ⟨(.t 16), .mv (.t 15), none⟩,
          ⟨(.t 17), .mv (.v 1), some (16, false)⟩,
          ⟨(.t 18), .mv (.v 0), some (16, false)⟩,
          ⟨(.t 19), .len (.t 18), some (16, false)⟩,
          ⟨(.t 20), .bin .geq (.t 17) (.t 19), some (16, false)⟩,
          ⟨(.t 21), .pick (.t 16) (.c (.bool true)) (.t 20), none⟩,
          ⟨(.v 4), .asg (.t 21), none⟩] none ⟨[], [], [], []⟩)
      (.cond (.v 4)
        (.seq (.reg 4 [] [
            ⟨(.t 22), .bld [(.slice none 0 0), (.int .i64 0), (.slice none 0 0), (.slice none 0 0), (.slice none 0 0), (.slice none 0 0), (.bool false)] [], none⟩,
            ⟨.none, .st 7 (.t 4) (.t 22), none⟩,
            ⟨(.v 2), .asg (.c (.int .i64 1)), none⟩] none ⟨[], [], [], []⟩)
        .ret)
        (.seq (.reg 5 [] [
            ⟨(.t 24), .mv (.v 0), none⟩,
            ⟨(.t 25), .mv (.v 1), none⟩,
            ⟨(.t 26), .ia 2 (.t 24) (.t 25), none⟩,
            ⟨(.t 27), .fa 0 (.t 26), none⟩,
            ⟨(.t 28), .ld 1 false (.t 27), none⟩,
            ⟨(.t 29), .bin .eql (.t 28) (.c (.int .i64 0)), none⟩,
            ⟨(.v 5), .asg (.t 29), none⟩] none ⟨[], [], [], []⟩)
        (.cond (.v 5)
          (.seq (.reg 6 [] [
              ⟨(.t 30), .bld [(.slice none 0 0), (.int .i64 0), (.slice none 0 0), (.slice none 0 0), (.slice none 0 0), (.slice none 0 0), (.bool false)] [], none⟩,
              ⟨.none, .st 7 (.t 4) (.t 30), none⟩,
              ⟨(.v 2), .asg (.c (.int .i64 14)), none⟩] none ⟨[], [], [], []⟩)
          .ret)
          .skip)))))))
  (.seq (.reg 7 [] [
      ⟨(.t 31), .mv (.v 0), none⟩,
      ⟨(.t 32), .call 29 [(.t 31)], none⟩,
      ⟨(.t 33), .mv (.v 1), none⟩,
      ⟨(.t 34), .mv (.v 0), none⟩,
      ⟨(.t 35), .mv (.v 1), none⟩,
      ⟨(.t 36), .call 30 [(.t 34), (.t 35)], none⟩,
      ⟨(.t 37), .mv (.v 0), none⟩,
      ⟨(.t 38), .len (.t 37), none⟩,
      ⟨(.t 39), .mk 4 1 1 (.bool false) (.t 38) (.t 38), none⟩,
      ⟨(.t 40), .mv (.v 0), none⟩,
      ⟨(.t 41), .len (.t 40), none⟩,
      ⟨(.t 42), .mk 3 1 8 (.int .i64 0) (.t 41) (.t 41), none⟩,
      ⟨(.t 43), .mv (.v 0), none⟩,
      ⟨(.t 44), .len (.t 43), none⟩,
      ⟨(.t 45), .mk 3 1 8 (.int .i64 0) (.t 44) (.t 44), none⟩,
      ⟨(.t 46), .bld [(.slice none 0 0), (.int .i64 0), (.slice none 0 0), (.slice none 0 0), (.slice none 0 0), (.slice none 0 0), (.bool false)] [(0, 1, (.t 32)), (1, 1, (.t 33)), (2, 1, (.t 36)), (3, 1, (.t 39)), (4, 1, (.t 42)), (5, 1, (.t 45))], none⟩,
      ⟨(.t 6), .allo [(.slice none 0 0), (.int .i64 0), (.slice none 0 0), (.slice none 0 0), (.slice none 0 0), (.slice none 0 0), (.bool false)], none⟩,
      ⟨.none, .st 7 (.t 6) (.t 46), none⟩] (some [[], [0], [], [], [], [3, 4, 1], [], [6], [7, 7], [], [9], [10, 10], [], [12], [13, 13], [1, 2, 5, 8, 11, 14], [], [16, 15, 5, 0, 1, 2, 3, 4, 5, 6, 7, 8, 9, 10, 11, 12, 13, 14, 15, 16]]) ⟨[], [], [], []⟩)
  (.seq (.seq (.reg 8 [] [
      ⟨(.t 47), .fa 4 (.t 6), none⟩,
      ⟨(.t 48), .ld 1 false (.t 47), none⟩,
      ⟨(.t 49), .len (.t 48), none⟩,
      ⟨(.t 50), .mv (.c (.int .i64 0)), none⟩] none ⟨[], [], [], []⟩)
  (.block 1
    (.loop
      (.seq (.reg 9 [] [
          ⟨(.t 51), .bin .lss (.t 50) (.t 49), none⟩] none ⟨[], [], [], []⟩)
      (.seq (.cond (.t 51)
        .skip
        (.exit 1))
      (.seq (.block 2
        (.seq (.reg 10 [] [
            ⟨(.t 52), .mv (.t 50), none⟩,
            ⟨(.v 6), .asg (.t 52), none⟩] none ⟨[], [], [], []⟩)
        (.reg 11 [] [
            ⟨(.t 53), .fa 4 (.t 6), none⟩,
            ⟨(.t 54), .ld 1 false (.t 53), none⟩,
            ⟨(.t 55), .mv (.v 6), none⟩,
            ⟨(.t 56), .ia 1 (.t 54) (.t 55), none⟩,
            ⟨.none, .st 1 (.t 56) (.c (.int .i64 (-1))), none⟩] none ⟨[], [], [], []⟩)))
      (.reg 12 [] [
          ⟨(.t 57), .bin .add (.t 50) (.c (.int .i64 1)), none⟩,
          ⟨(.t 50), .mv (.t 57), none⟩] none ⟨[], [], [], []⟩)))))))
  (.seq (.reg 13 [] [
      ⟨(.t 58), .fa 3 (.t 6), none⟩,
      ⟨(.t 59), .ld 1 false (.t 58), none⟩,
      ⟨(.t 60), .mv (.v 1), none⟩,
      ⟨(.t 61), .fa 5 (.t 6), none⟩,
      ⟨(.t 62), .ld 1 false (.t 61), none⟩,
      ⟨(.t 63), .mv (.v 1), none⟩,
      ⟨(.t 64), .mv (.v 0), none⟩,
      ⟨(.t 65), .mv (.v 1), none⟩,
      ⟨(.t 66), .ia 2 (.t 64) (.t 65), none⟩,
      ⟨(.t 67), .fa 1 (.t 66), none⟩,
      ⟨(.t 68), .ld 1 false (.t 67), none⟩,
      ⟨(.t 69), .len (.t 68), none⟩,
      ⟨(.t 70), .ia 1 (.t 59) (.t 60), none⟩,
      ⟨.none, .st 1 (.t 70) (.c (.bool true)), none⟩,
      ⟨(.t 71), .ia 1 (.t 62) (.t 63), none⟩,
      ⟨.none, .st 1 (.t 71) (.t 69), none⟩] (some [[], [0], [], [], [3], [], [], [], [6, 7], [8], [9], [10], [1, 2, 0, 1, 2, 10], [12, 0, 1, 2, 10], [4, 5, 0, 1, 2, 3, 4, 5, 6, 7, 8, 9, 10, 11, 12, 13], [14, 11, 13, 0, 1, 2, 3, 4, 5, 6, 7, 8, 9, 10, 11, 12, 13]]) ⟨[6], [3, 5, 11], [], [(13, 1000061, 4)]⟩)
  (.seq (.reg 14 [.freeze (.cell 1 0), .freeze (.cell 1 2), .freeze (.cell 1 3), .freeze (.cell 1 4), .freeze (.cell 1 5)] [
      ⟨(.t 72), .ld 7 true (.t 6), none⟩,
      ⟨.none, .st 7 (.t 4) (.t 72), none⟩,
      ⟨(.v 2), .asg (.c (.int .i64 0)), none⟩] none ⟨[], [], [], []⟩)
  .ret))))))
theorem c11 : compFn Try.prog 11 F11 = some (2, strip a11, [.c 4 7 true, .v 2]) ∧ lexAll a11 = true := ⟨by kernel_rfl, by kernel_rfl⟩
/-- clusterlocks/clusterlocksref35.Same -/
def F12 : Fr := ⟨77, [0, 1, 4, 5]⟩
def a12 : ACode :=
  (.seq (.reg 0 [] [
      ⟨(.t 2), .box 7 (.v 0), none⟩,
      ⟨(.t 3), .box 7 (.v 1), none⟩,
      ⟨(.v 2), .asg (.c (.bool false)), none⟩] none ⟨[], [], [], []⟩)
  (.seq (.seq (.reg 1 [] [
      ⟨(.t 6), .fa 0 (.t 2), none⟩,
      ⟨(.t 7), .ld 1 false (.t 6), none⟩,
      ⟨(.t 8), .fa 0 (.t 3), none⟩,
      ⟨(.t 9), .ld 1 false (.t 8), none⟩,
      ⟨(.t 10), .call 31 [(.t 7), (.t 9)], none⟩,
      ⟨(.t 11), .un .not (.t 10), none⟩,
      ⟨(.t 12), .mv (.t 11), none⟩,
      ⟨(.t 13), .fa 1 (.t 2), some (12, false)⟩,
      ⟨(.t 14), .ld 1 false (.t 13), some (12, false)⟩,
      ⟨(.t 15), .fa 1 (.t 3), some (12, false)⟩,
      ⟨(.t 16), .ld 1 false (.t 15), some (12, false)⟩,
      ⟨(.t 17), .bin .neq (.t 14) (.t 16), some (12, false)⟩,
      ⟨(.t 18), .pick (.t 12) (.c (.bool true)) (.t 17), none⟩,
      ⟨(.t 19), .mv (.t 18), none⟩,
      ⟨(.t 20), .fa 6 (.t 2), some (19, false)⟩,
      ⟨(.t 21), .ld 1 false (.t 20), some (19, false)⟩,
      ⟨(.t 22), .fa 6 (.t 3), some (19, false)⟩,
      ⟨(.t 23), .ld 1 false (.t 22), some (19, false)⟩,
      ⟨(.t 24), .bib .neq (.t 21) (.t 23), some (19, false)⟩,
      ⟨(.t 25), .pick (.t 19) (.c (.bool true)) (.t 24), none⟩,
      ⟨(.t 26), .mv (.t 25), none⟩,
      ⟨(.t 27), .fa 3 (.t 2), some (26, false)⟩,
      ⟨(.t 28), .ld 1 false (.t 27), some (26, false)⟩,
      ⟨(.t 29), .fa 3 (.t 3), some (26, false)⟩,
      ⟨(.t 30), .ld 1 false (.t 29), some (26, false)⟩,
      ⟨(.t 31), .call 22 [(.t 28), (.t 30)], some (26, false)⟩,
      ⟨(.t 32), .un .not (.t 31), some (26, false)⟩,
      ⟨(.t 33), .pick (.t 26) (.c (.bool true)) (.t 32), none⟩,
      ⟨(.t 34), .mv (.t 33), none⟩,
      ⟨(.t 35), .fa 4 (.t 2), some (34, false)⟩,
      ⟨(.t 36), .ld 1 false (.t 35), some (34, false)⟩,
      ⟨(.t 37), .fa 4 (.t 3), some (34, false)⟩,
      ⟨(.t 38), .ld 1 false (.t 37), some (34, false)⟩,
      ⟨(.t 39), .call 32 [(.t 36), (.t 38)], some (34, false)⟩,
      ⟨(.t 40), .un .not (.t 39), some (34, false)⟩,
      ⟨(.t 41), .pick (.t 34) (.c (.bool true)) (.t 40), none⟩,
      ⟨(.t 42), .mv (.t 41), none⟩,
      ⟨(.t 43), .fa 5 (.t 2), some (42, false)⟩,
      ⟨(.t 44), .ld 1 false (.t 43), some (42, false)⟩,
      ⟨(.t 45), .fa 5 (.t 3), some (42, false)⟩,
      ⟨(.t 46), .ld 1 false (.t 45), some (42, false)⟩,
      ⟨(.t 47), .call 32 [(.t 44), (.t 46)], some (42, false)⟩,
      ⟨(.t 48), .un .not (.t 47), some (42, false)⟩,
      ⟨(.t 49), .pick (.t 42) (.c (.bool true)) (.t 48), none⟩,
      ⟨(.t 50), .mv (.t 49), none⟩,
      ⟨(.t 51), .fa 2 (.t 2), some (50, false)⟩,
      ⟨(.t 52), .ld 1 false (.t 51), some (50, false)⟩,
      ⟨(.t 53), .len (.t 52), some (50, false)⟩,
      ⟨(.t 54), .fa 2 (.t 3), some (50, false)⟩,
      ⟨(.t 55), .ld 1 false (.t 54), some (50, false)⟩,
      ⟨(.t 56), .len (.t 55), some (50, false)⟩,
      ⟨(.t 57), .bin .neq (.t 53) (.t 56), some (50, false)⟩,
      ⟨(.t 58), .pick (.t 50) (.c (.bool true)) (.t 57), none⟩] none ⟨[], [], [], []⟩)
  (.cond (.t 58)
    (.seq (.reg 2 [] [
        ⟨(.v 2), .asg (.c (.bool false)), none⟩] none ⟨[], [], [], []⟩)
    .ret)
    .skip))
  (.seq (.seq (.reg 3 [] [
      ⟨(.v 3), .asg (.c (.int .i64 0)), none⟩] none ⟨[], [], [], []⟩)
  (.block 0
    (.loop
      (.seq (.seq (.reg 4 [] [
          ⟨(.t 59), .mv (.v 3), none⟩,
          ⟨(.t 60), .fa 2 (.t 2), none⟩,
          ⟨(.t 61), .ld 1 false (.t 60), none⟩,
          ⟨(.t 62), .len (.t 61), none⟩,
          ⟨(.t 63), .bin .lss (.t 59) (.t 62), none⟩] none ⟨[], [], [], []⟩)
      (.cond (.t 63)
        .skip
        (.exit 0)))
      (.seq (.block 1
        (.seq (.reg 6 [] [
            ⟨(.t 66), .fa 2 (.t 2), none⟩,
            ⟨(.t 67), .ld 1 false (.t 66), none⟩,
            ⟨(.t 68), .mv (.v 3), none⟩,
            ⟨(.t 69), .ia 3 (.t 67) (.t 68), none⟩,
            ⟨(.t 70), .ld 3 true (.t 69), none⟩,
            ⟨(.t 71), .fa 2 (.t 3), none⟩,
            ⟨(.t 72), .ld 1 false (.t 71), none⟩,
            ⟨(.t 73), .mv (.v 3), none⟩,
            ⟨(.t 74), .ia 3 (.t 72) (.t 73), none⟩,
            ⟨(.t 75), .ld 3 true (.t 74), none⟩,
            ⟨(.t 76), .ex (.eqA true [.int, .int, .bool]) (.t 70) (.t 75), none⟩] (some [[], [0], [], [1, 2], [3], [], [5], [], [6, 7], [8], [4, 9]]) ⟨[], [], [], []⟩)
        (.cond (.t 76)
          (.seq (.reg 7 [] [
              ⟨(.v 2), .asg (.c (.bool false)), none⟩] none ⟨[], [], [], []⟩)
          .ret)
          .skip)))
      (.reg 5 [] [
          ⟨(.t 64), .mv (.v 3), none⟩,
          ⟨(.t 65), .bin .add (.t 64) (.c (.int .i64 1)), none⟩,
          ⟨(.v 3), .asg (.t 65), none⟩] none ⟨[], [], [], []⟩))))))
  (.seq (.reg 8 [] [
      ⟨(.v 2), .asg (.c (.bool true)), none⟩] none ⟨[], [], [], []⟩)
  .ret))))
theorem c12 : compFn Try.prog 12 F12 = some (2, strip a12, [.v 2]) ∧ lexAll a12 = true := ⟨by kernel_rfl, by kernel_rfl⟩
/-- clusterlocks/clusterlocksmill.Mod -/
def F13 : Fr := ⟨16, [0, 1, 4]⟩
def a13 : ACode :=
  (.seq (.reg 0 [] [
      ⟨(.v 2), .asg (.c (.int .i64 0)), none⟩] none ⟨[], [], [], []⟩)
  (.seq (.seq (.reg 1 [] [
      ⟨(.t 5), .mv (.v 1), none⟩,
      ⟨(.t 6), .bin .lss (.t 5) (.c (.int .i64 1)), none⟩] none ⟨[], [], [], []⟩)
  (.cond (.t 6)
    (.seq (.reg 2 [] [
        ⟨(.v 2), .asg (.c (.int .i64 0)), none⟩] none ⟨[], [], [], []⟩)
    .ret)
    .skip))
  (.seq (.reg 3 [] [
      ⟨(.t 7), .mv (.v 0), none⟩,
      ⟨(.t 8), .mv (.v 1), none⟩,
      ⟨(.t 9), .bin .rem (.t 7) (.t 8), none⟩,
      ⟨(.v 0), .asg (.t 9), none⟩] none ⟨[], [], [], []⟩)
  (.seq (.seq (.reg 4 [] [
      ⟨(.t 10), .mv (.v 0), none⟩,
      ⟨(.t 11), .bin .lss (.t 10) (.c (.int .i64 0)), none⟩] none ⟨[], [], [], []⟩)
  (.cond (.t 11)
    (.reg 5 [] [
        ⟨(.t 12), .mv (.v 0), none⟩,
        ⟨(.t 13), .mv (.v 1), none⟩,
        ⟨(.t 14), .bin .add (.t 12) (.t 13), none⟩,
        ⟨(.v 0), .asg (.t 14), none⟩] none ⟨[], [], [], []⟩)
    .skip))
  (.seq (.reg 6 [] [
      ⟨(.t 15), .mv (.v 0), none⟩,
      ⟨(.v 2), .asg (.t 15), none⟩] none ⟨[], [], [], []⟩)
  .ret)))))
theorem c13 : compFn Try.prog 13 F13 = some (2, strip a13, [.v 2]) ∧ lexAll a13 = true := ⟨by kernel_rfl, by kernel_rfl⟩
/-- clusterlocks/diffuse.Step -/
def F14 : Fr := ⟨113, [0, 1, 5, 7, 8, 38, 77, 86]⟩
def a14 : ACode :=
  (.seq (.reg 0 [] [
      ⟨(.t 2), .box 7 (.v 0), none⟩,
      ⟨(.t 4), .allo [(.slice none 0 0), (.int .i64 0), (.slice none 0 0), (.slice none 0 0), (.slice none 0 0), (.slice none 0 0), (.bool false)], none⟩,
      ⟨(.v 2), .asg (.c (.int .i64 0)), none⟩] none ⟨[], [], [], []⟩)
  (.scope 0 (.seq (.seq (.reg 1 [] [
      ⟨(.t 9), .ld 7 true (.t 2), none⟩,
      ⟨(.t 10), .call 18 [(.t 9)], none⟩,
      ⟨(.t 11), .un .not (.t 10), none⟩] none ⟨[], [], [], []⟩)
  (.cond (.t 11)
    (.seq (.reg 2 [] [
        ⟨(.t 12), .bld [(.slice none 0 0), (.int .i64 0), (.slice none 0 0), (.slice none 0 0), (.slice none 0 0), (.slice none 0 0), (.bool false)] [], none⟩,
        ⟨.none, .st 7 (.t 4) (.t 12), none⟩,
        ⟨(.v 2), .asg (.c (.int .i64 2)), none⟩] none ⟨[], [], [], []⟩)
    .ret)
    .skip))
  (.seq (.seq (.reg 3 [] [
      ⟨(.t 13), .mv (.v 1), none⟩,
      ⟨(.t 14), .bin .lss (.t 13) (.c (.int .i64 0)), none⟩,
      ⟨(.t 15), .mv (.t 14), none⟩,
      ⟨(.t 16), .mv (.v 1), some (15, false)⟩,
      ⟨(.t 17), .fa 2 (.t 2), some (15, false)⟩,
      ⟨(.t 18), .ld 1 false (.t 17), some (15, false)⟩,
      ⟨(.t 19), .len (.t 18), some (15, false)⟩,
      ⟨(.t 20), .bin .geq (.t 16) (.t 19), some (15, false)⟩,
      ⟨(.t 21), .pick (.t 15) (.c (.bool true)) (.t 20), none⟩] none ⟨[], [], [], []⟩)
  (.cond (.t 21)
    (.seq (.reg 4 [] [
        ⟨(.t 22), .bld [(.slice none 0 0), (.int .i64 0), (.slice none 0 0), (.slice none 0 0), (.slice none 0 0), (.slice none 0 0), (.bool false)] [], none⟩,
        ⟨.none, .st 7 (.t 4) (.t 22), none⟩,
        ⟨(.v 2), .asg (.c (.int .i64 1)), none⟩] none ⟨[], [], [], []⟩)
    .ret)
    .skip))
  (.seq (.reg 5 [] [
      ⟨(.t 23), .ld 7 true (.t 2), none⟩,
      ⟨(.t 24), .mv (.v 1), none⟩,
      ⟨(.t 25), .call 33 [(.t 23), (.t 24)], none⟩,
      ⟨(.t 6), .allo [(.slice none 0 0), (.int .i64 0), (.slice none 0 0), (.slice none 0 0), (.slice none 0 0), (.slice none 0 0), (.bool false)], none⟩,
      ⟨.none, .st 7 (.t 6) (.t 25), none⟩] none ⟨[], [], [], []⟩)
  (.seq (.reg 6 [] [
      ⟨(.t 26), .fa 2 (.t 2), none⟩,
      ⟨(.t 27), .ld 1 false (.t 26), none⟩,
      ⟨(.t 28), .mv (.v 1), none⟩,
      ⟨(.t 29), .ia 3 (.t 27) (.t 28), none⟩,
      ⟨(.t 30), .fa 1 (.t 29), none⟩,
      ⟨(.t 31), .ld 1 false (.t 30), none⟩,
      ⟨(.t 32), .fa 2 (.t 2), none⟩,
      ⟨(.t 33), .ld 1 false (.t 32), none⟩,
      ⟨(.t 34), .mv (.v 1), none⟩,
      ⟨(.t 35), .ia 3 (.t 33) (.t 34), none⟩,
      ⟨(.t 36), .fa 0 (.t 35), none⟩,
      ⟨(.t 37), .ld 1 false (.t 36), none⟩,
      ⟨(.v 3), .asg (.t 31), none⟩,
      ⟨(.v 4), .asg (.t 37), none⟩] (some [[], [0], [], [1, 2], [3], [4], [], [6], [], [7, 8], [9], [10], [5, 0, 1, 2, 3, 4, 5], [11, 12, 0, 1, 2, 3, 4, 5, 6, 7, 8, 9, 10, 11, 12]]) ⟨[2, 32], [6, 8, 9, 10, 11], [], [(12, 32, 7)]⟩)
  (.seq (.block 0
    (.seq (.reg 7 [] [
        ⟨(.t 39), .fa 2 (.t 2), none⟩,
        ⟨(.t 40), .ld 1 false (.t 39), none⟩,
        ⟨(.t 41), .mv (.v 1), none⟩,
        ⟨(.t 42), .ia 3 (.t 40) (.t 41), none⟩,
        ⟨(.t 43), .fa 2 (.t 42), none⟩,
        ⟨(.t 44), .ld 1 false (.t 43), none⟩,
        ⟨(.v 5), .asg (.t 44), none⟩] none ⟨[], [], [], []⟩)
    (.cond (.v 5)
      (.seq (.seq (.reg 8 [] [
          ⟨(.t 45), .fa 5 (.t 6), none⟩,
          ⟨(.t 46), .ld 1 false (.t 45), none⟩,
          ⟨(.t 47), .mv (.v 3), none⟩,
          ⟨(.t 48), .ia 1 (.t 46) (.t 47), none⟩,
          ⟨(.t 49), .ld 1 false (.t 48), none⟩,
          ⟨(.t 50), .bin .eql (.t 49) (.c (.int .i64 0)), none⟩] none ⟨[], [], [], []⟩)
      (.cond (.t 50)
        (.seq (.reg 9 [.freeze (.cell 2 0), .freeze (.cell 2 2), .freeze (.cell 2 3), .freeze (.cell 2 4), .freeze (.cell 2 5)] [
            ⟨(.t 51), .ld 7 true (.t 6), none⟩,
            ⟨.none, .st 7 (.t 4) (.t 51), none⟩,
            ⟨(.v 2), .asg (.c (.int .i64 0)), none⟩] none ⟨[], [], [], []⟩)
        .ret)
        .skip))
      (.seq (.reg 10 [] [
          ⟨(.t 52), .fa 5 (.t 6), none⟩,
          ⟨(.t 53), .ld 1 false (.t 52), none⟩,
          ⟨(.t 54), .mv (.v 3), none⟩,
          ⟨(.t 55), .ia 1 (.t 53) (.t 54), none⟩,
          ⟨(.t 56), .ld 1 false (.t 55), none⟩,
          ⟨(.t 57), .bin .sub (.t 56) (.c (.int .i64 1)), none⟩,
          ⟨(.t 58), .ia 1 (.t 53) (.t 54), none⟩,
          ⟨.none, .st 1 (.t 58) (.t 57), none⟩] none ⟨[], [], [], []⟩)
      (.seq (.seq (.reg 11 [] [
          ⟨(.t 59), .fa 5 (.t 6), none⟩,
          ⟨(.t 60), .ld 1 false (.t 59), none⟩,
          ⟨(.t 61), .mv (.v 3), none⟩,
          ⟨(.t 62), .ia 1 (.t 60) (.t 61), none⟩,
          ⟨(.t 63), .ld 1 false (.t 62), none⟩,
          ⟨(.t 64), .bin .gtr (.t 63) (.c (.int .i64 0)), none⟩] none ⟨[], [], [], []⟩)
      (.cond (.t 64)
        (.seq (.reg 12 [.freeze (.cell 2 0), .freeze (.cell 2 2), .freeze (.cell 2 3), .freeze (.cell 2 4), .freeze (.cell 2 5)] [
            ⟨(.t 65), .ld 7 true (.t 6), none⟩,
            ⟨.none, .st 7 (.t 4) (.t 65), none⟩,
            ⟨(.v 2), .asg (.c (.int .i64 0)), none⟩] none ⟨[], [], [], []⟩)
        .ret)
        .skip))
      (.seq (.seq (.reg 13 [] [
          ⟨(.t 66), .mv (.v 3), none⟩,
          ⟨(.t 67), .fa 1 (.t 6), none⟩,
          ⟨(.t 68), .ld 1 false (.t 67), none⟩,
          ⟨(.t 69), .bin .eql (.t 66) (.t 68), none⟩] none ⟨[], [], [], []⟩)
      (.cond (.t 69)
        (.seq (.reg 14 [] [
            ⟨(.t 70), .fa 6 (.t 6), none⟩,
            ⟨.none, .st 1 (.t 70) (.c (.bool true)), none⟩] none ⟨[], [], [], []⟩)
        (.seq (.reg 15 [.freeze (.cell 2 0), .freeze (.cell 2 2), .freeze (.cell 2 3), .freeze (.cell 2 4), .freeze (.cell 2 5)] [
            ⟨(.t 71), .ld 7 true (.t 6), none⟩,
            ⟨.none, .st 7 (.t 4) (.t 71), none⟩,
            ⟨(.v 2), .asg (.c (.int .i64 0)), none⟩] none ⟨[], [], [], []⟩)
        .ret))
        .skip))
      (.seq (.reg 16 [] [
          ⟨(.t 72), .fa 4 (.t 6), none⟩,
          ⟨(.t 73), .ld 1 false (.t 72), none⟩,
          ⟨(.t 74), .mv (.v 3), none⟩,
          ⟨(.t 75), .ia 1 (.t 73) (.t 74), none⟩,
          ⟨(.t 76), .ld 1 false (.t 75), none⟩,
          ⟨(.v 4), .asg (.t 76), none⟩] none ⟨[], [], [], []⟩)
      (.goto 0))))))
      (.seq (.reg 17 [] [
          ⟨(.t 78), .fa 0 (.t 6), none⟩,
          ⟨(.t 79), .ld 1 false (.t 78), none⟩,
          ⟨(.t 80), .mv (.v 3), none⟩,
          ⟨(.t 81), .ia 2 (.t 79) (.t 80), none⟩,
          ⟨(.t 82), .fa 0 (.t 81), none⟩,
          ⟨(.t 83), .ld 1 false (.t 82), none⟩,
          ⟨(.t 84), .bin .eql (.t 83) (.c (.int .i64 0)), none⟩,
          ⟨(.v 6), .asg (.t 84), none⟩] none ⟨[], [], [], []⟩)
      (.cond (.v 6)
        (.seq (.reg 18 [.freeze (.cell 2 0), .freeze (.cell 2 2), .freeze (.cell 2 3), .freeze (.cell 2 4), .freeze (.cell 2 5)] [
            ⟨(.t 85), .ld 7 true (.t 6), none⟩,
            ⟨.none, .st 7 (.t 4) (.t 85), none⟩,
            ⟨(.v 2), .asg (.c (.int .i64 0)), none⟩] none ⟨[], [], [], []⟩)
        .ret)
        (.seq (.reg 19 [] [
            ⟨(.t 87), .fa 3 (.t 6), none⟩,
            ⟨(.t 88), .ld 1 false (.t 87), none⟩,
            ⟨(.t 89), .mv (.v 3), none⟩,
            ⟨(.t 90), .ia 1 (.t 88) (.t 89), none⟩,
            ⟨(.t 91), .ld 1 false (.t 90), none⟩,
            ⟨(.v 7), .asg (.t 91), none⟩] none ⟨[], [], [], []⟩)
        (.cond (.v 7)
          (.goto 0)
          .skip)))))))
  (.seq (.reg 20 [] [
      ⟨(.t 92), .fa 3 (.t 6), none⟩,
      ⟨(.t 93), .ld 1 false (.t 92), none⟩,
      ⟨(.t 94), .mv (.v 3), none⟩,
      ⟨(.t 95), .ia 1 (.t 93) (.t 94), none⟩,
      ⟨.none, .st 1 (.t 95) (.c (.bool true)), none⟩] none ⟨[], [], [], []⟩)
  (.seq (.reg 21 [] [
      ⟨(.t 96), .fa 4 (.t 6), none⟩,
      ⟨(.t 97), .ld 1 false (.t 96), none⟩,
      ⟨(.t 98), .mv (.v 3), none⟩,
      ⟨(.t 99), .mv (.v 4), none⟩,
      ⟨(.t 100), .ia 1 (.t 97) (.t 98), none⟩,
      ⟨.none, .st 1 (.t 100) (.t 99), none⟩] none ⟨[], [], [], []⟩)
  (.seq (.reg 22 [] [
      ⟨(.t 101), .mv (.v 3), none⟩,
      ⟨(.t 102), .call 27 [(.t 6), (.t 101)], none⟩] none ⟨[], [], [], []⟩)
  (.seq (.seq (.reg 23 [.freeze (.cell 2 0), .freeze (.cell 2 2), .freeze (.cell 2 3), .freeze (.cell 2 4), .freeze (.cell 2 5)] [
      ⟨(.t 103), .ld 7 true (.t 6), none⟩,
      ⟨.none, .st 7 (.t 4) (.t 103), none⟩,
      ⟨(.v 2), .asg (.c (.int .i64 0)), none⟩] none ⟨[], [], [], []⟩)
  .ret)
  (.seq (.label 0)
  (.seq (.reg 24 [.lend (.cell 2 2) 110] [
      ⟨(.t 104), .fa 2 (.t 6), none⟩,
      ⟨(.t 105), .ld 1 false (.t 104), none⟩,
      ⟨(.t 106), .mv (.v 3), none⟩,
      ⟨(.t 107), .mv (.v 4), none⟩,
      ⟨(.t 108), .bld [(.int .i64 0), (.int .i64 0), (.bool false)] [(0, 1, (.t 106)), (1, 1, (.t 107)), (2, 1, (.c (.bool true)))], none⟩,
      ⟨(.t 109), .bls 59 3 (.agg #[(.int .i64 0), (.int .i64 0), (.bool false)]) 1 [(0, (.t 108))], none⟩,
      ⟨(.t 110), .app 59 3 24 (.t 105) (.t 109), none⟩,
      ⟨(.t 111), .fa 2 (.t 6), none⟩,
      ⟨.none, .st 1 (.t 111) (.t 110), none⟩] none ⟨[], [], [], []⟩)
  (.seq (.reg 25 [.freeze (.cell 2 0), .freeze (.cell 2 2), .freeze (.cell 2 3), .freeze (.cell 2 4), .freeze (.cell 2 5)] [
      ⟨(.t 112), .ld 7 true (.t 6), none⟩,
      ⟨.none, .st 7 (.t 4) (.t 112), none⟩,
      ⟨(.v 2), .asg (.c (.int .i64 0)), none⟩] none ⟨[], [], [], []⟩)
  .ret))))))))))))
  (.seq .skip
  (.seq (.reg 24 [.lend (.cell 2 2) 110] [
      ⟨(.t 104), .fa 2 (.t 6), none⟩,
      ⟨(.t 105), .ld 1 false (.t 104), none⟩,
      ⟨(.t 106), .mv (.v 3), none⟩,
      ⟨(.t 107), .mv (.v 4), none⟩,
      ⟨(.t 108), .bld [(.int .i64 0), (.int .i64 0), (.bool false)] [(0, 1, (.t 106)), (1, 1, (.t 107)), (2, 1, (.c (.bool true)))], none⟩,
      ⟨(.t 109), .bls 59 3 (.agg #[(.int .i64 0), (.int .i64 0), (.bool false)]) 1 [(0, (.t 108))], none⟩,
      ⟨(.t 110), .app 59 3 24 (.t 105) (.t 109), none⟩,
      ⟨(.t 111), .fa 2 (.t 6), none⟩,
      ⟨.none, .st 1 (.t 111) (.t 110), none⟩] none ⟨[], [], [], []⟩)
  (.seq (.reg 25 [.freeze (.cell 2 0), .freeze (.cell 2 2), .freeze (.cell 2 3), .freeze (.cell 2 4), .freeze (.cell 2 5)] [
      ⟨(.t 112), .ld 7 true (.t 6), none⟩,
      ⟨.none, .st 7 (.t 4) (.t 112), none⟩,
      ⟨(.v 2), .asg (.c (.int .i64 0)), none⟩] none ⟨[], [], [], []⟩)
  .ret)))))
theorem c14 : compFn Try.prog 14 F14 = some (2, strip a14, [.c 4 7 true, .v 2]) ∧ lexAll a14 = true := ⟨by kernel_rfl, by kernel_rfl⟩
/-- clusterlocks/clusterlocksref35.Step -/
def F15 : Fr := ⟨157, [0, 1, 5, 8, 13, 7, 45, 58, 78, 111]⟩
def a15 : ACode :=
  (.seq (.reg 0 [] [
      ⟨(.t 2), .box 7 (.v 0), none⟩,
      ⟨(.t 4), .allo [(.slice none 0 0), (.int .i64 0), (.slice none 0 0), (.slice none 0 0), (.slice none 0 0), (.slice none 0 0), (.bool false)], none⟩,
      ⟨(.v 2), .asg (.c (.int .i64 0)), none⟩] none ⟨[], [], [], []⟩)
  (.seq (.block 0
    (.seq (.reg 1 [] [
        ⟨(.t 9), .ld 7 true (.t 2), none⟩,
        ⟨(.t 10), .call 19 [(.t 9)], none⟩,
        ⟨(.t 11), .un .not (.t 10), none⟩,
        ⟨(.v 3), .asg (.t 11), none⟩] none ⟨[], [], [], []⟩)
    (.cond (.v 3)
      (.seq (.reg 2 [] [
          ⟨(.t 12), .bld [(.slice none 0 0), (.int .i64 0), (.slice none 0 0), (.slice none 0 0), (.slice none 0 0), (.slice none 0 0), (.bool false)] [], none⟩,
          ⟨.none, .st 7 (.t 4) (.t 12), none⟩,
          ⟨(.v 2), .asg (.c (.int .i64 2)), none⟩] none ⟨[], [], [], []⟩)
      .ret)
      (.seq (.reg 3 [] [
          ⟨(.t 14), .mv (.v 1), none⟩,
          ⟨(.t 15), .bin .lss (.t 14) (.c (.int .i64 0)), none⟩,
          ⟨(.t 16), .mv (.t 15), none⟩,
          ⟨(.t 17), .mv (.v 1), some (16, false)⟩,
          ⟨(.t 18), .fa 2 (.t 2), some (16, false)⟩,
          ⟨(.t 19), .ld 1 false (.t 18), some (16, false)⟩,
          ⟨(.t 20), .len (.t 19), some (16, false)⟩,
          ⟨(.t 21), .bin .geq (.t 17) (.t 20), some (16, false)⟩,
          ⟨(.t 22), .pick (.t 16) (.c (.bool true)) (.t 21), none⟩,
          ⟨(.v 4), .asg (.t 22), none⟩] none ⟨[], [], [], []⟩)
      (.cond (.v 4)
        (.seq (.reg 4 [] [
            ⟨(.t 23), .bld [(.slice none 0 0), (.int .i64 0), (.slice none 0 0), (.slice none 0 0), (.slice none 0 0), (.slice none 0 0), (.bool false)] [], none⟩,
            ⟨.none, .st 7 (.t 4) (.t 23), none⟩,
            ⟨(.v 2), .asg (.c (.int .i64 1)), none⟩] none ⟨[], [], [], []⟩)
        .ret)
        .skip)))))
  (.seq (.reg 5 [] [
      ⟨(.t 24), .fa 2 (.t 2), none⟩,
      ⟨(.t 25), .ld 1 false (.t 24), none⟩,
      ⟨(.t 26), .mv (.v 1), none⟩,
      ⟨(.t 27), .ia 3 (.t 25) (.t 26), none⟩,
      ⟨(.t 28), .ld 3 true (.t 27), none⟩,
      ⟨(.t 6), .allo [(.int .i64 0), (.int .i64 0), (.bool false)], none⟩,
      ⟨.none, .st 3 (.t 6) (.t 28), none⟩] none ⟨[], [], [], []⟩)
  (.seq (.reg 6 [] [
      ⟨(.t 29), .ld 7 true (.t 2), none⟩,
      ⟨(.t 30), .call 34 [(.t 29)], none⟩,
      ⟨.none, .st 7 (.t 2) (.t 30), none⟩] none ⟨[], [], [], []⟩)
  (.seq (.reg 7 [.frz (.cell 0 2)] [
      ⟨(.t 31), .fa 2 (.t 2), none⟩,
      ⟨(.t 32), .ld 1 false (.t 31), none⟩,
      ⟨(.t 33), .mv (.v 1), none⟩,
      ⟨(.t 34), .mv (.v 1), none⟩,
      ⟨(.t 35), .sl 59 3 (.t 32) none (some (.t 33)) (some (.t 34)), none⟩,
      ⟨(.t 36), .fa 2 (.t 2), none⟩,
      ⟨(.t 37), .ld 1 false (.t 36), none⟩,
      ⟨(.t 38), .mv (.v 1), none⟩,
      ⟨(.t 39), .bin .add (.t 38) (.c (.int .i64 1)), none⟩,
      ⟨(.t 40), .sl 59 3 (.t 37) (some (.t 39)) none none, none⟩,
      ⟨(.t 41), .app 59 3 24 (.t 35) (.t 40), none⟩,
      ⟨(.t 42), .fa 2 (.t 2), none⟩,
      ⟨.none, .st 1 (.t 42) (.t 41), none⟩] (some [[], [0], [], [], [1, 2, 3], [], [5], [], [7], [6, 8], [4, 9], [0, 1, 2, 3, 4, 5, 6, 7, 8, 9, 10], [11, 10, 10, 0, 1, 2, 3, 4, 5, 6, 7, 8, 9, 10]]) ⟨[2], [], [], []⟩)
  (.seq (.reg 8 [] [
      ⟨(.t 43), .fa 1 (.t 6), none⟩,
      ⟨(.t 44), .ld 1 false (.t 43), none⟩,
      ⟨(.v 5), .asg (.t 44), none⟩] none ⟨[], [], [], []⟩)
  (.seq (.block 1
    (.seq (.reg 9 [] [
        ⟨(.t 46), .fa 2 (.t 6), none⟩,
        ⟨(.t 47), .ld 1 false (.t 46), none⟩,
        ⟨(.t 48), .un .not (.t 47), none⟩,
        ⟨(.t 49), .mv (.t 48), none⟩,
        ⟨(.t 50), .fa 0 (.t 2), some (49, true)⟩,
        ⟨(.t 51), .ld 1 false (.t 50), some (49, true)⟩,
        ⟨(.t 52), .mv (.v 5), some (49, true)⟩,
        ⟨(.t 53), .ia 2 (.t 51) (.t 52), some (49, true)⟩,
        ⟨(.t 54), .fa 0 (.t 53), some (49, true)⟩,
        ⟨(.t 55), .ld 1 false (.t 54), some (49, true)⟩,
        ⟨(.t 56), .bin .eql (.t 55) (.c (.int .i64 0)), some (49, true)⟩,
        ⟨(.t 57), .pick (.t 49) (.t 56) (.c (.bool false)), none⟩,
        ⟨(.v 6), .asg (.t 57), none⟩] none ⟨[], [], [], []⟩)
    (.cond (.v 6)
      .skip
      (.seq (.reg 10 [] [
          ⟨(.t 59), .fa 2 (.t 6), none⟩,
          ⟨(.t 60), .ld 1 false (.t 59), none⟩,
          ⟨(.t 61), .un .not (.t 60), none⟩,
          ⟨(.t 62), .mv (.t 61), none⟩,
          ⟨(.t 63), .fa 3 (.t 2), some (62, true)⟩,
          ⟨(.t 64), .ld 1 false (.t 63), some (62, true)⟩,
          ⟨(.t 65), .mv (.v 5), some (62, true)⟩,
          ⟨(.t 66), .ia 1 (.t 64) (.t 65), some (62, true)⟩,
          ⟨(.t 67), .ld 1 false (.t 66), some (62, true)⟩,
          ⟨(.t 68), .pick (.t 62) (.t 67) (.c (.bool false)), none⟩,
          ⟨(.v 7), .asg (.t 68), none⟩] none ⟨[], [], [], []⟩)
      (.cond (.v 7)
        (.reg 11 [.lend (.cell 0 2) 76] [
            ⟨(.t 69), .fa 2 (.t 2), none⟩,
            ⟨(.t 70), .ld 1 false (.t 69), none⟩,
            ⟨(.t 71), .mv (.v 5), none⟩,
            ⟨(.t 72), .fa 0 (.t 6), none⟩,
            ⟨(.t 73), .ld 1 false (.t 72), none⟩,
            ⟨(.t 74), .bld [(.int .i64 0), (.int .i64 0), (.bool false)] [(0, 1, (.t 71)), (1, 1, (.t 73)), (2, 1, (.c (.bool true)))], none⟩,
            ⟨(.t 75), .bls 59 3 (.agg #[(.int .i64 0), (.int .i64 0), (.bool false)]) 1 [(0, (.t 74))], none⟩,
            ⟨(.t 76), .app 59 3 24 (.t 70) (.t 75), none⟩,
            ⟨(.t 77), .fa 2 (.t 2), none⟩,
            ⟨.none, .st 1 (.t 77) (.t 76), none⟩] none ⟨[], [], [], []⟩)
        (.seq (.reg 12 [] [
            ⟨(.t 79), .fa 2 (.t 6), none⟩,
            ⟨(.t 80), .ld 1 false (.t 79), none⟩,
            ⟨(.t 81), .un .not (.t 80), none⟩,
            ⟨(.v 8), .asg (.t 81), none⟩] none ⟨[], [], [], []⟩)
        (.cond (.v 8)
          (.seq (.reg 13 [] [
              ⟨(.t 82), .fa 3 (.t 2), none⟩,
              ⟨(.t 83), .ld 1 false (.t 82), none⟩,
              ⟨(.t 84), .mv (.v 5), none⟩,
              ⟨(.t 85), .fa 4 (.t 2), none⟩,
              ⟨(.t 86), .ld 1 false (.t 85), none⟩,
              ⟨(.t 87), .mv (.v 5), none⟩,
              ⟨(.t 88), .fa 5 (.t 2), none⟩,
              ⟨(.t 89), .ld 1 false (.t 88), none⟩,
              ⟨(.t 90), .mv (.v 5), none⟩,
              ⟨(.t 91), .fa 0 (.t 6), none⟩,
              ⟨(.t 92), .ld 1 false (.t 91), none⟩,
              ⟨(.t 93), .fa 0 (.t 2), none⟩,
              ⟨(.t 94), .ld 1 false (.t 93), none⟩,
              ⟨(.t 95), .mv (.v 5), none⟩,
              ⟨(.t 96), .ia 2 (.t 94) (.t 95), none⟩,
              ⟨(.t 97), .fa 1 (.t 96), none⟩,
              ⟨(.t 98), .ld 1 false (.t 97), none⟩,
              ⟨(.t 99), .len (.t 98), none⟩,
              ⟨(.t 100), .ia 1 (.t 83) (.t 84), none⟩,
              ⟨.none, .st 1 (.t 100) (.c (.bool true)), none⟩,
              ⟨(.t 101), .ia 1 (.t 86) (.t 87), none⟩,
              ⟨.none, .st 1 (.t 101) (.t 92), none⟩,
              ⟨(.t 102), .ia 1 (.t 89) (.t 90), none⟩,
              ⟨.none, .st 1 (.t 102) (.t 99), none⟩] (some [[], [0], [], [], [3], [], [], [6], [], [], [9], [], [11], [], [12, 13], [14], [15], [16], [1, 2, 0, 1, 2, 16], [18, 0, 1, 2, 16], [4, 5, 0, 1, 2, 3, 4, 5, 9, 10, 16, 18, 19], [20, 10, 19, 0, 1, 2, 3, 4, 5, 9, 10, 16, 18, 19], [7, 8, 0, 1, 2, 3, 4, 5, 6, 7, 8, 9, 10, 11, 12, 13, 14, 15, 16, 17, 18, 19, 20, 21], [22, 17, 21, 0, 1, 2, 3, 4, 5, 6, 7, 8, 9, 10, 11, 12, 13, 14, 15, 16, 17, 18, 19, 20, 21]]) ⟨[2], [3, 5, 6, 8, 9, 17], [], [(19, 1000085, 4), (19, 1000088, 7), (19, 1000091, 10), (21, 1000088, 7)]⟩)
          (.reg 14 [.lend (.cell 0 2) 109] [
              ⟨(.t 103), .fa 2 (.t 2), none⟩,
              ⟨(.t 104), .ld 1 false (.t 103), none⟩,
              ⟨(.t 105), .fa 0 (.t 2), none⟩,
              ⟨(.t 106), .ld 1 false (.t 105), none⟩,
              ⟨(.t 107), .mv (.v 5), none⟩,
              ⟨(.t 108), .call 30 [(.t 106), (.t 107)], none⟩,
              ⟨(.t 109), .app 59 3 24 (.t 104) (.t 108), none⟩,
              ⟨(.t 110), .fa 2 (.t 2), none⟩,
              ⟨.none, .st 1 (.t 110) (.t 109), none⟩] (some [[], [0], [], [2], [], [3, 4], [1, 5, 5], [0, 1, 2, 3, 4, 5, 6], [7, 6, 6, 0, 1, 2, 3, 4, 5, 6]]) ⟨[2], [], [], []⟩))
          (.seq (.reg 15 [] [
              ⟨(.t 112), .fa 5 (.t 2), none⟩,
              ⟨(.t 113), .ld 1 false (.t 112), none⟩,
              ⟨(.t 114), .mv (.v 5), none⟩,
              ⟨(.t 115), .ia 1 (.t 113) (.t 114), none⟩,
              ⟨(.t 116), .ld 1 false (.t 115), none⟩,
              ⟨(.t 117), .bin .gtr (.t 116) (.c (.int .i64 0)), none⟩,
              ⟨(.v 9), .asg (.t 117), none⟩] none ⟨[], [], [], []⟩)
          (.cond (.v 9)
            (.seq (.reg 16 [] [
                ⟨(.t 118), .fa 5 (.t 2), none⟩,
                ⟨(.t 119), .ld 1 false (.t 118), none⟩,
                ⟨(.t 120), .mv (.v 5), none⟩,
                ⟨(.t 121), .ia 1 (.t 119) (.t 120), none⟩,
                ⟨(.t 122), .ld 1 false (.t 121), none⟩,
                ⟨(.t 123), .bin .sub (.t 122) (.c (.int .i64 1)), none⟩,
                ⟨(.t 124), .ia 1 (.t 119) (.t 120), none⟩,
                ⟨.none, .st 1 (.t 124) (.t 123), none⟩] none ⟨[], [], [], []⟩)
            (.seq (.reg 17 [] [
                ⟨(.t 125), .fa 5 (.t 2), none⟩,
                ⟨(.t 126), .ld 1 false (.t 125), none⟩,
                ⟨(.t 127), .mv (.v 5), none⟩,
                ⟨(.t 128), .ia 1 (.t 126) (.t 127), none⟩,
                ⟨(.t 129), .ld 1 false (.t 128), none⟩,
                ⟨(.t 130), .bin .eql (.t 129) (.c (.int .i64 0)), none⟩,
                ⟨(.t 131), .mv (.t 130), none⟩,
                ⟨(.t 132), .mv (.v 5), some (131, true)⟩,
                ⟨(.t 133), .fa 1 (.t 2), some (131, true)⟩,
                ⟨(.t 134), .ld 1 false (.t 133), some (131, true)⟩,
                ⟨(.t 135), .bin .eql (.t 132) (.t 134), some (131, true)⟩,
                ⟨(.t 136), .pick (.t 131) (.t 135) (.c (.bool false)), none⟩] none ⟨[], [], [], []⟩)
            (.cond (.t 136)
              (.reg 18 [] [
                  ⟨(.t 137), .fa 6 (.t 2), none⟩,
                  ⟨.none, .st 1 (.t 137) (.c (.bool true)), none⟩] none ⟨[], [], [], []⟩)
              (.seq (.reg 19 [] [
                  ⟨(.t 138), .fa 5 (.t 2), none⟩,
                  ⟨(.t 139), .ld 1 false (.t 138), none⟩,
                  ⟨(.t 140), .mv (.v 5), none⟩,
                  ⟨(.t 141), .ia 1 (.t 139) (.t 140), none⟩,
                  ⟨(.t 142), .ld 1 false (.t 141), none⟩,
                  ⟨(.t 143), .bin .eql (.t 142) (.c (.int .i64 0)), none⟩] none ⟨[], [], [], []⟩)
              (.cond (.t 143)
                (.reg 20 [.lend (.cell 0 2) 154] [
                    ⟨(.t 144), .fa 2 (.t 2), none⟩,
                    ⟨(.t 145), .ld 1 false (.t 144), none⟩,
                    ⟨(.t 146), .mv (.v 5), none⟩,
                    ⟨(.t 147), .fa 4 (.t 2), none⟩,
                    ⟨(.t 148), .ld 1 false (.t 147), none⟩,
                    ⟨(.t 149), .mv (.v 5), none⟩,
                    ⟨(.t 150), .ia 1 (.t 148) (.t 149), none⟩,
                    ⟨(.t 151), .ld 1 false (.t 150), none⟩,
                    ⟨(.t 152), .bld [(.int .i64 0), (.int .i64 0), (.bool false)] [(0, 1, (.t 146)), (1, 1, (.t 151)), (2, 1, (.c (.bool true)))], none⟩,
                    ⟨(.t 153), .bls 59 3 (.agg #[(.int .i64 0), (.int .i64 0), (.bool false)]) 1 [(0, (.t 152))], none⟩,
                    ⟨(.t 154), .app 59 3 24 (.t 145) (.t 153), none⟩,
                    ⟨(.t 155), .fa 2 (.t 2), none⟩,
                    ⟨.none, .st 1 (.t 155) (.t 154), none⟩] (some [[], [0], [], [], [3], [], [4, 5], [6], [2, 7], [8], [1, 9], [0, 1, 2, 3, 4, 5, 6, 7, 8, 9, 10], [11, 10, 10, 0, 1, 2, 3, 4, 5, 6, 7, 8, 9, 10]]) ⟨[2], [], [], []⟩)
                .skip)))))
            .skip)))))))))
  (.seq (.reg 21 [.freeze (.cell 0 0), .freeze (.cell 0 2), .freeze (.cell 0 3), .freeze (.cell 0 4), .freeze (.cell 0 5)] [
      ⟨(.t 156), .ld 7 true (.t 2), none⟩,
      ⟨.none, .st 7 (.t 4) (.t 156), none⟩,
      ⟨(.v 2), .asg (.c (.int .i64 0)), none⟩] none ⟨[], [], [], []⟩)
  .ret))))))))
theorem c15 : compFn Try.prog 15 F15 = some (2, strip a15, [.c 4 7 true, .v 2]) ∧ lexAll a15 = true := ⟨by kernel_rfl, by kernel_rfl⟩
/-- clusterlocks/diffuse.Over -/
def F16 : Fr := ⟨11, [0, 2]⟩
def a16 : ACode :=
  (.seq (.reg 0 [] [
      ⟨(.t 1), .box 7 (.v 0), none⟩,
      ⟨(.v 1), .asg (.c (.bool false)), none⟩] none ⟨[], [], [], []⟩)
  (.seq (.reg 1 [] [
      ⟨(.t 3), .fa 2 (.t 1), none⟩,
      ⟨(.t 4), .ld 1 false (.t 3), none⟩,
      ⟨(.t 5), .len (.t 4), none⟩,
      ⟨(.t 6), .bin .eql (.t 5) (.c (.int .i64 0)), none⟩,
      ⟨(.t 7), .mv (.t 6), none⟩,
      ⟨(.t 8), .ld 7 true (.t 1), some (7, true)⟩,
      ⟨(.t 9), .call 18 [(.t 8)], some (7, true)⟩,
      ⟨(.t 10), .pick (.t 7) (.t 9) (.c (.bool false)), none⟩,
      ⟨(.v 1), .asg (.t 10), none⟩] none ⟨[], [], [], []⟩)
  .ret))
theorem c16 : compFn Try.prog 16 F16 = some (1, strip a16, [.v 1]) ∧ lexAll a16 = true := ⟨by kernel_rfl, by kernel_rfl⟩
/-- clusterlocks/clusterlocksref35.Over -/
def F17 : Fr := ⟨11, [0, 2]⟩
def a17 : ACode :=
  (.seq (.reg 0 [] [
      ⟨(.t 1), .box 7 (.v 0), none⟩,
      ⟨(.v 1), .asg (.c (.bool false)), none⟩] none ⟨[], [], [], []⟩)
  (.seq (.reg 1 [] [
      ⟨(.t 3), .ld 7 true (.t 1), none⟩,
      ⟨(.t 4), .call 19 [(.t 3)], none⟩,
      ⟨(.t 5), .mv (.t 4), none⟩,
      ⟨(.t 6), .fa 2 (.t 1), some (5, true)⟩,
      ⟨(.t 7), .ld 1 false (.t 6), some (5, true)⟩,
      ⟨(.t 8), .len (.t 7), some (5, true)⟩,
      ⟨(.t 9), .bin .eql (.t 8) (.c (.int .i64 0)), some (5, true)⟩,
      ⟨(.t 10), .pick (.t 5) (.t 9) (.c (.bool false)), none⟩,
      ⟨(.v 1), .asg (.t 10), none⟩] none ⟨[], [], [], []⟩)
  .ret))
theorem c17 : compFn Try.prog 17 F17 = some (1, strip a17, [.v 1]) ∧ lexAll a17 = true := ⟨by kernel_rfl, by kernel_rfl⟩
/-- clusterlocks/clusterlocksref35.Valid -/
def F19 : Fr := ⟨242, [0, 2, 3, 4, 5, 68, 83, 98, 6]⟩
def a19 : ACode :=
  (.seq (.reg 0 [] [
      ⟨(.t 1), .box 7 (.v 0), none⟩,
      ⟨(.v 1), .asg (.c (.bool false)), none⟩] none ⟨[], [], [], []⟩)
  (.seq (.reg 1 [] [
      ⟨(.t 10), .fa 0 (.t 1), none⟩,
      ⟨(.t 11), .ld 1 false (.t 10), none⟩,
      ⟨(.t 12), .len (.t 11), none⟩,
      ⟨(.v 2), .asg (.t 12), none⟩] none ⟨[], [], [], []⟩)
  (.seq (.seq (.reg 2 [] [
      ⟨(.t 13), .fa 0 (.t 1), none⟩,
      ⟨(.t 14), .ld 1 false (.t 13), none⟩,
      ⟨(.t 15), .call 28 [(.t 14)], none⟩,
      ⟨(.t 16), .un .not (.t 15), none⟩,
      ⟨(.t 17), .mv (.t 16), none⟩,
      ⟨(.t 18), .fa 1 (.t 1), some (17, false)⟩,
      ⟨(.t 19), .ld 1 false (.t 18), some (17, false)⟩,
      ⟨(.t 20), .bin .lss (.t 19) (.c (.int .i64 0)), some (17, false)⟩,
      ⟨(.t 21), .pick (.t 17) (.c (.bool true)) (.t 20), none⟩,
      ⟨(.t 22), .mv (.t 21), none⟩,
      ⟨(.t 23), .fa 1 (.t 1), some (22, false)⟩,
      ⟨(.t 24), .ld 1 false (.t 23), some (22, false)⟩,
      ⟨(.t 25), .mv (.v 2), some (22, false)⟩,
      ⟨(.t 26), .bin .geq (.t 24) (.t 25), some (22, false)⟩,
      ⟨(.t 27), .pick (.t 22) (.c (.bool true)) (.t 26), none⟩,
      ⟨(.t 28), .mv (.t 27), none⟩,
      ⟨(.t 29), .fa 3 (.t 1), some (28, false)⟩,
      ⟨(.t 30), .ld 1 false (.t 29), some (28, false)⟩,
      ⟨(.t 31), .len (.t 30), some (28, false)⟩,
      ⟨(.t 32), .mv (.v 2), some (28, false)⟩,
      ⟨(.t 33), .bin .neq (.t 31) (.t 32), some (28, false)⟩,
      ⟨(.t 34), .pick (.t 28) (.c (.bool true)) (.t 33), none⟩,
      ⟨(.t 35), .mv (.t 34), none⟩,
      ⟨(.t 36), .fa 4 (.t 1), some (35, false)⟩,
      ⟨(.t 37), .ld 1 false (.t 36), some (35, false)⟩,
      ⟨(.t 38), .len (.t 37), some (35, false)⟩,
      ⟨(.t 39), .mv (.v 2), some (35, false)⟩,
      ⟨(.t 40), .bin .neq (.t 38) (.t 39), some (35, false)⟩,
      ⟨(.t 41), .pick (.t 35) (.c (.bool true)) (.t 40), none⟩,
      ⟨(.t 42), .mv (.t 41), none⟩,
      ⟨(.t 43), .fa 5 (.t 1), some (42, false)⟩,
      ⟨(.t 44), .ld 1 false (.t 43), some (42, false)⟩,
      ⟨(.t 45), .len (.t 44), some (42, false)⟩,
      ⟨(.t 46), .mv (.v 2), some (42, false)⟩,
      ⟨(.t 47), .bin .neq (.t 45) (.t 46), some (42, false)⟩,
      ⟨(.t 48), .pick (.t 42) (.c (.bool true)) (.t 47), none⟩,
      ⟨(.t 49), .mv (.t 48), none⟩,
      ⟨(.t 50), .fa 3 (.t 1), some (49, false)⟩,
      ⟨(.t 51), .ld 1 false (.t 50), some (49, false)⟩,
      ⟨(.t 52), .fa 1 (.t 1), some (49, false)⟩,
      ⟨(.t 53), .ld 1 false (.t 52), some (49, false)⟩,
      ⟨(.t 54), .ia 1 (.t 51) (.t 53), some (49, false)⟩,
      ⟨(.t 55), .ld 1 false (.t 54), some (49, false)⟩,
      ⟨(.t 56), .un .not (.t 55), some (49, false)⟩,
      ⟨(.t 57), .pick (.t 49) (.c (.bool true)) (.t 56), none⟩] none ⟨[], [], [], []⟩)
  (.cond (.t 57)
    (.seq (.reg 3 [] [
        ⟨(.v 1), .asg (.c (.bool false)), none⟩] none ⟨[], [], [], []⟩)
    .ret)
    .skip))
  (.seq (.seq (.reg 4 [] [
      ⟨(.v 3), .asg (.c (.int .i64 0)), none⟩] none ⟨[], [], [], []⟩)
  (.block 0
    (.loop
      (.seq (.seq (.reg 5 [] [
          ⟨(.t 58), .mv (.v 3), none⟩,
          ⟨(.t 59), .mv (.v 2), none⟩,
          ⟨(.t 60), .bin .lss (.t 58) (.t 59), none⟩] none ⟨[], [], [], []⟩)
      (.cond (.t 60)
        .skip
        (.exit 0)))
      (.seq (.block 1
        (.seq (.reg 7 [] [
            ⟨(.t 63), .fa 4 (.t 1), none⟩,
            ⟨(.t 64), .ld 1 false (.t 63), none⟩,
            ⟨(.t 65), .mv (.v 3), none⟩,
            ⟨(.t 66), .ia 1 (.t 64) (.t 65), none⟩,
            ⟨(.t 67), .ld 1 false (.t 66), none⟩,
            ⟨(.v 4), .asg (.t 67), none⟩] none ⟨[], [], [], []⟩)
        (.seq (.block 2
          (.seq (.reg 8 [] [
              ⟨(.t 69), .fa 3 (.t 1), none⟩,
              ⟨(.t 70), .ld 1 false (.t 69), none⟩,
              ⟨(.t 71), .mv (.v 3), none⟩,
              ⟨(.t 72), .ia 1 (.t 70) (.t 71), none⟩,
              ⟨(.t 73), .ld 1 false (.t 72), none⟩,
              ⟨(.t 74), .mv (.t 73), none⟩,
              ⟨(.t 75), .fa 0 (.t 1), some (74, true)⟩,
              ⟨(.t 76), .ld 1 false (.t 75), some (74, true)⟩,
              ⟨(.t 77), .mv (.v 3), some (74, true)⟩,
              ⟨(.t 78), .ia 2 (.t 76) (.t 77), some (74, true)⟩,
              ⟨(.t 79), .fa 0 (.t 78), some (74, true)⟩,
              ⟨(.t 80), .ld 1 false (.t 79), some (74, true)⟩,
              ⟨(.t 81), .bin .eql (.t 80) (.c (.int .i64 0)), some (74, true)⟩,
              ⟨(.t 82), .pick (.t 74) (.t 81) (.c (.bool false)), none⟩,
              ⟨(.v 5), .asg (.t 82), none⟩] none ⟨[], [], [], []⟩)
          (.cond (.v 5)
            (.seq (.reg 9 [] [
                ⟨(.v 1), .asg (.c (.bool false)), none⟩] none ⟨[], [], [], []⟩)
            .ret)
            (.seq (.reg 10 [] [
                ⟨(.t 84), .mv (.v 3), none⟩,
                ⟨(.t 85), .fa 1 (.t 1), none⟩,
                ⟨(.t 86), .ld 1 false (.t 85), none⟩,
                ⟨(.t 87), .bin .eql (.t 84) (.t 86), none⟩,
                ⟨(.t 88), .mv (.t 87), none⟩,
                ⟨(.t 89), .fa 3 (.t 1), some (88, false)⟩,
                ⟨(.t 90), .ld 1 false (.t 89), some (88, false)⟩,
                ⟨(.t 91), .mv (.v 3), some (88, false)⟩,
                ⟨(.t 92), .ia 1 (.t 90) (.t 91), some (88, false)⟩,
                ⟨(.t 93), .ld 1 false (.t 92), some (88, false)⟩,
                ⟨(.t 94), .un .not (.t 93), some (88, false)⟩,
                ⟨(.t 95), .pick (.t 88) (.c (.bool true)) (.t 94), none⟩,
                ⟨(.v 6), .asg (.t 95), none⟩] none ⟨[], [], [], []⟩)
            (.cond (.v 6)
              (.seq (.reg 11 [] [
                  ⟨(.t 96), .mv (.v 4), none⟩,
                  ⟨(.t 97), .bin .neq (.t 96) (.c (.int .i64 (-1))), none⟩] none ⟨[], [], [], []⟩)
              (.cond (.t 97)
                (.seq (.reg 12 [] [
                    ⟨(.v 1), .asg (.c (.bool false)), none⟩] none ⟨[], [], [], []⟩)
                .ret)
                .skip))
              (.seq (.reg 13 [] [
                  ⟨(.t 99), .mv (.v 4), none⟩,
                  ⟨(.t 100), .mv (.v 3), none⟩,
                  ⟨(.t 101), .bin .eql (.t 99) (.t 100), none⟩,
                  ⟨(.t 102), .mv (.t 101), none⟩,
                  ⟨(.t 103), .fa 0 (.t 1), some (102, false)⟩,
                  ⟨(.t 104), .ld 1 false (.t 103), some (102, false)⟩,
                  ⟨(.t 105), .mv (.v 4), some (102, false)⟩,
                  ⟨(.t 106), .mv (.v 3), some (102, false)⟩,
                  ⟨(.t 107), .call 37 [(.t 104), (.t 105), (.t 106)], some (102, false)⟩,
                  ⟨(.t 108), .un .not (.t 107), some (102, false)⟩,
                  ⟨(.t 109), .pick (.t 102) (.c (.bool true)) (.t 108), none⟩,
                  ⟨(.t 110), .mv (.t 109), none⟩,
                  ⟨(.t 111), .fa 3 (.t 1), some (110, false)⟩,
                  ⟨(.t 112), .ld 1 false (.t 111), some (110, false)⟩,
                  ⟨(.t 113), .mv (.v 4), some (110, false)⟩,
                  ⟨(.t 114), .ia 1 (.t 112) (.t 113), some (110, false)⟩,
                  ⟨(.t 115), .ld 1 false (.t 114), some (110, false)⟩,
                  ⟨(.t 116), .un .not (.t 115), some (110, false)⟩,
                  ⟨(.t 117), .pick (.t 110) (.c (.bool true)) (.t 116), none⟩,
                  ⟨(.v 7), .asg (.t 117), none⟩] none ⟨[], [], [], []⟩)
              (.cond (.v 7)
                (.seq (.reg 14 [] [
                    ⟨(.v 1), .asg (.c (.bool false)), none⟩] none ⟨[], [], [], []⟩)
                .ret)
                .skip)))))))
        (.seq (.reg 15 [] [
            ⟨(.t 118), .fa 5 (.t 1), none⟩,
            ⟨(.t 119), .ld 1 false (.t 118), none⟩,
            ⟨(.t 120), .mv (.v 3), none⟩,
            ⟨(.t 121), .ia 1 (.t 119) (.t 120), none⟩,
            ⟨(.t 122), .ld 1 false (.t 121), none⟩,
            ⟨(.t 123), .bin .lss (.t 122) (.c (.int .i64 0)), none⟩,
            ⟨(.t 124), .mv (.t 123), none⟩,
            ⟨(.t 125), .fa 5 (.t 1), some (124, false)⟩,
            ⟨(.t 126), .ld 1 false (.t 125), some (124, false)⟩,
            ⟨(.t 127), .mv (.v 3), some (124, false)⟩,
            ⟨(.t 128), .ia 1 (.t 126) (.t 127), some (124, false)⟩,
            ⟨(.t 129), .ld 1 false (.t 128), some (124, false)⟩,
            ⟨(.t 130), .fa 0 (.t 1), some (124, false)⟩,
            ⟨(.t 131), .ld 1 false (.t 130), some (124, false)⟩,
            ⟨(.t 132), .mv (.v 3), some (124, false)⟩,
            ⟨(.t 133), .ia 2 (.t 131) (.t 132), some (124, false)⟩,
            ⟨(.t 134), .fa 1 (.t 133), some (124, false)⟩,
            ⟨(.t 135), .ld 1 false (.t 134), some (124, false)⟩,
            ⟨(.t 136), .len (.t 135), some (124, false)⟩,
            ⟨(.t 137), .bin .gtr (.t 129) (.t 136), some (124, false)⟩,
            ⟨(.t 138), .pick (.t 124) (.c (.bool true)) (.t 137), none⟩,
            ⟨(.t 139), .mv (.t 138), none⟩,
            ⟨(.t 140), .fa 3 (.t 1), some (139, false)⟩,
            ⟨(.t 141), .ld 1 false (.t 140), some (139, false)⟩,
            ⟨(.t 142), .mv (.v 3), some (139, false)⟩,
            ⟨(.t 143), .ia 1 (.t 141) (.t 142), some (139, false)⟩,
            ⟨(.t 144), .ld 1 false (.t 143), some (139, false)⟩,
            ⟨(.t 145), .un .not (.t 144), some (139, false)⟩,
            ⟨(.t 146), .mv (.t 145), some (139, false)⟩,
            ⟨(.t 147), .fa 5 (.t 1), some (146, true)⟩,
            ⟨(.t 148), .ld 1 false (.t 147), some (146, true)⟩,
            ⟨(.t 149), .mv (.v 3), some (146, true)⟩,
            ⟨(.t 150), .ia 1 (.t 148) (.t 149), some (146, true)⟩,
            ⟨(.t 151), .ld 1 false (.t 150), some (146, true)⟩,
            ⟨(.t 152), .bin .neq (.t 151) (.c (.int .i64 0)), some (146, true)⟩,
            ⟨(.t 153), .pick (.t 146) (.t 152) (.c (.bool false)), some (139, false)⟩,
            ⟨(.t 154), .pick (.t 139) (.c (.bool true)) (.t 153), none⟩] (some [[], [0], [], [1, 2], [3], [4], [5], [6], [7, 6], [6], [8, 9, 6], [10, 6], [6], [12, 6], [6], [13, 14, 6], [15, 6], [16, 6], [17, 6], [11, 18, 6], [6, 19], [20, 6], [21], [22, 21], [21], [23, 24, 21], [25, 21], [26, 21], [27, 21, 21], [28], [29, 28], [28], [30, 31, 28], [32, 28], [33, 28], [28, 34, 21], [21, 35]]) ⟨[124, 1, 139, 146], [], [], []⟩)
        (.cond (.t 154)
          (.seq (.reg 16 [] [
              ⟨(.v 1), .asg (.c (.bool false)), none⟩] none ⟨[], [], [], []⟩)
          .ret)
          .skip)))))
      (.reg 6 [] [
          ⟨(.t 61), .mv (.v 3), none⟩,
          ⟨(.t 62), .bin .add (.t 61) (.c (.int .i64 1)), none⟩,
          ⟨(.v 3), .asg (.t 62), none⟩] none ⟨[], [], [], []⟩))))))
  (.seq (.seq (.reg 17 [] [
      ⟨(.t 155), .fa 2 (.t 1), none⟩,
      ⟨(.t 156), .ld 1 false (.t 155), none⟩,
      ⟨(.t 157), .len (.t 156), none⟩,
      ⟨(.t 158), .mv (.c (.int .i64 0)), none⟩] none ⟨[], [], [], []⟩)
  (.block 3
    (.loop
      (.seq (.reg 18 [] [
          ⟨(.t 159), .bin .lss (.t 158) (.t 157), none⟩] none ⟨[], [], [], []⟩)
      (.seq (.cond (.t 159)
        .skip
        (.exit 3))
      (.seq (.block 4
        (.seq (.reg 19 [] [
            ⟨(.t 160), .mv (.t 158), none⟩,
            ⟨(.t 161), .ia 3 (.t 156) (.t 158), none⟩,
            ⟨(.t 162), .ld 3 true (.t 161), none⟩,
            ⟨(.t 7), .allo [(.int .i64 0), (.int .i64 0), (.bool false)], none⟩,
            ⟨(.v 8), .asg (.t 160), none⟩,
            ⟨.none, .st 3 (.t 7) (.t 162), none⟩] none ⟨[], [], [], []⟩)
        (.seq (.seq (.reg 20 [] [
            ⟨(.t 163), .fa 0 (.t 7), none⟩,
            ⟨(.t 164), .ld 1 false (.t 163), none⟩,
            ⟨(.t 165), .bin .lss (.t 164) (.c (.int .i64 0)), none⟩,
            ⟨(.t 166), .mv (.t 165), none⟩,
            ⟨(.t 167), .fa 0 (.t 7), some (166, false)⟩,
            ⟨(.t 168), .ld 1 false (.t 167), some (166, false)⟩,
            ⟨(.t 169), .mv (.v 2), some (166, false)⟩,
            ⟨(.t 170), .bin .geq (.t 168) (.t 169), some (166, false)⟩,
            ⟨(.t 171), .pick (.t 166) (.c (.bool true)) (.t 170), none⟩,
            ⟨(.t 172), .mv (.t 171), none⟩,
            ⟨(.t 173), .fa 1 (.t 7), some (172, false)⟩,
            ⟨(.t 174), .ld 1 false (.t 173), some (172, false)⟩,
            ⟨(.t 175), .bin .lss (.t 174) (.c (.int .i64 0)), some (172, false)⟩,
            ⟨(.t 176), .pick (.t 172) (.c (.bool true)) (.t 175), none⟩,
            ⟨(.t 177), .mv (.t 176), none⟩,
            ⟨(.t 178), .fa 1 (.t 7), some (177, false)⟩,
            ⟨(.t 179), .ld 1 false (.t 178), some (177, false)⟩,
            ⟨(.t 180), .mv (.v 2), some (177, false)⟩,
            ⟨(.t 181), .bin .geq (.t 179) (.t 180), some (177, false)⟩,
            ⟨(.t 182), .pick (.t 177) (.c (.bool true)) (.t 181), none⟩,
            ⟨(.t 183), .mv (.t 182), none⟩,
            ⟨(.t 184), .fa 3 (.t 1), some (183, false)⟩,
            ⟨(.t 185), .ld 1 false (.t 184), some (183, false)⟩,
            ⟨(.t 186), .fa 0 (.t 7), some (183, false)⟩,
            ⟨(.t 187), .ld 1 false (.t 186), some (183, false)⟩,
            ⟨(.t 188), .ia 1 (.t 185) (.t 187), some (183, false)⟩,
            ⟨(.t 189), .ld 1 false (.t 188), some (183, false)⟩,
            ⟨(.t 190), .un .not (.t 189), some (183, false)⟩,
            ⟨(.t 191), .pick (.t 183) (.c (.bool true)) (.t 190), none⟩] none ⟨[], [], [], []⟩)
        (.cond (.t 191)
          (.seq (.reg 21 [] [
              ⟨(.v 1), .asg (.c (.bool false)), none⟩] none ⟨[], [], [], []⟩)
          .ret)
          .skip))
        (.seq (.seq (.reg 22 [] [
            ⟨(.t 192), .fa 2 (.t 7), none⟩,
            ⟨(.t 193), .ld 1 false (.t 192), none⟩,
            ⟨(.t 194), .un .not (.t 193), none⟩,
            ⟨(.t 195), .mv (.t 194), none⟩,
            ⟨(.t 196), .fa 0 (.t 1), some (195, true)⟩,
            ⟨(.t 197), .ld 1 false (.t 196), some (195, true)⟩,
            ⟨(.t 198), .fa 0 (.t 7), some (195, true)⟩,
            ⟨(.t 199), .ld 1 false (.t 198), some (195, true)⟩,
            ⟨(.t 200), .fa 1 (.t 7), some (195, true)⟩,
            ⟨(.t 201), .ld 1 false (.t 200), some (195, true)⟩,
            ⟨(.t 202), .call 37 [(.t 197), (.t 199), (.t 201)], some (195, true)⟩,
            ⟨(.t 203), .un .not (.t 202), some (195, true)⟩,
            ⟨(.t 204), .pick (.t 195) (.t 203) (.c (.bool false)), none⟩,
            ⟨(.t 205), .mv (.t 204), none⟩,
            ⟨(.t 206), .fa 2 (.t 7), some (205, false)⟩,
            ⟨(.t 207), .ld 1 false (.t 206), some (205, false)⟩,
            ⟨(.t 208), .mv (.t 207), some (205, false)⟩,
            ⟨(.t 209), .fa 3 (.t 1), some (208, true)⟩,
            ⟨(.t 210), .ld 1 false (.t 209), some (208, true)⟩,
            ⟨(.t 211), .fa 1 (.t 7), some (208, true)⟩,
            ⟨(.t 212), .ld 1 false (.t 211), some (208, true)⟩,
            ⟨(.t 213), .ia 1 (.t 210) (.t 212), some (208, true)⟩,
            ⟨(.t 214), .ld 1 false (.t 213), some (208, true)⟩,
            ⟨(.t 215), .un .not (.t 214), some (208, true)⟩,
            ⟨(.t 216), .mv (.t 215), some (208, true)⟩,
            ⟨(.t 217), .fa 0 (.t 1), some (216, false)⟩,
            ⟨(.t 218), .ld 1 false (.t 217), some (216, false)⟩,
            ⟨(.t 219), .fa 1 (.t 7), some (216, false)⟩,
            ⟨(.t 220), .ld 1 false (.t 219), some (216, false)⟩,
            ⟨(.t 221), .fa 0 (.t 7), some (216, false)⟩,
            ⟨(.t 222), .ld 1 false (.t 221), some (216, false)⟩,
            ⟨(.t 223), .call 37 [(.t 218), (.t 220), (.t 222)], some (216, false)⟩,
            ⟨(.t 224), .un .not (.t 223), some (216, false)⟩,
            ⟨(.t 225), .pick (.t 216) (.c (.bool true)) (.t 224), some (208, true)⟩,
            ⟨(.t 226), .pick (.t 208) (.t 225) (.c (.bool false)), some (205, false)⟩,
            ⟨(.t 227), .pick (.t 205) (.c (.bool true)) (.t 226), none⟩] none ⟨[], [], [], []⟩)
        (.cond (.t 227)
          (.seq (.reg 23 [] [
              ⟨(.v 1), .asg (.c (.bool false)), none⟩] none ⟨[], [], [], []⟩)
          .ret)
          .skip))
        (.seq (.reg 24 [] [
            ⟨(.t 228), .fa 2 (.t 1), none⟩,
            ⟨(.t 229), .ld 1 false (.t 228), none⟩,
            ⟨(.t 230), .mv (.v 8), none⟩,
            ⟨(.t 231), .sl 59 3 (.t 229) none (some (.t 230)) none, none⟩,
            ⟨(.t 232), .len (.t 231), none⟩,
            ⟨(.t 233), .mv (.c (.int .i64 0)), none⟩] none ⟨[], [], [], []⟩)
        (.block 5
          (.loop
            (.seq (.reg 25 [] [
                ⟨(.t 234), .bin .lss (.t 233) (.t 232), none⟩] none ⟨[], [], [], []⟩)
            (.seq (.cond (.t 234)
              .skip
              (.exit 5))
            (.seq (.block 6
              (.seq (.reg 26 [] [
                  ⟨(.t 235), .ia 3 (.t 231) (.t 233), none⟩,
                  ⟨(.t 236), .ld 3 true (.t 235), none⟩,
                  ⟨(.t 9), .allo [(.int .i64 0), (.int .i64 0), (.bool false)], none⟩,
                  ⟨.none, .st 3 (.t 9) (.t 236), none⟩] none ⟨[], [], [], []⟩)
              (.seq (.reg 27 [] [
                  ⟨(.t 237), .ld 3 true (.t 9), none⟩,
                  ⟨(.t 238), .ld 3 true (.t 7), none⟩,
                  ⟨(.t 239), .ex (.eqA false [.int, .int, .bool]) (.t 237) (.t 238), none⟩] none ⟨[], [], [], []⟩)
              (.cond (.t 239)
                (.seq (.reg 28 [] [
                    ⟨(.v 1), .asg (.c (.bool false)), none⟩] none ⟨[], [], [], []⟩)
                .ret)
                .skip))))
            (.reg 29 [] [
                ⟨(.t 240), .bin .add (.t 233) (.c (.int .i64 1)), none⟩,
                ⟨(.t 233), .mv (.t 240), none⟩] none ⟨[], [], [], []⟩)))))))))))
      (.reg 30 [] [
          ⟨(.t 241), .bin .add (.t 158) (.c (.int .i64 1)), none⟩,
          ⟨(.t 158), .mv (.t 241), none⟩] none ⟨[], [], [], []⟩)))))))
  (.seq (.reg 31 [] [
      ⟨(.v 1), .asg (.c (.bool true)), none⟩] none ⟨[], [], [], []⟩)
  .ret))))))
theorem c19 : compFn Try.prog 19 F19 = some (1, strip a19, [.v 1]) ∧ lexAll a19 = true := ⟨by kernel_rfl, by kernel_rfl⟩
/-- clusterlocks/clusterlockslaw35.play -/
def F20 : Fr := ⟨55, [0, 1, 2, 7, 8, 10, 11, 12]⟩
def a20 : ACode :=
  (.seq (.reg 0 [] [
      ⟨(.t 6), .allo [(.slice none 0 0), (.int .i64 0), (.slice none 0 0), (.slice none 0 0), (.slice none 0 0), (.slice none 0 0), (.bool false)], none⟩,
      ⟨(.v 3), .asg (.c (.int .i64 0)), none⟩,
      ⟨(.v 4), .asg (.c (.bool false)), none⟩] none ⟨[], [], [], []⟩)
  (.seq (.reg 1 [] [
      ⟨(.t 14), .mv (.v 0), none⟩,
      ⟨(.t 15), .mv (.v 1), none⟩,
      ⟨(.t 16), .call 10 [(.t 14), (.t 15)], none⟩,
      ⟨(.t 13), .mv (.t 16), none⟩,
      ⟨(.t 17), .ext 13 0, none⟩,
      ⟨(.t 18), .ext 13 1, none⟩,
      ⟨(.t 9), .allo [(.slice none 0 0), (.int .i64 0), (.slice none 0 0), (.slice none 0 0), (.slice none 0 0), (.slice none 0 0), (.bool false)], none⟩,
      ⟨.none, .st 7 (.t 9) (.t 17), none⟩,
      ⟨(.v 5), .asg (.t 18), none⟩] none ⟨[], [], [], []⟩)
  (.seq (.reg 2 [] [
      ⟨(.t 19), .mv (.v 2), none⟩,
      ⟨(.t 20), .bld [(.slice none 0 0), (.int .i64 0)] [(0, 1, (.t 19))], none⟩,
      ⟨(.t 21), .box 2 (.t 20), none⟩,
      ⟨(.v 6), .asg (.t 21), none⟩] none ⟨[], [], [], []⟩)
  (.seq (.reg 3 [] [
      ⟨(.v 7), .asg (.c (.int .i64 0)), none⟩] none ⟨[], [], [], []⟩)
  (.seq (.block 0
    (.loop
      (.seq (.seq (.reg 4 [] [
          ⟨(.t 22), .mv (.v 5), none⟩,
          ⟨(.t 23), .bin .eql (.t 22) (.c (.int .i64 0)), none⟩,
          ⟨(.t 24), .mv (.t 23), none⟩,
          ⟨(.t 25), .fa 2 (.t 9), some (24, true)⟩,
          ⟨(.t 26), .ld 1 false (.t 25), some (24, true)⟩,
          ⟨(.t 27), .len (.t 26), some (24, true)⟩,
          ⟨(.t 28), .bin .gtr (.t 27) (.c (.int .i64 0)), some (24, true)⟩,
          ⟨(.t 29), .pick (.t 24) (.t 28) (.c (.bool false)), none⟩,
          ⟨(.t 30), .mv (.t 29), none⟩,
          ⟨(.t 31), .mv (.v 7), some (30, true)⟩,
          ⟨(.t 32), .bin .lss (.t 31) (.c (.int .i64 1000)), some (30, true)⟩,
          ⟨(.t 33), .pick (.t 30) (.t 32) (.c (.bool false)), none⟩] none ⟨[], [], [], []⟩)
      (.cond (.t 33)
        .skip
        (.exit 0)))
      (.block 1
        (.seq (.seq (.reg 5 [] [
            ⟨(.t 35), .ld 7 true (.t 9), none⟩,
            ⟨(.t 36), .mv (.v 6), none⟩,
            ⟨(.t 37), .fa 2 (.t 9), none⟩,
            ⟨(.t 38), .ld 1 false (.t 37), none⟩,
            ⟨(.t 39), .len (.t 38), none⟩,
            ⟨(.t 40), .call 24 [(.t 36), (.t 39)], none⟩,
            ⟨(.t 41), .call 14 [(.t 35), (.t 40)], none⟩,
            ⟨(.t 34), .mv (.t 41), none⟩,
            ⟨(.t 42), .ext 34 0, none⟩,
            ⟨(.t 43), .ext 34 1, none⟩,
            ⟨.none, .st 7 (.t 9) (.t 42), none⟩,
            ⟨(.v 5), .asg (.t 43), none⟩] (some [[], [], [], [2], [3], [1, 4], [0, 5, 5], [6], [7], [7], [8, 6, 0, 1, 2, 3, 4, 5, 6, 7, 8], [9, 10, 0, 1, 2, 3, 4, 5, 6, 7, 8, 9, 10]]) ⟨[9], [9], [5], [(5, 9, 0)]⟩)
        (.seq (.reg 6 [] [
            ⟨(.t 44), .ld 7 true (.t 9), none⟩,
            ⟨(.t 45), .call 18 [(.t 44)], none⟩,
            ⟨(.t 46), .un .not (.t 45), none⟩] none ⟨[], [], [], []⟩)
        (.cond (.t 46)
          (.seq (.reg 7 [] [
              ⟨(.t 47), .ld 7 true (.t 9), none⟩,
              ⟨(.t 48), .mv (.v 7), none⟩,
              ⟨.none, .st 7 (.t 6) (.t 47), none⟩,
              ⟨(.v 3), .asg (.t 48), none⟩,
              ⟨(.v 4), .asg (.c (.bool false)), none⟩] none ⟨[], [], [], []⟩)
          .ret)
          .skip)))
        (.reg 8 [] [
            ⟨(.t 49), .mv (.v 7), none⟩,
            ⟨(.t 50), .bin .add (.t 49) (.c (.int .i64 1)), none⟩,
            ⟨(.v 7), .asg (.t 50), none⟩] none ⟨[], [], [], []⟩))))))
  (.seq (.reg 9 [] [
      ⟨(.t 51), .ld 7 true (.t 9), none⟩,
      ⟨(.t 52), .mv (.v 7), none⟩,
      ⟨(.t 53), .mv (.v 5), none⟩,
      ⟨(.t 54), .bin .eql (.t 53) (.c (.int .i64 0)), none⟩,
      ⟨.none, .st 7 (.t 6) (.t 51), none⟩,
      ⟨(.v 3), .asg (.t 52), none⟩,
      ⟨(.v 4), .asg (.t 54), none⟩] none ⟨[], [], [], []⟩)
  .ret))))))
theorem c20 : compFn Try.prog 20 F20 = some (3, strip a20, [.c 6 7 true, .v 3, .v 4]) ∧ lexAll a20 = true := ⟨by kernel_rfl, by kernel_rfl⟩
/-- clusterlocks/clusterlocksref19.Reach -/
def F21 : Fr := ⟨77, [0, 1, 4, 5, 6, 7, 8, 9]⟩
def a21 : ACode :=
  (.seq (.reg 0 [] [
      ⟨(.v 2), .asg (.c (.slice none 0 0)), none⟩] none ⟨[], [], [], []⟩)
  (.seq (.seq (.reg 1 [] [
      ⟨(.t 10), .mv (.v 0), none⟩,
      ⟨(.t 11), .call 28 [(.t 10)], none⟩,
      ⟨(.t 12), .un .not (.t 11), none⟩,
      ⟨(.t 13), .mv (.t 12), none⟩,
      ⟨(.t 14), .mv (.v 1), some (13, false)⟩,
      ⟨(.t 15), .bin .lss (.t 14) (.c (.int .i64 0)), some (13, false)⟩,
      ⟨(.t 16), .pick (.t 13) (.c (.bool true)) (.t 15), none⟩,
      ⟨(.t 17), .mv (.t 16), none⟩,
      ⟨(.t 18), .mv (.v 1), some (17, false)⟩,
      ⟨(.t 19), .mv (.v 0), some (17, false)⟩,
      ⟨(.t 20), .len (.t 19), some (17, false)⟩,
      ⟨(.t 21), .bin .geq (.t 18) (.t 20), some (17, false)⟩,
      ⟨(.t 22), .pick (.t 17) (.c (.bool true)) (.t 21), none⟩] none ⟨[], [], [], []⟩)
  (.cond (.t 22)
    (.seq (.reg 2 [] [
        ⟨(.v 2), .asg (.c (.slice none 0 0)), none⟩] none ⟨[], [], [], []⟩)
    .ret)
    .skip))
  (.seq (.reg 3 [] [
      ⟨(.t 23), .mv (.v 0), none⟩,
      ⟨(.t 24), .len (.t 23), none⟩,
      ⟨(.t 25), .mk 4 1 1 (.bool false) (.t 24) (.t 24), none⟩,
      ⟨(.v 3), .asg (.t 25), none⟩] none ⟨[], [], [], []⟩)
  (.seq (.reg 4 [] [
      ⟨(.t 26), .bls 3 1 (.int .i64 0) 0 [], none⟩,
      ⟨(.t 27), .mv (.v 0), none⟩,
      ⟨(.t 28), .mv (.v 1), none⟩,
      ⟨(.t 29), .ia 2 (.t 27) (.t 28), none⟩,
      ⟨(.t 30), .fa 1 (.t 29), none⟩,
      ⟨(.t 31), .ld 1 false (.t 30), none⟩,
      ⟨(.t 32), .app 3 1 8 (.t 26) (.t 31), none⟩,
      ⟨(.v 4), .asg (.t 32), none⟩] none ⟨[], [], [], []⟩)
  (.seq (.block 0
    (.loop
      (.seq (.seq (.reg 5 [] [
          ⟨(.t 33), .mv (.v 4), none⟩,
          ⟨(.t 34), .len (.t 33), none⟩,
          ⟨(.t 35), .bin .gtr (.t 34) (.c (.int .i64 0)), none⟩] none ⟨[], [], [], []⟩)
      (.cond (.t 35)
        .skip
        (.exit 0)))
      (.block 1
        (.seq (.reg 6 [] [
            ⟨(.t 36), .mv (.v 4), none⟩,
            ⟨(.t 37), .mv (.v 4), none⟩,
            ⟨(.t 38), .len (.t 37), none⟩,
            ⟨(.t 39), .bin .sub (.t 38) (.c (.int .i64 1)), none⟩,
            ⟨(.t 40), .ia 1 (.t 36) (.t 39), none⟩,
            ⟨(.t 41), .ld 1 false (.t 40), none⟩,
            ⟨(.v 5), .asg (.t 41), none⟩] none ⟨[], [], [], []⟩)
        (.seq (.reg 7 [] [
            ⟨(.t 42), .mv (.v 4), none⟩,
            ⟨(.t 43), .mv (.v 4), none⟩,
            ⟨(.t 44), .len (.t 43), none⟩,
            ⟨(.t 45), .bin .sub (.t 44) (.c (.int .i64 1)), none⟩,
            ⟨(.t 46), .sl 3 1 (.t 42) none (some (.t 45)) none, none⟩,
            ⟨(.v 4), .asg (.t 46), none⟩] none ⟨[], [], [], []⟩)
        (.seq (.reg 8 [] [
            ⟨(.t 47), .mv (.v 3), none⟩,
            ⟨(.t 48), .mv (.v 5), none⟩,
            ⟨(.t 49), .ia 1 (.t 47) (.t 48), none⟩,
            ⟨(.t 50), .ld 1 false (.t 49), none⟩,
            ⟨(.t 51), .un .not (.t 50), none⟩] none ⟨[], [], [], []⟩)
        (.cond (.t 51)
          (.seq (.reg 9 [] [
              ⟨(.t 52), .mv (.v 3), none⟩,
              ⟨(.t 53), .mv (.v 5), none⟩,
              ⟨(.t 54), .ia 1 (.t 52) (.t 53), none⟩,
              ⟨.none, .st 1 (.t 54) (.c (.bool true)), none⟩] none ⟨[], [], [], []⟩)
          (.reg 10 [.lend (.var 4) 61] [
              ⟨(.t 55), .mv (.v 4), none⟩,
              ⟨(.t 56), .mv (.v 0), none⟩,
              ⟨(.t 57), .mv (.v 5), none⟩,
              ⟨(.t 58), .ia 2 (.t 56) (.t 57), none⟩,
              ⟨(.t 59), .fa 1 (.t 58), none⟩,
              ⟨(.t 60), .ld 1 false (.t 59), none⟩,
              ⟨(.t 61), .app 3 1 8 (.t 55) (.t 60), none⟩,
              ⟨(.v 4), .asg (.t 61), none⟩] none ⟨[], [], [], []⟩))
          .skip))))))))
  (.seq (.reg 11 [] [
      ⟨(.v 6), .asg (.c (.slice none 0 0)), none⟩] none ⟨[], [], [], []⟩)
  (.seq (.seq (.reg 12 [.own (.var 6) 3 1] [
      ⟨(.v 7), .asg (.c (.int .i64 0)), none⟩] none ⟨[], [], [], []⟩)
  (.block 2
    (.loop
      (.seq (.seq (.reg 13 [] [
          ⟨(.t 62), .mv (.v 7), none⟩,
          ⟨(.t 63), .mv (.v 0), none⟩,
          ⟨(.t 64), .len (.t 63), none⟩,
          ⟨(.t 65), .bin .lss (.t 62) (.t 64), none⟩] none ⟨[], [], [], []⟩)
      (.cond (.t 65)
        .skip
        (.exit 2)))
      (.seq (.block 3
        (.seq (.reg 15 [] [
            ⟨(.t 68), .mv (.v 3), none⟩,
            ⟨(.t 69), .mv (.v 7), none⟩,
            ⟨(.t 70), .ia 1 (.t 68) (.t 69), none⟩,
            ⟨(.t 71), .ld 1 false (.t 70), none⟩] none ⟨[], [], [], []⟩)
        (.cond (.t 71)
          (.reg 16 [.lend (.var 6) 75] [
              ⟨(.t 72), .mv (.v 6), none⟩,
              ⟨(.t 73), .mv (.v 7), none⟩,
              ⟨(.t 74), .bls 3 1 (.int .i64 0) 1 [(0, (.t 73))], none⟩,
              ⟨(.t 75), .app 3 1 8 (.t 72) (.t 74), none⟩,
              ⟨(.v 6), .asg (.t 75), none⟩] none ⟨[], [], [], []⟩)
          .skip)))
      (.reg 14 [] [
          ⟨(.t 66), .mv (.v 7), none⟩,
          ⟨(.t 67), .bin .add (.t 66) (.c (.int .i64 1)), none⟩,
          ⟨(.v 7), .asg (.t 67), none⟩] none ⟨[], [], [], []⟩))))))
  (.seq (.reg 17 [.lend (.var 6) 76] [
      ⟨(.t 76), .mv (.v 6), none⟩,
      ⟨(.v 2), .asg (.t 76), none⟩] none ⟨[], [], [], []⟩)
  .ret))))))))
theorem c21 : compFn Try.prog 21 F21 = some (2, strip a21, [.v 2]) ∧ lexAll a21 = true := ⟨by kernel_rfl, by kernel_rfl⟩
/-- clusterlocks/clusterlocksref08.SameBools -/
def F22 : Fr := ⟨26, [0, 1, 4, 5]⟩
def a22 : ACode :=
  (.seq (.reg 0 [] [
      ⟨(.v 2), .asg (.c (.bool false)), none⟩] none ⟨[], [], [], []⟩)
  (.seq (.seq (.reg 1 [] [
      ⟨(.t 6), .mv (.v 0), none⟩,
      ⟨(.t 7), .len (.t 6), none⟩,
      ⟨(.t 8), .mv (.v 1), none⟩,
      ⟨(.t 9), .len (.t 8), none⟩,
      ⟨(.t 10), .bin .neq (.t 7) (.t 9), none⟩] none ⟨[], [], [], []⟩)
  (.cond (.t 10)
    (.seq (.reg 2 [] [
        ⟨(.v 2), .asg (.c (.bool false)), none⟩] none ⟨[], [], [], []⟩)
    .ret)
    .skip))
  (.seq (.seq (.reg 3 [] [
      ⟨(.v 3), .asg (.c (.int .i64 0)), none⟩] none ⟨[], [], [], []⟩)
  (.block 0
    (.loop
      (.seq (.seq (.reg 4 [] [
          ⟨(.t 11), .mv (.v 3), none⟩,
          ⟨(.t 12), .mv (.v 0), none⟩,
          ⟨(.t 13), .len (.t 12), none⟩,
          ⟨(.t 14), .bin .lss (.t 11) (.t 13), none⟩] none ⟨[], [], [], []⟩)
      (.cond (.t 14)
        .skip
        (.exit 0)))
      (.seq (.block 1
        (.seq (.reg 6 [] [
            ⟨(.t 17), .mv (.v 0), none⟩,
            ⟨(.t 18), .mv (.v 3), none⟩,
            ⟨(.t 19), .ia 1 (.t 17) (.t 18), none⟩,
            ⟨(.t 20), .ld 1 false (.t 19), none⟩,
            ⟨(.t 21), .mv (.v 1), none⟩,
            ⟨(.t 22), .mv (.v 3), none⟩,
            ⟨(.t 23), .ia 1 (.t 21) (.t 22), none⟩,
            ⟨(.t 24), .ld 1 false (.t 23), none⟩,
            ⟨(.t 25), .bib .neq (.t 20) (.t 24), none⟩] (some [[], [], [0, 1], [2], [], [], [4, 5], [6], [3, 7]]) ⟨[], [], [], []⟩)
        (.cond (.t 25)
          (.seq (.reg 7 [] [
              ⟨(.v 2), .asg (.c (.bool false)), none⟩] none ⟨[], [], [], []⟩)
          .ret)
          .skip)))
      (.reg 5 [] [
          ⟨(.t 15), .mv (.v 3), none⟩,
          ⟨(.t 16), .bin .add (.t 15) (.c (.int .i64 1)), none⟩,
          ⟨(.v 3), .asg (.t 16), none⟩] none ⟨[], [], [], []⟩))))))
  (.seq (.reg 8 [] [
      ⟨(.v 2), .asg (.c (.bool true)), none⟩] none ⟨[], [], [], []⟩)
  .ret))))
theorem c22 : compFn Try.prog 22 F22 = some (2, strip a22, [.v 2]) ∧ lexAll a22 = true := ⟨by kernel_rfl, by kernel_rfl⟩
/-- clusterlocks/clusterlocksref19.Stuck -/
def F23 : Fr := ⟨79, [0, 2, 3, 4, 5, 6, 7, 8, 9]⟩
def a23 : ACode :=
  (.seq (.reg 0 [] [
      ⟨(.v 1), .asg (.c (.slice none 0 0)), none⟩] none ⟨[], [], [], []⟩)
  (.seq (.seq (.reg 1 [] [
      ⟨(.t 10), .mv (.v 0), none⟩,
      ⟨(.t 11), .call 28 [(.t 10)], none⟩,
      ⟨(.t 12), .un .not (.t 11), none⟩] none ⟨[], [], [], []⟩)
  (.cond (.t 12)
    (.seq (.reg 2 [] [
        ⟨(.v 1), .asg (.c (.slice none 0 0)), none⟩] none ⟨[], [], [], []⟩)
    .ret)
    .skip))
  (.seq (.reg 3 [] [
      ⟨(.t 13), .mv (.v 0), none⟩,
      ⟨(.t 14), .len (.t 13), none⟩,
      ⟨(.t 15), .mk 4 1 1 (.bool false) (.t 14) (.t 14), none⟩,
      ⟨(.v 2), .asg (.t 15), none⟩] none ⟨[], [], [], []⟩)
  (.seq (.seq (.reg 4 [] [
      ⟨(.v 3), .asg (.c (.bool true)), none⟩] none ⟨[], [], [], []⟩)
  (.block 0
    (.loop
      (.seq (.seq (.reg 5 [] [
          ⟨(.t 16), .mv (.v 3), none⟩] none ⟨[], [], [], []⟩)
      (.cond (.t 16)
        .skip
        (.exit 0)))
      (.block 1
        (.seq (.reg 6 [] [
            ⟨(.v 3), .asg (.c (.bool false)), none⟩] none ⟨[], [], [], []⟩)
        (.seq (.reg 7 [] [
            ⟨(.v 4), .asg (.c (.int .i64 0)), none⟩] none ⟨[], [], [], []⟩)
        (.block 2
          (.loop
            (.seq (.seq (.reg 8 [] [
                ⟨(.t 17), .mv (.v 4), none⟩,
                ⟨(.t 18), .mv (.v 0), none⟩,
                ⟨(.t 19), .len (.t 18), none⟩,
                ⟨(.t 20), .bin .lss (.t 17) (.t 19), none⟩] none ⟨[], [], [], []⟩)
            (.cond (.t 20)
              .skip
              (.exit 2)))
            (.seq (.block 3
              (.seq (.reg 10 [] [
                  ⟨(.v 5), .asg (.c (.int .i64 0)), none⟩] none ⟨[], [], [], []⟩)
              (.seq (.seq (.reg 11 [] [
                  ⟨(.v 6), .asg (.c (.int .i64 0)), none⟩] none ⟨[], [], [], []⟩)
              (.block 4
                (.loop
                  (.seq (.seq (.reg 12 [] [
                      ⟨(.t 23), .mv (.v 6), none⟩,
                      ⟨(.t 24), .mv (.v 0), none⟩,
                      ⟨(.t 25), .mv (.v 4), none⟩,
                      ⟨(.t 26), .ia 2 (.t 24) (.t 25), none⟩,
                      ⟨(.t 27), .fa 1 (.t 26), none⟩,
                      ⟨(.t 28), .ld 1 false (.t 27), none⟩,
                      ⟨(.t 29), .len (.t 28), none⟩,
                      ⟨(.t 30), .bin .lss (.t 23) (.t 29), none⟩] none ⟨[], [], [], []⟩)
                  (.cond (.t 30)
                    .skip
                    (.exit 4)))
                  (.seq (.block 5
                    (.seq (.reg 14 [] [
                        ⟨(.t 33), .mv (.v 2), none⟩,
                        ⟨(.t 34), .mv (.v 0), none⟩,
                        ⟨(.t 35), .mv (.v 4), none⟩,
                        ⟨(.t 36), .ia 2 (.t 34) (.t 35), none⟩,
                        ⟨(.t 37), .fa 1 (.t 36), none⟩,
                        ⟨(.t 38), .ld 1 false (.t 37), none⟩,
                        ⟨(.t 39), .mv (.v 6), none⟩,
                        ⟨(.t 40), .ia 1 (.t 38) (.t 39), none⟩,
                        ⟨(.t 41), .ld 1 false (.t 40), none⟩,
                        ⟨(.t 42), .ia 1 (.t 33) (.t 41), none⟩,
                        ⟨(.t 43), .ld 1 false (.t 42), none⟩] none ⟨[], [], [], []⟩)
                    (.cond (.t 43)
                      (.reg 15 [] [
                          ⟨(.t 44), .mv (.v 5), none⟩,
                          ⟨(.t 45), .bin .add (.t 44) (.c (.int .i64 1)), none⟩,
                          ⟨(.v 5), .asg (.t 45), none⟩] none ⟨[], [], [], []⟩)
                      .skip)))
                  (.reg 13 [] [
                      ⟨(.t 31), .mv (.v 6), none⟩,
                      ⟨(.t 32), .bin .add (.t 31) (.c (.int .i64 1)), none⟩,
                      ⟨(.v 6), .asg (.t 32), none⟩] none ⟨[], [], [], []⟩))))))
              (.seq (.reg 16 [] [
                  ⟨(.t 46), .mv (.v 2), none⟩,
                  ⟨(.t 47), .mv (.v 4), none⟩,
                  ⟨(.t 48), .ia 1 (.t 46) (.t 47), none⟩,
                  ⟨(.t 49), .ld 1 false (.t 48), none⟩,
                  ⟨(.t 50), .un .not (.t 49), none⟩,
                  ⟨(.t 51), .mv (.t 50), none⟩,
                  ⟨(.t 52), .mv (.v 5), some (51, true)⟩,
                  ⟨(.t 53), .mv (.v 0), some (51, true)⟩,
                  ⟨(.t 54), .mv (.v 4), some (51, true)⟩,
                  ⟨(.t 55), .ia 2 (.t 53) (.t 54), some (51, true)⟩,
                  ⟨(.t 56), .fa 0 (.t 55), some (51, true)⟩,
                  ⟨(.t 57), .ld 1 false (.t 56), some (51, true)⟩,
                  ⟨(.t 58), .bin .geq (.t 52) (.t 57), some (51, true)⟩,
                  ⟨(.t 59), .pick (.t 51) (.t 58) (.c (.bool false)), none⟩] none ⟨[], [], [], []⟩)
              (.cond (.t 59)
                (.reg 17 [] [
                    ⟨(.t 60), .mv (.v 2), none⟩,
                    ⟨(.t 61), .mv (.v 4), none⟩,
                    ⟨(.t 62), .ia 1 (.t 60) (.t 61), none⟩,
                    ⟨.none, .st 1 (.t 62) (.c (.bool true)), none⟩,
                    ⟨(.v 3), .asg (.c (.bool true)), none⟩] none ⟨[], [], [], []⟩)
                .skip)))))
            (.reg 9 [] [
                ⟨(.t 21), .mv (.v 4), none⟩,
                ⟨(.t 22), .bin .add (.t 21) (.c (.int .i64 1)), none⟩,
                ⟨(.v 4), .asg (.t 22), none⟩] none ⟨[], [], [], []⟩))))))))))))
  (.seq (.reg 18 [] [
      ⟨(.v 7), .asg (.c (.slice none 0 0)), none⟩] none ⟨[], [], [], []⟩)
  (.seq (.seq (.reg 19 [.own (.var 7) 3 1] [
      ⟨(.v 8), .asg (.c (.int .i64 0)), none⟩] none ⟨[], [], [], []⟩)
  (.block 6
    (.loop
      (.seq (.seq (.reg 20 [] [
          ⟨(.t 63), .mv (.v 8), none⟩,
          ⟨(.t 64), .mv (.v 0), none⟩,
          ⟨(.t 65), .len (.t 64), none⟩,
          ⟨(.t 66), .bin .lss (.t 63) (.t 65), none⟩] none ⟨[], [], [], []⟩)
      (.cond (.t 66)
        .skip
        (.exit 6)))
      (.seq (.block 7
        (.seq (.reg 22 [] [
            ⟨(.t 69), .mv (.v 2), none⟩,
            ⟨(.t 70), .mv (.v 8), none⟩,
            ⟨(.t 71), .ia 1 (.t 69) (.t 70), none⟩,
            ⟨(.t 72), .ld 1 false (.t 71), none⟩,
            ⟨(.t 73), .un .not (.t 72), none⟩] none ⟨[], [], [], []⟩)
        (.cond (.t 73)
          (.reg 23 [.lend (.var 7) 77] [
              ⟨(.t 74), .mv (.v 7), none⟩,
              ⟨(.t 75), .mv (.v 8), none⟩,
              ⟨(.t 76), .bls 3 1 (.int .i64 0) 1 [(0, (.t 75))], none⟩,
              ⟨(.t 77), .app 3 1 8 (.t 74) (.t 76), none⟩,
              ⟨(.v 7), .asg (.t 77), none⟩] none ⟨[], [], [], []⟩)
          .skip)))
      (.reg 21 [] [
          ⟨(.t 67), .mv (.v 8), none⟩,
          ⟨(.t 68), .bin .add (.t 67) (.c (.int .i64 1)), none⟩,
          ⟨(.v 8), .asg (.t 68), none⟩] none ⟨[], [], [], []⟩))))))
  (.seq (.reg 24 [.lend (.var 7) 78] [
      ⟨(.t 78), .mv (.v 7), none⟩,
      ⟨(.v 1), .asg (.t 78), none⟩] none ⟨[], [], [], []⟩)
  .ret)))))))
theorem c23 : compFn Try.prog 23 F23 = some (1, strip a23, [.v 1]) ∧ lexAll a23 = true := ⟨by kernel_rfl, by kernel_rfl⟩
/-- (*clusterlocks/clusterlocksmill.Tape).Next -/
def F24 : Fr := ⟨35, [0, 1, 4]⟩
def a24 : ACode :=
  (.seq (.reg 0 [] [
      ⟨(.v 2), .asg (.c (.int .i64 0)), none⟩] none ⟨[], [], [], []⟩)
  (.seq (.seq (.reg 1 [] [
      ⟨(.t 5), .mv (.v 0), none⟩,
      ⟨(.t 6), .nilck (.t 5), none⟩,
      ⟨(.t 7), .fa 1 (.t 6), none⟩,
      ⟨(.t 8), .ld 1 false (.t 7), none⟩,
      ⟨(.t 9), .mv (.v 0), none⟩,
      ⟨(.t 10), .nilck (.t 9), none⟩,
      ⟨(.t 11), .fa 0 (.t 10), none⟩,
      ⟨(.t 12), .ld 1 false (.t 11), none⟩,
      ⟨(.t 13), .len (.t 12), none⟩,
      ⟨(.t 14), .bin .geq (.t 8) (.t 13), none⟩] (some [[], [0], [1], [2], [], [4], [5], [6], [7], [3, 8]]) ⟨[], [], [], []⟩)
  (.cond (.t 14)
    (.seq (.reg 2 [] [
        ⟨(.v 2), .asg (.c (.int .i64 0)), none⟩] none ⟨[], [], [], []⟩)
    .ret)
    .skip))
  (.seq (.reg 3 [] [
      ⟨(.t 15), .mv (.v 0), none⟩,
      ⟨(.t 16), .nilck (.t 15), none⟩,
      ⟨(.t 17), .fa 1 (.t 16), none⟩,
      ⟨(.t 18), .ld 1 false (.t 17), none⟩,
      ⟨(.t 19), .bin .add (.t 18) (.c (.int .i64 1)), none⟩,
      ⟨(.t 20), .nilck (.t 15), none⟩,
      ⟨(.t 21), .fa 1 (.t 20), none⟩,
      ⟨.none, .st 1 (.t 21) (.t 19), none⟩] none ⟨[], [], [], []⟩)
  (.seq (.reg 4 [] [
      ⟨(.t 22), .mv (.v 0), none⟩,
      ⟨(.t 23), .nilck (.t 22), none⟩,
      ⟨(.t 24), .fa 0 (.t 23), none⟩,
      ⟨(.t 25), .ld 1 false (.t 24), none⟩,
      ⟨(.t 26), .mv (.v 0), none⟩,
      ⟨(.t 27), .nilck (.t 26), none⟩,
      ⟨(.t 28), .fa 1 (.t 27), none⟩,
      ⟨(.t 29), .ld 1 false (.t 28), none⟩,
      ⟨(.t 30), .bin .sub (.t 29) (.c (.int .i64 1)), none⟩,
      ⟨(.t 31), .ia 1 (.t 25) (.t 30), none⟩,
      ⟨(.t 32), .ld 1 false (.t 31), none⟩,
      ⟨(.t 33), .mv (.v 1), none⟩,
      ⟨(.t 34), .call 13 [(.t 32), (.t 33)], none⟩,
      ⟨(.v 2), .asg (.t 34), none⟩] (some [[], [0], [1], [2], [], [4], [5], [6], [7], [3, 8], [9], [], [10, 11], [12, 12, 0, 1, 2, 3, 4, 5, 6, 7, 8, 9, 10, 11, 12]]) ⟨[], [], [], []⟩)
  .ret))))
theorem c24 : compFn Try.prog 24 F24 = some (2, strip a24, [.v 2]) ∧ lexAll a24 = true := ⟨by kernel_rfl, by kernel_rfl⟩
/-- clusterlocks/waitgraph.Valid -/
def F25 : Fr := ⟨58, [0, 2, 5, 7]⟩
def a25 : ACode :=
  (.seq (.reg 0 [] [
      ⟨(.v 1), .asg (.c (.bool false)), none⟩] none ⟨[], [], [], []⟩)
  (.seq (.seq (.reg 1 [] [
      ⟨(.t 8), .mv (.v 0), none⟩,
      ⟨(.t 9), .len (.t 8), none⟩,
      ⟨(.t 10), .bin .gtr (.t 9) (.c (.int .i64 160)), none⟩] none ⟨[], [], [], []⟩)
  (.cond (.t 10)
    (.seq (.reg 2 [] [
        ⟨(.v 1), .asg (.c (.bool false)), none⟩] none ⟨[], [], [], []⟩)
    .ret)
    .skip))
  (.seq (.seq (.reg 3 [] [
      ⟨(.t 11), .mv (.v 0), none⟩,
      ⟨(.t 12), .len (.t 11), none⟩,
      ⟨(.t 13), .mv (.c (.int .i64 0)), none⟩] none ⟨[], [], [], []⟩)
  (.block 0
    (.loop
      (.seq (.reg 4 [] [
          ⟨(.t 14), .bin .lss (.t 13) (.t 12), none⟩] none ⟨[], [], [], []⟩)
      (.seq (.cond (.t 14)
        .skip
        (.exit 0))
      (.seq (.block 1
        (.seq (.reg 5 [] [
            ⟨(.t 15), .ia 2 (.t 11) (.t 13), none⟩,
            ⟨(.t 16), .ld 2 true (.t 15), none⟩,
            ⟨(.t 4), .allo [(.int .i64 0), (.slice none 0 0)], none⟩,
            ⟨.none, .st 2 (.t 4) (.t 16), none⟩] none ⟨[], [], [], []⟩)
        (.seq (.seq (.reg 6 [] [
            ⟨(.t 17), .fa 0 (.t 4), none⟩,
            ⟨(.t 18), .ld 1 false (.t 17), none⟩,
            ⟨(.t 19), .bin .lss (.t 18) (.c (.int .i64 0)), none⟩,
            ⟨(.t 20), .mv (.t 19), none⟩,
            ⟨(.t 21), .fa 0 (.t 4), some (20, false)⟩,
            ⟨(.t 22), .ld 1 false (.t 21), some (20, false)⟩,
            ⟨(.t 23), .fa 1 (.t 4), some (20, false)⟩,
            ⟨(.t 24), .ld 1 false (.t 23), some (20, false)⟩,
            ⟨(.t 25), .len (.t 24), some (20, false)⟩,
            ⟨(.t 26), .bin .gtr (.t 22) (.t 25), some (20, false)⟩,
            ⟨(.t 27), .pick (.t 20) (.c (.bool true)) (.t 26), none⟩,
            ⟨(.t 28), .mv (.t 27), none⟩,
            ⟨(.t 29), .fa 0 (.t 4), some (28, false)⟩,
            ⟨(.t 30), .ld 1 false (.t 29), some (28, false)⟩,
            ⟨(.t 31), .bin .eql (.t 30) (.c (.int .i64 0)), some (28, false)⟩,
            ⟨(.t 32), .mv (.t 31), some (28, false)⟩,
            ⟨(.t 33), .fa 1 (.t 4), some (32, true)⟩,
            ⟨(.t 34), .ld 1 false (.t 33), some (32, true)⟩,
            ⟨(.t 35), .len (.t 34), some (32, true)⟩,
            ⟨(.t 36), .bin .gtr (.t 35) (.c (.int .i64 0)), some (32, true)⟩,
            ⟨(.t 37), .pick (.t 32) (.t 36) (.c (.bool false)), some (28, false)⟩,
            ⟨(.t 38), .pick (.t 28) (.c (.bool true)) (.t 37), none⟩] none ⟨[], [], [], []⟩)
        (.cond (.t 38)
          (.seq (.reg 7 [] [
              ⟨(.v 1), .asg (.c (.bool false)), none⟩] none ⟨[], [], [], []⟩)
          .ret)
          .skip))
        (.seq (.reg 8 [] [
            ⟨(.v 2), .asg (.c (.int .i64 (-1))), none⟩] none ⟨[], [], [], []⟩)
        (.seq (.reg 9 [] [
            ⟨(.t 39), .fa 1 (.t 4), none⟩,
            ⟨(.t 40), .ld 1 false (.t 39), none⟩,
            ⟨(.t 41), .len (.t 40), none⟩,
            ⟨(.t 42), .mv (.c (.int .i64 0)), none⟩] none ⟨[], [], [], []⟩)
        (.block 2
          (.loop
            (.seq (.reg 10 [] [
                ⟨(.t 43), .bin .lss (.t 42) (.t 41), none⟩] none ⟨[], [], [], []⟩)
            (.seq (.cond (.t 43)
              .skip
              (.exit 2))
            (.seq (.block 3
              (.seq (.reg 11 [] [
                  ⟨(.t 44), .ia 1 (.t 40) (.t 42), none⟩,
                  ⟨(.t 45), .ld 1 false (.t 44), none⟩,
                  ⟨(.v 3), .asg (.t 45), none⟩] none ⟨[], [], [], []⟩)
              (.seq (.seq (.reg 12 [] [
                  ⟨(.t 46), .mv (.v 3), none⟩,
                  ⟨(.t 47), .mv (.v 2), none⟩,
                  ⟨(.t 48), .bin .leq (.t 46) (.t 47), none⟩,
                  ⟨(.t 49), .mv (.t 48), none⟩,
                  ⟨(.t 50), .mv (.v 3), some (49, false)⟩,
                  ⟨(.t 51), .mv (.v 0), some (49, false)⟩,
                  ⟨(.t 52), .len (.t 51), some (49, false)⟩,
                  ⟨(.t 53), .bin .geq (.t 50) (.t 52), some (49, false)⟩,
                  ⟨(.t 54), .pick (.t 49) (.c (.bool true)) (.t 53), none⟩] none ⟨[], [], [], []⟩)
              (.cond (.t 54)
                (.seq (.reg 13 [] [
                    ⟨(.v 1), .asg (.c (.bool false)), none⟩] none ⟨[], [], [], []⟩)
                .ret)
                .skip))
              (.reg 14 [] [
                  ⟨(.t 55), .mv (.v 3), none⟩,
                  ⟨(.v 2), .asg (.t 55), none⟩] none ⟨[], [], [], []⟩))))
            (.reg 15 [] [
                ⟨(.t 56), .bin .add (.t 42) (.c (.int .i64 1)), none⟩,
                ⟨(.t 42), .mv (.t 56), none⟩] none ⟨[], [], [], []⟩)))))))))))
      (.reg 16 [] [
          ⟨(.t 57), .bin .add (.t 13) (.c (.int .i64 1)), none⟩,
          ⟨(.t 13), .mv (.t 57), none⟩] none ⟨[], [], [], []⟩)))))))
  (.seq (.reg 17 [] [
      ⟨(.v 1), .asg (.c (.bool true)), none⟩] none ⟨[], [], [], []⟩)
  .ret))))
theorem c25 : compFn Try.prog 25 F25 = some (1, strip a25, [.v 1]) ∧ lexAll a25 = true := ⟨by kernel_rfl, by kernel_rfl⟩
/-- clusterlocks/diffuse.copyGraph -/
def F26 : Fr := ⟨27, [0, 2, 3, 4]⟩
def a26 : ACode :=
  (.seq (.reg 0 [] [
      ⟨(.v 1), .asg (.c (.slice none 0 0)), none⟩] none ⟨[], [], [], []⟩)
  (.seq (.reg 1 [] [
      ⟨(.t 6), .mv (.v 0), none⟩,
      ⟨(.t 7), .len (.t 6), none⟩,
      ⟨(.t 8), .mk 42 2 32 (.agg #[(.int .i64 0), (.slice none 0 0)]) (.t 7) (.t 7), none⟩,
      ⟨(.v 2), .asg (.t 8), none⟩] none ⟨[], [], [], []⟩)
  (.seq (.seq (.reg 2 [] [
      ⟨(.t 9), .mv (.v 0), none⟩,
      ⟨(.t 10), .len (.t 9), none⟩,
      ⟨(.t 11), .mv (.c (.int .i64 0)), none⟩] none ⟨[], [], [], []⟩)
  (.block 0
    (.loop
      (.seq (.reg 3 [] [
          ⟨(.t 12), .bin .lss (.t 11) (.t 10), none⟩] none ⟨[], [], [], []⟩)
      (.seq (.cond (.t 12)
        .skip
        (.exit 0))
      (.seq (.block 1
        (.seq (.reg 4 [] [
            ⟨(.t 13), .mv (.t 11), none⟩,
            ⟨(.t 14), .ia 2 (.t 9) (.t 11), none⟩,
            ⟨(.t 15), .ld 2 true (.t 14), none⟩,
            ⟨(.t 5), .allo [(.int .i64 0), (.slice none 0 0)], none⟩,
            ⟨(.v 3), .asg (.t 13), none⟩,
            ⟨.none, .st 2 (.t 5) (.t 15), none⟩] none ⟨[], [], [], []⟩)
        (.reg 5 [] [
            ⟨(.t 16), .mv (.v 2), none⟩,
            ⟨(.t 17), .mv (.v 3), none⟩,
            ⟨(.t 18), .fa 0 (.t 5), none⟩,
            ⟨(.t 19), .ld 1 false (.t 18), none⟩,
            ⟨(.t 20), .fa 1 (.t 5), none⟩,
            ⟨(.t 21), .ld 1 false (.t 20), none⟩,
            ⟨(.t 22), .call 38 [(.t 21)], none⟩,
            ⟨(.t 23), .bld [(.int .i64 0), (.slice none 0 0)] [(0, 1, (.t 19)), (1, 1, (.t 22))], none⟩,
            ⟨(.t 24), .ia 2 (.t 16) (.t 17), none⟩,
            ⟨.none, .st 2 (.t 24) (.t 23), none⟩] (some [[], [], [], [2], [], [4], [5], [3, 6], [0, 1, 0, 1, 2, 3, 4, 5, 6, 7], [8, 7, 6, 0, 1, 2, 3, 4, 5, 6, 7]]) ⟨[5], [], [], []⟩)))
      (.reg 6 [] [
          ⟨(.t 25), .bin .add (.t 11) (.c (.int .i64 1)), none⟩,
          ⟨(.t 11), .mv (.t 25), none⟩] none ⟨[], [], [], []⟩)))))))
  (.seq (.reg 7 [.freeze (.var 2)] [
      ⟨(.t 26), .mv (.v 2), none⟩,
      ⟨(.v 1), .asg (.t 26), none⟩] none ⟨[], [], [], []⟩)
  .ret))))
theorem c26 : compFn Try.prog 26 F26 = some (1, strip a26, [.v 1]) ∧ lexAll a26 = true := ⟨by kernel_rfl, by kernel_rfl⟩
/-- clusterlocks/diffuse.ask -/
def F27 : Fr := ⟨47, [0, 1, 5]⟩
def a27 : ACode :=
  (.seq (.reg 0 [] [
      ⟨(.t 6), .mv (.v 0), none⟩,
      ⟨(.t 7), .nilck (.t 6), none⟩,
      ⟨(.t 8), .fa 5 (.t 7), none⟩,
      ⟨(.t 9), .ld 1 false (.t 8), none⟩,
      ⟨(.t 10), .mv (.v 1), none⟩,
      ⟨(.t 11), .mv (.v 0), none⟩,
      ⟨(.t 12), .nilck (.t 11), none⟩,
      ⟨(.t 13), .fa 0 (.t 12), none⟩,
      ⟨(.t 14), .ld 1 false (.t 13), none⟩,
      ⟨(.t 15), .mv (.v 1), none⟩,
      ⟨(.t 16), .ia 2 (.t 14) (.t 15), none⟩,
      ⟨(.t 17), .fa 1 (.t 16), none⟩,
      ⟨(.t 18), .ld 1 false (.t 17), none⟩,
      ⟨(.t 19), .len (.t 18), none⟩,
      ⟨(.t 20), .ia 1 (.t 9) (.t 10), none⟩,
      ⟨.none, .st 1 (.t 20) (.t 19), none⟩] (some [[], [0], [1], [2], [], [], [5], [6], [7], [], [8, 9], [10], [11], [12], [3, 4, 0, 1, 2, 3, 4, 5, 6, 7, 8, 9, 10, 11, 12, 13], [14, 13, 0, 1, 2, 3, 4, 5, 6, 7, 8, 9, 10, 11, 12, 13]]) ⟨[], [], [], []⟩)
  (.seq (.reg 1 [] [
      ⟨(.t 21), .mv (.v 0), none⟩,
      ⟨(.t 22), .nilck (.t 21), none⟩,
      ⟨(.t 23), .fa 0 (.t 22), none⟩,
      ⟨(.t 24), .ld 1 false (.t 23), none⟩,
      ⟨(.t 25), .mv (.v 1), none⟩,
      ⟨(.t 26), .ia 2 (.t 24) (.t 25), none⟩,
      ⟨(.t 27), .fa 1 (.t 26), none⟩,
      ⟨(.t 28), .ld 1 false (.t 27), none⟩,
      ⟨(.t 29), .len (.t 28), none⟩,
      ⟨(.t 30), .mv (.c (.int .i64 0)), none⟩] none ⟨[], [], [], []⟩)
  (.block 0
    (.loop
      (.seq (.reg 2 [] [
          ⟨(.t 31), .bin .lss (.t 30) (.t 29), none⟩] none ⟨[], [], [], []⟩)
      (.seq (.cond (.t 31)
        .skip
        (.exit 0))
      (.seq (.block 1
        (.seq (.reg 3 [] [
            ⟨(.t 32), .ia 1 (.t 28) (.t 30), none⟩,
            ⟨(.t 33), .ld 1 false (.t 32), none⟩,
            ⟨(.v 2), .asg (.t 33), none⟩] none ⟨[], [], [], []⟩)
        (.reg 4 [.lend (.cell 0 2) 43] [
            ⟨(.t 34), .mv (.v 0), none⟩,
            ⟨(.t 35), .mv (.v 0), none⟩,
            ⟨(.t 36), .nilck (.t 35), none⟩,
            ⟨(.t 37), .fa 2 (.t 36), none⟩,
            ⟨(.t 38), .ld 1 false (.t 37), none⟩,
            ⟨(.t 39), .mv (.v 1), none⟩,
            ⟨(.t 40), .mv (.v 2), none⟩,
            ⟨(.t 41), .bld [(.int .i64 0), (.int .i64 0), (.bool false)] [(0, 1, (.t 39)), (1, 1, (.t 40))], none⟩,
            ⟨(.t 42), .bls 59 3 (.agg #[(.int .i64 0), (.int .i64 0), (.bool false)]) 1 [(0, (.t 41))], none⟩,
            ⟨(.t 43), .app 59 3 24 (.t 38) (.t 42), none⟩,
            ⟨(.t 44), .nilck (.t 34), none⟩,
            ⟨(.t 45), .fa 2 (.t 44), none⟩,
            ⟨.none, .st 1 (.t 45) (.t 43), none⟩] none ⟨[], [], [], []⟩)))
      (.reg 5 [] [
          ⟨(.t 46), .bin .add (.t 30) (.c (.int .i64 1)), none⟩,
          ⟨(.t 30), .mv (.t 46), none⟩] none ⟨[], [], [], []⟩))))))))
theorem c27 : compFn Try.prog 27 F27 = some (2, strip a27, []) ∧ lexAll a27 = true := ⟨by kernel_rfl, by kernel_rfl⟩
/-- clusterlocks/clusterlocksref19.Valid -/
def F28 : Fr := ⟨116, [0, 2, 3, 4]⟩
def a28 : ACode :=
  (.seq (.reg 0 [] [
      ⟨(.v 1), .asg (.c (.bool false)), none⟩] none ⟨[], [], [], []⟩)
  (.seq (.seq (.reg 1 [] [
      ⟨(.t 5), .mv (.v 0), none⟩,
      ⟨(.t 6), .len (.t 5), none⟩,
      ⟨(.t 7), .bin .gtr (.t 6) (.c (.int .i64 160)), none⟩] none ⟨[], [], [], []⟩)
  (.cond (.t 7)
    (.seq (.reg 2 [] [
        ⟨(.v 1), .asg (.c (.bool false)), none⟩] none ⟨[], [], [], []⟩)
    .ret)
    .skip))
  (.seq (.seq (.reg 3 [] [
      ⟨(.v 2), .asg (.c (.int .i64 0)), none⟩] none ⟨[], [], [], []⟩)
  (.block 0
    (.loop
      (.seq (.seq (.reg 4 [] [
          ⟨(.t 8), .mv (.v 2), none⟩,
          ⟨(.t 9), .mv (.v 0), none⟩,
          ⟨(.t 10), .len (.t 9), none⟩,
          ⟨(.t 11), .bin .lss (.t 8) (.t 10), none⟩] none ⟨[], [], [], []⟩)
      (.cond (.t 11)
        .skip
        (.exit 0)))
      (.seq (.block 1
        (.seq (.seq (.reg 6 [] [
            ⟨(.t 14), .mv (.v 0), none⟩,
            ⟨(.t 15), .mv (.v 2), none⟩,
            ⟨(.t 16), .ia 2 (.t 14) (.t 15), none⟩,
            ⟨(.t 17), .fa 1 (.t 16), none⟩,
            ⟨(.t 18), .ld 1 false (.t 17), none⟩,
            ⟨(.t 19), .len (.t 18), none⟩,
            ⟨(.t 20), .bin .gtr (.t 19) (.c (.int .i64 160)), none⟩,
            ⟨(.t 21), .mv (.t 20), none⟩,
            ⟨(.t 22), .mv (.v 0), some (21, false)⟩,
            ⟨(.t 23), .mv (.v 2), some (21, false)⟩,
            ⟨(.t 24), .ia 2 (.t 22) (.t 23), some (21, false)⟩,
            ⟨(.t 25), .fa 0 (.t 24), some (21, false)⟩,
            ⟨(.t 26), .ld 1 false (.t 25), some (21, false)⟩,
            ⟨(.t 27), .bin .lss (.t 26) (.c (.int .i64 0)), some (21, false)⟩,
            ⟨(.t 28), .pick (.t 21) (.c (.bool true)) (.t 27), none⟩,
            ⟨(.t 29), .mv (.t 28), none⟩,
            ⟨(.t 30), .mv (.v 0), some (29, false)⟩,
            ⟨(.t 31), .mv (.v 2), some (29, false)⟩,
            ⟨(.t 32), .ia 2 (.t 30) (.t 31), some (29, false)⟩,
            ⟨(.t 33), .fa 0 (.t 32), some (29, false)⟩,
            ⟨(.t 34), .ld 1 false (.t 33), some (29, false)⟩,
            ⟨(.t 35), .mv (.v 0), some (29, false)⟩,
            ⟨(.t 36), .mv (.v 2), some (29, false)⟩,
            ⟨(.t 37), .ia 2 (.t 35) (.t 36), some (29, false)⟩,
            ⟨(.t 38), .fa 1 (.t 37), some (29, false)⟩,
            ⟨(.t 39), .ld 1 false (.t 38), some (29, false)⟩,
            ⟨(.t 40), .len (.t 39), some (29, false)⟩,
            ⟨(.t 41), .bin .gtr (.t 34) (.t 40), some (29, false)⟩,
            ⟨(.t 42), .pick (.t 29) (.c (.bool true)) (.t 41), none⟩,
            ⟨(.t 43), .mv (.t 42), none⟩,
            ⟨(.t 44), .mv (.v 0), some (43, false)⟩,
            ⟨(.t 45), .mv (.v 2), some (43, false)⟩,
            ⟨(.t 46), .ia 2 (.t 44) (.t 45), some (43, false)⟩,
            ⟨(.t 47), .fa 0 (.t 46), some (43, false)⟩,
            ⟨(.t 48), .ld 1 false (.t 47), some (43, false)⟩,
            ⟨(.t 49), .bin .eql (.t 48) (.c (.int .i64 0)), some (43, false)⟩,
            ⟨(.t 50), .mv (.t 49), some (43, false)⟩,
            ⟨(.t 51), .mv (.v 0), some (50, true)⟩,
            ⟨(.t 52), .mv (.v 2), some (50, true)⟩,
            ⟨(.t 53), .ia 2 (.t 51) (.t 52), some (50, true)⟩,
            ⟨(.t 54), .fa 1 (.t 53), some (50, true)⟩,
            ⟨(.t 55), .ld 1 false (.t 54), some (50, true)⟩,
            ⟨(.t 56), .len (.t 55), some (50, true)⟩,
            ⟨(.t 57), .bin .gtr (.t 56) (.c (.int .i64 0)), some (50, true)⟩,
            ⟨(.t 58), .pick (.t 50) (.t 57) (.c (.bool false)), some (43, false)⟩,
            ⟨(.t 59), .pick (.t 43) (.c (.bool true)) (.t 58), none⟩] (some [[], [], [0, 1], [2], [3], [4], [5], [6], [7], [7], [8, 9, 7], [10, 7], [11, 7], [12, 7], [7, 13], [14, 7], [15], [15], [16, 17, 15], [18, 15], [19, 15], [15], [15], [21, 22, 15], [23, 15], [24, 15], [25, 15], [20, 26, 15], [15, 27], [28, 15], [29], [29], [30, 31, 29], [32, 29], [33, 29], [34, 29], [35, 29, 29], [36], [36], [37, 38, 36], [39, 36], [40, 36], [41, 36], [42, 36], [36, 43, 29], [29, 44]]) ⟨[21, 29, 43, 50], [], [], []⟩)
        (.cond (.t 59)
          (.seq (.reg 7 [] [
              ⟨(.v 1), .asg (.c (.bool false)), none⟩] none ⟨[], [], [], []⟩)
          .ret)
          .skip))
        (.seq (.reg 8 [] [
            ⟨(.v 3), .asg (.c (.int .i64 0)), none⟩] none ⟨[], [], [], []⟩)
        (.block 2
          (.loop
            (.seq (.seq (.reg 9 [] [
                ⟨(.t 60), .mv (.v 3), none⟩,
                ⟨(.t 61), .mv (.v 0), none⟩,
                ⟨(.t 62), .mv (.v 2), none⟩,
                ⟨(.t 63), .ia 2 (.t 61) (.t 62), none⟩,
                ⟨(.t 64), .fa 1 (.t 63), none⟩,
                ⟨(.t 65), .ld 1 false (.t 64), none⟩,
                ⟨(.t 66), .len (.t 65), none⟩,
                ⟨(.t 67), .bin .lss (.t 60) (.t 66), none⟩] none ⟨[], [], [], []⟩)
            (.cond (.t 67)
              .skip
              (.exit 2)))
            (.seq (.block 3
              (.seq (.reg 11 [] [
                  ⟨(.t 70), .mv (.v 0), none⟩,
                  ⟨(.t 71), .mv (.v 2), none⟩,
                  ⟨(.t 72), .ia 2 (.t 70) (.t 71), none⟩,
                  ⟨(.t 73), .fa 1 (.t 72), none⟩,
                  ⟨(.t 74), .ld 1 false (.t 73), none⟩,
                  ⟨(.t 75), .mv (.v 3), none⟩,
                  ⟨(.t 76), .ia 1 (.t 74) (.t 75), none⟩,
                  ⟨(.t 77), .ld 1 false (.t 76), none⟩,
                  ⟨(.t 78), .bin .lss (.t 77) (.c (.int .i64 0)), none⟩,
                  ⟨(.t 79), .mv (.t 78), none⟩,
                  ⟨(.t 80), .mv (.v 0), some (79, false)⟩,
                  ⟨(.t 81), .mv (.v 2), some (79, false)⟩,
                  ⟨(.t 82), .ia 2 (.t 80) (.t 81), some (79, false)⟩,
                  ⟨(.t 83), .fa 1 (.t 82), some (79, false)⟩,
                  ⟨(.t 84), .ld 1 false (.t 83), some (79, false)⟩,
                  ⟨(.t 85), .mv (.v 3), some (79, false)⟩,
                  ⟨(.t 86), .ia 1 (.t 84) (.t 85), some (79, false)⟩,
                  ⟨(.t 87), .ld 1 false (.t 86), some (79, false)⟩,
                  ⟨(.t 88), .mv (.v 0), some (79, false)⟩,
                  ⟨(.t 89), .len (.t 88), some (79, false)⟩,
                  ⟨(.t 90), .bin .geq (.t 87) (.t 89), some (79, false)⟩,
                  ⟨(.t 91), .pick (.t 79) (.c (.bool true)) (.t 90), none⟩,
                  ⟨(.t 92), .mv (.t 91), none⟩,
                  ⟨(.t 93), .mv (.v 3), some (92, false)⟩,
                  ⟨(.t 94), .bin .gtr (.t 93) (.c (.int .i64 0)), some (92, false)⟩,
                  ⟨(.t 95), .mv (.t 94), some (92, false)⟩,
                  ⟨(.t 96), .mv (.v 0), some (95, true)⟩,
                  ⟨(.t 97), .mv (.v 2), some (95, true)⟩,
                  ⟨(.t 98), .ia 2 (.t 96) (.t 97), some (95, true)⟩,
                  ⟨(.t 99), .fa 1 (.t 98), some (95, true)⟩,
                  ⟨(.t 100), .ld 1 false (.t 99), some (95, true)⟩,
                  ⟨(.t 101), .mv (.v 3), some (95, true)⟩,
                  ⟨(.t 102), .bin .sub (.t 101) (.c (.int .i64 1)), some (95, true)⟩,
                  ⟨(.t 103), .ia 1 (.t 100) (.t 102), some (95, true)⟩,
                  ⟨(.t 104), .ld 1 false (.t 103), some (95, true)⟩,
                  ⟨(.t 105), .mv (.v 0), some (95, true)⟩,
                  ⟨(.t 106), .mv (.v 2), some (95, true)⟩,
                  ⟨(.t 107), .ia 2 (.t 105) (.t 106), some (95, true)⟩,
                  ⟨(.t 108), .fa 1 (.t 107), some (95, true)⟩,
                  ⟨(.t 109), .ld 1 false (.t 108), some (95, true)⟩,
                  ⟨(.t 110), .mv (.v 3), some (95, true)⟩,
                  ⟨(.t 111), .ia 1 (.t 109) (.t 110), some (95, true)⟩,
                  ⟨(.t 112), .ld 1 false (.t 111), some (95, true)⟩,
                  ⟨(.t 113), .bin .geq (.t 104) (.t 112), some (95, true)⟩,
                  ⟨(.t 114), .pick (.t 95) (.t 113) (.c (.bool false)), some (92, false)⟩,
                  ⟨(.t 115), .pick (.t 92) (.c (.bool true)) (.t 114), none⟩] (some [[], [], [0, 1], [2], [3], [], [4, 5], [6], [7], [8], [9], [9], [10, 11, 9], [12, 9], [13, 9], [9], [14, 15, 9], [16, 9], [9], [18, 9], [17, 19, 9], [9, 20], [21, 9], [22], [23, 22], [24, 22, 22], [25], [25], [26, 27, 25], [28, 25], [29, 25], [25], [31, 25], [30, 32, 25], [33, 25], [25], [25], [35, 36, 25], [37, 25], [38, 25], [25], [39, 40, 25], [41, 25], [34, 42, 25], [25, 43, 22], [22, 44]]) ⟨[79, 95], [], [], []⟩)
              (.cond (.t 115)
                (.seq (.reg 12 [] [
                    ⟨(.v 1), .asg (.c (.bool false)), none⟩] none ⟨[], [], [], []⟩)
                .ret)
                .skip)))
            (.reg 10 [] [
                ⟨(.t 68), .mv (.v 3), none⟩,
                ⟨(.t 69), .bin .add (.t 68) (.c (.int .i64 1)), none⟩,
                ⟨(.v 3), .asg (.t 69), none⟩] none ⟨[], [], [], []⟩))))))))
      (.reg 5 [] [
          ⟨(.t 12), .mv (.v 2), none⟩,
          ⟨(.t 13), .bin .add (.t 12) (.c (.int .i64 1)), none⟩,
          ⟨(.v 2), .asg (.t 13), none⟩] none ⟨[], [], [], []⟩))))))
  (.seq (.reg 13 [] [
      ⟨(.v 1), .asg (.c (.bool true)), none⟩] none ⟨[], [], [], []⟩)
  .ret))))
theorem c28 : compFn Try.prog 28 F28 = some (1, strip a28, [.v 1]) ∧ lexAll a28 = true := ⟨by kernel_rfl, by kernel_rfl⟩
/-- clusterlocks/clusterlocksref34.Copy -/
def F29 : Fr := ⟨23, [0, 2, 3]⟩
def a29 : ACode :=
  (.seq (.reg 0 [] [
      ⟨(.v 1), .asg (.c (.slice none 0 0)), none⟩] none ⟨[], [], [], []⟩)
  (.seq (.reg 1 [] [
      ⟨(.v 2), .asg (.c (.slice none 0 0)), none⟩] none ⟨[], [], [], []⟩)
  (.seq (.seq (.reg 2 [.own (.var 2) 42 2] [
      ⟨(.t 6), .mv (.v 0), none⟩,
      ⟨(.t 7), .len (.t 6), none⟩,
      ⟨(.t 8), .mv (.c (.int .i64 0)), none⟩] none ⟨[], [], [], []⟩)
  (.block 0
    (.loop
      (.seq (.reg 3 [] [
          ⟨(.t 9), .bin .lss (.t 8) (.t 7), none⟩] none ⟨[], [], [], []⟩)
      (.seq (.cond (.t 9)
        .skip
        (.exit 0))
      (.seq (.block 1
        (.seq (.reg 4 [] [
            ⟨(.t 10), .ia 2 (.t 6) (.t 8), none⟩,
            ⟨(.t 11), .ld 2 true (.t 10), none⟩,
            ⟨(.t 5), .allo [(.int .i64 0), (.slice none 0 0)], none⟩,
            ⟨.none, .st 2 (.t 5) (.t 11), none⟩] none ⟨[], [], [], []⟩)
        (.reg 5 [.lend (.var 2) 20] [
            ⟨(.t 12), .mv (.v 2), none⟩,
            ⟨(.t 13), .fa 0 (.t 5), none⟩,
            ⟨(.t 14), .ld 1 false (.t 13), none⟩,
            ⟨(.t 15), .fa 1 (.t 5), none⟩,
            ⟨(.t 16), .ld 1 false (.t 15), none⟩,
            ⟨(.t 17), .app 3 1 8 (.c (.slice none 0 0)) (.t 16), none⟩,
            ⟨(.t 18), .bld [(.int .i64 0), (.slice none 0 0)] [(0, 1, (.t 14)), (1, 1, (.t 17))], none⟩,
            ⟨(.t 19), .bls 42 2 (.agg #[(.int .i64 0), (.slice none 0 0)]) 1 [(0, (.t 18))], none⟩,
            ⟨(.t 20), .app 42 2 32 (.t 12) (.t 19), none⟩,
            ⟨(.v 2), .asg (.t 20), none⟩] (some [[], [], [1], [], [3], [4], [2, 5], [6], [0, 7, 5], [8, 8, 0, 1, 2, 3, 4, 5, 6, 7, 8]]) ⟨[5], [], [], []⟩)))
      (.reg 6 [] [
          ⟨(.t 21), .bin .add (.t 8) (.c (.int .i64 1)), none⟩,
          ⟨(.t 8), .mv (.t 21), none⟩] none ⟨[], [], [], []⟩)))))))
  (.seq (.reg 7 [.lend (.var 2) 22] [
      ⟨(.t 22), .mv (.v 2), none⟩,
      ⟨(.v 1), .asg (.t 22), none⟩] none ⟨[], [], [], []⟩)
  .ret))))
theorem c29 : compFn Try.prog 29 F29 = some (1, strip a29, [.v 1]) ∧ lexAll a29 = true := ⟨by kernel_rfl, by kernel_rfl⟩
/-- clusterlocks/clusterlocksref35.queries -/
def F30 : Fr := ⟨26, [0, 1, 4, 5, 7]⟩
def a30 : ACode :=
  (.seq (.reg 0 [] [
      ⟨(.v 2), .asg (.c (.slice none 0 0)), none⟩] none ⟨[], [], [], []⟩)
  (.seq (.reg 1 [] [
      ⟨(.v 3), .asg (.c (.slice none 0 0)), none⟩] none ⟨[], [], [], []⟩)
  (.seq (.seq (.reg 2 [.own (.var 3) 59 3] [
      ⟨(.t 8), .mv (.v 0), none⟩,
      ⟨(.t 9), .mv (.v 1), none⟩,
      ⟨(.t 10), .ia 2 (.t 8) (.t 9), none⟩,
      ⟨(.t 11), .fa 1 (.t 10), none⟩,
      ⟨(.t 12), .ld 1 false (.t 11), none⟩,
      ⟨(.t 13), .len (.t 12), none⟩,
      ⟨(.t 14), .mv (.c (.int .i64 0)), none⟩] none ⟨[], [], [], []⟩)
  (.block 0
    (.loop
      (.seq (.reg 3 [] [
          ⟨(.t 15), .bin .lss (.t 14) (.t 13), none⟩] none ⟨[], [], [], []⟩)
      (.seq (.cond (.t 15)
        .skip
        (.exit 0))
      (.seq (.block 1
        (.seq (.reg 4 [] [
            ⟨(.t 16), .ia 1 (.t 12) (.t 14), none⟩,
            ⟨(.t 17), .ld 1 false (.t 16), none⟩,
            ⟨(.v 4), .asg (.t 17), none⟩] none ⟨[], [], [], []⟩)
        (.reg 5 [.lend (.var 3) 23] [
            ⟨(.t 18), .mv (.v 3), none⟩,
            ⟨(.t 19), .mv (.v 1), none⟩,
            ⟨(.t 20), .mv (.v 4), none⟩,
            ⟨(.t 21), .bld [(.int .i64 0), (.int .i64 0), (.bool false)] [(0, 1, (.t 19)), (1, 1, (.t 20))], none⟩,
            ⟨(.t 22), .bls 59 3 (.agg #[(.int .i64 0), (.int .i64 0), (.bool false)]) 1 [(0, (.t 21))], none⟩,
            ⟨(.t 23), .app 59 3 24 (.t 18) (.t 22), none⟩,
            ⟨(.v 3), .asg (.t 23), none⟩] none ⟨[], [], [], []⟩)))
      (.reg 6 [] [
          ⟨(.t 24), .bin .add (.t 14) (.c (.int .i64 1)), none⟩,
          ⟨(.t 14), .mv (.t 24), none⟩] none ⟨[], [], [], []⟩)))))))
  (.seq (.reg 7 [.lend (.var 3) 25] [
      ⟨(.t 25), .mv (.v 3), none⟩,
      ⟨(.v 2), .asg (.t 25), none⟩] none ⟨[], [], [], []⟩)
  .ret))))
theorem c30 : compFn Try.prog 30 F30 = some (2, strip a30, [.v 2]) ∧ lexAll a30 = true := ⟨by kernel_rfl, by kernel_rfl⟩
/-- clusterlocks/clusterlocksref19.Same -/
def F31 : Fr := ⟨42, [0, 1, 4, 5]⟩
def a31 : ACode :=
  (.seq (.reg 0 [] [
      ⟨(.v 2), .asg (.c (.bool false)), none⟩] none ⟨[], [], [], []⟩)
  (.seq (.seq (.reg 1 [] [
      ⟨(.t 6), .mv (.v 0), none⟩,
      ⟨(.t 7), .len (.t 6), none⟩,
      ⟨(.t 8), .mv (.v 1), none⟩,
      ⟨(.t 9), .len (.t 8), none⟩,
      ⟨(.t 10), .bin .neq (.t 7) (.t 9), none⟩] none ⟨[], [], [], []⟩)
  (.cond (.t 10)
    (.seq (.reg 2 [] [
        ⟨(.v 2), .asg (.c (.bool false)), none⟩] none ⟨[], [], [], []⟩)
    .ret)
    .skip))
  (.seq (.seq (.reg 3 [] [
      ⟨(.v 3), .asg (.c (.int .i64 0)), none⟩] none ⟨[], [], [], []⟩)
  (.block 0
    (.loop
      (.seq (.seq (.reg 4 [] [
          ⟨(.t 11), .mv (.v 3), none⟩,
          ⟨(.t 12), .mv (.v 0), none⟩,
          ⟨(.t 13), .len (.t 12), none⟩,
          ⟨(.t 14), .bin .lss (.t 11) (.t 13), none⟩] none ⟨[], [], [], []⟩)
      (.cond (.t 14)
        .skip
        (.exit 0)))
      (.seq (.block 1
        (.seq (.reg 6 [] [
            ⟨(.t 17), .mv (.v 0), none⟩,
            ⟨(.t 18), .mv (.v 3), none⟩,
            ⟨(.t 19), .ia 2 (.t 17) (.t 18), none⟩,
            ⟨(.t 20), .fa 0 (.t 19), none⟩,
            ⟨(.t 21), .ld 1 false (.t 20), none⟩,
            ⟨(.t 22), .mv (.v 1), none⟩,
            ⟨(.t 23), .mv (.v 3), none⟩,
            ⟨(.t 24), .ia 2 (.t 22) (.t 23), none⟩,
            ⟨(.t 25), .fa 0 (.t 24), none⟩,
            ⟨(.t 26), .ld 1 false (.t 25), none⟩,
            ⟨(.t 27), .bin .neq (.t 21) (.t 26), none⟩,
            ⟨(.t 28), .mv (.t 27), none⟩,
            ⟨(.t 29), .mv (.v 0), some (28, false)⟩,
            ⟨(.t 30), .mv (.v 3), some (28, false)⟩,
            ⟨(.t 31), .ia 2 (.t 29) (.t 30), some (28, false)⟩,
            ⟨(.t 32), .fa 1 (.t 31), some (28, false)⟩,
            ⟨(.t 33), .ld 1 false (.t 32), some (28, false)⟩,
            ⟨(.t 34), .mv (.v 1), some (28, false)⟩,
            ⟨(.t 35), .mv (.v 3), some (28, false)⟩,
            ⟨(.t 36), .ia 2 (.t 34) (.t 35), some (28, false)⟩,
            ⟨(.t 37), .fa 1 (.t 36), some (28, false)⟩,
            ⟨(.t 38), .ld 1 false (.t 37), some (28, false)⟩,
            ⟨(.t 39), .call 32 [(.t 33), (.t 38)], some (28, false)⟩,
            ⟨(.t 40), .un .not (.t 39), some (28, false)⟩,
            ⟨(.t 41), .pick (.t 28) (.c (.bool true)) (.t 40), none⟩] (some [[], [], [0, 1], [2], [3], [], [], [5, 6], [7], [8], [4, 9], [10], [11], [11], [12, 13, 11], [14, 11], [15, 11], [11], [11], [17, 18, 11], [19, 11], [20, 11], [16, 21, 11, 11], [22, 11], [11, 23]]) ⟨[28], [], [], []⟩)
        (.cond (.t 41)
          (.seq (.reg 7 [] [
              ⟨(.v 2), .asg (.c (.bool false)), none⟩] none ⟨[], [], [], []⟩)
          .ret)
          .skip)))
      (.reg 5 [] [
          ⟨(.t 15), .mv (.v 3), none⟩,
          ⟨(.t 16), .bin .add (.t 15) (.c (.int .i64 1)), none⟩,
          ⟨(.v 3), .asg (.t 16), none⟩] none ⟨[], [], [], []⟩))))))
  (.seq (.reg 8 [] [
      ⟨(.v 2), .asg (.c (.bool true)), none⟩] none ⟨[], [], [], []⟩)
  .ret))))
theorem c31 : compFn Try.prog 31 F31 = some (2, strip a31, [.v 2]) ∧ lexAll a31 = true := ⟨by kernel_rfl, by kernel_rfl⟩
/-- clusterlocks/clusterlocksref19.SameInts -/
def F32 : Fr := ⟨26, [0, 1, 4, 5]⟩
def a32 : ACode :=
  (.seq (.reg 0 [] [
      ⟨(.v 2), .asg (.c (.bool false)), none⟩] none ⟨[], [], [], []⟩)
  (.seq (.seq (.reg 1 [] [
      ⟨(.t 6), .mv (.v 0), none⟩,
      ⟨(.t 7), .len (.t 6), none⟩,
      ⟨(.t 8), .mv (.v 1), none⟩,
      ⟨(.t 9), .len (.t 8), none⟩,
      ⟨(.t 10), .bin .neq (.t 7) (.t 9), none⟩] none ⟨[], [], [], []⟩)
  (.cond (.t 10)
    (.seq (.reg 2 [] [
        ⟨(.v 2), .asg (.c (.bool false)), none⟩] none ⟨[], [], [], []⟩)
    .ret)
    .skip))
  (.seq (.seq (.reg 3 [] [
      ⟨(.v 3), .asg (.c (.int .i64 0)), none⟩] none ⟨[], [], [], []⟩)
  (.block 0
    (.loop
      (.seq (.seq (.reg 4 [] [
          ⟨(.t 11), .mv (.v 3), none⟩,
          ⟨(.t 12), .mv (.v 0), none⟩,
          ⟨(.t 13), .len (.t 12), none⟩,
          ⟨(.t 14), .bin .lss (.t 11) (.t 13), none⟩] none ⟨[], [], [], []⟩)
      (.cond (.t 14)
        .skip
        (.exit 0)))
      (.seq (.block 1
        (.seq (.reg 6 [] [
            ⟨(.t 17), .mv (.v 0), none⟩,
            ⟨(.t 18), .mv (.v 3), none⟩,
            ⟨(.t 19), .ia 1 (.t 17) (.t 18), none⟩,
            ⟨(.t 20), .ld 1 false (.t 19), none⟩,
            ⟨(.t 21), .mv (.v 1), none⟩,
            ⟨(.t 22), .mv (.v 3), none⟩,
            ⟨(.t 23), .ia 1 (.t 21) (.t 22), none⟩,
            ⟨(.t 24), .ld 1 false (.t 23), none⟩,
            ⟨(.t 25), .bin .neq (.t 20) (.t 24), none⟩] (some [[], [], [0, 1], [2], [], [], [4, 5], [6], [3, 7]]) ⟨[], [], [], []⟩)
        (.cond (.t 25)
          (.seq (.reg 7 [] [
              ⟨(.v 2), .asg (.c (.bool false)), none⟩] none ⟨[], [], [], []⟩)
          .ret)
          .skip)))
      (.reg 5 [] [
          ⟨(.t 15), .mv (.v 3), none⟩,
          ⟨(.t 16), .bin .add (.t 15) (.c (.int .i64 1)), none⟩,
          ⟨(.v 3), .asg (.t 16), none⟩] none ⟨[], [], [], []⟩))))))
  (.seq (.reg 8 [] [
      ⟨(.v 2), .asg (.c (.bool true)), none⟩] none ⟨[], [], [], []⟩)
  .ret))))
theorem c32 : compFn Try.prog 32 F32 = some (2, strip a32, [.v 2]) ∧ lexAll a32 = true := ⟨by kernel_rfl, by kernel_rfl⟩
/-- clusterlocks/diffuse.without -/
def F33 : Fr := ⟨44, [0, 1]⟩
def a33 : ACode :=
  (.seq (.reg 0 [] [
      ⟨(.t 2), .box 7 (.v 0), none⟩,
      ⟨(.t 4), .allo [(.slice none 0 0), (.int .i64 0), (.slice none 0 0), (.slice none 0 0), (.slice none 0 0), (.slice none 0 0), (.bool false)], none⟩] none ⟨[], [], [], []⟩)
  (.seq (.reg 1 [] [
      ⟨(.t 6), .fa 0 (.t 2), none⟩,
      ⟨(.t 7), .ld 1 false (.t 6), none⟩,
      ⟨(.t 8), .call 26 [(.t 7)], none⟩,
      ⟨(.t 9), .fa 1 (.t 2), none⟩,
      ⟨(.t 10), .ld 1 false (.t 9), none⟩,
      ⟨(.t 11), .fa 6 (.t 2), none⟩,
      ⟨(.t 12), .ld 1 false (.t 11), none⟩,
      ⟨(.t 13), .bld [(.slice none 0 0), (.int .i64 0), (.slice none 0 0), (.slice none 0 0), (.slice none 0 0), (.slice none 0 0), (.bool false)] [(0, 1, (.t 8)), (1, 1, (.t 10)), (6, 1, (.t 12))], none⟩,
      ⟨(.t 5), .allo [(.slice none 0 0), (.int .i64 0), (.slice none 0 0), (.slice none 0 0), (.slice none 0 0), (.slice none 0 0), (.bool false)], none⟩,
      ⟨.none, .st 7 (.t 5) (.t 13), none⟩] (some [[], [0], [1], [], [3], [], [5], [2, 4, 6], [], [8, 7, 2, 0, 1, 2, 3, 4, 5, 6, 7, 8]]) ⟨[2], [], [], []⟩)
  (.seq (.reg 2 [] [
      ⟨(.t 14), .fa 3 (.t 2), none⟩,
      ⟨(.t 15), .ld 1 false (.t 14), none⟩,
      ⟨(.t 16), .call 39 [(.t 15)], none⟩,
      ⟨(.t 17), .fa 3 (.t 5), none⟩,
      ⟨.none, .st 1 (.t 17) (.t 16), none⟩] none ⟨[], [], [], []⟩)
  (.seq (.reg 3 [] [
      ⟨(.t 18), .fa 4 (.t 2), none⟩,
      ⟨(.t 19), .ld 1 false (.t 18), none⟩,
      ⟨(.t 20), .call 38 [(.t 19)], none⟩,
      ⟨(.t 21), .fa 4 (.t 5), none⟩,
      ⟨.none, .st 1 (.t 21) (.t 20), none⟩] none ⟨[], [], [], []⟩)
  (.seq (.reg 4 [] [
      ⟨(.t 22), .fa 5 (.t 2), none⟩,
      ⟨(.t 23), .ld 1 false (.t 22), none⟩,
      ⟨(.t 24), .call 38 [(.t 23)], none⟩,
      ⟨(.t 25), .fa 5 (.t 5), none⟩,
      ⟨.none, .st 1 (.t 25) (.t 24), none⟩] none ⟨[], [], [], []⟩)
  (.seq (.reg 5 [.lend (.cell 2 2) 32] [
      ⟨(.t 26), .fa 2 (.t 5), none⟩,
      ⟨(.t 27), .ld 1 false (.t 26), none⟩,
      ⟨(.t 28), .fa 2 (.t 2), none⟩,
      ⟨(.t 29), .ld 1 false (.t 28), none⟩,
      ⟨(.t 30), .mv (.v 1), none⟩,
      ⟨(.t 31), .sl 59 3 (.t 29) none (some (.t 30)) none, none⟩,
      ⟨(.t 32), .app 59 3 24 (.t 27) (.t 31), none⟩,
      ⟨(.t 33), .fa 2 (.t 5), none⟩,
      ⟨.none, .st 1 (.t 33) (.t 32), none⟩] (some [[], [0], [], [2], [], [3, 4], [1, 5], [0, 1, 2, 3, 4, 5, 6], [7, 6, 6, 0, 1, 2, 3, 4, 5, 6]]) ⟨[], [], [], []⟩)
  (.seq (.reg 6 [.lend (.cell 2 2) 41] [
      ⟨(.t 34), .fa 2 (.t 5), none⟩,
      ⟨(.t 35), .ld 1 false (.t 34), none⟩,
      ⟨(.t 36), .fa 2 (.t 2), none⟩,
      ⟨(.t 37), .ld 1 false (.t 36), none⟩,
      ⟨(.t 38), .mv (.v 1), none⟩,
      ⟨(.t 39), .bin .add (.t 38) (.c (.int .i64 1)), none⟩,
      ⟨(.t 40), .sl 59 3 (.t 37) (some (.t 39)) none none, none⟩,
      ⟨(.t 41), .app 59 3 24 (.t 35) (.t 40), none⟩,
      ⟨(.t 42), .fa 2 (.t 5), none⟩,
      ⟨.none, .st 1 (.t 42) (.t 41), none⟩] (some [[], [0], [], [2], [], [4], [3, 5], [1, 6], [0, 1, 2, 3, 4, 5, 6, 7], [8, 7, 7, 0, 1, 2, 3, 4, 5, 6, 7]]) ⟨[], [], [], []⟩)
  (.seq (.reg 7 [.lendm 2 [0,2,3,4,5] 43] [
      ⟨(.t 43), .ld 7 true (.t 5), none⟩,
      ⟨.none, .st 7 (.t 4) (.t 43), none⟩] none ⟨[], [], [], []⟩)
  .ret))))))))
theorem c33 : compFn Try.prog 33 F33 = some (2, strip a33, [.c 4 7 true]) ∧ lexAll a33 = true := ⟨by kernel_rfl, by kernel_rfl⟩
/-- clusterlocks/clusterlocksref35.Copy -/
def F34 : Fr := ⟨24, [0]⟩
def a34 : ACode :=
  (.seq (.reg 0 [] [
      ⟨(.t 1), .box 7 (.v 0), none⟩,
      ⟨(.t 2), .allo [(.slice none 0 0), (.int .i64 0), (.slice none 0 0), (.slice none 0 0), (.slice none 0 0), (.slice none 0 0), (.bool false)], none⟩] none ⟨[], [], [], []⟩)
  (.seq (.reg 1 [] [
      ⟨(.t 3), .fa 0 (.t 1), none⟩,
      ⟨(.t 4), .ld 1 false (.t 3), none⟩,
      ⟨(.t 5), .call 29 [(.t 4)], none⟩,
      ⟨(.t 6), .fa 0 (.t 1), none⟩,
      ⟨.none, .st 1 (.t 6) (.t 5), none⟩] none ⟨[], [], [], []⟩)
  (.seq (.reg 2 [] [
      ⟨(.t 7), .fa 2 (.t 1), none⟩,
      ⟨(.t 8), .ld 1 false (.t 7), none⟩,
      ⟨(.t 9), .app 59 3 24 (.c (.slice none 0 0)) (.t 8), none⟩,
      ⟨(.t 10), .fa 2 (.t 1), none⟩,
      ⟨.none, .st 1 (.t 10) (.t 9), none⟩] none ⟨[], [], [], []⟩)
  (.seq (.reg 3 [] [
      ⟨(.t 11), .fa 3 (.t 1), none⟩,
      ⟨(.t 12), .ld 1 false (.t 11), none⟩,
      ⟨(.t 13), .app 4 1 1 (.c (.slice none 0 0)) (.t 12), none⟩,
      ⟨(.t 14), .fa 3 (.t 1), none⟩,
      ⟨.none, .st 1 (.t 14) (.t 13), none⟩] none ⟨[], [], [], []⟩)
  (.seq (.reg 4 [] [
      ⟨(.t 15), .fa 4 (.t 1), none⟩,
      ⟨(.t 16), .ld 1 false (.t 15), none⟩,
      ⟨(.t 17), .app 3 1 8 (.c (.slice none 0 0)) (.t 16), none⟩,
      ⟨(.t 18), .fa 4 (.t 1), none⟩,
      ⟨.none, .st 1 (.t 18) (.t 17), none⟩] none ⟨[], [], [], []⟩)
  (.seq (.reg 5 [] [
      ⟨(.t 19), .fa 5 (.t 1), none⟩,
      ⟨(.t 20), .ld 1 false (.t 19), none⟩,
      ⟨(.t 21), .app 3 1 8 (.c (.slice none 0 0)) (.t 20), none⟩,
      ⟨(.t 22), .fa 5 (.t 1), none⟩,
      ⟨.none, .st 1 (.t 22) (.t 21), none⟩] none ⟨[], [], [], []⟩)
  (.seq (.reg 6 [.lendm 0 [0,2,3,4,5] 23] [
      ⟨(.t 23), .ld 7 true (.t 1), none⟩,
      ⟨.none, .st 7 (.t 2) (.t 23), none⟩] none ⟨[], [], [], []⟩)
  .ret)))))))
theorem c34 : compFn Try.prog 34 F34 = some (1, strip a34, [.c 2 7 true]) ∧ lexAll a34 = true := ⟨by kernel_rfl, by kernel_rfl⟩
/-- clusterlocks/diffuse.validNode -/
def F35 : Fr := ⟨76, [0, 1, 4, 5]⟩
def a35 : ACode :=
  (.seq (.reg 0 [] [
      ⟨(.t 2), .box 7 (.v 0), none⟩,
      ⟨(.v 2), .asg (.c (.bool false)), none⟩] none ⟨[], [], [], []⟩)
  (.seq (.seq (.reg 1 [] [
      ⟨(.t 6), .fa 3 (.t 2), none⟩,
      ⟨(.t 7), .ld 1 false (.t 6), none⟩,
      ⟨(.t 8), .mv (.v 1), none⟩,
      ⟨(.t 9), .ia 1 (.t 7) (.t 8), none⟩,
      ⟨(.t 10), .ld 1 false (.t 9), none⟩,
      ⟨(.t 11), .un .not (.t 10), none⟩] none ⟨[], [], [], []⟩)
  (.cond (.t 11)
    (.seq (.reg 2 [] [
        ⟨(.t 12), .fa 4 (.t 2), none⟩,
        ⟨(.t 13), .ld 1 false (.t 12), none⟩,
        ⟨(.t 14), .mv (.v 1), none⟩,
        ⟨(.t 15), .ia 1 (.t 13) (.t 14), none⟩,
        ⟨(.t 16), .ld 1 false (.t 15), none⟩,
        ⟨(.t 17), .bin .eql (.t 16) (.c (.int .i64 (-1))), none⟩,
        ⟨(.t 18), .mv (.t 17), none⟩,
        ⟨(.t 19), .fa 5 (.t 2), some (18, true)⟩,
        ⟨(.t 20), .ld 1 false (.t 19), some (18, true)⟩,
        ⟨(.t 21), .mv (.v 1), some (18, true)⟩,
        ⟨(.t 22), .ia 1 (.t 20) (.t 21), some (18, true)⟩,
        ⟨(.t 23), .ld 1 false (.t 22), some (18, true)⟩,
        ⟨(.t 24), .bin .eql (.t 23) (.c (.int .i64 0)), some (18, true)⟩,
        ⟨(.t 25), .pick (.t 18) (.t 24) (.c (.bool false)), none⟩,
        ⟨(.v 2), .asg (.t 25), none⟩] none ⟨[], [], [], []⟩)
    .ret)
    .skip))
  (.seq (.seq (.reg 3 [] [
      ⟨(.t 26), .fa 0 (.t 2), none⟩,
      ⟨(.t 27), .ld 1 false (.t 26), none⟩,
      ⟨(.t 28), .mv (.v 1), none⟩,
      ⟨(.t 29), .ia 2 (.t 27) (.t 28), none⟩,
      ⟨(.t 30), .fa 0 (.t 29), none⟩,
      ⟨(.t 31), .ld 1 false (.t 30), none⟩,
      ⟨(.t 32), .bin .eql (.t 31) (.c (.int .i64 0)), none⟩,
      ⟨(.t 33), .mv (.t 32), none⟩,
      ⟨(.t 34), .fa 5 (.t 2), some (33, false)⟩,
      ⟨(.t 35), .ld 1 false (.t 34), some (33, false)⟩,
      ⟨(.t 36), .mv (.v 1), some (33, false)⟩,
      ⟨(.t 37), .ia 1 (.t 35) (.t 36), some (33, false)⟩,
      ⟨(.t 38), .ld 1 false (.t 37), some (33, false)⟩,
      ⟨(.t 39), .bin .lss (.t 38) (.c (.int .i64 0)), some (33, false)⟩,
      ⟨(.t 40), .pick (.t 33) (.c (.bool true)) (.t 39), none⟩,
      ⟨(.t 41), .mv (.t 40), none⟩,
      ⟨(.t 42), .fa 5 (.t 2), some (41, false)⟩,
      ⟨(.t 43), .ld 1 false (.t 42), some (41, false)⟩,
      ⟨(.t 44), .mv (.v 1), some (41, false)⟩,
      ⟨(.t 45), .ia 1 (.t 43) (.t 44), some (41, false)⟩,
      ⟨(.t 46), .ld 1 false (.t 45), some (41, false)⟩,
      ⟨(.t 47), .fa 0 (.t 2), some (41, false)⟩,
      ⟨(.t 48), .ld 1 false (.t 47), some (41, false)⟩,
      ⟨(.t 49), .mv (.v 1), some (41, false)⟩,
      ⟨(.t 50), .ia 2 (.t 48) (.t 49), some (41, false)⟩,
      ⟨(.t 51), .fa 1 (.t 50), some (41, false)⟩,
      ⟨(.t 52), .ld 1 false (.t 51), some (41, false)⟩,
      ⟨(.t 53), .len (.t 52), some (41, false)⟩,
      ⟨(.t 54), .bin .gtr (.t 46) (.t 53), some (41, false)⟩,
      ⟨(.t 55), .pick (.t 41) (.c (.bool true)) (.t 54), none⟩] (some [[], [0], [], [1, 2], [3], [4], [5], [6], [7], [8, 7], [7], [9, 10, 7], [11, 7], [12, 7], [7, 13], [14, 7], [15], [16, 15], [15], [17, 18, 15], [19, 15], [15], [21, 15], [15], [22, 23, 15], [24, 15], [25, 15], [26, 15], [20, 27, 15], [15, 28]]) ⟨[33, 41, 2], [], [], []⟩)
  (.cond (.t 55)
    (.seq (.reg 4 [] [
        ⟨(.v 2), .asg (.c (.bool false)), none⟩] none ⟨[], [], [], []⟩)
    .ret)
    .skip))
  (.seq (.reg 5 [] [
      ⟨(.t 56), .fa 4 (.t 2), none⟩,
      ⟨(.t 57), .ld 1 false (.t 56), none⟩,
      ⟨(.t 58), .mv (.v 1), none⟩,
      ⟨(.t 59), .ia 1 (.t 57) (.t 58), none⟩,
      ⟨(.t 60), .ld 1 false (.t 59), none⟩,
      ⟨(.v 3), .asg (.t 60), none⟩] none ⟨[], [], [], []⟩)
  (.seq (.seq (.reg 6 [] [
      ⟨(.t 61), .mv (.v 1), none⟩,
      ⟨(.t 62), .fa 1 (.t 2), none⟩,
      ⟨(.t 63), .ld 1 false (.t 62), none⟩,
      ⟨(.t 64), .bin .eql (.t 61) (.t 63), none⟩] none ⟨[], [], [], []⟩)
  (.cond (.t 64)
    (.seq (.reg 7 [] [
        ⟨(.t 65), .mv (.v 3), none⟩,
        ⟨(.t 66), .bin .eql (.t 65) (.c (.int .i64 (-1))), none⟩,
        ⟨(.v 2), .asg (.t 66), none⟩] none ⟨[], [], [], []⟩)
    .ret)
    .skip))
  (.seq (.reg 8 [] [
      ⟨(.t 67), .mv (.v 3), none⟩,
      ⟨(.t 68), .mv (.v 1), none⟩,
      ⟨(.t 69), .bin .neq (.t 67) (.t 68), none⟩,
      ⟨(.t 70), .mv (.t 69), none⟩,
      ⟨(.t 71), .ld 7 true (.t 2), some (70, true)⟩,
      ⟨(.t 72), .mv (.v 3), some (70, true)⟩,
      ⟨(.t 73), .mv (.v 1), some (70, true)⟩,
      ⟨(.t 74), .call 40 [(.t 71), (.t 72), (.t 73)], some (70, true)⟩,
      ⟨(.t 75), .pick (.t 70) (.t 74) (.c (.bool false)), none⟩,
      ⟨(.v 2), .asg (.t 75), none⟩] none ⟨[], [], [], []⟩)
  .ret))))))
theorem c35 : compFn Try.prog 35 F35 = some (2, strip a35, [.v 2]) ∧ lexAll a35 = true := ⟨by kernel_rfl, by kernel_rfl⟩
/-- clusterlocks/diffuse.validMail -/
def F36 : Fr := ⟨27, [0, 1, 4]⟩
def a36 : ACode :=
  (.seq (.reg 0 [] [
      ⟨(.t 2), .box 7 (.v 0), none⟩,
      ⟨(.t 3), .box 3 (.v 1), none⟩,
      ⟨(.v 2), .asg (.c (.bool false)), none⟩] none ⟨[], [], [], []⟩)
  (.seq (.seq (.reg 1 [] [
      ⟨(.t 5), .fa 2 (.t 3), none⟩,
      ⟨(.t 6), .ld 1 false (.t 5), none⟩] none ⟨[], [], [], []⟩)
  (.cond (.t 6)
    (.seq (.reg 2 [] [
        ⟨(.t 7), .ld 7 true (.t 2), none⟩,
        ⟨(.t 8), .fa 1 (.t 3), none⟩,
        ⟨(.t 9), .ld 1 false (.t 8), none⟩,
        ⟨(.t 10), .fa 0 (.t 3), none⟩,
        ⟨(.t 11), .ld 1 false (.t 10), none⟩,
        ⟨(.t 12), .call 40 [(.t 7), (.t 9), (.t 11)], none⟩,
        ⟨(.t 13), .mv (.t 12), none⟩,
        ⟨(.t 14), .fa 3 (.t 2), some (13, true)⟩,
        ⟨(.t 15), .ld 1 false (.t 14), some (13, true)⟩,
        ⟨(.t 16), .fa 0 (.t 3), some (13, true)⟩,
        ⟨(.t 17), .ld 1 false (.t 16), some (13, true)⟩,
        ⟨(.t 18), .ia 1 (.t 15) (.t 17), some (13, true)⟩,
        ⟨(.t 19), .ld 1 false (.t 18), some (13, true)⟩,
        ⟨(.t 20), .pick (.t 13) (.t 19) (.c (.bool false)), none⟩,
        ⟨(.v 2), .asg (.t 20), none⟩] none ⟨[], [], [], []⟩)
    .ret)
    .skip))
  (.seq (.reg 3 [] [
      ⟨(.t 21), .ld 7 true (.t 2), none⟩,
      ⟨(.t 22), .fa 0 (.t 3), none⟩,
      ⟨(.t 23), .ld 1 false (.t 22), none⟩,
      ⟨(.t 24), .fa 1 (.t 3), none⟩,
      ⟨(.t 25), .ld 1 false (.t 24), none⟩,
      ⟨(.t 26), .call 40 [(.t 21), (.t 23), (.t 25)], none⟩,
      ⟨(.v 2), .asg (.t 26), none⟩] none ⟨[], [], [], []⟩)
  .ret)))
theorem c36 : compFn Try.prog 36 F36 = some (2, strip a36, [.v 2]) ∧ lexAll a36 = true := ⟨by kernel_rfl, by kernel_rfl⟩
/-- clusterlocks/clusterlocksref35.edge -/
def F37 : Fr := ⟨31, [0, 1, 2, 6, 8]⟩
def a37 : ACode :=
  (.seq (.reg 0 [] [
      ⟨(.v 3), .asg (.c (.bool false)), none⟩] none ⟨[], [], [], []⟩)
  (.seq (.seq (.reg 1 [] [
      ⟨(.t 9), .mv (.v 1), none⟩,
      ⟨(.t 10), .bin .lss (.t 9) (.c (.int .i64 0)), none⟩,
      ⟨(.t 11), .mv (.t 10), none⟩,
      ⟨(.t 12), .mv (.v 1), some (11, false)⟩,
      ⟨(.t 13), .mv (.v 0), some (11, false)⟩,
      ⟨(.t 14), .len (.t 13), some (11, false)⟩,
      ⟨(.t 15), .bin .geq (.t 12) (.t 14), some (11, false)⟩,
      ⟨(.t 16), .pick (.t 11) (.c (.bool true)) (.t 15), none⟩] none ⟨[], [], [], []⟩)
  (.cond (.t 16)
    (.seq (.reg 2 [] [
        ⟨(.v 3), .asg (.c (.bool false)), none⟩] none ⟨[], [], [], []⟩)
    .ret)
    .skip))
  (.seq (.seq (.reg 3 [] [
      ⟨(.t 17), .mv (.v 0), none⟩,
      ⟨(.t 18), .mv (.v 1), none⟩,
      ⟨(.t 19), .ia 2 (.t 17) (.t 18), none⟩,
      ⟨(.t 20), .fa 1 (.t 19), none⟩,
      ⟨(.t 21), .ld 1 false (.t 20), none⟩,
      ⟨(.t 22), .len (.t 21), none⟩,
      ⟨(.t 23), .mv (.c (.int .i64 0)), none⟩] none ⟨[], [], [], []⟩)
  (.block 0
    (.loop
      (.seq (.reg 4 [] [
          ⟨(.t 24), .bin .lss (.t 23) (.t 22), none⟩] none ⟨[], [], [], []⟩)
      (.seq (.cond (.t 24)
        .skip
        (.exit 0))
      (.seq (.block 1
        (.seq (.reg 5 [] [
            ⟨(.t 25), .ia 1 (.t 21) (.t 23), none⟩,
            ⟨(.t 26), .ld 1 false (.t 25), none⟩,
            ⟨(.v 4), .asg (.t 26), none⟩] none ⟨[], [], [], []⟩)
        (.seq (.reg 6 [] [
            ⟨(.t 27), .mv (.v 4), none⟩,
            ⟨(.t 28), .mv (.v 2), none⟩,
            ⟨(.t 29), .bin .eql (.t 27) (.t 28), none⟩] none ⟨[], [], [], []⟩)
        (.cond (.t 29)
          (.seq (.reg 7 [] [
              ⟨(.v 3), .asg (.c (.bool true)), none⟩] none ⟨[], [], [], []⟩)
          .ret)
          .skip))))
      (.reg 8 [] [
          ⟨(.t 30), .bin .add (.t 23) (.c (.int .i64 1)), none⟩,
          ⟨(.t 23), .mv (.t 30), none⟩] none ⟨[], [], [], []⟩)))))))
  (.seq (.reg 9 [] [
      ⟨(.v 3), .asg (.c (.bool false)), none⟩] none ⟨[], [], [], []⟩)
  .ret))))
theorem c37 : compFn Try.prog 37 F37 = some (3, strip a37, [.v 3]) ∧ lexAll a37 = true := ⟨by kernel_rfl, by kernel_rfl⟩
/-- slices.Clone[[]int,int] -/
def F38 : Fr := ⟨8, [0, 2]⟩
def a38 : ACode :=
  (.seq (.reg 0 [] [
      ⟨(.v 1), .asg (.c (.slice none 0 0)), none⟩] none ⟨[], [], [], []⟩)
  (.seq (.seq (.reg 1 [] [
      ⟨(.t 3), .mv (.v 0), none⟩,
      ⟨(.t 4), .isn false (.t 3), none⟩] none ⟨[], [], [], []⟩)
  (.cond (.t 4)
    (.seq (.reg 2 [] [
        ⟨(.v 1), .asg (.c (.slice none 0 0)), none⟩] none ⟨[], [], [], []⟩)
    .ret)
    .skip))
  (.seq (.reg 3 [] [
      ⟨(.t 5), .bls 3 1 (.int .i64 0) 0 [], none⟩,
      ⟨(.t 6), .mv (.v 0), none⟩,
      ⟨(.t 7), .app 3 1 8 (.t 5) (.t 6), none⟩,
      ⟨(.v 1), .asg (.t 7), none⟩] none ⟨[], [], [], []⟩)
  .ret)))
theorem c38 : compFn Try.prog 38 F38 = some (1, strip a38, [.v 1]) ∧ lexAll a38 = true := ⟨by kernel_rfl, by kernel_rfl⟩
/-- slices.Clone[[]bool,bool] -/
def F39 : Fr := ⟨8, [0, 2]⟩
def a39 : ACode :=
  (.seq (.reg 0 [] [
      ⟨(.v 1), .asg (.c (.slice none 0 0)), none⟩] none ⟨[], [], [], []⟩)
  (.seq (.seq (.reg 1 [] [
      ⟨(.t 3), .mv (.v 0), none⟩,
      ⟨(.t 4), .isn false (.t 3), none⟩] none ⟨[], [], [], []⟩)
  (.cond (.t 4)
    (.seq (.reg 2 [] [
        ⟨(.v 1), .asg (.c (.slice none 0 0)), none⟩] none ⟨[], [], [], []⟩)
    .ret)
    .skip))
  (.seq (.reg 3 [] [
      ⟨(.t 5), .bls 4 1 (.bool false) 0 [], none⟩,
      ⟨(.t 6), .mv (.v 0), none⟩,
      ⟨(.t 7), .app 4 1 1 (.t 5) (.t 6), none⟩,
      ⟨(.v 1), .asg (.t 7), none⟩] none ⟨[], [], [], []⟩)
  .ret)))
theorem c39 : compFn Try.prog 39 F39 = some (1, strip a39, [.v 1]) ∧ lexAll a39 = true := ⟨by kernel_rfl, by kernel_rfl⟩
/-- clusterlocks/diffuse.edge -/
def F40 : Fr := ⟨33, [0, 1, 2, 6]⟩
def a40 : ACode :=
  (.seq (.reg 0 [] [
      ⟨(.t 3), .box 7 (.v 0), none⟩,
      ⟨(.v 3), .asg (.c (.bool false)), none⟩] none ⟨[], [], [], []⟩)
  (.seq (.reg 1 [] [
      ⟨(.t 7), .mv (.v 1), none⟩,
      ⟨(.t 8), .bin .geq (.t 7) (.c (.int .i64 0)), none⟩,
      ⟨(.t 9), .mv (.t 8), none⟩,
      ⟨(.t 10), .mv (.v 1), some (9, true)⟩,
      ⟨(.t 11), .fa 0 (.t 3), some (9, true)⟩,
      ⟨(.t 12), .ld 1 false (.t 11), some (9, true)⟩,
      ⟨(.t 13), .len (.t 12), some (9, true)⟩,
      ⟨(.t 14), .bin .lss (.t 10) (.t 13), some (9, true)⟩,
      ⟨(.t 15), .pick (.t 9) (.t 14) (.c (.bool false)), none⟩,
      ⟨(.t 16), .mv (.t 15), none⟩,
      ⟨(.t 17), .fa 3 (.t 3), some (16, true)⟩,
      ⟨(.t 18), .ld 1 false (.t 17), some (16, true)⟩,
      ⟨(.t 19), .mv (.v 1), some (16, true)⟩,
      ⟨(.t 20), .ia 1 (.t 18) (.t 19), some (16, true)⟩,
      ⟨(.t 21), .ld 1 false (.t 20), some (16, true)⟩,
      ⟨(.t 22), .pick (.t 16) (.t 21) (.c (.bool false)), none⟩,
      ⟨(.t 23), .mv (.t 22), none⟩,
      ⟨(.t 24), .fa 0 (.t 3), some (23, true)⟩,
      ⟨(.t 25), .ld 1 false (.t 24), some (23, true)⟩,
      ⟨(.t 26), .mv (.v 1), some (23, true)⟩,
      ⟨(.t 27), .ia 2 (.t 25) (.t 26), some (23, true)⟩,
      ⟨(.t 28), .fa 1 (.t 27), some (23, true)⟩,
      ⟨(.t 29), .ld 1 false (.t 28), some (23, true)⟩,
      ⟨(.t 30), .mv (.v 2), some (23, true)⟩,
      ⟨(.t 31), .call 41 [(.t 29), (.t 30)], some (23, true)⟩,
      ⟨(.t 32), .pick (.t 23) (.t 31) (.c (.bool false)), none⟩,
      ⟨(.v 3), .asg (.t 32), none⟩] none ⟨[], [], [], []⟩)
  .ret))
theorem c40 : compFn Try.prog 40 F40 = some (3, strip a40, [.v 3]) ∧ lexAll a40 = true := ⟨by kernel_rfl, by kernel_rfl⟩
/-- slices.Contains[[]int,int] -/
def F41 : Fr := ⟨9, [0, 1, 4]⟩
def a41 : ACode :=
  (.seq (.reg 0 [] [
      ⟨(.v 2), .asg (.c (.bool false)), none⟩] none ⟨[], [], [], []⟩)
  (.seq (.reg 1 [] [
      ⟨(.t 5), .mv (.v 0), none⟩,
      ⟨(.t 6), .mv (.v 1), none⟩,
      ⟨(.t 7), .call 42 [(.t 5), (.t 6)], none⟩,
      ⟨(.t 8), .bin .geq (.t 7) (.c (.int .i64 0)), none⟩,
      ⟨(.v 2), .asg (.t 8), none⟩] none ⟨[], [], [], []⟩)
  .ret))
theorem c41 : compFn Try.prog 41 F41 = some (2, strip a41, [.v 2]) ∧ lexAll a41 = true := ⟨by kernel_rfl, by kernel_rfl⟩
/-- slices.Index[[]int,int] -/
def F42 : Fr := ⟨19, [0, 1, 4, 5]⟩
def a42 : ACode :=
  (.seq (.reg 0 [] [
      ⟨(.v 2), .asg (.c (.int .i64 0)), none⟩] none ⟨[], [], [], []⟩)
  (.seq (.seq (.reg 1 [] [
      ⟨(.t 6), .mv (.v 0), none⟩,
      ⟨(.t 7), .len (.t 6), none⟩,
      ⟨(.t 8), .mv (.c (.int .i64 0)), none⟩] none ⟨[], [], [], []⟩)
  (.block 0
    (.loop
      (.seq (.reg 2 [] [
          ⟨(.t 9), .bin .lss (.t 8) (.t 7), none⟩] none ⟨[], [], [], []⟩)
      (.seq (.cond (.t 9)
        .skip
        (.exit 0))
      (.seq (.block 1
        (.seq (.reg 3 [] [
            ⟨(.t 10), .mv (.t 8), none⟩,
            ⟨(.v 3), .asg (.t 10), none⟩] none ⟨[], [], [], []⟩)
        (.seq (.reg 4 [] [
            ⟨(.t 11), .mv (.v 1), none⟩,
            ⟨(.t 12), .mv (.v 0), none⟩,
            ⟨(.t 13), .mv (.v 3), none⟩,
            ⟨(.t 14), .ia 1 (.t 12) (.t 13), none⟩,
            ⟨(.t 15), .ld 1 false (.t 14), none⟩,
            ⟨(.t 16), .bin .eql (.t 11) (.t 15), none⟩] none ⟨[], [], [], []⟩)
        (.cond (.t 16)
          (.seq (.reg 5 [] [
              ⟨(.t 17), .mv (.v 3), none⟩,
              ⟨(.v 2), .asg (.t 17), none⟩] none ⟨[], [], [], []⟩)
          .ret)
          .skip))))
      (.reg 6 [] [
          ⟨(.t 18), .bin .add (.t 8) (.c (.int .i64 1)), none⟩,
          ⟨(.t 8), .mv (.t 18), none⟩] none ⟨[], [], [], []⟩)))))))
  (.seq (.reg 7 [] [
      ⟨(.v 2), .asg (.c (.int .i64 (-1))), none⟩] none ⟨[], [], [], []⟩)
  .ret)))
theorem c42 : compFn Try.prog 42 F42 = some (2, strip a42, [.v 2]) ∧ lexAll a42 = true := ⟨by kernel_rfl, by kernel_rfl⟩
theorem mixed : Try.prog.follows .mixedOrders = true := by kernel_rfl
end Go.Proofs.Ytcjmbkbbhlmkfaa
