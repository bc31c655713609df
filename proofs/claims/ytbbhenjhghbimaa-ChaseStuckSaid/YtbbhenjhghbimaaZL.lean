/- Texts put behind one another: L0, LB. -/
import Derived.Test.YtbbhenjhghbimaaZC
import Derived.Tactics
import Derived.IntWalk
import Derived.Test.YtbbhenjhghbimaaProg
set_option linter.unusedVariables false
set_option linter.unusedSimpArgs false
namespace Go.Proofs.Ytbbhenjhghbimaa
open Go.RowKit Go.Proofs
/-- clusterlocks/clusterlockslaw34.ChaseActs -/
def F3 : Fr := ⟨202, [0, 1, 2, 3, 4, 10, 11, 12, 14, 16, 18, 19, 21, 23, 25, 27, 29]⟩
def a3 : ACode :=
  (.seq (.reg 0 [] [
      ⟨(.t 6), .box 5 (.v 1), none⟩,
      ⟨(.v 5), .asg (.c (.bool false)), none⟩] none ⟨[], [], [], []⟩)
  (.seq (.seq (.reg 1 [] [
      ⟨(.t 30), .mv (.v 0), none⟩,
      ⟨(.t 31), .call 7 [(.t 30)], none⟩,
      ⟨(.t 32), .un .not (.t 31), none⟩,
      ⟨(.t 33), .mv (.t 32), none⟩,
      ⟨(.t 34), .fa 0 (.t 6), some (33, false)⟩,
      ⟨(.t 35), .ld 1 false (.t 34), some (33, false)⟩,
      ⟨(.t 36), .call 7 [(.t 35)], some (33, false)⟩,
      ⟨(.t 37), .un .not (.t 36), some (33, false)⟩,
      ⟨(.t 38), .pick (.t 33) (.c (.bool true)) (.t 37), none⟩,
      ⟨(.t 39), .mv (.t 38), none⟩,
      ⟨(.t 40), .fa 2 (.t 6), some (39, false)⟩,
      ⟨(.t 41), .ld 1 false (.t 40), some (39, false)⟩,
      ⟨(.t 42), .len (.t 41), some (39, false)⟩,
      ⟨(.t 43), .bin .gtr (.t 42) (.c (.int .i64 100)), some (39, false)⟩,
      ⟨(.t 44), .pick (.t 39) (.c (.bool true)) (.t 43), none⟩,
      ⟨(.t 45), .mv (.t 44), none⟩,
      ⟨(.t 46), .fa 3 (.t 6), some (45, false)⟩,
      ⟨(.t 47), .ld 1 false (.t 46), some (45, false)⟩,
      ⟨(.t 48), .len (.t 47), some (45, false)⟩,
      ⟨(.t 49), .bin .gtr (.t 48) (.c (.int .i64 40)), some (45, false)⟩,
      ⟨(.t 50), .pick (.t 45) (.c (.bool true)) (.t 49), none⟩,
      ⟨(.t 51), .mv (.t 50), none⟩,
      ⟨(.t 52), .mv (.v 3), some (51, false)⟩,
      ⟨(.t 53), .len (.t 52), some (51, false)⟩,
      ⟨(.t 54), .bin .gtr (.t 53) (.c (.int .i64 120)), some (51, false)⟩,
      ⟨(.t 55), .pick (.t 51) (.c (.bool true)) (.t 54), none⟩,
      ⟨(.t 56), .mv (.t 55), none⟩,
      ⟨(.t 57), .mv (.v 4), some (56, false)⟩,
      ⟨(.t 58), .len (.t 57), some (56, false)⟩,
      ⟨(.t 59), .bin .gtr (.t 58) (.c (.int .i64 60)), some (56, false)⟩,
      ⟨(.t 60), .pick (.t 56) (.c (.bool true)) (.t 59), none⟩] none ⟨[], [], [], []⟩)
  (.cond (.t 60)
    (.seq (.reg 2 [] [
        ⟨(.t 61), .call 8 [], none⟩,
        ⟨(.v 5), .asg (.t 61), none⟩] none ⟨[], [], [], []⟩)
    .ret)
    .skip))
  (.seq (.reg 3 [] [
      ⟨(.t 62), .mv (.v 3), none⟩,
      ⟨(.t 63), .call 9 [(.t 62), (.c (.bool false))], none⟩,
      ⟨(.v 6), .asg (.t 63), none⟩] none ⟨[], [], [], []⟩)
  (.seq (.seq (.reg 4 [] [
      ⟨(.v 7), .asg (.c (.int .i64 (-1))), none⟩] none ⟨[], [], [], []⟩)
  (.block 0
    (.loop
      (.seq (.seq (.reg 5 [] [
          ⟨(.t 64), .mv (.v 7), none⟩,
          ⟨(.t 65), .mv (.v 6), none⟩,
          ⟨(.t 66), .len (.t 65), none⟩,
          ⟨(.t 67), .bin .leq (.t 64) (.t 66), none⟩] none ⟨[], [], [], []⟩)
      (.cond (.t 67)
        .skip
        (.exit 0)))
      (.seq (.block 1
        (.seq (.reg 7 [] [
            ⟨(.t 71), .mv (.v 6), none⟩,
            ⟨(.t 72), .mv (.v 7), none⟩,
            ⟨(.t 73), .call 10 [(.t 71), (.t 72)], none⟩,
            ⟨(.t 70), .mv (.t 73), none⟩,
            ⟨(.t 74), .ext 70 0, none⟩,
            ⟨(.t 75), .ext 70 1, none⟩,
            ⟨(.t 13), .allo [(.slice none 0 0), (.int .i64 0), (.slice none 0 0), (.slice none 0 0), (.bool false)], none⟩,
            ⟨.none, .st 5 (.t 13) (.t 74), none⟩,
            ⟨(.v 8), .asg (.t 75), none⟩] none ⟨[], [], [], []⟩)
        (.seq (.reg 8 [] [
            ⟨(.t 77), .mv (.v 6), none⟩,
            ⟨(.t 78), .mv (.v 7), none⟩,
            ⟨(.t 79), .call 11 [(.t 77), (.t 78)], none⟩,
            ⟨(.t 76), .mv (.t 79), none⟩,
            ⟨(.t 80), .ext 76 0, none⟩,
            ⟨(.t 81), .ext 76 1, none⟩,
            ⟨(.t 15), .allo [(.slice none 0 0), (.int .i64 0), (.slice none 0 0), (.slice none 0 0), (.bool false)], none⟩,
            ⟨.none, .st 5 (.t 15) (.t 80), none⟩,
            ⟨(.v 9), .asg (.t 81), none⟩] none ⟨[], [], [], []⟩)
        (.seq (.seq (.reg 9 [] [
            ⟨(.t 82), .mv (.v 8), none⟩,
            ⟨(.t 83), .mv (.v 9), none⟩,
            ⟨(.t 84), .bin .neq (.t 82) (.t 83), none⟩,
            ⟨(.t 85), .mv (.t 84), none⟩,
            ⟨(.t 86), .ld 5 true (.t 13), some (85, false)⟩,
            ⟨(.t 87), .ld 5 true (.t 15), some (85, false)⟩,
            ⟨(.t 88), .call 12 [(.t 86), (.t 87)], some (85, false)⟩,
            ⟨(.t 89), .un .not (.t 88), some (85, false)⟩,
            ⟨(.t 90), .pick (.t 85) (.c (.bool true)) (.t 89), none⟩] none ⟨[], [], [], []⟩)
        (.cond (.t 90)
          (.seq (.reg 10 [] [
              ⟨(.v 5), .asg (.c (.bool false)), none⟩] none ⟨[], [], [], []⟩)
          .ret)
          .skip))
        (.seq (.reg 11 [] [
            ⟨(.t 91), .mv (.v 4), none⟩,
            ⟨(.t 92), .len (.t 91), none⟩,
            ⟨(.t 93), .mv (.c (.int .i64 0)), none⟩] none ⟨[], [], [], []⟩)
        (.block 2
          (.loop
            (.seq (.reg 12 [] [
                ⟨(.t 94), .bin .lss (.t 93) (.t 92), none⟩] none ⟨[], [], [], []⟩)
            (.seq (.cond (.t 94)
              .skip
              (.exit 2))
            (.seq (.block 3
              (.seq (.reg 13 [] [
                  ⟨(.t 95), .ia 1 (.t 91) (.t 93), none⟩,
                  ⟨(.t 96), .ld 1 false (.t 95), none⟩,
                  ⟨(.v 10), .asg (.t 96), none⟩] none ⟨[], [], [], []⟩)
              (.seq (.seq (.reg 14 [] [
                  ⟨(.t 97), .mv (.v 9), none⟩,
                  ⟨(.t 98), .bin .neq (.t 97) (.c (.int .i64 0)), none⟩,
                  ⟨(.t 99), .mv (.t 98), none⟩,
                  ⟨(.t 100), .fa 2 (.t 15), some (99, false)⟩,
                  ⟨(.t 101), .ld 1 false (.t 100), some (99, false)⟩,
                  ⟨(.t 102), .len (.t 101), some (99, false)⟩,
                  ⟨(.t 103), .bin .eql (.t 102) (.c (.int .i64 0)), some (99, false)⟩,
                  ⟨(.t 104), .pick (.t 99) (.c (.bool true)) (.t 103), none⟩] none ⟨[], [], [], []⟩)
              (.cond (.t 104)
                (.exit 2)
                .skip))
              (.seq (.reg 15 [] [
                  ⟨(.t 105), .mv (.v 10), none⟩,
                  ⟨(.t 106), .fa 2 (.t 15), none⟩,
                  ⟨(.t 107), .ld 1 false (.t 106), none⟩,
                  ⟨(.t 108), .len (.t 107), none⟩,
                  ⟨(.t 109), .bin .add (.t 108) (.c (.int .i64 1)), none⟩,
                  ⟨(.t 110), .call 13 [(.t 105), (.t 109)], none⟩,
                  ⟨(.v 11), .asg (.t 110), none⟩] none ⟨[], [], [], []⟩)
              (.seq (.reg 16 [] [
                  ⟨(.t 112), .ld 5 true (.t 15), none⟩,
                  ⟨(.t 113), .mv (.v 11), none⟩,
                  ⟨(.t 114), .call 14 [(.t 112), (.t 113)], none⟩,
                  ⟨(.t 111), .mv (.t 114), none⟩,
                  ⟨(.t 115), .ext 111 0, none⟩,
                  ⟨(.t 116), .ext 111 1, none⟩,
                  ⟨.none, .st 5 (.t 13) (.t 115), none⟩,
                  ⟨(.v 8), .asg (.t 116), none⟩] none ⟨[], [], [], []⟩)
              (.seq (.reg 17 [] [
                  ⟨(.t 118), .ld 5 true (.t 15), none⟩,
                  ⟨(.t 119), .mv (.v 11), none⟩,
                  ⟨(.t 120), .call 15 [(.t 118), (.t 119)], none⟩,
                  ⟨(.t 117), .mv (.t 120), none⟩,
                  ⟨(.t 121), .ext 117 0, none⟩,
                  ⟨(.t 122), .ext 117 1, none⟩,
                  ⟨(.t 20), .allo [(.slice none 0 0), (.int .i64 0), (.slice none 0 0), (.slice none 0 0), (.bool false)], none⟩,
                  ⟨.none, .st 5 (.t 20) (.t 121), none⟩,
                  ⟨(.v 12), .asg (.t 122), none⟩] none ⟨[], [], [], []⟩)
              (.seq (.seq (.reg 18 [] [
                  ⟨(.t 123), .mv (.v 8), none⟩,
                  ⟨(.t 124), .mv (.v 12), none⟩,
                  ⟨(.t 125), .bin .neq (.t 123) (.t 124), none⟩,
                  ⟨(.t 126), .mv (.t 125), none⟩,
                  ⟨(.t 127), .ld 5 true (.t 13), some (126, false)⟩,
                  ⟨(.t 128), .ld 5 true (.t 20), some (126, false)⟩,
                  ⟨(.t 129), .call 12 [(.t 127), (.t 128)], some (126, false)⟩,
                  ⟨(.t 130), .un .not (.t 129), some (126, false)⟩,
                  ⟨(.t 131), .pick (.t 126) (.c (.bool true)) (.t 130), none⟩,
                  ⟨(.t 132), .mv (.t 131), none⟩,
                  ⟨(.t 133), .ld 5 true (.t 15), some (132, false)⟩,
                  ⟨(.t 134), .call 16 [(.t 133)], some (132, false)⟩,
                  ⟨(.t 135), .ld 5 true (.t 15), some (132, false)⟩,
                  ⟨(.t 136), .call 17 [(.t 135)], some (132, false)⟩,
                  ⟨(.t 137), .bib .neq (.t 134) (.t 136), some (132, false)⟩,
                  ⟨(.t 138), .pick (.t 132) (.c (.bool true)) (.t 137), none⟩] (some [[], [], [0, 1], [2], [3], [3], [4, 5, 3, 3], [6, 3], [3, 7], [8, 6], [9], [10, 9, 9], [9], [12, 11, 9], [11, 13, 9], [9, 14]]) ⟨[126, 15, 132], [], [], []⟩)
              (.cond (.t 138)
                (.seq (.reg 19 [] [
                    ⟨(.v 5), .asg (.c (.bool false)), none⟩] none ⟨[], [], [], []⟩)
                .ret)
                .skip))
              (.seq (.reg 20 [] [
                  ⟨(.t 139), .mv (.v 12), none⟩,
                  ⟨(.t 140), .bin .eql (.t 139) (.c (.int .i64 0)), none⟩] none ⟨[], [], [], []⟩)
              (.cond (.t 140)
                (.reg 21 [.lend (.cell 3 0) 141, .lend (.cell 3 1) 141, .lend (.cell 3 2) 141, .lend (.cell 3 3) 141, .lend (.cell 3 4) 141] [
                    ⟨(.t 141), .ld 5 true (.t 20), none⟩,
                    ⟨.none, .st 5 (.t 15) (.t 141), none⟩] none ⟨[], [], [], []⟩)
                .skip)))))))))
            (.reg 22 [] [
                ⟨(.t 142), .bin .add (.t 93) (.c (.int .i64 1)), none⟩,
                ⟨(.t 93), .mv (.t 142), none⟩] none ⟨[], [], [], []⟩)))))))))))
      (.reg 6 [] [
          ⟨(.t 68), .mv (.v 7), none⟩,
          ⟨(.t 69), .bin .add (.t 68) (.c (.int .i64 1)), none⟩,
          ⟨(.v 7), .asg (.t 69), none⟩] none ⟨[], [], [], []⟩))))))
  (.seq (.reg 23 [] [
      ⟨(.t 144), .mv (.v 0), none⟩,
      ⟨(.t 145), .mv (.v 2), none⟩,
      ⟨(.t 146), .call 10 [(.t 144), (.t 145)], none⟩,
      ⟨(.t 143), .mv (.t 146), none⟩,
      ⟨(.t 147), .ext 143 0, none⟩,
      ⟨(.t 148), .ext 143 1, none⟩,
      ⟨(.t 22), .allo [(.slice none 0 0), (.int .i64 0), (.slice none 0 0), (.slice none 0 0), (.bool false)], none⟩,
      ⟨.none, .st 5 (.t 22) (.t 147), none⟩,
      ⟨(.v 13), .asg (.t 148), none⟩] none ⟨[], [], [], []⟩)
  (.seq (.reg 24 [] [
      ⟨(.t 150), .mv (.v 0), none⟩,
      ⟨(.t 151), .mv (.v 2), none⟩,
      ⟨(.t 152), .call 11 [(.t 150), (.t 151)], none⟩,
      ⟨(.t 149), .mv (.t 152), none⟩,
      ⟨(.t 153), .ext 149 0, none⟩,
      ⟨(.t 154), .ext 149 1, none⟩,
      ⟨(.t 24), .allo [(.slice none 0 0), (.int .i64 0), (.slice none 0 0), (.slice none 0 0), (.bool false)], none⟩,
      ⟨.none, .st 5 (.t 24) (.t 153), none⟩,
      ⟨(.v 14), .asg (.t 154), none⟩] none ⟨[], [], [], []⟩)
  (.seq (.reg 25 [] [
      ⟨(.t 156), .ld 5 true (.t 6), none⟩,
      ⟨(.t 157), .mv (.v 2), none⟩,
      ⟨(.t 158), .call 14 [(.t 156), (.t 157)], none⟩,
      ⟨(.t 155), .mv (.t 158), none⟩,
      ⟨(.t 159), .ext 155 0, none⟩,
      ⟨(.t 160), .ext 155 1, none⟩,
      ⟨(.t 26), .allo [(.slice none 0 0), (.int .i64 0), (.slice none 0 0), (.slice none 0 0), (.bool false)], none⟩,
      ⟨.none, .st 5 (.t 26) (.t 159), none⟩,
      ⟨(.v 15), .asg (.t 160), none⟩] none ⟨[], [], [], []⟩)
  (.seq (.reg 26 [] [
      ⟨(.t 162), .ld 5 true (.t 6), none⟩,
      ⟨(.t 163), .mv (.v 2), none⟩,
      ⟨(.t 164), .call 15 [(.t 162), (.t 163)], none⟩,
      ⟨(.t 161), .mv (.t 164), none⟩,
      ⟨(.t 165), .ext 161 0, none⟩,
      ⟨(.t 166), .ext 161 1, none⟩,
      ⟨(.t 28), .allo [(.slice none 0 0), (.int .i64 0), (.slice none 0 0), (.slice none 0 0), (.bool false)], none⟩,
      ⟨.none, .st 5 (.t 28) (.t 165), none⟩,
      ⟨(.v 16), .asg (.t 166), none⟩] none ⟨[], [], [], []⟩)
  (.seq (.reg 27 [] [
      ⟨(.t 167), .call 8 [], none⟩,
      ⟨(.t 168), .mv (.t 167), none⟩,
      ⟨(.t 169), .mv (.v 13), some (168, true)⟩,
      ⟨(.t 170), .mv (.v 14), some (168, true)⟩,
      ⟨(.t 171), .bin .eql (.t 169) (.t 170), some (168, true)⟩,
      ⟨(.t 172), .pick (.t 168) (.t 171) (.c (.bool false)), none⟩,
      ⟨(.t 173), .mv (.t 172), none⟩,
      ⟨(.t 174), .mv (.v 15), some (173, true)⟩,
      ⟨(.t 175), .mv (.v 16), some (173, true)⟩,
      ⟨(.t 176), .bin .eql (.t 174) (.t 175), some (173, true)⟩,
      ⟨(.t 177), .pick (.t 173) (.t 176) (.c (.bool false)), none⟩,
      ⟨(.t 178), .mv (.t 177), none⟩,
      ⟨(.t 179), .ld 5 true (.t 22), some (178, true)⟩,
      ⟨(.t 180), .ld 5 true (.t 24), some (178, true)⟩,
      ⟨(.t 181), .call 12 [(.t 179), (.t 180)], some (178, true)⟩,
      ⟨(.t 182), .pick (.t 178) (.t 181) (.c (.bool false)), none⟩,
      ⟨(.t 183), .mv (.t 182), none⟩,
      ⟨(.t 184), .ld 5 true (.t 26), some (183, true)⟩,
      ⟨(.t 185), .ld 5 true (.t 28), some (183, true)⟩,
      ⟨(.t 186), .call 12 [(.t 184), (.t 185)], some (183, true)⟩,
      ⟨(.t 187), .pick (.t 183) (.t 186) (.c (.bool false)), none⟩,
      ⟨(.t 188), .mv (.t 187), none⟩,
      ⟨(.t 189), .ld 5 true (.t 6), some (188, true)⟩,
      ⟨(.t 190), .call 18 [(.t 189)], some (188, true)⟩,
      ⟨(.t 191), .ld 5 true (.t 6), some (188, true)⟩,
      ⟨(.t 192), .call 19 [(.t 191)], some (188, true)⟩,
      ⟨(.t 193), .bib .eql (.t 190) (.t 192), some (188, true)⟩,
      ⟨(.t 194), .pick (.t 188) (.t 193) (.c (.bool false)), none⟩,
      ⟨(.t 195), .mv (.t 194), none⟩,
      ⟨(.t 196), .ld 5 true (.t 6), some (195, true)⟩,
      ⟨(.t 197), .call 16 [(.t 196)], some (195, true)⟩,
      ⟨(.t 198), .ld 5 true (.t 6), some (195, true)⟩,
      ⟨(.t 199), .call 17 [(.t 198)], some (195, true)⟩,
      ⟨(.t 200), .bib .eql (.t 197) (.t 199), some (195, true)⟩,
      ⟨(.t 201), .pick (.t 195) (.t 200) (.c (.bool false)), none⟩,
      ⟨(.v 5), .asg (.t 201), none⟩] (some [[], [0, 0], [1], [1], [2, 3, 1], [1, 4], [5, 1], [6], [6], [7, 8, 6], [6, 9], [10, 6], [11], [11], [12, 13, 11, 11], [11, 14], [15, 14], [16], [16], [17, 18, 16, 16], [16, 19], [20, 19], [21], [22, 21, 21], [21], [24, 23, 21], [23, 25, 21], [21, 26], [27, 25], [28], [29, 28, 28], [28], [31, 30, 28], [30, 32, 28], [28, 33], [34, 32, 0, 1, 2, 3, 4, 5, 6, 7, 8, 9, 10, 11, 12, 13, 14, 15, 16, 17, 18, 19, 20, 21, 22, 23, 24, 25, 26, 27, 28, 29, 30, 31, 32, 33, 34]]) ⟨[168, 173, 178, 183, 6, 188, 195], [], [], []⟩)
  .ret)))))))))
theorem c3 : compFn Try.prog 3 F3 = some (5, strip a3, [.v 5]) ∧ lexAll a3 = true := ⟨by kernel_rfl, by kernel_rfl⟩
/-- clusterlocks/clusterlockslaw34.ChaseFinds -/
def F4 : Fr := ⟨149, [0, 1, 2, 6, 7, 8, 10, 11, 12, 13, 15, 16, 17, 19]⟩
def a4 : ACode :=
  (.seq (.reg 0 [] [
      ⟨(.v 3), .asg (.c (.bool false)), none⟩] none ⟨[], [], [], []⟩)
  (.seq (.seq (.reg 1 [] [
      ⟨(.t 20), .mv (.v 0), none⟩,
      ⟨(.t 21), .len (.t 20), none⟩,
      ⟨(.t 22), .bin .gtr (.t 21) (.c (.int .i64 120)), none⟩,
      ⟨(.t 23), .mv (.t 22), none⟩,
      ⟨(.t 24), .mv (.v 1), some (23, false)⟩,
      ⟨(.t 25), .len (.t 24), some (23, false)⟩,
      ⟨(.t 26), .bin .gtr (.t 25) (.c (.int .i64 100)), some (23, false)⟩,
      ⟨(.t 27), .pick (.t 23) (.c (.bool true)) (.t 26), none⟩] none ⟨[], [], [], []⟩)
  (.cond (.t 27)
    (.seq (.reg 2 [] [
        ⟨(.t 28), .call 8 [], none⟩,
        ⟨(.v 3), .asg (.t 28), none⟩] none ⟨[], [], [], []⟩)
    .ret)
    .skip))
  (.seq (.reg 3 [] [
      ⟨(.t 29), .mv (.v 0), none⟩,
      ⟨(.t 30), .call 9 [(.t 29), (.c (.bool false))], none⟩,
      ⟨(.v 4), .asg (.t 30), none⟩] none ⟨[], [], [], []⟩)
  (.seq (.reg 4 [] [
      ⟨(.t 31), .mv (.v 2), none⟩,
      ⟨(.t 32), .conv .i64 (.t 31), none⟩,
      ⟨(.t 33), .mv (.v 4), none⟩,
      ⟨(.t 34), .len (.t 33), none⟩,
      ⟨(.t 35), .bin .rem (.t 32) (.t 34), none⟩,
      ⟨(.v 5), .asg (.t 35), none⟩] none ⟨[], [], [], []⟩)
  (.seq (.reg 5 [] [
      ⟨(.t 37), .mv (.v 4), none⟩,
      ⟨(.t 38), .mv (.v 5), none⟩,
      ⟨(.t 39), .mv (.v 1), none⟩,
      ⟨(.t 40), .call 20 [(.t 37), (.t 38), (.t 39)], none⟩,
      ⟨(.t 36), .mv (.t 40), none⟩,
      ⟨(.t 41), .ext 36 0, none⟩,
      ⟨(.t 42), .ext 36 1, none⟩,
      ⟨(.t 43), .ext 36 2, none⟩,
      ⟨(.t 9), .allo [(.slice none 0 0), (.int .i64 0), (.slice none 0 0), (.slice none 0 0), (.bool false)], none⟩,
      ⟨.none, .st 5 (.t 9) (.t 41), none⟩,
      ⟨(.v 6), .asg (.t 42), none⟩,
      ⟨(.v 7), .asg (.t 43), none⟩] none ⟨[], [], [], []⟩)
  (.seq (.seq (.reg 6 [] [
      ⟨(.t 44), .mv (.v 4), none⟩,
      ⟨(.t 45), .mv (.v 5), none⟩,
      ⟨(.t 46), .ia 2 (.t 44) (.t 45), none⟩,
      ⟨(.t 47), .fa 0 (.t 46), none⟩,
      ⟨(.t 48), .ld 1 false (.t 47), none⟩,
      ⟨(.t 49), .bin .eql (.t 48) (.c (.int .i64 0)), none⟩] none ⟨[], [], [], []⟩)
  (.cond (.t 49)
    (.seq (.reg 7 [] [
        ⟨(.t 50), .call 8 [], none⟩,
        ⟨(.t 51), .mv (.t 50), none⟩,
        ⟨(.t 52), .mv (.v 7), some (51, true)⟩,
        ⟨(.t 53), .un .not (.t 52), some (51, true)⟩,
        ⟨(.t 54), .pick (.t 51) (.t 53) (.c (.bool false)), none⟩,
        ⟨(.v 3), .asg (.t 54), none⟩] none ⟨[], [], [], []⟩)
    .ret)
    .skip))
  (.seq (.reg 8 [] [
      ⟨(.t 55), .mv (.v 4), none⟩,
      ⟨(.t 56), .mv (.v 5), none⟩,
      ⟨(.t 57), .call 21 [(.t 55), (.t 56)], none⟩,
      ⟨(.v 8), .asg (.t 57), none⟩] none ⟨[], [], [], []⟩)
  (.seq (.reg 9 [] [
      ⟨(.v 9), .asg (.c (.bool false)), none⟩] none ⟨[], [], [], []⟩)
  (.seq (.seq (.reg 10 [] [
      ⟨(.t 58), .mv (.v 8), none⟩,
      ⟨(.t 59), .len (.t 58), none⟩,
      ⟨(.t 60), .mv (.c (.int .i64 0)), none⟩] none ⟨[], [], [], []⟩)
  (.block 0
    (.loop
      (.seq (.reg 11 [] [
          ⟨(.t 61), .bin .lss (.t 60) (.t 59), none⟩] none ⟨[], [], [], []⟩)
      (.seq (.cond (.t 61)
        .skip
        (.exit 0))
      (.seq (.block 1
        (.seq (.reg 12 [] [
            ⟨(.t 62), .ia 1 (.t 58) (.t 60), none⟩,
            ⟨(.t 63), .ld 1 false (.t 62), none⟩,
            ⟨(.v 10), .asg (.t 63), none⟩] none ⟨[], [], [], []⟩)
        (.reg 13 [] [
            ⟨(.t 64), .mv (.v 9), none⟩,
            ⟨(.t 65), .mv (.t 64), none⟩,
            ⟨(.t 66), .mv (.v 10), some (65, false)⟩,
            ⟨(.t 67), .mv (.v 5), some (65, false)⟩,
            ⟨(.t 68), .bin .eql (.t 66) (.t 67), some (65, false)⟩,
            ⟨(.t 69), .pick (.t 65) (.c (.bool true)) (.t 68), none⟩,
            ⟨(.v 9), .asg (.t 69), none⟩] none ⟨[], [], [], []⟩)))
      (.reg 14 [] [
          ⟨(.t 70), .bin .add (.t 60) (.c (.int .i64 1)), none⟩,
          ⟨(.t 60), .mv (.t 70), none⟩] none ⟨[], [], [], []⟩)))))))
  (.seq (.seq (.reg 15 [] [
      ⟨(.t 71), .mv (.v 4), none⟩,
      ⟨(.t 72), .len (.t 71), none⟩,
      ⟨(.t 73), .mv (.c (.int .i64 0)), none⟩] none ⟨[], [], [], []⟩)
  (.block 2
    (.loop
      (.seq (.reg 16 [] [
          ⟨(.t 74), .bin .lss (.t 73) (.t 72), none⟩] none ⟨[], [], [], []⟩)
      (.seq (.cond (.t 74)
        .skip
        (.exit 2))
      (.seq (.block 3
        (.seq (.reg 17 [] [
            ⟨(.t 75), .mv (.t 73), none⟩,
            ⟨(.v 11), .asg (.t 75), none⟩] none ⟨[], [], [], []⟩)
        (.seq (.reg 18 [] [
            ⟨(.v 12), .asg (.c (.bool false)), none⟩] none ⟨[], [], [], []⟩)
        (.seq (.seq (.reg 19 [] [
            ⟨(.t 76), .mv (.v 8), none⟩,
            ⟨(.t 77), .len (.t 76), none⟩,
            ⟨(.t 78), .mv (.c (.int .i64 0)), none⟩] none ⟨[], [], [], []⟩)
        (.block 4
          (.loop
            (.seq (.reg 20 [] [
                ⟨(.t 79), .bin .lss (.t 78) (.t 77), none⟩] none ⟨[], [], [], []⟩)
            (.seq (.cond (.t 79)
              .skip
              (.exit 4))
            (.seq (.block 5
              (.seq (.reg 21 [] [
                  ⟨(.t 80), .ia 1 (.t 76) (.t 78), none⟩,
                  ⟨(.t 81), .ld 1 false (.t 80), none⟩,
                  ⟨(.v 13), .asg (.t 81), none⟩] none ⟨[], [], [], []⟩)
              (.reg 22 [] [
                  ⟨(.t 82), .mv (.v 12), none⟩,
                  ⟨(.t 83), .mv (.t 82), none⟩,
                  ⟨(.t 84), .mv (.v 13), some (83, false)⟩,
                  ⟨(.t 85), .mv (.v 11), some (83, false)⟩,
                  ⟨(.t 86), .bin .eql (.t 84) (.t 85), some (83, false)⟩,
                  ⟨(.t 87), .pick (.t 83) (.c (.bool true)) (.t 86), none⟩,
                  ⟨(.v 12), .asg (.t 87), none⟩] none ⟨[], [], [], []⟩)))
            (.reg 23 [] [
                ⟨(.t 88), .bin .add (.t 78) (.c (.int .i64 1)), none⟩,
                ⟨(.t 78), .mv (.t 88), none⟩] none ⟨[], [], [], []⟩)))))))
        (.seq (.reg 24 [] [
            ⟨(.t 89), .fa 3 (.t 9), none⟩,
            ⟨(.t 90), .ld 1 false (.t 89), none⟩,
            ⟨(.t 91), .len (.t 90), none⟩,
            ⟨(.t 92), .mv (.v 4), none⟩,
            ⟨(.t 93), .len (.t 92), none⟩,
            ⟨(.t 94), .bin .neq (.t 91) (.t 93), none⟩,
            ⟨(.t 95), .mv (.t 94), none⟩,
            ⟨(.t 96), .fa 3 (.t 9), some (95, false)⟩,
            ⟨(.t 97), .ld 1 false (.t 96), some (95, false)⟩,
            ⟨(.t 98), .mv (.v 11), some (95, false)⟩,
            ⟨(.t 99), .ia 1 (.t 97) (.t 98), some (95, false)⟩,
            ⟨(.t 100), .ld 1 false (.t 99), some (95, false)⟩,
            ⟨(.t 101), .mv (.v 12), some (95, false)⟩,
            ⟨(.t 102), .mv (.t 101), some (95, false)⟩,
            ⟨(.t 103), .mv (.v 11), some (102, true)⟩,
            ⟨(.t 104), .mv (.v 5), some (102, true)⟩,
            ⟨(.t 105), .bin .neq (.t 103) (.t 104), some (102, true)⟩,
            ⟨(.t 106), .pick (.t 102) (.t 105) (.c (.bool false)), some (95, false)⟩,
            ⟨(.t 107), .mv (.t 106), some (95, false)⟩,
            ⟨(.t 108), .mv (.v 4), some (107, true)⟩,
            ⟨(.t 109), .mv (.v 11), some (107, true)⟩,
            ⟨(.t 110), .ia 2 (.t 108) (.t 109), some (107, true)⟩,
            ⟨(.t 111), .fa 0 (.t 110), some (107, true)⟩,
            ⟨(.t 112), .ld 1 false (.t 111), some (107, true)⟩,
            ⟨(.t 113), .bin .gtr (.t 112) (.c (.int .i64 0)), some (107, true)⟩,
            ⟨(.t 114), .pick (.t 107) (.t 113) (.c (.bool false)), some (95, false)⟩,
            ⟨(.t 115), .bib .neq (.t 100) (.t 114), some (95, false)⟩,
            ⟨(.t 116), .pick (.t 95) (.c (.bool true)) (.t 115), none⟩] (some [[], [0], [1], [], [3], [2, 4], [5], [6], [7, 6], [6], [8, 9, 6], [10, 6], [6], [12, 6, 6], [13], [13], [14, 15, 13], [13, 16, 6], [17, 13, 6], [18], [18], [19, 20, 18], [21, 18], [22, 18], [23, 18], [18, 24, 6], [11, 25, 6], [6, 26]]) ⟨[95, 102, 107], [], [], []⟩)
        (.cond (.t 116)
          (.seq (.reg 25 [] [
              ⟨(.v 3), .asg (.c (.bool false)), none⟩] none ⟨[], [], [], []⟩)
          .ret)
          .skip))))))
      (.reg 26 [] [
          ⟨(.t 117), .bin .add (.t 73) (.c (.int .i64 1)), none⟩,
          ⟨(.t 73), .mv (.t 117), none⟩] none ⟨[], [], [], []⟩)))))))
  (.seq (.reg 27 [] [
      ⟨(.t 118), .call 8 [], none⟩,
      ⟨(.t 119), .mv (.t 118), none⟩,
      ⟨(.t 120), .mv (.v 7), some (119, true)⟩,
      ⟨(.t 121), .pick (.t 119) (.t 120) (.c (.bool false)), none⟩,
      ⟨(.t 122), .mv (.t 121), none⟩,
      ⟨(.t 123), .fa 2 (.t 9), some (122, true)⟩,
      ⟨(.t 124), .ld 1 false (.t 123), some (122, true)⟩,
      ⟨(.t 125), .len (.t 124), some (122, true)⟩,
      ⟨(.t 126), .bin .eql (.t 125) (.c (.int .i64 0)), some (122, true)⟩,
      ⟨(.t 127), .pick (.t 122) (.t 126) (.c (.bool false)), none⟩,
      ⟨(.t 128), .mv (.t 127), none⟩,
      ⟨(.t 129), .mv (.v 6), some (128, true)⟩,
      ⟨(.t 130), .mv (.v 4), some (128, true)⟩,
      ⟨(.t 131), .call 22 [(.t 130)], some (128, true)⟩,
      ⟨(.t 132), .bin .leq (.t 129) (.t 131), some (128, true)⟩,
      ⟨(.t 133), .pick (.t 128) (.t 132) (.c (.bool false)), none⟩,
      ⟨(.t 134), .mv (.t 133), none⟩,
      ⟨(.t 135), .fa 4 (.t 9), some (134, true)⟩,
      ⟨(.t 136), .ld 1 false (.t 135), some (134, true)⟩,
      ⟨(.t 137), .mv (.v 9), some (134, true)⟩,
      ⟨(.t 138), .bib .eql (.t 136) (.t 137), some (134, true)⟩,
      ⟨(.t 139), .pick (.t 134) (.t 138) (.c (.bool false)), none⟩,
      ⟨(.t 140), .mv (.t 139), none⟩,
      ⟨(.t 141), .mv (.v 9), some (140, true)⟩,
      ⟨(.t 142), .mv (.v 4), some (140, true)⟩,
      ⟨(.t 143), .mv (.v 5), some (140, true)⟩,
      ⟨(.t 144), .call 23 [(.t 142), (.t 143)], some (140, true)⟩,
      ⟨(.t 145), .len (.t 144), some (140, true)⟩,
      ⟨(.t 146), .bin .gtr (.t 145) (.c (.int .i64 0)), some (140, true)⟩,
      ⟨(.t 147), .bib .eql (.t 141) (.t 146), some (140, true)⟩,
      ⟨(.t 148), .pick (.t 140) (.t 147) (.c (.bool false)), none⟩,
      ⟨(.v 3), .asg (.t 148), none⟩] none ⟨[], [], [], []⟩)
  .ret)))))))))))
theorem c4 : compFn Try.prog 4 F4 = some (3, strip a4, [.v 3]) ∧ lexAll a4 = true := ⟨by kernel_rfl, by kernel_rfl⟩
/-- clusterlocks/clusterlockslaw34.ChaseOrder -/
def F5 : Fr := ⟨70, [0, 1, 2, 3, 8, 9, 10, 12, 13, 15, 16]⟩
def a5 : ACode :=
  (.seq (.reg 0 [] [
      ⟨(.v 4), .asg (.c (.bool false)), none⟩] none ⟨[], [], [], []⟩)
  (.seq (.seq (.reg 1 [] [
      ⟨(.t 17), .mv (.v 0), none⟩,
      ⟨(.t 18), .len (.t 17), none⟩,
      ⟨(.t 19), .bin .gtr (.t 18) (.c (.int .i64 120)), none⟩,
      ⟨(.t 20), .mv (.t 19), none⟩,
      ⟨(.t 21), .mv (.v 1), some (20, false)⟩,
      ⟨(.t 22), .len (.t 21), some (20, false)⟩,
      ⟨(.t 23), .bin .gtr (.t 22) (.c (.int .i64 100)), some (20, false)⟩,
      ⟨(.t 24), .pick (.t 20) (.c (.bool true)) (.t 23), none⟩,
      ⟨(.t 25), .mv (.t 24), none⟩,
      ⟨(.t 26), .mv (.v 2), some (25, false)⟩,
      ⟨(.t 27), .len (.t 26), some (25, false)⟩,
      ⟨(.t 28), .bin .gtr (.t 27) (.c (.int .i64 100)), some (25, false)⟩,
      ⟨(.t 29), .pick (.t 25) (.c (.bool true)) (.t 28), none⟩] none ⟨[], [], [], []⟩)
  (.cond (.t 29)
    (.seq (.reg 2 [] [
        ⟨(.t 30), .call 8 [], none⟩,
        ⟨(.v 4), .asg (.t 30), none⟩] none ⟨[], [], [], []⟩)
    .ret)
    .skip))
  (.seq (.reg 3 [] [
      ⟨(.t 31), .mv (.v 0), none⟩,
      ⟨(.t 32), .call 9 [(.t 31), (.c (.bool false))], none⟩,
      ⟨(.v 5), .asg (.t 32), none⟩] none ⟨[], [], [], []⟩)
  (.seq (.reg 4 [] [
      ⟨(.t 33), .mv (.v 3), none⟩,
      ⟨(.t 34), .conv .i64 (.t 33), none⟩,
      ⟨(.t 35), .mv (.v 5), none⟩,
      ⟨(.t 36), .len (.t 35), none⟩,
      ⟨(.t 37), .bin .rem (.t 34) (.t 36), none⟩,
      ⟨(.v 6), .asg (.t 37), none⟩] none ⟨[], [], [], []⟩)
  (.seq (.reg 5 [] [
      ⟨(.t 39), .mv (.v 5), none⟩,
      ⟨(.t 40), .mv (.v 6), none⟩,
      ⟨(.t 41), .mv (.v 1), none⟩,
      ⟨(.t 42), .call 20 [(.t 39), (.t 40), (.t 41)], none⟩,
      ⟨(.t 38), .mv (.t 42), none⟩,
      ⟨(.t 43), .ext 38 0, none⟩,
      ⟨(.t 44), .ext 38 1, none⟩,
      ⟨(.t 45), .ext 38 2, none⟩,
      ⟨(.t 11), .allo [(.slice none 0 0), (.int .i64 0), (.slice none 0 0), (.slice none 0 0), (.bool false)], none⟩,
      ⟨.none, .st 5 (.t 11) (.t 43), none⟩,
      ⟨(.v 7), .asg (.t 44), none⟩,
      ⟨(.v 8), .asg (.t 45), none⟩] none ⟨[], [], [], []⟩)
  (.seq (.reg 6 [] [
      ⟨(.t 47), .mv (.v 5), none⟩,
      ⟨(.t 48), .mv (.v 6), none⟩,
      ⟨(.t 49), .mv (.v 2), none⟩,
      ⟨(.t 50), .call 20 [(.t 47), (.t 48), (.t 49)], none⟩,
      ⟨(.t 46), .mv (.t 50), none⟩,
      ⟨(.t 51), .ext 46 0, none⟩,
      ⟨(.t 52), .ext 46 1, none⟩,
      ⟨(.t 53), .ext 46 2, none⟩,
      ⟨(.t 14), .allo [(.slice none 0 0), (.int .i64 0), (.slice none 0 0), (.slice none 0 0), (.bool false)], none⟩,
      ⟨.none, .st 5 (.t 14) (.t 51), none⟩,
      ⟨(.v 9), .asg (.t 52), none⟩,
      ⟨(.v 10), .asg (.t 53), none⟩] none ⟨[], [], [], []⟩)
  (.seq (.reg 7 [] [
      ⟨(.t 54), .call 8 [], none⟩,
      ⟨(.t 55), .mv (.t 54), none⟩,
      ⟨(.t 56), .mv (.v 8), some (55, true)⟩,
      ⟨(.t 57), .mv (.v 10), some (55, true)⟩,
      ⟨(.t 58), .bib .eql (.t 56) (.t 57), some (55, true)⟩,
      ⟨(.t 59), .pick (.t 55) (.t 58) (.c (.bool false)), none⟩,
      ⟨(.t 60), .mv (.t 59), none⟩,
      ⟨(.t 61), .mv (.v 7), some (60, true)⟩,
      ⟨(.t 62), .mv (.v 9), some (60, true)⟩,
      ⟨(.t 63), .bin .eql (.t 61) (.t 62), some (60, true)⟩,
      ⟨(.t 64), .pick (.t 60) (.t 63) (.c (.bool false)), none⟩,
      ⟨(.t 65), .mv (.t 64), none⟩,
      ⟨(.t 66), .ld 5 true (.t 11), some (65, true)⟩,
      ⟨(.t 67), .ld 5 true (.t 14), some (65, true)⟩,
      ⟨(.t 68), .call 12 [(.t 66), (.t 67)], some (65, true)⟩,
      ⟨(.t 69), .pick (.t 65) (.t 68) (.c (.bool false)), none⟩,
      ⟨(.v 4), .asg (.t 69), none⟩] none ⟨[], [], [], []⟩)
  .ret)))))))
theorem c5 : compFn Try.prog 5 F5 = some (4, strip a5, [.v 4]) ∧ lexAll a5 = true := ⟨by kernel_rfl, by kernel_rfl⟩
/-- clusterlocks/clusterlockslaw34.ChaseStuck -/
def F6 : Fr := ⟨116, [0, 1, 2, 6, 7, 8, 10, 11, 12, 14, 15, 17, 19, 20]⟩
def a6 : ACode :=
  (.seq (.reg 0 [] [
      ⟨(.v 3), .asg (.c (.bool false)), none⟩] none ⟨[], [], [], []⟩)
  (.seq (.seq (.reg 1 [] [
      ⟨(.t 21), .mv (.v 0), none⟩,
      ⟨(.t 22), .len (.t 21), none⟩,
      ⟨(.t 23), .bin .gtr (.t 22) (.c (.int .i64 120)), none⟩,
      ⟨(.t 24), .mv (.t 23), none⟩,
      ⟨(.t 25), .mv (.v 1), some (24, false)⟩,
      ⟨(.t 26), .len (.t 25), some (24, false)⟩,
      ⟨(.t 27), .bin .gtr (.t 26) (.c (.int .i64 100)), some (24, false)⟩,
      ⟨(.t 28), .pick (.t 24) (.c (.bool true)) (.t 27), none⟩] none ⟨[], [], [], []⟩)
  (.cond (.t 28)
    (.seq (.reg 2 [] [
        ⟨(.t 29), .call 8 [], none⟩,
        ⟨(.v 3), .asg (.t 29), none⟩] none ⟨[], [], [], []⟩)
    .ret)
    .skip))
  (.seq (.reg 3 [] [
      ⟨(.t 30), .mv (.v 0), none⟩,
      ⟨(.t 31), .call 9 [(.t 30), (.c (.bool true))], none⟩,
      ⟨(.v 4), .asg (.t 31), none⟩] none ⟨[], [], [], []⟩)
  (.seq (.reg 4 [] [
      ⟨(.t 32), .mv (.v 2), none⟩,
      ⟨(.t 33), .conv .i64 (.t 32), none⟩,
      ⟨(.t 34), .mv (.v 4), none⟩,
      ⟨(.t 35), .len (.t 34), none⟩,
      ⟨(.t 36), .bin .rem (.t 33) (.t 35), none⟩,
      ⟨(.v 5), .asg (.t 36), none⟩] none ⟨[], [], [], []⟩)
  (.seq (.seq (.reg 5 [] [
      ⟨(.t 37), .mv (.v 4), none⟩,
      ⟨(.t 38), .mv (.v 5), none⟩,
      ⟨(.t 39), .ia 2 (.t 37) (.t 38), none⟩,
      ⟨(.t 40), .fa 0 (.t 39), none⟩,
      ⟨(.t 41), .ld 1 false (.t 40), none⟩,
      ⟨(.t 42), .bin .eql (.t 41) (.c (.int .i64 0)), none⟩] none ⟨[], [], [], []⟩)
  (.cond (.t 42)
    (.seq (.reg 6 [] [
        ⟨(.t 43), .call 8 [], none⟩,
        ⟨(.v 3), .asg (.t 43), none⟩] none ⟨[], [], [], []⟩)
    .ret)
    .skip))
  (.seq (.reg 7 [] [
      ⟨(.t 45), .mv (.v 4), none⟩,
      ⟨(.t 46), .mv (.v 5), none⟩,
      ⟨(.t 47), .mv (.v 1), none⟩,
      ⟨(.t 48), .call 20 [(.t 45), (.t 46), (.t 47)], none⟩,
      ⟨(.t 44), .mv (.t 48), none⟩,
      ⟨(.t 49), .ext 44 0, none⟩,
      ⟨(.t 50), .ext 44 1, none⟩,
      ⟨(.t 51), .ext 44 2, none⟩,
      ⟨(.t 9), .allo [(.slice none 0 0), (.int .i64 0), (.slice none 0 0), (.slice none 0 0), (.bool false)], none⟩,
      ⟨.none, .st 5 (.t 9) (.t 49), none⟩,
      ⟨(.v 6), .asg (.t 50), none⟩,
      ⟨(.v 7), .asg (.t 51), none⟩] none ⟨[], [], [], []⟩)
  (.seq (.reg 8 [] [
      ⟨(.v 8), .asg (.c (.bool false)), none⟩] none ⟨[], [], [], []⟩)
  (.seq (.seq (.reg 9 [] [
      ⟨(.t 52), .mv (.v 4), none⟩,
      ⟨(.t 53), .call 24 [(.t 52)], none⟩,
      ⟨(.t 54), .len (.t 53), none⟩,
      ⟨(.t 55), .mv (.c (.int .i64 0)), none⟩] none ⟨[], [], [], []⟩)
  (.block 0
    (.loop
      (.seq (.reg 10 [] [
          ⟨(.t 56), .bin .lss (.t 55) (.t 54), none⟩] none ⟨[], [], [], []⟩)
      (.seq (.cond (.t 56)
        .skip
        (.exit 0))
      (.seq (.block 1
        (.seq (.reg 11 [] [
            ⟨(.t 57), .ia 1 (.t 53) (.t 55), none⟩,
            ⟨(.t 58), .ld 1 false (.t 57), none⟩,
            ⟨(.v 9), .asg (.t 58), none⟩] none ⟨[], [], [], []⟩)
        (.reg 12 [] [
            ⟨(.t 59), .mv (.v 8), none⟩,
            ⟨(.t 60), .mv (.t 59), none⟩,
            ⟨(.t 61), .mv (.v 9), some (60, false)⟩,
            ⟨(.t 62), .mv (.v 5), some (60, false)⟩,
            ⟨(.t 63), .bin .eql (.t 61) (.t 62), some (60, false)⟩,
            ⟨(.t 64), .pick (.t 60) (.c (.bool true)) (.t 63), none⟩,
            ⟨(.v 8), .asg (.t 64), none⟩] none ⟨[], [], [], []⟩)))
      (.reg 13 [] [
          ⟨(.t 65), .bin .add (.t 55) (.c (.int .i64 1)), none⟩,
          ⟨(.t 55), .mv (.t 65), none⟩] none ⟨[], [], [], []⟩)))))))
  (.seq (.reg 14 [] [
      ⟨(.t 66), .fa 4 (.t 9), none⟩,
      ⟨(.t 67), .ld 1 false (.t 66), none⟩,
      ⟨(.v 10), .asg (.t 67), none⟩] none ⟨[], [], [], []⟩)
  (.seq (.seq (.reg 15 [] [
      ⟨(.t 68), .mv (.v 4), none⟩,
      ⟨(.t 69), .mv (.v 5), none⟩,
      ⟨(.t 70), .call 21 [(.t 68), (.t 69)], none⟩,
      ⟨(.t 71), .len (.t 70), none⟩,
      ⟨(.t 72), .mv (.c (.int .i64 0)), none⟩] none ⟨[], [], [], []⟩)
  (.block 2
    (.loop
      (.seq (.reg 16 [] [
          ⟨(.t 73), .bin .lss (.t 72) (.t 71), none⟩] none ⟨[], [], [], []⟩)
      (.seq (.cond (.t 73)
        .skip
        (.exit 2))
      (.seq (.block 3
        (.seq (.reg 17 [] [
            ⟨(.t 74), .ia 1 (.t 70) (.t 72), none⟩,
            ⟨(.t 75), .ld 1 false (.t 74), none⟩,
            ⟨(.v 11), .asg (.t 75), none⟩] none ⟨[], [], [], []⟩)
        (.seq (.reg 18 [] [
            ⟨(.t 76), .mv (.v 4), none⟩,
            ⟨(.t 77), .mv (.v 11), none⟩,
            ⟨(.t 78), .ia 2 (.t 76) (.t 77), none⟩,
            ⟨(.t 79), .fa 0 (.t 78), none⟩,
            ⟨(.t 80), .ld 1 false (.t 79), none⟩,
            ⟨(.t 81), .bin .gtr (.t 80) (.c (.int .i64 0)), none⟩] none ⟨[], [], [], []⟩)
        (.cond (.t 81)
          (.seq (.reg 19 [] [
              ⟨(.t 83), .mv (.v 4), none⟩,
              ⟨(.t 84), .mv (.v 11), none⟩,
              ⟨(.t 85), .mv (.v 1), none⟩,
              ⟨(.t 86), .call 20 [(.t 83), (.t 84), (.t 85)], none⟩,
              ⟨(.t 82), .mv (.t 86), none⟩,
              ⟨(.t 87), .ext 82 0, none⟩,
              ⟨(.t 88), .ext 82 1, none⟩,
              ⟨(.t 89), .ext 82 2, none⟩,
              ⟨(.t 18), .allo [(.slice none 0 0), (.int .i64 0), (.slice none 0 0), (.slice none 0 0), (.bool false)], none⟩,
              ⟨.none, .st 5 (.t 18) (.t 87), none⟩,
              ⟨(.v 12), .asg (.t 88), none⟩,
              ⟨(.v 13), .asg (.t 89), none⟩] none ⟨[], [], [], []⟩)
          (.reg 20 [] [
              ⟨(.t 90), .mv (.v 10), none⟩,
              ⟨(.t 91), .mv (.t 90), none⟩,
              ⟨(.t 92), .mv (.v 13), some (91, false)⟩,
              ⟨(.t 93), .mv (.t 92), some (91, false)⟩,
              ⟨(.t 94), .fa 4 (.t 18), some (93, true)⟩,
              ⟨(.t 95), .ld 1 false (.t 94), some (93, true)⟩,
              ⟨(.t 96), .pick (.t 93) (.t 95) (.c (.bool false)), some (91, false)⟩,
              ⟨(.t 97), .pick (.t 91) (.c (.bool true)) (.t 96), none⟩,
              ⟨(.v 10), .asg (.t 97), none⟩] none ⟨[], [], [], []⟩))
          .skip))))
      (.reg 21 [] [
          ⟨(.t 98), .bin .add (.t 72) (.c (.int .i64 1)), none⟩,
          ⟨(.t 72), .mv (.t 98), none⟩] none ⟨[], [], [], []⟩)))))))
  (.seq (.reg 22 [] [
      ⟨(.t 99), .call 8 [], none⟩,
      ⟨(.t 100), .mv (.t 99), none⟩,
      ⟨(.t 101), .mv (.v 7), some (100, true)⟩,
      ⟨(.t 102), .pick (.t 100) (.t 101) (.c (.bool false)), none⟩,
      ⟨(.t 103), .mv (.t 102), none⟩,
      ⟨(.t 104), .fa 4 (.t 9), some (103, true)⟩,
      ⟨(.t 105), .ld 1 false (.t 104), some (103, true)⟩,
      ⟨(.t 106), .un .not (.t 105), some (103, true)⟩,
      ⟨(.t 107), .mv (.t 106), some (103, true)⟩,
      ⟨(.t 108), .mv (.v 8), some (107, false)⟩,
      ⟨(.t 109), .pick (.t 107) (.c (.bool true)) (.t 108), some (103, true)⟩,
      ⟨(.t 110), .pick (.t 103) (.t 109) (.c (.bool false)), none⟩,
      ⟨(.t 111), .mv (.t 110), none⟩,
      ⟨(.t 112), .mv (.v 8), some (111, true)⟩,
      ⟨(.t 113), .mv (.v 10), some (111, true)⟩,
      ⟨(.t 114), .bib .eql (.t 112) (.t 113), some (111, true)⟩,
      ⟨(.t 115), .pick (.t 111) (.t 114) (.c (.bool false)), none⟩,
      ⟨(.v 3), .asg (.t 115), none⟩] none ⟨[], [], [], []⟩)
  .ret)))))))))))
theorem c6 : compFn Try.prog 6 F6 = some (3, strip a6, [.v 3]) ∧ lexAll a6 = true := ⟨by kernel_rfl, by kernel_rfl⟩
/-- clusterlocks/clusterlockslaw34.small -/
def F7 : Fr := ⟨19, [0, 2]⟩
def a7 : ACode :=
  (.seq (.reg 0 [] [
      ⟨(.v 1), .asg (.c (.bool false)), none⟩] none ⟨[], [], [], []⟩)
  (.seq (.seq (.reg 1 [] [
      ⟨(.t 5), .mv (.v 0), none⟩,
      ⟨(.t 6), .len (.t 5), none⟩,
      ⟨(.t 7), .bin .gtr (.t 6) (.c (.int .i64 30)), none⟩] none ⟨[], [], [], []⟩)
  (.cond (.t 7)
    (.seq (.reg 2 [] [
        ⟨(.v 1), .asg (.c (.bool false)), none⟩] none ⟨[], [], [], []⟩)
    .ret)
    .skip))
  (.seq (.seq (.reg 3 [] [
      ⟨(.t 8), .mv (.v 0), none⟩,
      ⟨(.t 9), .len (.t 8), none⟩,
      ⟨(.t 10), .mv (.c (.int .i64 0)), none⟩] none ⟨[], [], [], []⟩)
  (.block 0
    (.loop
      (.seq (.reg 4 [] [
          ⟨(.t 11), .bin .lss (.t 10) (.t 9), none⟩] none ⟨[], [], [], []⟩)
      (.seq (.cond (.t 11)
        .skip
        (.exit 0))
      (.seq (.block 1
        (.seq (.reg 5 [] [
            ⟨(.t 12), .ia 2 (.t 8) (.t 10), none⟩,
            ⟨(.t 13), .ld 2 true (.t 12), none⟩,
            ⟨(.t 4), .allo [(.int .i64 0), (.slice none 0 0)], none⟩,
            ⟨.none, .st 2 (.t 4) (.t 13), none⟩] none ⟨[], [], [], []⟩)
        (.seq (.reg 6 [] [
            ⟨(.t 14), .fa 1 (.t 4), none⟩,
            ⟨(.t 15), .ld 1 false (.t 14), none⟩,
            ⟨(.t 16), .len (.t 15), none⟩,
            ⟨(.t 17), .bin .gtr (.t 16) (.c (.int .i64 30)), none⟩] none ⟨[], [], [], []⟩)
        (.cond (.t 17)
          (.seq (.reg 7 [] [
              ⟨(.v 1), .asg (.c (.bool false)), none⟩] none ⟨[], [], [], []⟩)
          .ret)
          .skip))))
      (.reg 8 [] [
          ⟨(.t 18), .bin .add (.t 10) (.c (.int .i64 1)), none⟩,
          ⟨(.t 10), .mv (.t 18), none⟩] none ⟨[], [], [], []⟩)))))))
  (.seq (.reg 9 [] [
      ⟨(.v 1), .asg (.c (.bool true)), none⟩] none ⟨[], [], [], []⟩)
  .ret))))
theorem c7 : compFn Try.prog 7 F7 = some (1, strip a7, [.v 1]) ∧ lexAll a7 = true := ⟨by kernel_rfl, by kernel_rfl⟩
/-- clusterlocks/clusterlockslaw34.awake -/
def F8 : Fr := ⟨52, [0, 1, 3, 4, 5]⟩
def a8 : ACode :=
  (.seq (.reg 0 [] [
      ⟨(.v 0), .asg (.c (.bool false)), none⟩] none ⟨[], [], [], []⟩)
  (.seq (.reg 1 [] [
      ⟨(.t 6), .bls 3 1 (.int .i64 0) 1 [(0, (.c (.int .i64 1)))], none⟩,
      ⟨(.t 7), .bld [(.int .i64 0), (.slice none 0 0)] [(0, 1, (.c (.int .i64 1))), (1, 1, (.t 6))], none⟩,
      ⟨(.t 8), .bls 3 1 (.int .i64 0) 1 [(0, (.c (.int .i64 0)))], none⟩,
      ⟨(.t 9), .bld [(.int .i64 0), (.slice none 0 0)] [(0, 1, (.c (.int .i64 1))), (1, 1, (.t 8))], none⟩,
      ⟨(.t 10), .bls 42 2 (.agg #[(.int .i64 0), (.slice none 0 0)]) 2 [(0, (.t 7)), (1, (.t 9))], none⟩,
      ⟨(.v 1), .asg (.t 10), none⟩] none ⟨[], [], [], []⟩)
  (.seq (.reg 2 [.freeze (.var 1)] [
      ⟨(.t 12), .mv (.v 1), none⟩,
      ⟨(.t 13), .call 10 [(.t 12), (.c (.int .i64 0))], none⟩,
      ⟨(.t 11), .mv (.t 13), none⟩,
      ⟨(.t 14), .ext 11 0, none⟩,
      ⟨(.t 15), .ext 11 1, none⟩,
      ⟨(.t 2), .allo [(.slice none 0 0), (.int .i64 0), (.slice none 0 0), (.slice none 0 0), (.bool false)], none⟩,
      ⟨.none, .st 5 (.t 2) (.t 14), none⟩,
      ⟨(.v 2), .asg (.t 15), none⟩] none ⟨[], [], [], []⟩)
  (.seq (.seq (.reg 3 [] [
      ⟨(.t 16), .mv (.v 2), none⟩,
      ⟨(.t 17), .bin .neq (.t 16) (.c (.int .i64 0)), none⟩,
      ⟨(.t 18), .mv (.t 17), none⟩,
      ⟨(.t 19), .fa 2 (.t 2), some (18, false)⟩,
      ⟨(.t 20), .ld 1 false (.t 19), some (18, false)⟩,
      ⟨(.t 21), .len (.t 20), some (18, false)⟩,
      ⟨(.t 22), .bin .neq (.t 21) (.c (.int .i64 1)), some (18, false)⟩,
      ⟨(.t 23), .pick (.t 18) (.c (.bool true)) (.t 22), none⟩] none ⟨[], [], [], []⟩)
  (.cond (.t 23)
    (.seq (.reg 4 [] [
        ⟨(.v 0), .asg (.c (.bool false)), none⟩] none ⟨[], [], [], []⟩)
    .ret)
    .skip))
  (.seq (.reg 5 [] [
      ⟨(.t 25), .ld 5 true (.t 2), none⟩,
      ⟨(.t 26), .call 14 [(.t 25), (.c (.int .i64 0))], none⟩,
      ⟨(.t 24), .mv (.t 26), none⟩,
      ⟨(.t 27), .ext 24 0, none⟩,
      ⟨(.t 28), .ext 24 1, none⟩,
      ⟨.none, .st 5 (.t 2) (.t 27), none⟩,
      ⟨(.v 3), .asg (.t 28), none⟩] none ⟨[], [], [], []⟩)
  (.seq (.reg 6 [] [
      ⟨(.t 30), .ld 5 true (.t 2), none⟩,
      ⟨(.t 31), .call 14 [(.t 30), (.c (.int .i64 0))], none⟩,
      ⟨(.t 29), .mv (.t 31), none⟩,
      ⟨(.t 32), .ext 29 0, none⟩,
      ⟨(.t 33), .ext 29 1, none⟩,
      ⟨.none, .st 5 (.t 2) (.t 32), none⟩,
      ⟨(.v 4), .asg (.t 33), none⟩] none ⟨[], [], [], []⟩)
  (.seq (.reg 7 [] [
      ⟨(.t 34), .mv (.v 3), none⟩,
      ⟨(.t 35), .bin .eql (.t 34) (.c (.int .i64 0)), none⟩,
      ⟨(.t 36), .mv (.t 35), none⟩,
      ⟨(.t 37), .mv (.v 4), some (36, true)⟩,
      ⟨(.t 38), .bin .eql (.t 37) (.c (.int .i64 0)), some (36, true)⟩,
      ⟨(.t 39), .pick (.t 36) (.t 38) (.c (.bool false)), none⟩,
      ⟨(.t 40), .mv (.t 39), none⟩,
      ⟨(.t 41), .fa 4 (.t 2), some (40, true)⟩,
      ⟨(.t 42), .ld 1 false (.t 41), some (40, true)⟩,
      ⟨(.t 43), .pick (.t 40) (.t 42) (.c (.bool false)), none⟩,
      ⟨(.t 44), .mv (.t 43), none⟩,
      ⟨(.t 45), .ld 5 true (.t 2), some (44, true)⟩,
      ⟨(.t 46), .call 16 [(.t 45)], some (44, true)⟩,
      ⟨(.t 47), .pick (.t 44) (.t 46) (.c (.bool false)), none⟩,
      ⟨(.t 48), .mv (.t 47), none⟩,
      ⟨(.t 49), .ld 5 true (.t 2), some (48, true)⟩,
      ⟨(.t 50), .call 18 [(.t 49)], some (48, true)⟩,
      ⟨(.t 51), .pick (.t 48) (.t 50) (.c (.bool false)), none⟩,
      ⟨(.v 0), .asg (.t 51), none⟩] none ⟨[], [], [], []⟩)
  .ret)))))))
theorem c8 : compFn Try.prog 8 F8 = some (0, strip a8, [.v 0]) ∧ lexAll a8 = true := ⟨by kernel_rfl, by kernel_rfl⟩
/-- clusterlocks/clusterlockslaw34.graph -/
def F9 : Fr := ⟨76, [0, 1, 4, 5, 6, 7, 8, 9]⟩
def a9 : ACode :=
  (.seq (.reg 0 [] [
      ⟨(.v 2), .asg (.c (.slice none 0 0)), none⟩] none ⟨[], [], [], []⟩)
  (.seq (.reg 1 [] [
      ⟨(.t 10), .mv (.v 0), none⟩,
      ⟨(.t 11), .bld [(.slice none 0 0), (.int .i64 0)] [(0, 1, (.t 10))], none⟩,
      ⟨(.t 12), .box 2 (.t 11), none⟩,
      ⟨(.v 3), .asg (.t 12), none⟩] none ⟨[], [], [], []⟩)
  (.seq (.reg 2 [] [
      ⟨(.t 13), .mv (.v 3), none⟩,
      ⟨(.t 14), .call 25 [(.t 13), (.c (.int .i64 8))], none⟩,
      ⟨(.t 15), .bin .add (.c (.int .i64 1)) (.t 14), none⟩,
      ⟨(.v 4), .asg (.t 15), none⟩] none ⟨[], [], [], []⟩)
  (.seq (.reg 3 [] [
      ⟨(.t 16), .mv (.v 4), none⟩,
      ⟨(.t 17), .mk 42 2 32 (.agg #[(.int .i64 0), (.slice none 0 0)]) (.t 16) (.t 16), none⟩,
      ⟨(.v 5), .asg (.t 17), none⟩] none ⟨[], [], [], []⟩)
  (.seq (.seq (.reg 4 [] [
      ⟨(.t 18), .mv (.v 5), none⟩,
      ⟨(.t 19), .len (.t 18), none⟩,
      ⟨(.t 20), .mv (.c (.int .i64 0)), none⟩] none ⟨[], [], [], []⟩)
  (.block 0
    (.loop
      (.seq (.reg 5 [] [
          ⟨(.t 21), .bin .lss (.t 20) (.t 19), none⟩] none ⟨[], [], [], []⟩)
      (.seq (.cond (.t 21)
        .skip
        (.exit 0))
      (.seq (.block 1
        (.seq (.reg 6 [] [
            ⟨(.t 22), .mv (.t 20), none⟩,
            ⟨(.v 6), .asg (.t 22), none⟩] none ⟨[], [], [], []⟩)
        (.seq (.seq (.reg 7 [] [
            ⟨(.v 7), .asg (.c (.int .i64 0)), none⟩] none ⟨[], [], [], []⟩)
        (.block 2
          (.loop
            (.seq (.seq (.reg 8 [] [
                ⟨(.t 23), .mv (.v 7), none⟩,
                ⟨(.t 24), .mv (.v 4), none⟩,
                ⟨(.t 25), .bin .lss (.t 23) (.t 24), none⟩] none ⟨[], [], [], []⟩)
            (.cond (.t 25)
              .skip
              (.exit 2)))
            (.seq (.block 3
              (.seq (.reg 10 [] [
                  ⟨(.t 28), .mv (.v 3), none⟩,
                  ⟨(.t 29), .call 25 [(.t 28), (.c (.int .i64 3))], none⟩,
                  ⟨(.t 30), .bin .eql (.t 29) (.c (.int .i64 1)), none⟩] none ⟨[], [], [], []⟩)
              (.cond (.t 30)
                (.reg 11 [] [
                    ⟨(.t 31), .mv (.v 5), none⟩,
                    ⟨(.t 32), .mv (.v 6), none⟩,
                    ⟨(.t 33), .mv (.v 5), none⟩,
                    ⟨(.t 34), .mv (.v 6), none⟩,
                    ⟨(.t 35), .ia 2 (.t 33) (.t 34), none⟩,
                    ⟨(.t 36), .fa 1 (.t 35), none⟩,
                    ⟨(.t 37), .ld 1 false (.t 36), none⟩,
                    ⟨(.t 38), .mv (.v 7), none⟩,
                    ⟨(.t 39), .bls 3 1 (.int .i64 0) 1 [(0, (.t 38))], none⟩,
                    ⟨(.t 40), .app 3 1 8 (.t 37) (.t 39), none⟩,
                    ⟨(.t 41), .ia 2 (.t 31) (.t 32), none⟩,
                    ⟨(.t 42), .fa 1 (.t 41), none⟩,
                    ⟨.none, .st 1 (.t 42) (.t 40), none⟩] none ⟨[], [], [], []⟩)
                .skip)))
            (.reg 9 [] [
                ⟨(.t 26), .mv (.v 7), none⟩,
                ⟨(.t 27), .bin .add (.t 26) (.c (.int .i64 1)), none⟩,
                ⟨(.v 7), .asg (.t 27), none⟩] none ⟨[], [], [], []⟩))))))
        (.seq (.reg 12 [] [
            ⟨(.t 43), .mv (.v 5), none⟩,
            ⟨(.t 44), .mv (.v 6), none⟩,
            ⟨(.t 45), .ia 2 (.t 43) (.t 44), none⟩,
            ⟨(.t 46), .fa 1 (.t 45), none⟩,
            ⟨(.t 47), .ld 1 false (.t 46), none⟩,
            ⟨(.t 48), .len (.t 47), none⟩,
            ⟨(.t 49), .bin .gtr (.t 48) (.c (.int .i64 0)), none⟩] none ⟨[], [], [], []⟩)
        (.cond (.t 49)
          (.seq (.reg 13 [] [
              ⟨(.t 50), .mv (.v 5), none⟩,
              ⟨(.t 51), .mv (.v 6), none⟩,
              ⟨(.t 52), .mv (.v 3), none⟩,
              ⟨(.t 53), .mv (.v 5), none⟩,
              ⟨(.t 54), .mv (.v 6), none⟩,
              ⟨(.t 55), .ia 2 (.t 53) (.t 54), none⟩,
              ⟨(.t 56), .fa 1 (.t 55), none⟩,
              ⟨(.t 57), .ld 1 false (.t 56), none⟩,
              ⟨(.t 58), .len (.t 57), none⟩,
              ⟨(.t 59), .call 25 [(.t 52), (.t 58)], none⟩,
              ⟨(.t 60), .bin .add (.c (.int .i64 1)) (.t 59), none⟩,
              ⟨(.t 61), .ia 2 (.t 50) (.t 51), none⟩,
              ⟨(.t 62), .fa 0 (.t 61), none⟩,
              ⟨.none, .st 1 (.t 62) (.t 60), none⟩] none ⟨[], [], [], []⟩)
          (.seq (.reg 14 [] [
              ⟨(.t 63), .mv (.v 1), none⟩] none ⟨[], [], [], []⟩)
          (.cond (.t 63)
            (.reg 15 [] [
                ⟨(.t 64), .mv (.v 5), none⟩,
                ⟨(.t 65), .mv (.v 6), none⟩,
                ⟨(.t 66), .mv (.v 5), none⟩,
                ⟨(.t 67), .mv (.v 6), none⟩,
                ⟨(.t 68), .ia 2 (.t 66) (.t 67), none⟩,
                ⟨(.t 69), .fa 1 (.t 68), none⟩,
                ⟨(.t 70), .ld 1 false (.t 69), none⟩,
                ⟨(.t 71), .len (.t 70), none⟩,
                ⟨(.t 72), .ia 2 (.t 64) (.t 65), none⟩,
                ⟨(.t 73), .fa 0 (.t 72), none⟩,
                ⟨.none, .st 1 (.t 73) (.t 71), none⟩] none ⟨[], [], [], []⟩)
            .skip)))
          .skip)))))
      (.reg 16 [] [
          ⟨(.t 74), .bin .add (.t 20) (.c (.int .i64 1)), none⟩,
          ⟨(.t 20), .mv (.t 74), none⟩] none ⟨[], [], [], []⟩)))))))
  (.seq (.reg 17 [] [
      ⟨(.t 75), .mv (.v 5), none⟩,
      ⟨(.v 2), .asg (.t 75), none⟩] none ⟨[], [], [], []⟩)
  .ret))))))
theorem c9 : compFn Try.prog 9 F9 = some (2, strip a9, [.v 2]) ∧ lexAll a9 = true := ⟨by kernel_rfl, by kernel_rfl⟩
/-- clusterlocks/chase.Begin -/
def F10 : Fr := ⟨39, [0, 1, 5]⟩
def a10 : ACode :=
  (.seq (.reg 0 [] [
      ⟨(.t 4), .allo [(.slice none 0 0), (.int .i64 0), (.slice none 0 0), (.slice none 0 0), (.bool false)], none⟩,
      ⟨(.v 2), .asg (.c (.int .i64 0)), none⟩] none ⟨[], [], [], []⟩)
  (.seq (.seq (.reg 1 [] [
      ⟨(.t 7), .mv (.v 0), none⟩,
      ⟨(.t 8), .call 26 [(.t 7)], none⟩,
      ⟨(.t 9), .un .not (.t 8), none⟩] none ⟨[], [], [], []⟩)
  (.cond (.t 9)
    (.seq (.reg 2 [] [
        ⟨(.t 10), .bld [(.slice none 0 0), (.int .i64 0), (.slice none 0 0), (.slice none 0 0), (.bool false)] [], none⟩,
        ⟨.none, .st 5 (.t 4) (.t 10), none⟩,
        ⟨(.v 2), .asg (.c (.int .i64 2)), none⟩] none ⟨[], [], [], []⟩)
    .ret)
    .skip))
  (.seq (.seq (.reg 3 [] [
      ⟨(.t 11), .mv (.v 1), none⟩,
      ⟨(.t 12), .bin .lss (.t 11) (.c (.int .i64 0)), none⟩,
      ⟨(.t 13), .mv (.t 12), none⟩,
      ⟨(.t 14), .mv (.v 1), some (13, false)⟩,
      ⟨(.t 15), .mv (.v 0), some (13, false)⟩,
      ⟨(.t 16), .len (.t 15), some (13, false)⟩,
      ⟨(.t 17), .bin .geq (.t 14) (.t 16), some (13, false)⟩,
      ⟨(.t 18), .pick (.t 13) (.c (.bool true)) (.t 17), none⟩] none ⟨[], [], [], []⟩)
  (.cond (.t 18)
    (.seq (.reg 4 [] [
        ⟨(.t 19), .bld [(.slice none 0 0), (.int .i64 0), (.slice none 0 0), (.slice none 0 0), (.bool false)] [], none⟩,
        ⟨.none, .st 5 (.t 4) (.t 19), none⟩,
        ⟨(.v 2), .asg (.c (.int .i64 1)), none⟩] none ⟨[], [], [], []⟩)
    .ret)
    .skip))
  (.seq (.seq (.reg 5 [] [
      ⟨(.t 20), .mv (.v 0), none⟩,
      ⟨(.t 21), .mv (.v 1), none⟩,
      ⟨(.t 22), .ia 2 (.t 20) (.t 21), none⟩,
      ⟨(.t 23), .fa 0 (.t 22), none⟩,
      ⟨(.t 24), .ld 1 false (.t 23), none⟩,
      ⟨(.t 25), .bin .eql (.t 24) (.c (.int .i64 0)), none⟩] none ⟨[], [], [], []⟩)
  (.cond (.t 25)
    (.seq (.reg 6 [] [
        ⟨(.t 26), .bld [(.slice none 0 0), (.int .i64 0), (.slice none 0 0), (.slice none 0 0), (.bool false)] [], none⟩,
        ⟨.none, .st 5 (.t 4) (.t 26), none⟩,
        ⟨(.v 2), .asg (.c (.int .i64 14)), none⟩] none ⟨[], [], [], []⟩)
    .ret)
    .skip))
  (.seq (.reg 7 [] [
      ⟨(.t 27), .mv (.v 0), none⟩,
      ⟨(.t 28), .call 27 [(.t 27)], none⟩,
      ⟨(.t 29), .mv (.v 1), none⟩,
      ⟨(.t 30), .mv (.v 0), none⟩,
      ⟨(.t 31), .len (.t 30), none⟩,
      ⟨(.t 32), .mk 4 1 1 (.bool false) (.t 31) (.t 31), none⟩,
      ⟨(.t 33), .bld [(.slice none 0 0), (.int .i64 0), (.slice none 0 0), (.slice none 0 0), (.bool false)] [(0, 1, (.t 28)), (1, 1, (.t 29)), (3, 1, (.t 32))], none⟩,
      ⟨(.t 6), .allo [(.slice none 0 0), (.int .i64 0), (.slice none 0 0), (.slice none 0 0), (.bool false)], none⟩,
      ⟨.none, .st 5 (.t 6) (.t 33), none⟩] (some [[], [0], [], [], [3], [4, 4], [1, 2, 5], [], [7, 6, 1, 0, 1, 2, 3, 4, 5, 6, 7]]) ⟨[], [], [], []⟩)
  (.seq (.reg 8 [] [
      ⟨(.t 34), .mv (.v 0), none⟩,
      ⟨(.t 35), .mv (.v 1), none⟩,
      ⟨(.t 36), .call 28 [(.c (.slice none 0 0)), (.t 34), (.t 35)], none⟩,
      ⟨(.t 37), .fa 2 (.t 6), none⟩,
      ⟨.none, .st 1 (.t 37) (.t 36), none⟩] none ⟨[], [], [], []⟩)
  (.seq (.reg 9 [.freeze (.cell 1 0), .freeze (.cell 1 2), .freeze (.cell 1 3)] [
      ⟨(.t 38), .ld 5 true (.t 6), none⟩,
      ⟨.none, .st 5 (.t 4) (.t 38), none⟩,
      ⟨(.v 2), .asg (.c (.int .i64 0)), none⟩] none ⟨[], [], [], []⟩)
  .ret)))))))
theorem c10 : compFn Try.prog 10 F10 = some (2, strip a10, [.c 4 5 true, .v 2]) ∧ lexAll a10 = true := ⟨by kernel_rfl, by kernel_rfl⟩
/-- clusterlocks/clusterlocksref34.Begin -/
def F11 : Fr := ⟨39, [0, 1, 5, 6, 11, 21]⟩
def a11 : ACode :=
  (.seq (.reg 0 [] [
      ⟨(.t 4), .allo [(.slice none 0 0), (.int .i64 0), (.slice none 0 0), (.slice none 0 0), (.bool false)], none⟩,
      ⟨(.v 2), .asg (.c (.int .i64 0)), none⟩] none ⟨[], [], [], []⟩)
  (.seq (.block 0
    (.seq (.reg 1 [] [
        ⟨(.t 7), .mv (.v 0), none⟩,
        ⟨(.t 8), .call 29 [(.t 7)], none⟩,
        ⟨(.t 9), .un .not (.t 8), none⟩,
        ⟨(.v 3), .asg (.t 9), none⟩] none ⟨[], [], [], []⟩)
    (.cond (.v 3)
      (.seq (.reg 2 [] [
          ⟨(.t 10), .bld [(.slice none 0 0), (.int .i64 0), (.slice none 0 0), (.slice none 0 0), (.bool false)] [], none⟩,
          ⟨.none, .st 5 (.t 4) (.t 10), none⟩,
          ⟨(.v 2), .asg (.c (.int .i64 2)), none⟩] none ⟨[], [], [], []⟩)
      .ret)
      (.seq (.reg 3 [] [
          ⟨(.t 12), .mv (.v 1), none⟩,
          ⟨(.t 13), .bin .lss (.t 12) (.c (.int .i64 0)), none⟩,
          ⟨(.t 14), .mv (.t 13), none⟩,
          ⟨(.t 15), .mv (.v 1), some (14, false)⟩,
          ⟨(.t 16), .mv (.v 0), some (14, false)⟩,
          ⟨(.t 17), .len (.t 16), some (14, false)⟩,
          ⟨(.t 18), .bin .geq (.t 15) (.t 17), some (14, false)⟩,
          ⟨(.t 19), .pick (.t 14) (.c (.bool true)) (.t 18), none⟩,
          ⟨(.v 4), .asg (.t 19), none⟩] none ⟨[], [], [], []⟩)
      (.cond (.v 4)
        (.seq (.reg 4 [] [
            ⟨(.t 20), .bld [(.slice none 0 0), (.int .i64 0), (.slice none 0 0), (.slice none 0 0), (.bool false)] [], none⟩,
            ⟨.none, .st 5 (.t 4) (.t 20), none⟩,
            ⟨(.v 2), .asg (.c (.int .i64 1)), none⟩] none ⟨[], [], [], []⟩)
        .ret)
        (.seq (.reg 5 [] [
            ⟨(.t 22), .mv (.v 0), none⟩,
            ⟨(.t 23), .mv (.v 1), none⟩,
            ⟨(.t 24), .ia 2 (.t 22) (.t 23), none⟩,
            ⟨(.t 25), .fa 0 (.t 24), none⟩,
            ⟨(.t 26), .ld 1 false (.t 25), none⟩,
            ⟨(.t 27), .bin .eql (.t 26) (.c (.int .i64 0)), none⟩,
            ⟨(.v 5), .asg (.t 27), none⟩] none ⟨[], [], [], []⟩)
        (.cond (.v 5)
          (.seq (.reg 6 [] [
              ⟨(.t 28), .bld [(.slice none 0 0), (.int .i64 0), (.slice none 0 0), (.slice none 0 0), (.bool false)] [], none⟩,
              ⟨.none, .st 5 (.t 4) (.t 28), none⟩,
              ⟨(.v 2), .asg (.c (.int .i64 14)), none⟩] none ⟨[], [], [], []⟩)
          .ret)
          .skip)))))))
  (.seq (.reg 7 [] [
      ⟨(.t 29), .mv (.v 0), none⟩,
      ⟨(.t 30), .call 30 [(.t 29)], none⟩,
      ⟨(.t 31), .mv (.v 1), none⟩,
      ⟨(.t 32), .mv (.v 0), none⟩,
      ⟨(.t 33), .mv (.v 1), none⟩,
      ⟨(.t 34), .call 31 [(.t 32), (.t 33)], none⟩,
      ⟨(.t 35), .mv (.v 0), none⟩,
      ⟨(.t 36), .len (.t 35), none⟩,
      ⟨(.t 37), .mk 4 1 1 (.bool false) (.t 36) (.t 36), none⟩,
      ⟨(.t 38), .bld [(.slice none 0 0), (.int .i64 0), (.slice none 0 0), (.slice none 0 0), (.bool false)] [(0, 1, (.t 30)), (1, 1, (.t 31)), (2, 1, (.t 34)), (3, 1, (.t 37))], none⟩,
      ⟨.none, .st 5 (.t 4) (.t 38), none⟩,
      ⟨(.v 2), .asg (.c (.int .i64 0)), none⟩] (some [[], [0], [], [], [], [3, 4, 1], [], [6], [7, 7], [1, 2, 5, 8], [9, 5, 0, 1, 2, 3, 4, 5, 6, 7, 8, 9], [10, 0, 1, 2, 3, 4, 5, 6, 7, 8, 9, 10]]) ⟨[], [], [], []⟩)
  .ret)))
theorem c11 : compFn Try.prog 11 F11 = some (2, strip a11, [.c 4 5 true, .v 2]) ∧ lexAll a11 = true := ⟨by kernel_rfl, by kernel_rfl⟩
/-- clusterlocks/clusterlocksref34.Same -/
def F12 : Fr := ⟨61, [0, 1, 4, 5]⟩
def a12 : ACode :=
  (.seq (.reg 0 [] [
      ⟨(.t 2), .box 5 (.v 0), none⟩,
      ⟨(.t 3), .box 5 (.v 1), none⟩,
      ⟨(.v 2), .asg (.c (.bool false)), none⟩] none ⟨[], [], [], []⟩)
  (.seq (.seq (.reg 1 [] [
      ⟨(.t 6), .fa 0 (.t 2), none⟩,
      ⟨(.t 7), .ld 1 false (.t 6), none⟩,
      ⟨(.t 8), .fa 0 (.t 3), none⟩,
      ⟨(.t 9), .ld 1 false (.t 8), none⟩,
      ⟨(.t 10), .call 32 [(.t 7), (.t 9)], none⟩,
      ⟨(.t 11), .un .not (.t 10), none⟩,
      ⟨(.t 12), .mv (.t 11), none⟩,
      ⟨(.t 13), .fa 1 (.t 2), some (12, false)⟩,
      ⟨(.t 14), .ld 1 false (.t 13), some (12, false)⟩,
      ⟨(.t 15), .fa 1 (.t 3), some (12, false)⟩,
      ⟨(.t 16), .ld 1 false (.t 15), some (12, false)⟩,
      ⟨(.t 17), .bin .neq (.t 14) (.t 16), some (12, false)⟩,
      ⟨(.t 18), .pick (.t 12) (.c (.bool true)) (.t 17), none⟩,
      ⟨(.t 19), .mv (.t 18), none⟩,
      ⟨(.t 20), .fa 4 (.t 2), some (19, false)⟩,
      ⟨(.t 21), .ld 1 false (.t 20), some (19, false)⟩,
      ⟨(.t 22), .fa 4 (.t 3), some (19, false)⟩,
      ⟨(.t 23), .ld 1 false (.t 22), some (19, false)⟩,
      ⟨(.t 24), .bib .neq (.t 21) (.t 23), some (19, false)⟩,
      ⟨(.t 25), .pick (.t 19) (.c (.bool true)) (.t 24), none⟩,
      ⟨(.t 26), .mv (.t 25), none⟩,
      ⟨(.t 27), .fa 3 (.t 2), some (26, false)⟩,
      ⟨(.t 28), .ld 1 false (.t 27), some (26, false)⟩,
      ⟨(.t 29), .fa 3 (.t 3), some (26, false)⟩,
      ⟨(.t 30), .ld 1 false (.t 29), some (26, false)⟩,
      ⟨(.t 31), .call 33 [(.t 28), (.t 30)], some (26, false)⟩,
      ⟨(.t 32), .un .not (.t 31), some (26, false)⟩,
      ⟨(.t 33), .pick (.t 26) (.c (.bool true)) (.t 32), none⟩,
      ⟨(.t 34), .mv (.t 33), none⟩,
      ⟨(.t 35), .fa 2 (.t 2), some (34, false)⟩,
      ⟨(.t 36), .ld 1 false (.t 35), some (34, false)⟩,
      ⟨(.t 37), .len (.t 36), some (34, false)⟩,
      ⟨(.t 38), .fa 2 (.t 3), some (34, false)⟩,
      ⟨(.t 39), .ld 1 false (.t 38), some (34, false)⟩,
      ⟨(.t 40), .len (.t 39), some (34, false)⟩,
      ⟨(.t 41), .bin .neq (.t 37) (.t 40), some (34, false)⟩,
      ⟨(.t 42), .pick (.t 34) (.c (.bool true)) (.t 41), none⟩] none ⟨[], [], [], []⟩)
  (.cond (.t 42)
    (.seq (.reg 2 [] [
        ⟨(.v 2), .asg (.c (.bool false)), none⟩] none ⟨[], [], [], []⟩)
    .ret)
    .skip))
  (.seq (.seq (.reg 3 [] [
      ⟨(.v 3), .asg (.c (.int .i64 0)), none⟩] none ⟨[], [], [], []⟩)
  (.block 0
    (.loop
      (.seq (.seq (.reg 4 [] [
          ⟨(.t 43), .mv (.v 3), none⟩,
          ⟨(.t 44), .fa 2 (.t 2), none⟩,
          ⟨(.t 45), .ld 1 false (.t 44), none⟩,
          ⟨(.t 46), .len (.t 45), none⟩,
          ⟨(.t 47), .bin .lss (.t 43) (.t 46), none⟩] none ⟨[], [], [], []⟩)
      (.cond (.t 47)
        .skip
        (.exit 0)))
      (.seq (.block 1
        (.seq (.reg 6 [] [
            ⟨(.t 50), .fa 2 (.t 2), none⟩,
            ⟨(.t 51), .ld 1 false (.t 50), none⟩,
            ⟨(.t 52), .mv (.v 3), none⟩,
            ⟨(.t 53), .ia 2 (.t 51) (.t 52), none⟩,
            ⟨(.t 54), .ld 2 true (.t 53), none⟩,
            ⟨(.t 55), .fa 2 (.t 3), none⟩,
            ⟨(.t 56), .ld 1 false (.t 55), none⟩,
            ⟨(.t 57), .mv (.v 3), none⟩,
            ⟨(.t 58), .ia 2 (.t 56) (.t 57), none⟩,
            ⟨(.t 59), .ld 2 true (.t 58), none⟩,
            ⟨(.t 60), .ex (.eqA true [.int, .int]) (.t 54) (.t 59), none⟩] (some [[], [0], [], [1, 2], [3], [], [5], [], [6, 7], [8], [4, 9]]) ⟨[], [], [], []⟩)
        (.cond (.t 60)
          (.seq (.reg 7 [] [
              ⟨(.v 2), .asg (.c (.bool false)), none⟩] none ⟨[], [], [], []⟩)
          .ret)
          .skip)))
      (.reg 5 [] [
          ⟨(.t 48), .mv (.v 3), none⟩,
          ⟨(.t 49), .bin .add (.t 48) (.c (.int .i64 1)), none⟩,
          ⟨(.v 3), .asg (.t 49), none⟩] none ⟨[], [], [], []⟩))))))
  (.seq (.reg 8 [] [
      ⟨(.v 2), .asg (.c (.bool true)), none⟩] none ⟨[], [], [], []⟩)
  .ret))))
theorem c12 : compFn Try.prog 12 F12 = some (2, strip a12, [.v 2]) ∧ lexAll a12 = true := ⟨by kernel_rfl, by kernel_rfl⟩
/-- clusterlocks/clusterlocksmill.Mod -/
def F13 : Fr := ⟨16, [0, 1, 4]⟩
def a13 : ACode :=
  (.seq (.reg 0 [] [
      ⟨(.v 2), .asg (.c (.int .i64 0)), none⟩] none ⟨[], [], [], []⟩)
  (.seq (.seq (.reg 1 [] [
      ⟨(.t 5), .mv (.v 1), none⟩,
      ⟨(.t 6), .bin .lss (.t 5) (.c (.int .i64 1)), none⟩] none ⟨[], [], [], []⟩)
  (.cond (.t 6)
    (.seq (.reg 2 [] [
        ⟨(.v 2), .asg (.c (.int .i64 0)), none⟩] none ⟨[], [], [], []⟩)
    .ret)
    .skip))
  (.seq (.reg 3 [] [
      ⟨(.t 7), .mv (.v 0), none⟩,
      ⟨(.t 8), .mv (.v 1), none⟩,
      ⟨(.t 9), .bin .rem (.t 7) (.t 8), none⟩,
      ⟨(.v 0), .asg (.t 9), none⟩] none ⟨[], [], [], []⟩)
  (.seq (.seq (.reg 4 [] [
      ⟨(.t 10), .mv (.v 0), none⟩,
      ⟨(.t 11), .bin .lss (.t 10) (.c (.int .i64 0)), none⟩] none ⟨[], [], [], []⟩)
  (.cond (.t 11)
    (.reg 5 [] [
        ⟨(.t 12), .mv (.v 0), none⟩,
        ⟨(.t 13), .mv (.v 1), none⟩,
        ⟨(.t 14), .bin .add (.t 12) (.t 13), none⟩,
        ⟨(.v 0), .asg (.t 14), none⟩] none ⟨[], [], [], []⟩)
    .skip))
  (.seq (.reg 6 [] [
      ⟨(.t 15), .mv (.v 0), none⟩,
      ⟨(.v 2), .asg (.t 15), none⟩] none ⟨[], [], [], []⟩)
  .ret)))))
theorem c13 : compFn Try.prog 13 F13 = some (2, strip a13, [.v 2]) ∧ lexAll a13 = true := ⟨by kernel_rfl, by kernel_rfl⟩
/-- clusterlocks/chase.Step -/
def F14 : Fr := ⟨93, [0, 1, 5, 7, 59, 65]⟩
def a14 : ACode :=
  (.seq (.reg 0 [] [
      ⟨(.t 2), .box 5 (.v 0), none⟩,
      ⟨(.t 4), .allo [(.slice none 0 0), (.int .i64 0), (.slice none 0 0), (.slice none 0 0), (.bool false)], none⟩,
      ⟨(.v 2), .asg (.c (.int .i64 0)), none⟩] none ⟨[], [], [], []⟩)
  (.seq (.seq (.reg 1 [] [
      ⟨(.t 8), .ld 5 true (.t 2), none⟩,
      ⟨(.t 9), .call 18 [(.t 8)], none⟩,
      ⟨(.t 10), .un .not (.t 9), none⟩] none ⟨[], [], [], []⟩)
  (.cond (.t 10)
    (.seq (.reg 2 [] [
        ⟨(.t 11), .bld [(.slice none 0 0), (.int .i64 0), (.slice none 0 0), (.slice none 0 0), (.bool false)] [], none⟩,
        ⟨.none, .st 5 (.t 4) (.t 11), none⟩,
        ⟨(.v 2), .asg (.c (.int .i64 2)), none⟩] none ⟨[], [], [], []⟩)
    .ret)
    .skip))
  (.seq (.seq (.reg 3 [] [
      ⟨(.t 12), .mv (.v 1), none⟩,
      ⟨(.t 13), .bin .lss (.t 12) (.c (.int .i64 0)), none⟩,
      ⟨(.t 14), .mv (.t 13), none⟩,
      ⟨(.t 15), .mv (.v 1), some (14, false)⟩,
      ⟨(.t 16), .fa 2 (.t 2), some (14, false)⟩,
      ⟨(.t 17), .ld 1 false (.t 16), some (14, false)⟩,
      ⟨(.t 18), .len (.t 17), some (14, false)⟩,
      ⟨(.t 19), .bin .geq (.t 15) (.t 18), some (14, false)⟩,
      ⟨(.t 20), .pick (.t 14) (.c (.bool true)) (.t 19), none⟩] none ⟨[], [], [], []⟩)
  (.cond (.t 20)
    (.seq (.reg 4 [] [
        ⟨(.t 21), .bld [(.slice none 0 0), (.int .i64 0), (.slice none 0 0), (.slice none 0 0), (.bool false)] [], none⟩,
        ⟨.none, .st 5 (.t 4) (.t 21), none⟩,
        ⟨(.v 2), .asg (.c (.int .i64 1)), none⟩] none ⟨[], [], [], []⟩)
    .ret)
    .skip))
  (.seq (.reg 5 [] [
      ⟨(.t 22), .fa 0 (.t 2), none⟩,
      ⟨(.t 23), .ld 1 false (.t 22), none⟩,
      ⟨(.t 24), .call 27 [(.t 23)], none⟩,
      ⟨(.t 25), .fa 1 (.t 2), none⟩,
      ⟨(.t 26), .ld 1 false (.t 25), none⟩,
      ⟨(.t 27), .fa 4 (.t 2), none⟩,
      ⟨(.t 28), .ld 1 false (.t 27), none⟩,
      ⟨(.t 29), .bld [(.slice none 0 0), (.int .i64 0), (.slice none 0 0), (.slice none 0 0), (.bool false)] [(0, 1, (.t 24)), (1, 1, (.t 26)), (4, 1, (.t 28))], none⟩,
      ⟨(.t 6), .allo [(.slice none 0 0), (.int .i64 0), (.slice none 0 0), (.slice none 0 0), (.bool false)], none⟩,
      ⟨.none, .st 5 (.t 6) (.t 29), none⟩] (some [[], [0], [1], [], [3], [], [5], [2, 4, 6], [], [8, 7, 2, 0, 1, 2, 3, 4, 5, 6, 7, 8]]) ⟨[2], [], [], []⟩)
  (.seq (.reg 6 [.lend (.cell 2 3) 34] [
      ⟨(.t 30), .fa 3 (.t 6), none⟩,
      ⟨(.t 31), .ld 1 false (.t 30), none⟩,
      ⟨(.t 32), .fa 3 (.t 2), none⟩,
      ⟨(.t 33), .ld 1 false (.t 32), none⟩,
      ⟨(.t 34), .app 4 1 1 (.t 31) (.t 33), none⟩,
      ⟨(.t 35), .fa 3 (.t 6), none⟩,
      ⟨.none, .st 1 (.t 35) (.t 34), none⟩] none ⟨[], [], [], []⟩)
  (.seq (.reg 7 [.lend (.cell 2 2) 42] [
      ⟨(.t 36), .fa 2 (.t 6), none⟩,
      ⟨(.t 37), .ld 1 false (.t 36), none⟩,
      ⟨(.t 38), .fa 2 (.t 2), none⟩,
      ⟨(.t 39), .ld 1 false (.t 38), none⟩,
      ⟨(.t 40), .mv (.v 1), none⟩,
      ⟨(.t 41), .sl 58 2 (.t 39) none (some (.t 40)) none, none⟩,
      ⟨(.t 42), .app 58 2 16 (.t 37) (.t 41), none⟩,
      ⟨(.t 43), .fa 2 (.t 6), none⟩,
      ⟨.none, .st 1 (.t 43) (.t 42), none⟩] (some [[], [0], [], [2], [], [3, 4], [1, 5], [0, 1, 2, 3, 4, 5, 6], [7, 6, 6, 0, 1, 2, 3, 4, 5, 6]]) ⟨[], [], [], []⟩)
  (.seq (.reg 8 [.lend (.cell 2 2) 51] [
      ⟨(.t 44), .fa 2 (.t 6), none⟩,
      ⟨(.t 45), .ld 1 false (.t 44), none⟩,
      ⟨(.t 46), .fa 2 (.t 2), none⟩,
      ⟨(.t 47), .ld 1 false (.t 46), none⟩,
      ⟨(.t 48), .mv (.v 1), none⟩,
      ⟨(.t 49), .bin .add (.t 48) (.c (.int .i64 1)), none⟩,
      ⟨(.t 50), .sl 58 2 (.t 47) (some (.t 49)) none none, none⟩,
      ⟨(.t 51), .app 58 2 16 (.t 45) (.t 50), none⟩,
      ⟨(.t 52), .fa 2 (.t 6), none⟩,
      ⟨.none, .st 1 (.t 52) (.t 51), none⟩] (some [[], [0], [], [2], [], [4], [3, 5], [1, 6], [0, 1, 2, 3, 4, 5, 6, 7], [8, 7, 7, 0, 1, 2, 3, 4, 5, 6, 7]]) ⟨[], [], [], []⟩)
  (.seq (.reg 9 [] [
      ⟨(.t 53), .fa 2 (.t 2), none⟩,
      ⟨(.t 54), .ld 1 false (.t 53), none⟩,
      ⟨(.t 55), .mv (.v 1), none⟩,
      ⟨(.t 56), .ia 2 (.t 54) (.t 55), none⟩,
      ⟨(.t 57), .fa 1 (.t 56), none⟩,
      ⟨(.t 58), .ld 1 false (.t 57), none⟩,
      ⟨(.v 3), .asg (.t 58), none⟩] none ⟨[], [], [], []⟩)
  (.seq (.block 0
    (.seq (.reg 10 [] [
        ⟨(.t 60), .mv (.v 3), none⟩,
        ⟨(.t 61), .fa 1 (.t 6), none⟩,
        ⟨(.t 62), .ld 1 false (.t 61), none⟩,
        ⟨(.t 63), .bin .eql (.t 60) (.t 62), none⟩,
        ⟨(.v 4), .asg (.t 63), none⟩] none ⟨[], [], [], []⟩)
    (.cond (.v 4)
      (.reg 11 [] [
          ⟨(.t 64), .fa 4 (.t 6), none⟩,
          ⟨.none, .st 1 (.t 64) (.c (.bool true)), none⟩] none ⟨[], [], [], []⟩)
      (.seq (.reg 12 [.freeze (.cell 2 0)] [
          ⟨(.t 66), .fa 0 (.t 6), none⟩,
          ⟨(.t 67), .ld 1 false (.t 66), none⟩,
          ⟨(.t 68), .mv (.v 3), none⟩,
          ⟨(.t 69), .ia 2 (.t 67) (.t 68), none⟩,
          ⟨(.t 70), .fa 0 (.t 69), none⟩,
          ⟨(.t 71), .ld 1 false (.t 70), none⟩,
          ⟨(.t 72), .bin .neq (.t 71) (.c (.int .i64 0)), none⟩,
          ⟨(.t 73), .mv (.t 72), none⟩,
          ⟨(.t 74), .fa 3 (.t 6), some (73, true)⟩,
          ⟨(.t 75), .ld 1 false (.t 74), some (73, true)⟩,
          ⟨(.t 76), .mv (.v 3), some (73, true)⟩,
          ⟨(.t 77), .ia 1 (.t 75) (.t 76), some (73, true)⟩,
          ⟨(.t 78), .ld 1 false (.t 77), some (73, true)⟩,
          ⟨(.t 79), .un .not (.t 78), some (73, true)⟩,
          ⟨(.t 80), .pick (.t 73) (.t 79) (.c (.bool false)), none⟩,
          ⟨(.v 5), .asg (.t 80), none⟩] none ⟨[], [], [], []⟩)
      (.cond (.v 5)
        (.seq (.reg 13 [] [
            ⟨(.t 81), .fa 3 (.t 6), none⟩,
            ⟨(.t 82), .ld 1 false (.t 81), none⟩,
            ⟨(.t 83), .mv (.v 3), none⟩,
            ⟨(.t 84), .ia 1 (.t 82) (.t 83), none⟩,
            ⟨.none, .st 1 (.t 84) (.c (.bool true)), none⟩] none ⟨[], [], [], []⟩)
        (.reg 14 [.lend (.cell 2 2) 86] [
            ⟨(.t 85), .fa 2 (.t 6), none⟩,
            ⟨(.t 86), .ld 1 false (.t 85), none⟩,
            ⟨(.t 87), .fa 0 (.t 6), none⟩,
            ⟨(.t 88), .ld 1 false (.t 87), none⟩,
            ⟨(.t 89), .mv (.v 3), none⟩,
            ⟨(.t 90), .call 28 [(.t 86), (.t 88), (.t 89)], none⟩,
            ⟨(.t 91), .fa 2 (.t 6), none⟩,
            ⟨.none, .st 1 (.t 91) (.t 90), none⟩] none ⟨[], [], [], []⟩))
        .skip)))))
  (.seq (.reg 15 [.freeze (.cell 2 0), .freeze (.cell 2 2), .freeze (.cell 2 3)] [
      ⟨(.t 92), .ld 5 true (.t 6), none⟩,
      ⟨.none, .st 5 (.t 4) (.t 92), none⟩,
      ⟨(.v 2), .asg (.c (.int .i64 0)), none⟩] none ⟨[], [], [], []⟩)
  .ret))))))))))
theorem c14 : compFn Try.prog 14 F14 = some (2, strip a14, [.c 4 5 true, .v 2]) ∧ lexAll a14 = true := ⟨by kernel_rfl, by kernel_rfl⟩
/-- clusterlocks/clusterlocksref34.Step -/
def F15 : Fr := ⟨86, [0, 1, 5, 8, 13, 6]⟩
def a15 : ACode :=
  (.seq (.reg 0 [] [
      ⟨(.t 2), .box 5 (.v 0), none⟩,
      ⟨(.t 4), .allo [(.slice none 0 0), (.int .i64 0), (.slice none 0 0), (.slice none 0 0), (.bool false)], none⟩,
      ⟨(.v 2), .asg (.c (.int .i64 0)), none⟩] none ⟨[], [], [], []⟩)
  (.seq (.block 0
    (.seq (.reg 1 [] [
        ⟨(.t 9), .ld 5 true (.t 2), none⟩,
        ⟨(.t 10), .call 19 [(.t 9)], none⟩,
        ⟨(.t 11), .un .not (.t 10), none⟩,
        ⟨(.v 3), .asg (.t 11), none⟩] none ⟨[], [], [], []⟩)
    (.cond (.v 3)
      (.seq (.reg 2 [] [
          ⟨(.t 12), .bld [(.slice none 0 0), (.int .i64 0), (.slice none 0 0), (.slice none 0 0), (.bool false)] [], none⟩,
          ⟨.none, .st 5 (.t 4) (.t 12), none⟩,
          ⟨(.v 2), .asg (.c (.int .i64 2)), none⟩] none ⟨[], [], [], []⟩)
      .ret)
      (.seq (.reg 3 [] [
          ⟨(.t 14), .mv (.v 1), none⟩,
          ⟨(.t 15), .bin .lss (.t 14) (.c (.int .i64 0)), none⟩,
          ⟨(.t 16), .mv (.t 15), none⟩,
          ⟨(.t 17), .mv (.v 1), some (16, false)⟩,
          ⟨(.t 18), .fa 2 (.t 2), some (16, false)⟩,
          ⟨(.t 19), .ld 1 false (.t 18), some (16, false)⟩,
          ⟨(.t 20), .len (.t 19), some (16, false)⟩,
          ⟨(.t 21), .bin .geq (.t 17) (.t 20), some (16, false)⟩,
          ⟨(.t 22), .pick (.t 16) (.c (.bool true)) (.t 21), none⟩,
          ⟨(.v 4), .asg (.t 22), none⟩] none ⟨[], [], [], []⟩)
      (.cond (.v 4)
        (.seq (.reg 4 [] [
            ⟨(.t 23), .bld [(.slice none 0 0), (.int .i64 0), (.slice none 0 0), (.slice none 0 0), (.bool false)] [], none⟩,
            ⟨.none, .st 5 (.t 4) (.t 23), none⟩,
            ⟨(.v 2), .asg (.c (.int .i64 1)), none⟩] none ⟨[], [], [], []⟩)
        .ret)
        .skip)))))
  (.seq (.reg 5 [] [
      ⟨(.t 24), .fa 2 (.t 2), none⟩,
      ⟨(.t 25), .ld 1 false (.t 24), none⟩,
      ⟨(.t 26), .mv (.v 1), none⟩,
      ⟨(.t 27), .ia 2 (.t 25) (.t 26), none⟩,
      ⟨(.t 28), .fa 1 (.t 27), none⟩,
      ⟨(.t 29), .ld 1 false (.t 28), none⟩,
      ⟨(.v 5), .asg (.t 29), none⟩] none ⟨[], [], [], []⟩)
  (.seq (.reg 6 [] [
      ⟨(.t 30), .fa 0 (.t 2), none⟩,
      ⟨(.t 31), .ld 1 false (.t 30), none⟩,
      ⟨(.t 32), .call 30 [(.t 31)], none⟩,
      ⟨(.t 33), .fa 1 (.t 2), none⟩,
      ⟨(.t 34), .ld 1 false (.t 33), none⟩,
      ⟨(.t 35), .fa 3 (.t 2), none⟩,
      ⟨(.t 36), .ld 1 false (.t 35), none⟩,
      ⟨(.t 37), .app 4 1 1 (.c (.slice none 0 0)) (.t 36), none⟩,
      ⟨(.t 38), .fa 4 (.t 2), none⟩,
      ⟨(.t 39), .ld 1 false (.t 38), none⟩,
      ⟨(.t 40), .bld [(.slice none 0 0), (.int .i64 0), (.slice none 0 0), (.slice none 0 0), (.bool false)] [(0, 1, (.t 32)), (1, 1, (.t 34)), (3, 1, (.t 37)), (4, 1, (.t 39))], none⟩,
      ⟨(.t 7), .allo [(.slice none 0 0), (.int .i64 0), (.slice none 0 0), (.slice none 0 0), (.bool false)], none⟩,
      ⟨.none, .st 5 (.t 7) (.t 40), none⟩] (some [[], [0], [1], [], [3], [], [5], [6, 2], [], [8], [2, 4, 7, 9], [], [11, 10, 7, 0, 1, 2, 3, 4, 5, 6, 7, 8, 9, 10, 11]]) ⟨[2], [], [], []⟩)
  (.seq (.reg 7 [] [
      ⟨(.t 41), .fa 2 (.t 2), none⟩,
      ⟨(.t 42), .ld 1 false (.t 41), none⟩,
      ⟨(.t 43), .mv (.v 1), none⟩,
      ⟨(.t 44), .sl 58 2 (.t 42) none (some (.t 43)) none, none⟩,
      ⟨(.t 45), .app 58 2 16 (.c (.slice none 0 0)) (.t 44), none⟩,
      ⟨(.t 46), .fa 2 (.t 2), none⟩,
      ⟨(.t 47), .ld 1 false (.t 46), none⟩,
      ⟨(.t 48), .mv (.v 1), none⟩,
      ⟨(.t 49), .bin .add (.t 48) (.c (.int .i64 1)), none⟩,
      ⟨(.t 50), .sl 58 2 (.t 47) (some (.t 49)) none none, none⟩,
      ⟨(.t 51), .app 58 2 16 (.t 45) (.t 50), none⟩,
      ⟨(.t 52), .fa 2 (.t 7), none⟩,
      ⟨.none, .st 1 (.t 52) (.t 51), none⟩] (some [[], [0], [], [1, 2], [3], [], [5], [], [7], [6, 8], [4, 9, 4], [0, 1, 2, 3, 4, 5, 6, 7, 8, 9, 10], [11, 10, 10, 0, 1, 2, 3, 4, 5, 6, 7, 8, 9, 10]]) ⟨[2], [], [], []⟩)
  (.seq (.seq (.reg 8 [] [
      ⟨(.t 53), .mv (.v 5), none⟩,
      ⟨(.t 54), .fa 1 (.t 2), none⟩,
      ⟨(.t 55), .ld 1 false (.t 54), none⟩,
      ⟨(.t 56), .bin .eql (.t 53) (.t 55), none⟩] none ⟨[], [], [], []⟩)
  (.cond (.t 56)
    (.reg 9 [] [
        ⟨(.t 57), .fa 4 (.t 7), none⟩,
        ⟨.none, .st 1 (.t 57) (.c (.bool true)), none⟩] none ⟨[], [], [], []⟩)
    (.seq (.reg 10 [] [
        ⟨(.t 58), .fa 0 (.t 2), none⟩,
        ⟨(.t 59), .ld 1 false (.t 58), none⟩,
        ⟨(.t 60), .mv (.v 5), none⟩,
        ⟨(.t 61), .ia 2 (.t 59) (.t 60), none⟩,
        ⟨(.t 62), .fa 0 (.t 61), none⟩,
        ⟨(.t 63), .ld 1 false (.t 62), none⟩,
        ⟨(.t 64), .bin .gtr (.t 63) (.c (.int .i64 0)), none⟩,
        ⟨(.t 65), .mv (.t 64), none⟩,
        ⟨(.t 66), .fa 3 (.t 2), some (65, true)⟩,
        ⟨(.t 67), .ld 1 false (.t 66), some (65, true)⟩,
        ⟨(.t 68), .mv (.v 5), some (65, true)⟩,
        ⟨(.t 69), .ia 1 (.t 67) (.t 68), some (65, true)⟩,
        ⟨(.t 70), .ld 1 false (.t 69), some (65, true)⟩,
        ⟨(.t 71), .un .not (.t 70), some (65, true)⟩,
        ⟨(.t 72), .pick (.t 65) (.t 71) (.c (.bool false)), none⟩] none ⟨[], [], [], []⟩)
    (.cond (.t 72)
      (.seq (.reg 11 [] [
          ⟨(.t 73), .fa 3 (.t 7), none⟩,
          ⟨(.t 74), .ld 1 false (.t 73), none⟩,
          ⟨(.t 75), .mv (.v 5), none⟩,
          ⟨(.t 76), .ia 1 (.t 74) (.t 75), none⟩,
          ⟨.none, .st 1 (.t 76) (.c (.bool true)), none⟩] none ⟨[], [], [], []⟩)
      (.reg 12 [.lend (.cell 2 2) 83] [
          ⟨(.t 77), .fa 2 (.t 7), none⟩,
          ⟨(.t 78), .ld 1 false (.t 77), none⟩,
          ⟨(.t 79), .fa 0 (.t 2), none⟩,
          ⟨(.t 80), .ld 1 false (.t 79), none⟩,
          ⟨(.t 81), .mv (.v 5), none⟩,
          ⟨(.t 82), .call 31 [(.t 80), (.t 81)], none⟩,
          ⟨(.t 83), .app 58 2 16 (.t 78) (.t 82), none⟩,
          ⟨(.t 84), .fa 2 (.t 7), none⟩,
          ⟨.none, .st 1 (.t 84) (.t 83), none⟩] (some [[], [0], [], [2], [], [3, 4], [1, 5, 5], [0, 1, 2, 3, 4, 5, 6], [7, 6, 6, 0, 1, 2, 3, 4, 5, 6]]) ⟨[], [], [], []⟩))
      .skip))))
  (.seq (.reg 13 [.freeze (.cell 2 0), .freeze (.cell 2 2), .freeze (.cell 2 3)] [
      ⟨(.t 85), .ld 5 true (.t 7), none⟩,
      ⟨.none, .st 5 (.t 4) (.t 85), none⟩,
      ⟨(.v 2), .asg (.c (.int .i64 0)), none⟩] none ⟨[], [], [], []⟩)
  .ret)))))))
theorem c15 : compFn Try.prog 15 F15 = some (2, strip a15, [.c 4 5 true, .v 2]) ∧ lexAll a15 = true := ⟨by kernel_rfl, by kernel_rfl⟩
/-- clusterlocks/chase.Over -/
def F16 : Fr := ⟨11, [0, 2]⟩
def a16 : ACode :=
  (.seq (.reg 0 [] [
      ⟨(.t 1), .box 5 (.v 0), none⟩,
      ⟨(.v 1), .asg (.c (.bool false)), none⟩] none ⟨[], [], [], []⟩)
  (.seq (.reg 1 [] [
      ⟨(.t 3), .fa 2 (.t 1), none⟩,
      ⟨(.t 4), .ld 1 false (.t 3), none⟩,
      ⟨(.t 5), .len (.t 4), none⟩,
      ⟨(.t 6), .bin .eql (.t 5) (.c (.int .i64 0)), none⟩,
      ⟨(.t 7), .mv (.t 6), none⟩,
      ⟨(.t 8), .ld 5 true (.t 1), some (7, true)⟩,
      ⟨(.t 9), .call 18 [(.t 8)], some (7, true)⟩,
      ⟨(.t 10), .pick (.t 7) (.t 9) (.c (.bool false)), none⟩,
      ⟨(.v 1), .asg (.t 10), none⟩] none ⟨[], [], [], []⟩)
  .ret))
theorem c16 : compFn Try.prog 16 F16 = some (1, strip a16, [.v 1]) ∧ lexAll a16 = true := ⟨by kernel_rfl, by kernel_rfl⟩
/-- clusterlocks/clusterlocksref34.Over -/
def F17 : Fr := ⟨11, [0, 2]⟩
def a17 : ACode :=
  (.seq (.reg 0 [] [
      ⟨(.t 1), .box 5 (.v 0), none⟩,
      ⟨(.v 1), .asg (.c (.bool false)), none⟩] none ⟨[], [], [], []⟩)
  (.seq (.reg 1 [] [
      ⟨(.t 3), .ld 5 true (.t 1), none⟩,
      ⟨(.t 4), .call 19 [(.t 3)], none⟩,
      ⟨(.t 5), .mv (.t 4), none⟩,
      ⟨(.t 6), .fa 2 (.t 1), some (5, true)⟩,
      ⟨(.t 7), .ld 1 false (.t 6), some (5, true)⟩,
      ⟨(.t 8), .len (.t 7), some (5, true)⟩,
      ⟨(.t 9), .bin .eql (.t 8) (.c (.int .i64 0)), some (5, true)⟩,
      ⟨(.t 10), .pick (.t 5) (.t 9) (.c (.bool false)), none⟩,
      ⟨(.v 1), .asg (.t 10), none⟩] none ⟨[], [], [], []⟩)
  .ret))
theorem c17 : compFn Try.prog 17 F17 = some (1, strip a17, [.v 1]) ∧ lexAll a17 = true := ⟨by kernel_rfl, by kernel_rfl⟩
/-- clusterlocks/chase.Valid -/
def F18 : Fr := ⟨111, [0, 2, 3, 4]⟩
def a18 : ACode :=
  (.seq (.reg 0 [] [
      ⟨(.t 1), .box 5 (.v 0), none⟩,
      ⟨(.v 1), .asg (.c (.bool false)), none⟩] none ⟨[], [], [], []⟩)
  (.seq (.reg 1 [] [
      ⟨(.t 7), .fa 0 (.t 1), none⟩,
      ⟨(.t 8), .ld 1 false (.t 7), none⟩,
      ⟨(.t 9), .len (.t 8), none⟩,
      ⟨(.v 2), .asg (.t 9), none⟩] none ⟨[], [], [], []⟩)
  (.seq (.seq (.reg 2 [] [
      ⟨(.t 10), .fa 0 (.t 1), none⟩,
      ⟨(.t 11), .ld 1 false (.t 10), none⟩,
      ⟨(.t 12), .call 26 [(.t 11)], none⟩,
      ⟨(.t 13), .un .not (.t 12), none⟩,
      ⟨(.t 14), .mv (.t 13), none⟩,
      ⟨(.t 15), .fa 1 (.t 1), some (14, false)⟩,
      ⟨(.t 16), .ld 1 false (.t 15), some (14, false)⟩,
      ⟨(.t 17), .bin .lss (.t 16) (.c (.int .i64 0)), some (14, false)⟩,
      ⟨(.t 18), .pick (.t 14) (.c (.bool true)) (.t 17), none⟩,
      ⟨(.t 19), .mv (.t 18), none⟩,
      ⟨(.t 20), .fa 1 (.t 1), some (19, false)⟩,
      ⟨(.t 21), .ld 1 false (.t 20), some (19, false)⟩,
      ⟨(.t 22), .mv (.v 2), some (19, false)⟩,
      ⟨(.t 23), .bin .geq (.t 21) (.t 22), some (19, false)⟩,
      ⟨(.t 24), .pick (.t 19) (.c (.bool true)) (.t 23), none⟩,
      ⟨(.t 25), .mv (.t 24), none⟩,
      ⟨(.t 26), .fa 0 (.t 1), some (25, false)⟩,
      ⟨(.t 27), .ld 1 false (.t 26), some (25, false)⟩,
      ⟨(.t 28), .fa 1 (.t 1), some (25, false)⟩,
      ⟨(.t 29), .ld 1 false (.t 28), some (25, false)⟩,
      ⟨(.t 30), .ia 2 (.t 27) (.t 29), some (25, false)⟩,
      ⟨(.t 31), .fa 0 (.t 30), some (25, false)⟩,
      ⟨(.t 32), .ld 1 false (.t 31), some (25, false)⟩,
      ⟨(.t 33), .bin .eql (.t 32) (.c (.int .i64 0)), some (25, false)⟩,
      ⟨(.t 34), .pick (.t 25) (.c (.bool true)) (.t 33), none⟩,
      ⟨(.t 35), .mv (.t 34), none⟩,
      ⟨(.t 36), .fa 3 (.t 1), some (35, false)⟩,
      ⟨(.t 37), .ld 1 false (.t 36), some (35, false)⟩,
      ⟨(.t 38), .len (.t 37), some (35, false)⟩,
      ⟨(.t 39), .mv (.v 2), some (35, false)⟩,
      ⟨(.t 40), .bin .neq (.t 38) (.t 39), some (35, false)⟩,
      ⟨(.t 41), .pick (.t 35) (.c (.bool true)) (.t 40), none⟩] none ⟨[], [], [], []⟩)
  (.cond (.t 41)
    (.seq (.reg 3 [] [
        ⟨(.v 1), .asg (.c (.bool false)), none⟩] none ⟨[], [], [], []⟩)
    .ret)
    .skip))
  (.seq (.seq (.reg 4 [] [
      ⟨(.t 42), .mv (.v 2), none⟩,
      ⟨(.t 43), .mv (.c (.int .i64 0)), none⟩] none ⟨[], [], [], []⟩)
  (.block 0
    (.loop
      (.seq (.reg 5 [] [
          ⟨(.t 44), .bin .lss (.t 43) (.t 42), none⟩] none ⟨[], [], [], []⟩)
      (.seq (.cond (.t 44)
        .skip
        (.exit 0))
      (.seq (.block 1
        (.seq (.reg 6 [] [
            ⟨(.t 45), .mv (.t 43), none⟩,
            ⟨(.v 3), .asg (.t 45), none⟩] none ⟨[], [], [], []⟩)
        (.seq (.reg 7 [] [
            ⟨(.t 46), .fa 3 (.t 1), none⟩,
            ⟨(.t 47), .ld 1 false (.t 46), none⟩,
            ⟨(.t 48), .mv (.v 3), none⟩,
            ⟨(.t 49), .ia 1 (.t 47) (.t 48), none⟩,
            ⟨(.t 50), .ld 1 false (.t 49), none⟩,
            ⟨(.t 51), .mv (.t 50), none⟩,
            ⟨(.t 52), .mv (.v 3), some (51, true)⟩,
            ⟨(.t 53), .fa 1 (.t 1), some (51, true)⟩,
            ⟨(.t 54), .ld 1 false (.t 53), some (51, true)⟩,
            ⟨(.t 55), .bin .eql (.t 52) (.t 54), some (51, true)⟩,
            ⟨(.t 56), .mv (.t 55), some (51, true)⟩,
            ⟨(.t 57), .fa 0 (.t 1), some (56, false)⟩,
            ⟨(.t 58), .ld 1 false (.t 57), some (56, false)⟩,
            ⟨(.t 59), .mv (.v 3), some (56, false)⟩,
            ⟨(.t 60), .ia 2 (.t 58) (.t 59), some (56, false)⟩,
            ⟨(.t 61), .fa 0 (.t 60), some (56, false)⟩,
            ⟨(.t 62), .ld 1 false (.t 61), some (56, false)⟩,
            ⟨(.t 63), .bin .eql (.t 62) (.c (.int .i64 0)), some (56, false)⟩,
            ⟨(.t 64), .pick (.t 56) (.c (.bool true)) (.t 63), some (51, true)⟩,
            ⟨(.t 65), .pick (.t 51) (.t 64) (.c (.bool false)), none⟩] none ⟨[], [], [], []⟩)
        (.cond (.t 65)
          (.seq (.reg 8 [] [
              ⟨(.v 1), .asg (.c (.bool false)), none⟩] none ⟨[], [], [], []⟩)
          .ret)
          .skip))))
      (.reg 9 [] [
          ⟨(.t 66), .bin .add (.t 43) (.c (.int .i64 1)), none⟩,
          ⟨(.t 43), .mv (.t 66), none⟩] none ⟨[], [], [], []⟩)))))))
  (.seq (.seq (.reg 10 [] [
      ⟨(.t 67), .fa 2 (.t 1), none⟩,
      ⟨(.t 68), .ld 1 false (.t 67), none⟩,
      ⟨(.t 69), .len (.t 68), none⟩,
      ⟨(.t 70), .mv (.c (.int .i64 0)), none⟩] none ⟨[], [], [], []⟩)
  (.block 2
    (.loop
      (.seq (.reg 11 [] [
          ⟨(.t 71), .bin .lss (.t 70) (.t 69), none⟩] none ⟨[], [], [], []⟩)
      (.seq (.cond (.t 71)
        .skip
        (.exit 2))
      (.seq (.block 3
        (.seq (.reg 12 [] [
            ⟨(.t 72), .ia 2 (.t 68) (.t 70), none⟩,
            ⟨(.t 73), .ld 2 true (.t 72), none⟩,
            ⟨(.t 6), .allo [(.int .i64 0), (.int .i64 0)], none⟩,
            ⟨.none, .st 2 (.t 6) (.t 73), none⟩] none ⟨[], [], [], []⟩)
        (.seq (.seq (.reg 13 [] [
            ⟨(.t 74), .fa 0 (.t 6), none⟩,
            ⟨(.t 75), .ld 1 false (.t 74), none⟩,
            ⟨(.t 76), .bin .lss (.t 75) (.c (.int .i64 0)), none⟩,
            ⟨(.t 77), .mv (.t 76), none⟩,
            ⟨(.t 78), .fa 0 (.t 6), some (77, false)⟩,
            ⟨(.t 79), .ld 1 false (.t 78), some (77, false)⟩,
            ⟨(.t 80), .mv (.v 2), some (77, false)⟩,
            ⟨(.t 81), .bin .geq (.t 79) (.t 80), some (77, false)⟩,
            ⟨(.t 82), .pick (.t 77) (.c (.bool true)) (.t 81), none⟩,
            ⟨(.t 83), .mv (.t 82), none⟩,
            ⟨(.t 84), .fa 0 (.t 6), some (83, false)⟩,
            ⟨(.t 85), .ld 1 false (.t 84), some (83, false)⟩,
            ⟨(.t 86), .fa 1 (.t 1), some (83, false)⟩,
            ⟨(.t 87), .ld 1 false (.t 86), some (83, false)⟩,
            ⟨(.t 88), .bin .neq (.t 85) (.t 87), some (83, false)⟩,
            ⟨(.t 89), .mv (.t 88), some (83, false)⟩,
            ⟨(.t 90), .fa 3 (.t 1), some (89, true)⟩,
            ⟨(.t 91), .ld 1 false (.t 90), some (89, true)⟩,
            ⟨(.t 92), .fa 0 (.t 6), some (89, true)⟩,
            ⟨(.t 93), .ld 1 false (.t 92), some (89, true)⟩,
            ⟨(.t 94), .ia 1 (.t 91) (.t 93), some (89, true)⟩,
            ⟨(.t 95), .ld 1 false (.t 94), some (89, true)⟩,
            ⟨(.t 96), .un .not (.t 95), some (89, true)⟩,
            ⟨(.t 97), .pick (.t 89) (.t 96) (.c (.bool false)), some (83, false)⟩,
            ⟨(.t 98), .pick (.t 83) (.c (.bool true)) (.t 97), none⟩] none ⟨[], [], [], []⟩)
        (.cond (.t 98)
          (.seq (.reg 14 [] [
              ⟨(.v 1), .asg (.c (.bool false)), none⟩] none ⟨[], [], [], []⟩)
          .ret)
          .skip))
        (.seq (.reg 15 [] [
            ⟨(.t 99), .fa 0 (.t 1), none⟩,
            ⟨(.t 100), .ld 1 false (.t 99), none⟩,
            ⟨(.t 101), .fa 0 (.t 6), none⟩,
            ⟨(.t 102), .ld 1 false (.t 101), none⟩,
            ⟨(.t 103), .ia 2 (.t 100) (.t 102), none⟩,
            ⟨(.t 104), .fa 1 (.t 103), none⟩,
            ⟨(.t 105), .ld 1 false (.t 104), none⟩,
            ⟨(.t 106), .fa 1 (.t 6), none⟩,
            ⟨(.t 107), .ld 1 false (.t 106), none⟩,
            ⟨(.t 108), .call 34 [(.t 105), (.t 107)], none⟩,
            ⟨(.t 109), .un .not (.t 108), none⟩] (some [[], [0], [], [2], [1, 3], [4], [5], [], [7], [6, 8], [9]]) ⟨[6], [], [], []⟩)
        (.cond (.t 109)
          (.seq (.reg 16 [] [
              ⟨(.v 1), .asg (.c (.bool false)), none⟩] none ⟨[], [], [], []⟩)
          .ret)
          .skip)))))
      (.reg 17 [] [
          ⟨(.t 110), .bin .add (.t 70) (.c (.int .i64 1)), none⟩,
          ⟨(.t 70), .mv (.t 110), none⟩] none ⟨[], [], [], []⟩)))))))
  (.seq (.reg 18 [] [
      ⟨(.v 1), .asg (.c (.bool true)), none⟩] none ⟨[], [], [], []⟩)
  .ret))))))
theorem c18 : compFn Try.prog 18 F18 = some (1, strip a18, [.v 1]) ∧ lexAll a18 = true := ⟨by kernel_rfl, by kernel_rfl⟩
/-- clusterlocks/clusterlocksref34.Valid -/
def F19 : Fr := ⟨116, [0, 2, 3, 4]⟩
def a19 : ACode :=
  (.seq (.reg 0 [] [
      ⟨(.t 1), .box 5 (.v 0), none⟩,
      ⟨(.v 1), .asg (.c (.bool false)), none⟩] none ⟨[], [], [], []⟩)
  (.seq (.seq (.reg 1 [] [
      ⟨(.t 7), .fa 0 (.t 1), none⟩,
      ⟨(.t 8), .ld 1 false (.t 7), none⟩,
      ⟨(.t 9), .call 29 [(.t 8)], none⟩,
      ⟨(.t 10), .un .not (.t 9), none⟩,
      ⟨(.t 11), .mv (.t 10), none⟩,
      ⟨(.t 12), .fa 1 (.t 1), some (11, false)⟩,
      ⟨(.t 13), .ld 1 false (.t 12), some (11, false)⟩,
      ⟨(.t 14), .bin .lss (.t 13) (.c (.int .i64 0)), some (11, false)⟩,
      ⟨(.t 15), .pick (.t 11) (.c (.bool true)) (.t 14), none⟩,
      ⟨(.t 16), .mv (.t 15), none⟩,
      ⟨(.t 17), .fa 1 (.t 1), some (16, false)⟩,
      ⟨(.t 18), .ld 1 false (.t 17), some (16, false)⟩,
      ⟨(.t 19), .fa 0 (.t 1), some (16, false)⟩,
      ⟨(.t 20), .ld 1 false (.t 19), some (16, false)⟩,
      ⟨(.t 21), .len (.t 20), some (16, false)⟩,
      ⟨(.t 22), .bin .geq (.t 18) (.t 21), some (16, false)⟩,
      ⟨(.t 23), .pick (.t 16) (.c (.bool true)) (.t 22), none⟩,
      ⟨(.t 24), .mv (.t 23), none⟩,
      ⟨(.t 25), .fa 0 (.t 1), some (24, false)⟩,
      ⟨(.t 26), .ld 1 false (.t 25), some (24, false)⟩,
      ⟨(.t 27), .fa 1 (.t 1), some (24, false)⟩,
      ⟨(.t 28), .ld 1 false (.t 27), some (24, false)⟩,
      ⟨(.t 29), .ia 2 (.t 26) (.t 28), some (24, false)⟩,
      ⟨(.t 30), .fa 0 (.t 29), some (24, false)⟩,
      ⟨(.t 31), .ld 1 false (.t 30), some (24, false)⟩,
      ⟨(.t 32), .bin .eql (.t 31) (.c (.int .i64 0)), some (24, false)⟩,
      ⟨(.t 33), .pick (.t 24) (.c (.bool true)) (.t 32), none⟩,
      ⟨(.t 34), .mv (.t 33), none⟩,
      ⟨(.t 35), .fa 3 (.t 1), some (34, false)⟩,
      ⟨(.t 36), .ld 1 false (.t 35), some (34, false)⟩,
      ⟨(.t 37), .len (.t 36), some (34, false)⟩,
      ⟨(.t 38), .fa 0 (.t 1), some (34, false)⟩,
      ⟨(.t 39), .ld 1 false (.t 38), some (34, false)⟩,
      ⟨(.t 40), .len (.t 39), some (34, false)⟩,
      ⟨(.t 41), .bin .neq (.t 37) (.t 40), some (34, false)⟩,
      ⟨(.t 42), .pick (.t 34) (.c (.bool true)) (.t 41), none⟩] none ⟨[], [], [], []⟩)
  (.cond (.t 42)
    (.seq (.reg 2 [] [
        ⟨(.v 1), .asg (.c (.bool false)), none⟩] none ⟨[], [], [], []⟩)
    .ret)
    .skip))
  (.seq (.seq (.reg 3 [] [
      ⟨(.t 43), .fa 3 (.t 1), none⟩,
      ⟨(.t 44), .ld 1 false (.t 43), none⟩,
      ⟨(.t 45), .len (.t 44), none⟩,
      ⟨(.t 46), .mv (.c (.int .i64 0)), none⟩] none ⟨[], [], [], []⟩)
  (.block 0
    (.loop
      (.seq (.reg 4 [] [
          ⟨(.t 47), .bin .lss (.t 46) (.t 45), none⟩] none ⟨[], [], [], []⟩)
      (.seq (.cond (.t 47)
        .skip
        (.exit 0))
      (.seq (.block 1
        (.seq (.reg 5 [] [
            ⟨(.t 48), .mv (.t 46), none⟩,
            ⟨(.t 49), .ia 1 (.t 44) (.t 46), none⟩,
            ⟨(.t 50), .ld 1 false (.t 49), none⟩,
            ⟨(.v 2), .asg (.t 48), none⟩,
            ⟨(.v 3), .asg (.t 50), none⟩] none ⟨[], [], [], []⟩)
        (.seq (.reg 6 [] [
            ⟨(.t 51), .mv (.v 3), none⟩,
            ⟨(.t 52), .mv (.t 51), none⟩,
            ⟨(.t 53), .mv (.v 2), some (52, true)⟩,
            ⟨(.t 54), .fa 1 (.t 1), some (52, true)⟩,
            ⟨(.t 55), .ld 1 false (.t 54), some (52, true)⟩,
            ⟨(.t 56), .bin .eql (.t 53) (.t 55), some (52, true)⟩,
            ⟨(.t 57), .mv (.t 56), some (52, true)⟩,
            ⟨(.t 58), .fa 0 (.t 1), some (57, false)⟩,
            ⟨(.t 59), .ld 1 false (.t 58), some (57, false)⟩,
            ⟨(.t 60), .mv (.v 2), some (57, false)⟩,
            ⟨(.t 61), .ia 2 (.t 59) (.t 60), some (57, false)⟩,
            ⟨(.t 62), .fa 0 (.t 61), some (57, false)⟩,
            ⟨(.t 63), .ld 1 false (.t 62), some (57, false)⟩,
            ⟨(.t 64), .bin .eql (.t 63) (.c (.int .i64 0)), some (57, false)⟩,
            ⟨(.t 65), .pick (.t 57) (.c (.bool true)) (.t 64), some (52, true)⟩,
            ⟨(.t 66), .pick (.t 52) (.t 65) (.c (.bool false)), none⟩] none ⟨[], [], [], []⟩)
        (.cond (.t 66)
          (.seq (.reg 7 [] [
              ⟨(.v 1), .asg (.c (.bool false)), none⟩] none ⟨[], [], [], []⟩)
          .ret)
          .skip))))
      (.reg 8 [] [
          ⟨(.t 67), .bin .add (.t 46) (.c (.int .i64 1)), none⟩,
          ⟨(.t 46), .mv (.t 67), none⟩] none ⟨[], [], [], []⟩)))))))
  (.seq (.seq (.reg 9 [] [
      ⟨(.t 68), .fa 2 (.t 1), none⟩,
      ⟨(.t 69), .ld 1 false (.t 68), none⟩,
      ⟨(.t 70), .len (.t 69), none⟩,
      ⟨(.t 71), .mv (.c (.int .i64 0)), none⟩] none ⟨[], [], [], []⟩)
  (.block 2
    (.loop
      (.seq (.reg 10 [] [
          ⟨(.t 72), .bin .lss (.t 71) (.t 70), none⟩] none ⟨[], [], [], []⟩)
      (.seq (.cond (.t 72)
        .skip
        (.exit 2))
      (.seq (.block 3
        (.seq (.reg 11 [] [
            ⟨(.t 73), .ia 2 (.t 69) (.t 71), none⟩,
            ⟨(.t 74), .ld 2 true (.t 73), none⟩,
            ⟨(.t 6), .allo [(.int .i64 0), (.int .i64 0)], none⟩,
            ⟨.none, .st 2 (.t 6) (.t 74), none⟩] none ⟨[], [], [], []⟩)
        (.seq (.reg 12 [] [
            ⟨(.t 75), .fa 0 (.t 6), none⟩,
            ⟨(.t 76), .ld 1 false (.t 75), none⟩,
            ⟨(.t 77), .bin .lss (.t 76) (.c (.int .i64 0)), none⟩,
            ⟨(.t 78), .mv (.t 77), none⟩,
            ⟨(.t 79), .fa 0 (.t 6), some (78, false)⟩,
            ⟨(.t 80), .ld 1 false (.t 79), some (78, false)⟩,
            ⟨(.t 81), .fa 0 (.t 1), some (78, false)⟩,
            ⟨(.t 82), .ld 1 false (.t 81), some (78, false)⟩,
            ⟨(.t 83), .len (.t 82), some (78, false)⟩,
            ⟨(.t 84), .bin .geq (.t 80) (.t 83), some (78, false)⟩,
            ⟨(.t 85), .pick (.t 78) (.c (.bool true)) (.t 84), none⟩,
            ⟨(.t 86), .mv (.t 85), none⟩,
            ⟨(.t 87), .fa 0 (.t 6), some (86, false)⟩,
            ⟨(.t 88), .ld 1 false (.t 87), some (86, false)⟩,
            ⟨(.t 89), .fa 1 (.t 1), some (86, false)⟩,
            ⟨(.t 90), .ld 1 false (.t 89), some (86, false)⟩,
            ⟨(.t 91), .bin .neq (.t 88) (.t 90), some (86, false)⟩,
            ⟨(.t 92), .mv (.t 91), some (86, false)⟩,
            ⟨(.t 93), .fa 3 (.t 1), some (92, true)⟩,
            ⟨(.t 94), .ld 1 false (.t 93), some (92, true)⟩,
            ⟨(.t 95), .fa 0 (.t 6), some (92, true)⟩,
            ⟨(.t 96), .ld 1 false (.t 95), some (92, true)⟩,
            ⟨(.t 97), .ia 1 (.t 94) (.t 96), some (92, true)⟩,
            ⟨(.t 98), .ld 1 false (.t 97), some (92, true)⟩,
            ⟨(.t 99), .un .not (.t 98), some (92, true)⟩,
            ⟨(.t 100), .pick (.t 92) (.t 99) (.c (.bool false)), some (86, false)⟩,
            ⟨(.t 101), .pick (.t 86) (.c (.bool true)) (.t 100), none⟩,
            ⟨(.t 102), .mv (.t 101), none⟩,
            ⟨(.t 103), .fa 0 (.t 1), some (102, false)⟩,
            ⟨(.t 104), .ld 1 false (.t 103), some (102, false)⟩,
            ⟨(.t 105), .fa 0 (.t 6), some (102, false)⟩,
            ⟨(.t 106), .ld 1 false (.t 105), some (102, false)⟩,
            ⟨(.t 107), .ia 2 (.t 104) (.t 106), some (102, false)⟩,
            ⟨(.t 108), .fa 1 (.t 107), some (102, false)⟩,
            ⟨(.t 109), .ld 1 false (.t 108), some (102, false)⟩,
            ⟨(.t 110), .fa 1 (.t 6), some (102, false)⟩,
            ⟨(.t 111), .ld 1 false (.t 110), some (102, false)⟩,
            ⟨(.t 112), .call 35 [(.t 109), (.t 111)], some (102, false)⟩,
            ⟨(.t 113), .un .not (.t 112), some (102, false)⟩,
            ⟨(.t 114), .pick (.t 102) (.c (.bool true)) (.t 113), none⟩] (some [[], [0], [1], [2], [3], [4, 3], [3], [6, 3], [7, 3], [5, 8, 3], [3, 9], [10, 3], [11], [12, 11], [11], [14, 11], [13, 15, 11], [16, 11, 11], [17], [18, 17], [17], [20, 17], [19, 21, 17], [22, 17], [23, 17], [17, 24, 11], [11, 25], [26, 17], [27], [28, 27], [27], [30, 27], [29, 31, 27], [32, 27], [33, 27], [27], [35, 27], [34, 36, 27, 27], [37, 27], [27, 38]]) ⟨[78, 86, 92, 102, 6], [], [], []⟩)
        (.cond (.t 114)
          (.seq (.reg 13 [] [
              ⟨(.v 1), .asg (.c (.bool false)), none⟩] none ⟨[], [], [], []⟩)
          .ret)
          .skip))))
      (.reg 14 [] [
          ⟨(.t 115), .bin .add (.t 71) (.c (.int .i64 1)), none⟩,
          ⟨(.t 71), .mv (.t 115), none⟩] none ⟨[], [], [], []⟩)))))))
  (.seq (.reg 15 [] [
      ⟨(.v 1), .asg (.c (.bool true)), none⟩] none ⟨[], [], [], []⟩)
  .ret)))))
theorem c19 : compFn Try.prog 19 F19 = some (1, strip a19, [.v 1]) ∧ lexAll a19 = true := ⟨by kernel_rfl, by kernel_rfl⟩
/-- clusterlocks/clusterlockslaw34.play -/
def F20 : Fr := ⟨55, [0, 1, 2, 7, 8, 10, 11, 12]⟩
def a20 : ACode :=
  (.seq (.reg 0 [] [
      ⟨(.t 6), .allo [(.slice none 0 0), (.int .i64 0), (.slice none 0 0), (.slice none 0 0), (.bool false)], none⟩,
      ⟨(.v 3), .asg (.c (.int .i64 0)), none⟩,
      ⟨(.v 4), .asg (.c (.bool false)), none⟩] none ⟨[], [], [], []⟩)
  (.seq (.reg 1 [] [
      ⟨(.t 14), .mv (.v 0), none⟩,
      ⟨(.t 15), .mv (.v 1), none⟩,
      ⟨(.t 16), .call 10 [(.t 14), (.t 15)], none⟩,
      ⟨(.t 13), .mv (.t 16), none⟩,
      ⟨(.t 17), .ext 13 0, none⟩,
      ⟨(.t 18), .ext 13 1, none⟩,
      ⟨(.t 9), .allo [(.slice none 0 0), (.int .i64 0), (.slice none 0 0), (.slice none 0 0), (.bool false)], none⟩,
      ⟨.none, .st 5 (.t 9) (.t 17), none⟩,
      ⟨(.v 5), .asg (.t 18), none⟩] none ⟨[], [], [], []⟩)
  (.seq (.reg 2 [] [
      ⟨(.t 19), .mv (.v 2), none⟩,
      ⟨(.t 20), .bld [(.slice none 0 0), (.int .i64 0)] [(0, 1, (.t 19))], none⟩,
      ⟨(.t 21), .box 2 (.t 20), none⟩,
      ⟨(.v 6), .asg (.t 21), none⟩] none ⟨[], [], [], []⟩)
  (.seq (.reg 3 [] [
      ⟨(.v 7), .asg (.c (.int .i64 0)), none⟩] none ⟨[], [], [], []⟩)
  (.seq (.block 0
    (.loop
      (.seq (.seq (.reg 4 [] [
          ⟨(.t 22), .mv (.v 5), none⟩,
          ⟨(.t 23), .bin .eql (.t 22) (.c (.int .i64 0)), none⟩,
          ⟨(.t 24), .mv (.t 23), none⟩,
          ⟨(.t 25), .fa 2 (.t 9), some (24, true)⟩,
          ⟨(.t 26), .ld 1 false (.t 25), some (24, true)⟩,
          ⟨(.t 27), .len (.t 26), some (24, true)⟩,
          ⟨(.t 28), .bin .gtr (.t 27) (.c (.int .i64 0)), some (24, true)⟩,
          ⟨(.t 29), .pick (.t 24) (.t 28) (.c (.bool false)), none⟩,
          ⟨(.t 30), .mv (.t 29), none⟩,
          ⟨(.t 31), .mv (.v 7), some (30, true)⟩,
          ⟨(.t 32), .bin .lss (.t 31) (.c (.int .i64 2000)), some (30, true)⟩,
          ⟨(.t 33), .pick (.t 30) (.t 32) (.c (.bool false)), none⟩] none ⟨[], [], [], []⟩)
      (.cond (.t 33)
        .skip
        (.exit 0)))
      (.block 1
        (.seq (.seq (.reg 5 [] [
            ⟨(.t 35), .ld 5 true (.t 9), none⟩,
            ⟨(.t 36), .mv (.v 6), none⟩,
            ⟨(.t 37), .fa 2 (.t 9), none⟩,
            ⟨(.t 38), .ld 1 false (.t 37), none⟩,
            ⟨(.t 39), .len (.t 38), none⟩,
            ⟨(.t 40), .call 25 [(.t 36), (.t 39)], none⟩,
            ⟨(.t 41), .call 14 [(.t 35), (.t 40)], none⟩,
            ⟨(.t 34), .mv (.t 41), none⟩,
            ⟨(.t 42), .ext 34 0, none⟩,
            ⟨(.t 43), .ext 34 1, none⟩,
            ⟨.none, .st 5 (.t 9) (.t 42), none⟩,
            ⟨(.v 5), .asg (.t 43), none⟩] (some [[], [], [], [2], [3], [1, 4], [0, 5, 5], [6], [7], [7], [8, 6, 0, 1, 2, 3, 4, 5, 6, 7, 8], [9, 10, 0, 1, 2, 3, 4, 5, 6, 7, 8, 9, 10]]) ⟨[9], [9], [5], [(5, 9, 0)]⟩)
        (.seq (.reg 6 [] [
            ⟨(.t 44), .ld 5 true (.t 9), none⟩,
            ⟨(.t 45), .call 18 [(.t 44)], none⟩,
            ⟨(.t 46), .un .not (.t 45), none⟩] none ⟨[], [], [], []⟩)
        (.cond (.t 46)
          (.seq (.reg 7 [] [
              ⟨(.t 47), .ld 5 true (.t 9), none⟩,
              ⟨(.t 48), .mv (.v 7), none⟩,
              ⟨.none, .st 5 (.t 6) (.t 47), none⟩,
              ⟨(.v 3), .asg (.t 48), none⟩,
              ⟨(.v 4), .asg (.c (.bool false)), none⟩] none ⟨[], [], [], []⟩)
          .ret)
          .skip)))
        (.reg 8 [] [
            ⟨(.t 49), .mv (.v 7), none⟩,
            ⟨(.t 50), .bin .add (.t 49) (.c (.int .i64 1)), none⟩,
            ⟨(.v 7), .asg (.t 50), none⟩] none ⟨[], [], [], []⟩))))))
  (.seq (.reg 9 [] [
      ⟨(.t 51), .ld 5 true (.t 9), none⟩,
      ⟨(.t 52), .mv (.v 7), none⟩,
      ⟨(.t 53), .mv (.v 5), none⟩,
      ⟨(.t 54), .bin .eql (.t 53) (.c (.int .i64 0)), none⟩,
      ⟨.none, .st 5 (.t 6) (.t 51), none⟩,
      ⟨(.v 3), .asg (.t 52), none⟩,
      ⟨(.v 4), .asg (.t 54), none⟩] none ⟨[], [], [], []⟩)
  .ret))))))
theorem c20 : compFn Try.prog 20 F20 = some (3, strip a20, [.c 6 5 true, .v 3, .v 4]) ∧ lexAll a20 = true := ⟨by kernel_rfl, by kernel_rfl⟩
/-- clusterlocks/clusterlocksref19.Reach -/
def F21 : Fr := ⟨77, [0, 1, 4, 5, 6, 7, 8, 9]⟩
def a21 : ACode :=
  (.seq (.reg 0 [] [
      ⟨(.v 2), .asg (.c (.slice none 0 0)), none⟩] none ⟨[], [], [], []⟩)
  (.seq (.seq (.reg 1 [] [
      ⟨(.t 10), .mv (.v 0), none⟩,
      ⟨(.t 11), .call 29 [(.t 10)], none⟩,
      ⟨(.t 12), .un .not (.t 11), none⟩,
      ⟨(.t 13), .mv (.t 12), none⟩,
      ⟨(.t 14), .mv (.v 1), some (13, false)⟩,
      ⟨(.t 15), .bin .lss (.t 14) (.c (.int .i64 0)), some (13, false)⟩,
      ⟨(.t 16), .pick (.t 13) (.c (.bool true)) (.t 15), none⟩,
      ⟨(.t 17), .mv (.t 16), none⟩,
      ⟨(.t 18), .mv (.v 1), some (17, false)⟩,
      ⟨(.t 19), .mv (.v 0), some (17, false)⟩,
      ⟨(.t 20), .len (.t 19), some (17, false)⟩,
      ⟨(.t 21), .bin .geq (.t 18) (.t 20), some (17, false)⟩,
      ⟨(.t 22), .pick (.t 17) (.c (.bool true)) (.t 21), none⟩] none ⟨[], [], [], []⟩)
  (.cond (.t 22)
    (.seq (.reg 2 [] [
        ⟨(.v 2), .asg (.c (.slice none 0 0)), none⟩] none ⟨[], [], [], []⟩)
    .ret)
    .skip))
  (.seq (.reg 3 [] [
      ⟨(.t 23), .mv (.v 0), none⟩,
      ⟨(.t 24), .len (.t 23), none⟩,
      ⟨(.t 25), .mk 4 1 1 (.bool false) (.t 24) (.t 24), none⟩,
      ⟨(.v 3), .asg (.t 25), none⟩] none ⟨[], [], [], []⟩)
  (.seq (.reg 4 [] [
      ⟨(.t 26), .bls 3 1 (.int .i64 0) 0 [], none⟩,
      ⟨(.t 27), .mv (.v 0), none⟩,
      ⟨(.t 28), .mv (.v 1), none⟩,
      ⟨(.t 29), .ia 2 (.t 27) (.t 28), none⟩,
      ⟨(.t 30), .fa 1 (.t 29), none⟩,
      ⟨(.t 31), .ld 1 false (.t 30), none⟩,
      ⟨(.t 32), .app 3 1 8 (.t 26) (.t 31), none⟩,
      ⟨(.v 4), .asg (.t 32), none⟩] none ⟨[], [], [], []⟩)
  (.seq (.block 0
    (.loop
      (.seq (.seq (.reg 5 [] [
          ⟨(.t 33), .mv (.v 4), none⟩,
          ⟨(.t 34), .len (.t 33), none⟩,
          ⟨(.t 35), .bin .gtr (.t 34) (.c (.int .i64 0)), none⟩] none ⟨[], [], [], []⟩)
      (.cond (.t 35)
        .skip
        (.exit 0)))
      (.block 1
        (.seq (.reg 6 [] [
            ⟨(.t 36), .mv (.v 4), none⟩,
            ⟨(.t 37), .mv (.v 4), none⟩,
            ⟨(.t 38), .len (.t 37), none⟩,
            ⟨(.t 39), .bin .sub (.t 38) (.c (.int .i64 1)), none⟩,
            ⟨(.t 40), .ia 1 (.t 36) (.t 39), none⟩,
            ⟨(.t 41), .ld 1 false (.t 40), none⟩,
            ⟨(.v 5), .asg (.t 41), none⟩] none ⟨[], [], [], []⟩)
        (.seq (.reg 7 [] [
            ⟨(.t 42), .mv (.v 4), none⟩,
            ⟨(.t 43), .mv (.v 4), none⟩,
            ⟨(.t 44), .len (.t 43), none⟩,
            ⟨(.t 45), .bin .sub (.t 44) (.c (.int .i64 1)), none⟩,
            ⟨(.t 46), .sl 3 1 (.t 42) none (some (.t 45)) none, none⟩,
            ⟨(.v 4), .asg (.t 46), none⟩] none ⟨[], [], [], []⟩)
        (.seq (.reg 8 [] [
            ⟨(.t 47), .mv (.v 3), none⟩,
            ⟨(.t 48), .mv (.v 5), none⟩,
            ⟨(.t 49), .ia 1 (.t 47) (.t 48), none⟩,
            ⟨(.t 50), .ld 1 false (.t 49), none⟩,
            ⟨(.t 51), .un .not (.t 50), none⟩] none ⟨[], [], [], []⟩)
        (.cond (.t 51)
          (.seq (.reg 9 [] [
              ⟨(.t 52), .mv (.v 3), none⟩,
              ⟨(.t 53), .mv (.v 5), none⟩,
              ⟨(.t 54), .ia 1 (.t 52) (.t 53), none⟩,
              ⟨.none, .st 1 (.t 54) (.c (.bool true)), none⟩] none ⟨[], [], [], []⟩)
          (.reg 10 [.lend (.var 4) 61] [
              ⟨(.t 55), .mv (.v 4), none⟩,
              ⟨(.t 56), .mv (.v 0), none⟩,
              ⟨(.t 57), .mv (.v 5), none⟩,
              ⟨(.t 58), .ia 2 (.t 56) (.t 57), none⟩,
              ⟨(.t 59), .fa 1 (.t 58), none⟩,
              ⟨(.t 60), .ld 1 false (.t 59), none⟩,
              ⟨(.t 61), .app 3 1 8 (.t 55) (.t 60), none⟩,
              ⟨(.v 4), .asg (.t 61), none⟩] none ⟨[], [], [], []⟩))
          .skip))))))))
  (.seq (.reg 11 [] [
      ⟨(.v 6), .asg (.c (.slice none 0 0)), none⟩] none ⟨[], [], [], []⟩)
  (.seq (.seq (.reg 12 [.own (.var 6) 3 1] [
      ⟨(.v 7), .asg (.c (.int .i64 0)), none⟩] none ⟨[], [], [], []⟩)
  (.block 2
    (.loop
      (.seq (.seq (.reg 13 [] [
          ⟨(.t 62), .mv (.v 7), none⟩,
          ⟨(.t 63), .mv (.v 0), none⟩,
          ⟨(.t 64), .len (.t 63), none⟩,
          ⟨(.t 65), .bin .lss (.t 62) (.t 64), none⟩] none ⟨[], [], [], []⟩)
      (.cond (.t 65)
        .skip
        (.exit 2)))
      (.seq (.block 3
        (.seq (.reg 15 [] [
            ⟨(.t 68), .mv (.v 3), none⟩,
            ⟨(.t 69), .mv (.v 7), none⟩,
            ⟨(.t 70), .ia 1 (.t 68) (.t 69), none⟩,
            ⟨(.t 71), .ld 1 false (.t 70), none⟩] none ⟨[], [], [], []⟩)
        (.cond (.t 71)
          (.reg 16 [.lend (.var 6) 75] [
              ⟨(.t 72), .mv (.v 6), none⟩,
              ⟨(.t 73), .mv (.v 7), none⟩,
              ⟨(.t 74), .bls 3 1 (.int .i64 0) 1 [(0, (.t 73))], none⟩,
              ⟨(.t 75), .app 3 1 8 (.t 72) (.t 74), none⟩,
              ⟨(.v 6), .asg (.t 75), none⟩] none ⟨[], [], [], []⟩)
          .skip)))
      (.reg 14 [] [
          ⟨(.t 66), .mv (.v 7), none⟩,
          ⟨(.t 67), .bin .add (.t 66) (.c (.int .i64 1)), none⟩,
          ⟨(.v 7), .asg (.t 67), none⟩] none ⟨[], [], [], []⟩))))))
  (.seq (.reg 17 [.lend (.var 6) 76] [
      ⟨(.t 76), .mv (.v 6), none⟩,
      ⟨(.v 2), .asg (.t 76), none⟩] none ⟨[], [], [], []⟩)
  .ret))))))))
theorem c21 : compFn Try.prog 21 F21 = some (2, strip a21, [.v 2]) ∧ lexAll a21 = true := ⟨by kernel_rfl, by kernel_rfl⟩
/-- clusterlocks/clusterlockslaw34.edges -/
def F22 : Fr := ⟨19, [0, 2, 3]⟩
def a22 : ACode :=
  (.seq (.reg 0 [] [
      ⟨(.v 1), .asg (.c (.int .i64 0)), none⟩] none ⟨[], [], [], []⟩)
  (.seq (.reg 1 [] [
      ⟨(.v 2), .asg (.c (.int .i64 0)), none⟩] none ⟨[], [], [], []⟩)
  (.seq (.seq (.reg 2 [] [
      ⟨(.t 6), .mv (.v 0), none⟩,
      ⟨(.t 7), .len (.t 6), none⟩,
      ⟨(.t 8), .mv (.c (.int .i64 0)), none⟩] none ⟨[], [], [], []⟩)
  (.block 0
    (.loop
      (.seq (.reg 3 [] [
          ⟨(.t 9), .bin .lss (.t 8) (.t 7), none⟩] none ⟨[], [], [], []⟩)
      (.seq (.cond (.t 9)
        .skip
        (.exit 0))
      (.seq (.block 1
        (.seq (.reg 4 [] [
            ⟨(.t 10), .ia 2 (.t 6) (.t 8), none⟩,
            ⟨(.t 11), .ld 2 true (.t 10), none⟩,
            ⟨(.t 5), .allo [(.int .i64 0), (.slice none 0 0)], none⟩,
            ⟨.none, .st 2 (.t 5) (.t 11), none⟩] none ⟨[], [], [], []⟩)
        (.reg 5 [] [
            ⟨(.t 12), .mv (.v 2), none⟩,
            ⟨(.t 13), .fa 1 (.t 5), none⟩,
            ⟨(.t 14), .ld 1 false (.t 13), none⟩,
            ⟨(.t 15), .len (.t 14), none⟩,
            ⟨(.t 16), .bin .add (.t 12) (.t 15), none⟩,
            ⟨(.v 2), .asg (.t 16), none⟩] none ⟨[], [], [], []⟩)))
      (.reg 6 [] [
          ⟨(.t 17), .bin .add (.t 8) (.c (.int .i64 1)), none⟩,
          ⟨(.t 8), .mv (.t 17), none⟩] none ⟨[], [], [], []⟩)))))))
  (.seq (.reg 7 [] [
      ⟨(.t 18), .mv (.v 2), none⟩,
      ⟨(.v 1), .asg (.t 18), none⟩] none ⟨[], [], [], []⟩)
  .ret))))
theorem c22 : compFn Try.prog 22 F22 = some (1, strip a22, [.v 1]) ∧ lexAll a22 = true := ⟨by kernel_rfl, by kernel_rfl⟩
/-- clusterlocks/clusterlocksref19.Cycle -/
def F23 : Fr := ⟨79, [0, 1, 4, 5, 6, 7, 8, 9]⟩
def a23 : ACode :=
  (.seq (.reg 0 [] [
      ⟨(.v 2), .asg (.c (.slice none 0 0)), none⟩] none ⟨[], [], [], []⟩)
  (.seq (.seq (.reg 1 [] [
      ⟨(.t 10), .mv (.v 0), none⟩,
      ⟨(.t 11), .call 29 [(.t 10)], none⟩,
      ⟨(.t 12), .un .not (.t 11), none⟩,
      ⟨(.t 13), .mv (.t 12), none⟩,
      ⟨(.t 14), .mv (.v 1), some (13, false)⟩,
      ⟨(.t 15), .bin .lss (.t 14) (.c (.int .i64 0)), some (13, false)⟩,
      ⟨(.t 16), .pick (.t 13) (.c (.bool true)) (.t 15), none⟩,
      ⟨(.t 17), .mv (.t 16), none⟩,
      ⟨(.t 18), .mv (.v 1), some (17, false)⟩,
      ⟨(.t 19), .mv (.v 0), some (17, false)⟩,
      ⟨(.t 20), .len (.t 19), some (17, false)⟩,
      ⟨(.t 21), .bin .geq (.t 18) (.t 20), some (17, false)⟩,
      ⟨(.t 22), .pick (.t 17) (.c (.bool true)) (.t 21), none⟩] none ⟨[], [], [], []⟩)
  (.cond (.t 22)
    (.seq (.reg 2 [] [
        ⟨(.v 2), .asg (.c (.slice none 0 0)), none⟩] none ⟨[], [], [], []⟩)
    .ret)
    .skip))
  (.seq (.reg 3 [] [
      ⟨(.t 23), .mv (.v 0), none⟩,
      ⟨(.t 24), .mv (.v 1), none⟩,
      ⟨(.t 25), .call 36 [(.t 23), (.t 24)], none⟩,
      ⟨(.v 3), .asg (.t 25), none⟩] none ⟨[], [], [], []⟩)
  (.seq (.seq (.reg 4 [] [
      ⟨(.t 26), .mv (.v 3), none⟩,
      ⟨(.t 27), .mv (.v 1), none⟩,
      ⟨(.t 28), .ia 1 (.t 26) (.t 27), none⟩,
      ⟨(.t 29), .ld 1 false (.t 28), none⟩,
      ⟨(.t 30), .bin .eql (.t 29) (.c (.int .i64 0)), none⟩] none ⟨[], [], [], []⟩)
  (.cond (.t 30)
    (.seq (.reg 5 [] [
        ⟨(.v 2), .asg (.c (.slice none 0 0)), none⟩] none ⟨[], [], [], []⟩)
    .ret)
    .skip))
  (.seq (.reg 6 [] [
      ⟨(.t 31), .mv (.v 1), none⟩,
      ⟨(.t 32), .bls 3 1 (.int .i64 0) 1 [(0, (.t 31))], none⟩,
      ⟨(.v 4), .asg (.t 32), none⟩] none ⟨[], [], [], []⟩)
  (.seq (.reg 7 [] [
      ⟨(.t 33), .mv (.v 1), none⟩,
      ⟨(.v 5), .asg (.t 33), none⟩] none ⟨[], [], [], []⟩)
  (.seq (.seq (.reg 8 [] [
      ⟨(.t 34), .mv (.v 3), none⟩,
      ⟨(.t 35), .mv (.v 1), none⟩,
      ⟨(.t 36), .ia 1 (.t 34) (.t 35), none⟩,
      ⟨(.t 37), .ld 1 false (.t 36), none⟩,
      ⟨(.v 6), .asg (.t 37), none⟩] none ⟨[], [], [], []⟩)
  (.block 0
    (.loop
      (.seq (.seq (.reg 9 [] [
          ⟨(.t 38), .mv (.v 6), none⟩,
          ⟨(.t 39), .bin .gtr (.t 38) (.c (.int .i64 1)), none⟩] none ⟨[], [], [], []⟩)
      (.cond (.t 39)
        .skip
        (.exit 0)))
      (.seq (.block 1
        (.seq (.seq (.reg 11 [] [
            ⟨(.v 7), .asg (.c (.int .i64 0)), none⟩] none ⟨[], [], [], []⟩)
        (.block 2
          (.loop
            (.seq (.seq (.reg 12 [] [
                ⟨(.t 42), .mv (.v 7), none⟩,
                ⟨(.t 43), .mv (.v 0), none⟩,
                ⟨(.t 44), .mv (.v 5), none⟩,
                ⟨(.t 45), .ia 2 (.t 43) (.t 44), none⟩,
                ⟨(.t 46), .fa 1 (.t 45), none⟩,
                ⟨(.t 47), .ld 1 false (.t 46), none⟩,
                ⟨(.t 48), .len (.t 47), none⟩,
                ⟨(.t 49), .bin .lss (.t 42) (.t 48), none⟩] none ⟨[], [], [], []⟩)
            (.cond (.t 49)
              .skip
              (.exit 2)))
            (.seq (.block 3
              (.seq (.reg 14 [] [
                  ⟨(.t 52), .mv (.v 3), none⟩,
                  ⟨(.t 53), .mv (.v 0), none⟩,
                  ⟨(.t 54), .mv (.v 5), none⟩,
                  ⟨(.t 55), .ia 2 (.t 53) (.t 54), none⟩,
                  ⟨(.t 56), .fa 1 (.t 55), none⟩,
                  ⟨(.t 57), .ld 1 false (.t 56), none⟩,
                  ⟨(.t 58), .mv (.v 7), none⟩,
                  ⟨(.t 59), .ia 1 (.t 57) (.t 58), none⟩,
                  ⟨(.t 60), .ld 1 false (.t 59), none⟩,
                  ⟨(.t 61), .ia 1 (.t 52) (.t 60), none⟩,
                  ⟨(.t 62), .ld 1 false (.t 61), none⟩,
                  ⟨(.t 63), .mv (.v 6), none⟩,
                  ⟨(.t 64), .bin .sub (.t 63) (.c (.int .i64 1)), none⟩,
                  ⟨(.t 65), .bin .eql (.t 62) (.t 64), none⟩] none ⟨[], [], [], []⟩)
              (.cond (.t 65)
                (.seq (.reg 15 [] [
                    ⟨(.t 66), .mv (.v 0), none⟩,
                    ⟨(.t 67), .mv (.v 5), none⟩,
                    ⟨(.t 68), .ia 2 (.t 66) (.t 67), none⟩,
                    ⟨(.t 69), .fa 1 (.t 68), none⟩,
                    ⟨(.t 70), .ld 1 false (.t 69), none⟩,
                    ⟨(.t 71), .mv (.v 7), none⟩,
                    ⟨(.t 72), .ia 1 (.t 70) (.t 71), none⟩,
                    ⟨(.t 73), .ld 1 false (.t 72), none⟩,
                    ⟨(.v 5), .asg (.t 73), none⟩] none ⟨[], [], [], []⟩)
                (.exit 2))
                .skip)))
            (.reg 13 [] [
                ⟨(.t 50), .mv (.v 7), none⟩,
                ⟨(.t 51), .bin .add (.t 50) (.c (.int .i64 1)), none⟩,
                ⟨(.v 7), .asg (.t 51), none⟩] none ⟨[], [], [], []⟩))))))
        (.reg 16 [.lend (.var 4) 77] [
            ⟨(.t 74), .mv (.v 4), none⟩,
            ⟨(.t 75), .mv (.v 5), none⟩,
            ⟨(.t 76), .bls 3 1 (.int .i64 0) 1 [(0, (.t 75))], none⟩,
            ⟨(.t 77), .app 3 1 8 (.t 74) (.t 76), none⟩,
            ⟨(.v 4), .asg (.t 77), none⟩] none ⟨[], [], [], []⟩)))
      (.reg 10 [] [
          ⟨(.t 40), .mv (.v 6), none⟩,
          ⟨(.t 41), .bin .sub (.t 40) (.c (.int .i64 1)), none⟩,
          ⟨(.v 6), .asg (.t 41), none⟩] none ⟨[], [], [], []⟩))))))
  (.seq (.reg 17 [.lend (.var 4) 78] [
      ⟨(.t 78), .mv (.v 4), none⟩,
      ⟨(.v 2), .asg (.t 78), none⟩] none ⟨[], [], [], []⟩)
  .ret))))))))
theorem c23 : compFn Try.prog 23 F23 = some (2, strip a23, [.v 2]) ∧ lexAll a23 = true := ⟨by kernel_rfl, by kernel_rfl⟩
/-- clusterlocks/clusterlocksref19.Stuck -/
def F24 : Fr := ⟨79, [0, 2, 3, 4, 5, 6, 7, 8, 9]⟩
def a24 : ACode :=
  (.seq (.reg 0 [] [
      ⟨(.v 1), .asg (.c (.slice none 0 0)), none⟩] none ⟨[], [], [], []⟩)
  (.seq (.seq (.reg 1 [] [
      ⟨(.t 10), .mv (.v 0), none⟩,
      ⟨(.t 11), .call 29 [(.t 10)], none⟩,
      ⟨(.t 12), .un .not (.t 11), none⟩] none ⟨[], [], [], []⟩)
  (.cond (.t 12)
    (.seq (.reg 2 [] [
        ⟨(.v 1), .asg (.c (.slice none 0 0)), none⟩] none ⟨[], [], [], []⟩)
    .ret)
    .skip))
  (.seq (.reg 3 [] [
      ⟨(.t 13), .mv (.v 0), none⟩,
      ⟨(.t 14), .len (.t 13), none⟩,
      ⟨(.t 15), .mk 4 1 1 (.bool false) (.t 14) (.t 14), none⟩,
      ⟨(.v 2), .asg (.t 15), none⟩] none ⟨[], [], [], []⟩)
  (.seq (.seq (.reg 4 [] [
      ⟨(.v 3), .asg (.c (.bool true)), none⟩] none ⟨[], [], [], []⟩)
  (.block 0
    (.loop
      (.seq (.seq (.reg 5 [] [
          ⟨(.t 16), .mv (.v 3), none⟩] none ⟨[], [], [], []⟩)
      (.cond (.t 16)
        .skip
        (.exit 0)))
      (.block 1
        (.seq (.reg 6 [] [
            ⟨(.v 3), .asg (.c (.bool false)), none⟩] none ⟨[], [], [], []⟩)
        (.seq (.reg 7 [] [
            ⟨(.v 4), .asg (.c (.int .i64 0)), none⟩] none ⟨[], [], [], []⟩)
        (.block 2
          (.loop
            (.seq (.seq (.reg 8 [] [
                ⟨(.t 17), .mv (.v 4), none⟩,
                ⟨(.t 18), .mv (.v 0), none⟩,
                ⟨(.t 19), .len (.t 18), none⟩,
                ⟨(.t 20), .bin .lss (.t 17) (.t 19), none⟩] none ⟨[], [], [], []⟩)
            (.cond (.t 20)
              .skip
              (.exit 2)))
            (.seq (.block 3
              (.seq (.reg 10 [] [
                  ⟨(.v 5), .asg (.c (.int .i64 0)), none⟩] none ⟨[], [], [], []⟩)
              (.seq (.seq (.reg 11 [] [
                  ⟨(.v 6), .asg (.c (.int .i64 0)), none⟩] none ⟨[], [], [], []⟩)
              (.block 4
                (.loop
                  (.seq (.seq (.reg 12 [] [
                      ⟨(.t 23), .mv (.v 6), none⟩,
                      ⟨(.t 24), .mv (.v 0), none⟩,
                      ⟨(.t 25), .mv (.v 4), none⟩,
                      ⟨(.t 26), .ia 2 (.t 24) (.t 25), none⟩,
                      ⟨(.t 27), .fa 1 (.t 26), none⟩,
                      ⟨(.t 28), .ld 1 false (.t 27), none⟩,
                      ⟨(.t 29), .len (.t 28), none⟩,
                      ⟨(.t 30), .bin .lss (.t 23) (.t 29), none⟩] none ⟨[], [], [], []⟩)
                  (.cond (.t 30)
                    .skip
                    (.exit 4)))
                  (.seq (.block 5
                    (.seq (.reg 14 [] [
                        ⟨(.t 33), .mv (.v 2), none⟩,
                        ⟨(.t 34), .mv (.v 0), none⟩,
                        ⟨(.t 35), .mv (.v 4), none⟩,
                        ⟨(.t 36), .ia 2 (.t 34) (.t 35), none⟩,
                        ⟨(.t 37), .fa 1 (.t 36), none⟩,
                        ⟨(.t 38), .ld 1 false (.t 37), none⟩,
                        ⟨(.t 39), .mv (.v 6), none⟩,
                        ⟨(.t 40), .ia 1 (.t 38) (.t 39), none⟩,
                        ⟨(.t 41), .ld 1 false (.t 40), none⟩,
                        ⟨(.t 42), .ia 1 (.t 33) (.t 41), none⟩,
                        ⟨(.t 43), .ld 1 false (.t 42), none⟩] none ⟨[], [], [], []⟩)
                    (.cond (.t 43)
                      (.reg 15 [] [
                          ⟨(.t 44), .mv (.v 5), none⟩,
                          ⟨(.t 45), .bin .add (.t 44) (.c (.int .i64 1)), none⟩,
                          ⟨(.v 5), .asg (.t 45), none⟩] none ⟨[], [], [], []⟩)
                      .skip)))
                  (.reg 13 [] [
                      ⟨(.t 31), .mv (.v 6), none⟩,
                      ⟨(.t 32), .bin .add (.t 31) (.c (.int .i64 1)), none⟩,
                      ⟨(.v 6), .asg (.t 32), none⟩] none ⟨[], [], [], []⟩))))))
              (.seq (.reg 16 [] [
                  ⟨(.t 46), .mv (.v 2), none⟩,
                  ⟨(.t 47), .mv (.v 4), none⟩,
                  ⟨(.t 48), .ia 1 (.t 46) (.t 47), none⟩,
                  ⟨(.t 49), .ld 1 false (.t 48), none⟩,
                  ⟨(.t 50), .un .not (.t 49), none⟩,
                  ⟨(.t 51), .mv (.t 50), none⟩,
                  ⟨(.t 52), .mv (.v 5), some (51, true)⟩,
                  ⟨(.t 53), .mv (.v 0), some (51, true)⟩,
                  ⟨(.t 54), .mv (.v 4), some (51, true)⟩,
                  ⟨(.t 55), .ia 2 (.t 53) (.t 54), some (51, true)⟩,
                  ⟨(.t 56), .fa 0 (.t 55), some (51, true)⟩,
                  ⟨(.t 57), .ld 1 false (.t 56), some (51, true)⟩,
                  ⟨(.t 58), .bin .geq (.t 52) (.t 57), some (51, true)⟩,
                  ⟨(.t 59), .pick (.t 51) (.t 58) (.c (.bool false)), none⟩] none ⟨[], [], [], []⟩)
              (.cond (.t 59)
                (.reg 17 [] [
                    ⟨(.t 60), .mv (.v 2), none⟩,
                    ⟨(.t 61), .mv (.v 4), none⟩,
                    ⟨(.t 62), .ia 1 (.t 60) (.t 61), none⟩,
                    ⟨.none, .st 1 (.t 62) (.c (.bool true)), none⟩,
                    ⟨(.v 3), .asg (.c (.bool true)), none⟩] none ⟨[], [], [], []⟩)
                .skip)))))
            (.reg 9 [] [
                ⟨(.t 21), .mv (.v 4), none⟩,
                ⟨(.t 22), .bin .add (.t 21) (.c (.int .i64 1)), none⟩,
                ⟨(.v 4), .asg (.t 22), none⟩] none ⟨[], [], [], []⟩))))))))))))
  (.seq (.reg 18 [] [
      ⟨(.v 7), .asg (.c (.slice none 0 0)), none⟩] none ⟨[], [], [], []⟩)
  (.seq (.seq (.reg 19 [.own (.var 7) 3 1] [
      ⟨(.v 8), .asg (.c (.int .i64 0)), none⟩] none ⟨[], [], [], []⟩)
  (.block 6
    (.loop
      (.seq (.seq (.reg 20 [] [
          ⟨(.t 63), .mv (.v 8), none⟩,
          ⟨(.t 64), .mv (.v 0), none⟩,
          ⟨(.t 65), .len (.t 64), none⟩,
          ⟨(.t 66), .bin .lss (.t 63) (.t 65), none⟩] none ⟨[], [], [], []⟩)
      (.cond (.t 66)
        .skip
        (.exit 6)))
      (.seq (.block 7
        (.seq (.reg 22 [] [
            ⟨(.t 69), .mv (.v 2), none⟩,
            ⟨(.t 70), .mv (.v 8), none⟩,
            ⟨(.t 71), .ia 1 (.t 69) (.t 70), none⟩,
            ⟨(.t 72), .ld 1 false (.t 71), none⟩,
            ⟨(.t 73), .un .not (.t 72), none⟩] none ⟨[], [], [], []⟩)
        (.cond (.t 73)
          (.reg 23 [.lend (.var 7) 77] [
              ⟨(.t 74), .mv (.v 7), none⟩,
              ⟨(.t 75), .mv (.v 8), none⟩,
              ⟨(.t 76), .bls 3 1 (.int .i64 0) 1 [(0, (.t 75))], none⟩,
              ⟨(.t 77), .app 3 1 8 (.t 74) (.t 76), none⟩,
              ⟨(.v 7), .asg (.t 77), none⟩] none ⟨[], [], [], []⟩)
          .skip)))
      (.reg 21 [] [
          ⟨(.t 67), .mv (.v 8), none⟩,
          ⟨(.t 68), .bin .add (.t 67) (.c (.int .i64 1)), none⟩,
          ⟨(.v 8), .asg (.t 68), none⟩] none ⟨[], [], [], []⟩))))))
  (.seq (.reg 24 [.lend (.var 7) 78] [
      ⟨(.t 78), .mv (.v 7), none⟩,
      ⟨(.v 1), .asg (.t 78), none⟩] none ⟨[], [], [], []⟩)
  .ret)))))))
theorem c24 : compFn Try.prog 24 F24 = some (1, strip a24, [.v 1]) ∧ lexAll a24 = true := ⟨by kernel_rfl, by kernel_rfl⟩
/-- (*clusterlocks/clusterlocksmill.Tape).Next -/
def F25 : Fr := ⟨35, [0, 1, 4]⟩
def a25 : ACode :=
  (.seq (.reg 0 [] [
      ⟨(.v 2), .asg (.c (.int .i64 0)), none⟩] none ⟨[], [], [], []⟩)
  (.seq (.seq (.reg 1 [] [
      ⟨(.t 5), .mv (.v 0), none⟩,
      ⟨(.t 6), .nilck (.t 5), none⟩,
      ⟨(.t 7), .fa 1 (.t 6), none⟩,
      ⟨(.t 8), .ld 1 false (.t 7), none⟩,
      ⟨(.t 9), .mv (.v 0), none⟩,
      ⟨(.t 10), .nilck (.t 9), none⟩,
      ⟨(.t 11), .fa 0 (.t 10), none⟩,
      ⟨(.t 12), .ld 1 false (.t 11), none⟩,
      ⟨(.t 13), .len (.t 12), none⟩,
      ⟨(.t 14), .bin .geq (.t 8) (.t 13), none⟩] (some [[], [0], [1], [2], [], [4], [5], [6], [7], [3, 8]]) ⟨[], [], [], []⟩)
  (.cond (.t 14)
    (.seq (.reg 2 [] [
        ⟨(.v 2), .asg (.c (.int .i64 0)), none⟩] none ⟨[], [], [], []⟩)
    .ret)
    .skip))
  (.seq (.reg 3 [] [
      ⟨(.t 15), .mv (.v 0), none⟩,
      ⟨(.t 16), .nilck (.t 15), none⟩,
      ⟨(.t 17), .fa 1 (.t 16), none⟩,
      ⟨(.t 18), .ld 1 false (.t 17), none⟩,
      ⟨(.t 19), .bin .add (.t 18) (.c (.int .i64 1)), none⟩,
      ⟨(.t 20), .nilck (.t 15), none⟩,
      ⟨(.t 21), .fa 1 (.t 20), none⟩,
      ⟨.none, .st 1 (.t 21) (.t 19), none⟩] none ⟨[], [], [], []⟩)
  (.seq (.reg 4 [] [
      ⟨(.t 22), .mv (.v 0), none⟩,
      ⟨(.t 23), .nilck (.t 22), none⟩,
      ⟨(.t 24), .fa 0 (.t 23), none⟩,
      ⟨(.t 25), .ld 1 false (.t 24), none⟩,
      ⟨(.t 26), .mv (.v 0), none⟩,
      ⟨(.t 27), .nilck (.t 26), none⟩,
      ⟨(.t 28), .fa 1 (.t 27), none⟩,
      ⟨(.t 29), .ld 1 false (.t 28), none⟩,
      ⟨(.t 30), .bin .sub (.t 29) (.c (.int .i64 1)), none⟩,
      ⟨(.t 31), .ia 1 (.t 25) (.t 30), none⟩,
      ⟨(.t 32), .ld 1 false (.t 31), none⟩,
      ⟨(.t 33), .mv (.v 1), none⟩,
      ⟨(.t 34), .call 13 [(.t 32), (.t 33)], none⟩,
      ⟨(.v 2), .asg (.t 34), none⟩] (some [[], [0], [1], [2], [], [4], [5], [6], [7], [3, 8], [9], [], [10, 11], [12, 12, 0, 1, 2, 3, 4, 5, 6, 7, 8, 9, 10, 11, 12]]) ⟨[], [], [], []⟩)
  .ret))))
theorem c25 : compFn Try.prog 25 F25 = some (2, strip a25, [.v 2]) ∧ lexAll a25 = true := ⟨by kernel_rfl, by kernel_rfl⟩
/-- clusterlocks/waitgraph.Valid -/
def F26 : Fr := ⟨58, [0, 2, 5, 7]⟩
def a26 : ACode :=
  (.seq (.reg 0 [] [
      ⟨(.v 1), .asg (.c (.bool false)), none⟩] none ⟨[], [], [], []⟩)
  (.seq (.seq (.reg 1 [] [
      ⟨(.t 8), .mv (.v 0), none⟩,
      ⟨(.t 9), .len (.t 8), none⟩,
      ⟨(.t 10), .bin .gtr (.t 9) (.c (.int .i64 160)), none⟩] none ⟨[], [], [], []⟩)
  (.cond (.t 10)
    (.seq (.reg 2 [] [
        ⟨(.v 1), .asg (.c (.bool false)), none⟩] none ⟨[], [], [], []⟩)
    .ret)
    .skip))
  (.seq (.seq (.reg 3 [] [
      ⟨(.t 11), .mv (.v 0), none⟩,
      ⟨(.t 12), .len (.t 11), none⟩,
      ⟨(.t 13), .mv (.c (.int .i64 0)), none⟩] none ⟨[], [], [], []⟩)
  (.block 0
    (.loop
      (.seq (.reg 4 [] [
          ⟨(.t 14), .bin .lss (.t 13) (.t 12), none⟩] none ⟨[], [], [], []⟩)
      (.seq (.cond (.t 14)
        .skip
        (.exit 0))
      (.seq (.block 1
        (.seq (.reg 5 [] [
            ⟨(.t 15), .ia 2 (.t 11) (.t 13), none⟩,
            ⟨(.t 16), .ld 2 true (.t 15), none⟩,
            ⟨(.t 4), .allo [(.int .i64 0), (.slice none 0 0)], none⟩,
            ⟨.none, .st 2 (.t 4) (.t 16), none⟩] none ⟨[], [], [], []⟩)
        (.seq (.seq (.reg 6 [] [
            ⟨(.t 17), .fa 0 (.t 4), none⟩,
            ⟨(.t 18), .ld 1 false (.t 17), none⟩,
            ⟨(.t 19), .bin .lss (.t 18) (.c (.int .i64 0)), none⟩,
            ⟨(.t 20), .mv (.t 19), none⟩,
            ⟨(.t 21), .fa 0 (.t 4), some (20, false)⟩,
            ⟨(.t 22), .ld 1 false (.t 21), some (20, false)⟩,
            ⟨(.t 23), .fa 1 (.t 4), some (20, false)⟩,
            ⟨(.t 24), .ld 1 false (.t 23), some (20, false)⟩,
            ⟨(.t 25), .len (.t 24), some (20, false)⟩,
            ⟨(.t 26), .bin .gtr (.t 22) (.t 25), some (20, false)⟩,
            ⟨(.t 27), .pick (.t 20) (.c (.bool true)) (.t 26), none⟩,
            ⟨(.t 28), .mv (.t 27), none⟩,
            ⟨(.t 29), .fa 0 (.t 4), some (28, false)⟩,
            ⟨(.t 30), .ld 1 false (.t 29), some (28, false)⟩,
            ⟨(.t 31), .bin .eql (.t 30) (.c (.int .i64 0)), some (28, false)⟩,
            ⟨(.t 32), .mv (.t 31), some (28, false)⟩,
            ⟨(.t 33), .fa 1 (.t 4), some (32, true)⟩,
            ⟨(.t 34), .ld 1 false (.t 33), some (32, true)⟩,
            ⟨(.t 35), .len (.t 34), some (32, true)⟩,
            ⟨(.t 36), .bin .gtr (.t 35) (.c (.int .i64 0)), some (32, true)⟩,
            ⟨(.t 37), .pick (.t 32) (.t 36) (.c (.bool false)), some (28, false)⟩,
            ⟨(.t 38), .pick (.t 28) (.c (.bool true)) (.t 37), none⟩] none ⟨[], [], [], []⟩)
        (.cond (.t 38)
          (.seq (.reg 7 [] [
              ⟨(.v 1), .asg (.c (.bool false)), none⟩] none ⟨[], [], [], []⟩)
          .ret)
          .skip))
        (.seq (.reg 8 [] [
            ⟨(.v 2), .asg (.c (.int .i64 (-1))), none⟩] none ⟨[], [], [], []⟩)
        (.seq (.reg 9 [] [
            ⟨(.t 39), .fa 1 (.t 4), none⟩,
            ⟨(.t 40), .ld 1 false (.t 39), none⟩,
            ⟨(.t 41), .len (.t 40), none⟩,
            ⟨(.t 42), .mv (.c (.int .i64 0)), none⟩] none ⟨[], [], [], []⟩)
        (.block 2
          (.loop
            (.seq (.reg 10 [] [
                ⟨(.t 43), .bin .lss (.t 42) (.t 41), none⟩] none ⟨[], [], [], []⟩)
            (.seq (.cond (.t 43)
              .skip
              (.exit 2))
            (.seq (.block 3
              (.seq (.reg 11 [] [
                  ⟨(.t 44), .ia 1 (.t 40) (.t 42), none⟩,
                  ⟨(.t 45), .ld 1 false (.t 44), none⟩,
                  ⟨(.v 3), .asg (.t 45), none⟩] none ⟨[], [], [], []⟩)
              (.seq (.seq (.reg 12 [] [
                  ⟨(.t 46), .mv (.v 3), none⟩,
                  ⟨(.t 47), .mv (.v 2), none⟩,
                  ⟨(.t 48), .bin .leq (.t 46) (.t 47), none⟩,
                  ⟨(.t 49), .mv (.t 48), none⟩,
                  ⟨(.t 50), .mv (.v 3), some (49, false)⟩,
                  ⟨(.t 51), .mv (.v 0), some (49, false)⟩,
                  ⟨(.t 52), .len (.t 51), some (49, false)⟩,
                  ⟨(.t 53), .bin .geq (.t 50) (.t 52), some (49, false)⟩,
                  ⟨(.t 54), .pick (.t 49) (.c (.bool true)) (.t 53), none⟩] none ⟨[], [], [], []⟩)
              (.cond (.t 54)
                (.seq (.reg 13 [] [
                    ⟨(.v 1), .asg (.c (.bool false)), none⟩] none ⟨[], [], [], []⟩)
                .ret)
                .skip))
              (.reg 14 [] [
                  ⟨(.t 55), .mv (.v 3), none⟩,
                  ⟨(.v 2), .asg (.t 55), none⟩] none ⟨[], [], [], []⟩))))
            (.reg 15 [] [
                ⟨(.t 56), .bin .add (.t 42) (.c (.int .i64 1)), none⟩,
                ⟨(.t 42), .mv (.t 56), none⟩] none ⟨[], [], [], []⟩)))))))))))
      (.reg 16 [] [
          ⟨(.t 57), .bin .add (.t 13) (.c (.int .i64 1)), none⟩,
          ⟨(.t 13), .mv (.t 57), none⟩] none ⟨[], [], [], []⟩)))))))
  (.seq (.reg 17 [] [
      ⟨(.v 1), .asg (.c (.bool true)), none⟩] none ⟨[], [], [], []⟩)
  .ret))))
theorem c26 : compFn Try.prog 26 F26 = some (1, strip a26, [.v 1]) ∧ lexAll a26 = true := ⟨by kernel_rfl, by kernel_rfl⟩
/-- clusterlocks/chase.copyGraph -/
def F27 : Fr := ⟨30, [0, 2, 3, 4]⟩
def a27 : ACode :=
  (.seq (.reg 0 [] [
      ⟨(.v 1), .asg (.c (.slice none 0 0)), none⟩] none ⟨[], [], [], []⟩)
  (.seq (.reg 1 [] [
      ⟨(.t 5), .mv (.v 0), none⟩,
      ⟨(.t 6), .len (.t 5), none⟩,
      ⟨(.t 7), .mk 42 2 32 (.agg #[(.int .i64 0), (.slice none 0 0)]) (.t 6) (.t 6), none⟩,
      ⟨(.v 2), .asg (.t 7), none⟩] none ⟨[], [], [], []⟩)
  (.seq (.seq (.reg 2 [] [
      ⟨(.t 8), .mv (.v 0), none⟩,
      ⟨(.t 9), .len (.t 8), none⟩,
      ⟨(.t 10), .mv (.c (.int .i64 0)), none⟩] none ⟨[], [], [], []⟩)
  (.block 0
    (.loop
      (.seq (.reg 3 [] [
          ⟨(.t 11), .bin .lss (.t 10) (.t 9), none⟩] none ⟨[], [], [], []⟩)
      (.seq (.cond (.t 11)
        .skip
        (.exit 0))
      (.seq (.block 1
        (.seq (.reg 4 [] [
            ⟨(.t 12), .mv (.t 10), none⟩,
            ⟨(.v 3), .asg (.t 12), none⟩] none ⟨[], [], [], []⟩)
        (.reg 5 [] [
            ⟨(.t 13), .mv (.v 2), none⟩,
            ⟨(.t 14), .mv (.v 3), none⟩,
            ⟨(.t 15), .mv (.v 0), none⟩,
            ⟨(.t 16), .mv (.v 3), none⟩,
            ⟨(.t 17), .ia 2 (.t 15) (.t 16), none⟩,
            ⟨(.t 18), .fa 0 (.t 17), none⟩,
            ⟨(.t 19), .ld 1 false (.t 18), none⟩,
            ⟨(.t 20), .mv (.v 0), none⟩,
            ⟨(.t 21), .mv (.v 3), none⟩,
            ⟨(.t 22), .ia 2 (.t 20) (.t 21), none⟩,
            ⟨(.t 23), .fa 1 (.t 22), none⟩,
            ⟨(.t 24), .ld 1 false (.t 23), none⟩,
            ⟨(.t 25), .call 37 [(.t 24)], none⟩,
            ⟨(.t 26), .bld [(.int .i64 0), (.slice none 0 0)] [(0, 1, (.t 19)), (1, 1, (.t 25))], none⟩,
            ⟨(.t 27), .ia 2 (.t 13) (.t 14), none⟩,
            ⟨.none, .st 2 (.t 27) (.t 26), none⟩] (some [[], [], [], [], [2, 3], [4], [5], [], [], [7, 8], [9], [10], [11], [6, 12], [0, 1, 0, 1, 2, 3, 4, 5, 6, 7, 8, 9, 10, 11, 12, 13], [14, 13, 12, 0, 1, 2, 3, 4, 5, 6, 7, 8, 9, 10, 11, 12, 13]]) ⟨[], [], [], []⟩)))
      (.reg 6 [] [
          ⟨(.t 28), .bin .add (.t 10) (.c (.int .i64 1)), none⟩,
          ⟨(.t 10), .mv (.t 28), none⟩] none ⟨[], [], [], []⟩)))))))
  (.seq (.reg 7 [.freeze (.var 2)] [
      ⟨(.t 29), .mv (.v 2), none⟩,
      ⟨(.v 1), .asg (.t 29), none⟩] none ⟨[], [], [], []⟩)
  .ret))))
theorem c27 : compFn Try.prog 27 F27 = some (1, strip a27, [.v 1]) ∧ lexAll a27 = true := ⟨by kernel_rfl, by kernel_rfl⟩
/-- clusterlocks/chase.send -/
def F28 : Fr := ⟨27, [0, 1, 2, 6, 8]⟩
def a28 : ACode :=
  (.seq (.reg 0 [] [
      ⟨(.v 3), .asg (.c (.slice none 0 0)), none⟩] none ⟨[], [], [], []⟩)
  (.seq (.seq (.reg 1 [] [
      ⟨(.t 9), .mv (.v 1), none⟩,
      ⟨(.t 10), .mv (.v 2), none⟩,
      ⟨(.t 11), .ia 2 (.t 9) (.t 10), none⟩,
      ⟨(.t 12), .fa 1 (.t 11), none⟩,
      ⟨(.t 13), .ld 1 false (.t 12), none⟩,
      ⟨(.t 14), .len (.t 13), none⟩,
      ⟨(.t 15), .mv (.c (.int .i64 0)), none⟩] none ⟨[], [], [], []⟩)
  (.block 0
    (.loop
      (.seq (.reg 2 [] [
          ⟨(.t 16), .bin .lss (.t 15) (.t 14), none⟩] none ⟨[], [], [], []⟩)
      (.seq (.cond (.t 16)
        .skip
        (.exit 0))
      (.seq (.block 1
        (.seq (.reg 3 [] [
            ⟨(.t 17), .ia 1 (.t 13) (.t 15), none⟩,
            ⟨(.t 18), .ld 1 false (.t 17), none⟩,
            ⟨(.v 4), .asg (.t 18), none⟩] none ⟨[], [], [], []⟩)
        (.reg 4 [.lend (.var 0) 24] [
            ⟨(.t 19), .mv (.v 0), none⟩,
            ⟨(.t 20), .mv (.v 2), none⟩,
            ⟨(.t 21), .mv (.v 4), none⟩,
            ⟨(.t 22), .bld [(.int .i64 0), (.int .i64 0)] [(0, 1, (.t 20)), (1, 1, (.t 21))], none⟩,
            ⟨(.t 23), .bls 58 2 (.agg #[(.int .i64 0), (.int .i64 0)]) 1 [(0, (.t 22))], none⟩,
            ⟨(.t 24), .app 58 2 16 (.t 19) (.t 23), none⟩,
            ⟨(.v 0), .asg (.t 24), none⟩] none ⟨[], [], [], []⟩)))
      (.reg 5 [] [
          ⟨(.t 25), .bin .add (.t 15) (.c (.int .i64 1)), none⟩,
          ⟨(.t 15), .mv (.t 25), none⟩] none ⟨[], [], [], []⟩)))))))
  (.seq (.reg 6 [.lend (.var 0) 26] [
      ⟨(.t 26), .mv (.v 0), none⟩,
      ⟨(.v 3), .asg (.t 26), none⟩] none ⟨[], [], [], []⟩)
  .ret)))
theorem c28 : compFn Try.prog 28 F28 = some (3, strip a28, [.v 3]) ∧ lexAll a28 = true := ⟨by kernel_rfl, by kernel_rfl⟩
/-- clusterlocks/clusterlocksref19.Valid -/
def F29 : Fr := ⟨116, [0, 2, 3, 4]⟩
def a29 : ACode :=
  (.seq (.reg 0 [] [
      ⟨(.v 1), .asg (.c (.bool false)), none⟩] none ⟨[], [], [], []⟩)
  (.seq (.seq (.reg 1 [] [
      ⟨(.t 5), .mv (.v 0), none⟩,
      ⟨(.t 6), .len (.t 5), none⟩,
      ⟨(.t 7), .bin .gtr (.t 6) (.c (.int .i64 160)), none⟩] none ⟨[], [], [], []⟩)
  (.cond (.t 7)
    (.seq (.reg 2 [] [
        ⟨(.v 1), .asg (.c (.bool false)), none⟩] none ⟨[], [], [], []⟩)
    .ret)
    .skip))
  (.seq (.seq (.reg 3 [] [
      ⟨(.v 2), .asg (.c (.int .i64 0)), none⟩] none ⟨[], [], [], []⟩)
  (.block 0
    (.loop
      (.seq (.seq (.reg 4 [] [
          ⟨(.t 8), .mv (.v 2), none⟩,
          ⟨(.t 9), .mv (.v 0), none⟩,
          ⟨(.t 10), .len (.t 9), none⟩,
          ⟨(.t 11), .bin .lss (.t 8) (.t 10), none⟩] none ⟨[], [], [], []⟩)
      (.cond (.t 11)
        .skip
        (.exit 0)))
      (.seq (.block 1
        (.seq (.seq (.reg 6 [] [
            ⟨(.t 14), .mv (.v 0), none⟩,
            ⟨(.t 15), .mv (.v 2), none⟩,
            ⟨(.t 16), .ia 2 (.t 14) (.t 15), none⟩,
            ⟨(.t 17), .fa 1 (.t 16), none⟩,
            ⟨(.t 18), .ld 1 false (.t 17), none⟩,
            ⟨(.t 19), .len (.t 18), none⟩,
            ⟨(.t 20), .bin .gtr (.t 19) (.c (.int .i64 160)), none⟩,
            ⟨(.t 21), .mv (.t 20), none⟩,
            ⟨(.t 22), .mv (.v 0), some (21, false)⟩,
            ⟨(.t 23), .mv (.v 2), some (21, false)⟩,
            ⟨(.t 24), .ia 2 (.t 22) (.t 23), some (21, false)⟩,
            ⟨(.t 25), .fa 0 (.t 24), some (21, false)⟩,
            ⟨(.t 26), .ld 1 false (.t 25), some (21, false)⟩,
            ⟨(.t 27), .bin .lss (.t 26) (.c (.int .i64 0)), some (21, false)⟩,
            ⟨(.t 28), .pick (.t 21) (.c (.bool true)) (.t 27), none⟩,
            ⟨(.t 29), .mv (.t 28), none⟩,
            ⟨(.t 30), .mv (.v 0), some (29, false)⟩,
            ⟨(.t 31), .mv (.v 2), some (29, false)⟩,
            ⟨(.t 32), .ia 2 (.t 30) (.t 31), some (29, false)⟩,
            ⟨(.t 33), .fa 0 (.t 32), some (29, false)⟩,
            ⟨(.t 34), .ld 1 false (.t 33), some (29, false)⟩,
            ⟨(.t 35), .mv (.v 0), some (29, false)⟩,
            ⟨(.t 36), .mv (.v 2), some (29, false)⟩,
            ⟨(.t 37), .ia 2 (.t 35) (.t 36), some (29, false)⟩,
            ⟨(.t 38), .fa 1 (.t 37), some (29, false)⟩,
            ⟨(.t 39), .ld 1 false (.t 38), some (29, false)⟩,
            ⟨(.t 40), .len (.t 39), some (29, false)⟩,
            ⟨(.t 41), .bin .gtr (.t 34) (.t 40), some (29, false)⟩,
            ⟨(.t 42), .pick (.t 29) (.c (.bool true)) (.t 41), none⟩,
            ⟨(.t 43), .mv (.t 42), none⟩,
            ⟨(.t 44), .mv (.v 0), some (43, false)⟩,
            ⟨(.t 45), .mv (.v 2), some (43, false)⟩,
            ⟨(.t 46), .ia 2 (.t 44) (.t 45), some (43, false)⟩,
            ⟨(.t 47), .fa 0 (.t 46), some (43, false)⟩,
            ⟨(.t 48), .ld 1 false (.t 47), some (43, false)⟩,
            ⟨(.t 49), .bin .eql (.t 48) (.c (.int .i64 0)), some (43, false)⟩,
            ⟨(.t 50), .mv (.t 49), some (43, false)⟩,
            ⟨(.t 51), .mv (.v 0), some (50, true)⟩,
            ⟨(.t 52), .mv (.v 2), some (50, true)⟩,
            ⟨(.t 53), .ia 2 (.t 51) (.t 52), some (50, true)⟩,
            ⟨(.t 54), .fa 1 (.t 53), some (50, true)⟩,
            ⟨(.t 55), .ld 1 false (.t 54), some (50, true)⟩,
            ⟨(.t 56), .len (.t 55), some (50, true)⟩,
            ⟨(.t 57), .bin .gtr (.t 56) (.c (.int .i64 0)), some (50, true)⟩,
            ⟨(.t 58), .pick (.t 50) (.t 57) (.c (.bool false)), some (43, false)⟩,
            ⟨(.t 59), .pick (.t 43) (.c (.bool true)) (.t 58), none⟩] (some [[], [], [0, 1], [2], [3], [4], [5], [6], [7], [7], [8, 9, 7], [10, 7], [11, 7], [12, 7], [7, 13], [14, 7], [15], [15], [16, 17, 15], [18, 15], [19, 15], [15], [15], [21, 22, 15], [23, 15], [24, 15], [25, 15], [20, 26, 15], [15, 27], [28, 15], [29], [29], [30, 31, 29], [32, 29], [33, 29], [34, 29], [35, 29, 29], [36], [36], [37, 38, 36], [39, 36], [40, 36], [41, 36], [42, 36], [36, 43, 29], [29, 44]]) ⟨[21, 29, 43, 50], [], [], []⟩)
        (.cond (.t 59)
          (.seq (.reg 7 [] [
              ⟨(.v 1), .asg (.c (.bool false)), none⟩] none ⟨[], [], [], []⟩)
          .ret)
          .skip))
        (.seq (.reg 8 [] [
            ⟨(.v 3), .asg (.c (.int .i64 0)), none⟩] none ⟨[], [], [], []⟩)
        (.block 2
          (.loop
            (.seq (.seq (.reg 9 [] [
                ⟨(.t 60), .mv (.v 3), none⟩,
                ⟨(.t 61), .mv (.v 0), none⟩,
                ⟨(.t 62), .mv (.v 2), none⟩,
                ⟨(.t 63), .ia 2 (.t 61) (.t 62), none⟩,
                ⟨(.t 64), .fa 1 (.t 63), none⟩,
                ⟨(.t 65), .ld 1 false (.t 64), none⟩,
                ⟨(.t 66), .len (.t 65), none⟩,
                ⟨(.t 67), .bin .lss (.t 60) (.t 66), none⟩] none ⟨[], [], [], []⟩)
            (.cond (.t 67)
              .skip
              (.exit 2)))
            (.seq (.block 3
              (.seq (.reg 11 [] [
                  ⟨(.t 70), .mv (.v 0), none⟩,
                  ⟨(.t 71), .mv (.v 2), none⟩,
                  ⟨(.t 72), .ia 2 (.t 70) (.t 71), none⟩,
                  ⟨(.t 73), .fa 1 (.t 72), none⟩,
                  ⟨(.t 74), .ld 1 false (.t 73), none⟩,
                  ⟨(.t 75), .mv (.v 3), none⟩,
                  ⟨(.t 76), .ia 1 (.t 74) (.t 75), none⟩,
                  ⟨(.t 77), .ld 1 false (.t 76), none⟩,
                  ⟨(.t 78), .bin .lss (.t 77) (.c (.int .i64 0)), none⟩,
                  ⟨(.t 79), .mv (.t 78), none⟩,
                  ⟨(.t 80), .mv (.v 0), some (79, false)⟩,
                  ⟨(.t 81), .mv (.v 2), some (79, false)⟩,
                  ⟨(.t 82), .ia 2 (.t 80) (.t 81), some (79, false)⟩,
                  ⟨(.t 83), .fa 1 (.t 82), some (79, false)⟩,
                  ⟨(.t 84), .ld 1 false (.t 83), some (79, false)⟩,
                  ⟨(.t 85), .mv (.v 3), some (79, false)⟩,
                  ⟨(.t 86), .ia 1 (.t 84) (.t 85), some (79, false)⟩,
                  ⟨(.t 87), .ld 1 false (.t 86), some (79, false)⟩,
                  ⟨(.t 88), .mv (.v 0), some (79, false)⟩,
                  ⟨(.t 89), .len (.t 88), some (79, false)⟩,
                  ⟨(.t 90), .bin .geq (.t 87) (.t 89), some (79, false)⟩,
                  ⟨(.t 91), .pick (.t 79) (.c (.bool true)) (.t 90), none⟩,
                  ⟨(.t 92), .mv (.t 91), none⟩,
                  ⟨(.t 93), .mv (.v 3), some (92, false)⟩,
                  ⟨(.t 94), .bin .gtr (.t 93) (.c (.int .i64 0)), some (92, false)⟩,
                  ⟨(.t 95), .mv (.t 94), some (92, false)⟩,
                  ⟨(.t 96), .mv (.v 0), some (95, true)⟩,
                  ⟨(.t 97), .mv (.v 2), some (95, true)⟩,
                  ⟨(.t 98), .ia 2 (.t 96) (.t 97), some (95, true)⟩,
                  ⟨(.t 99), .fa 1 (.t 98), some (95, true)⟩,
                  ⟨(.t 100), .ld 1 false (.t 99), some (95, true)⟩,
                  ⟨(.t 101), .mv (.v 3), some (95, true)⟩,
                  ⟨(.t 102), .bin .sub (.t 101) (.c (.int .i64 1)), some (95, true)⟩,
                  ⟨(.t 103), .ia 1 (.t 100) (.t 102), some (95, true)⟩,
                  ⟨(.t 104), .ld 1 false (.t 103), some (95, true)⟩,
                  ⟨(.t 105), .mv (.v 0), some (95, true)⟩,
                  ⟨(.t 106), .mv (.v 2), some (95, true)⟩,
                  ⟨(.t 107), .ia 2 (.t 105) (.t 106), some (95, true)⟩,
                  ⟨(.t 108), .fa 1 (.t 107), some (95, true)⟩,
                  ⟨(.t 109), .ld 1 false (.t 108), some (95, true)⟩,
                  ⟨(.t 110), .mv (.v 3), some (95, true)⟩,
                  ⟨(.t 111), .ia 1 (.t 109) (.t 110), some (95, true)⟩,
                  ⟨(.t 112), .ld 1 false (.t 111), some (95, true)⟩,
                  ⟨(.t 113), .bin .geq (.t 104) (.t 112), some (95, true)⟩,
                  ⟨(.t 114), .pick (.t 95) (.t 113) (.c (.bool false)), some (92, false)⟩,
                  ⟨(.t 115), .pick (.t 92) (.c (.bool true)) (.t 114), none⟩] (some [[], [], [0, 1], [2], [3], [], [4, 5], [6], [7], [8], [9], [9], [10, 11, 9], [12, 9], [13, 9], [9], [14, 15, 9], [16, 9], [9], [18, 9], [17, 19, 9], [9, 20], [21, 9], [22], [23, 22], [24, 22, 22], [25], [25], [26, 27, 25], [28, 25], [29, 25], [25], [31, 25], [30, 32, 25], [33, 25], [25], [25], [35, 36, 25], [37, 25], [38, 25], [25], [39, 40, 25], [41, 25], [34, 42, 25], [25, 43, 22], [22, 44]]) ⟨[79, 95], [], [], []⟩)
              (.cond (.t 115)
                (.seq (.reg 12 [] [
                    ⟨(.v 1), .asg (.c (.bool false)), none⟩] none ⟨[], [], [], []⟩)
                .ret)
                .skip)))
            (.reg 10 [] [
                ⟨(.t 68), .mv (.v 3), none⟩,
                ⟨(.t 69), .bin .add (.t 68) (.c (.int .i64 1)), none⟩,
                ⟨(.v 3), .asg (.t 69), none⟩] none ⟨[], [], [], []⟩))))))))
      (.reg 5 [] [
          ⟨(.t 12), .mv (.v 2), none⟩,
          ⟨(.t 13), .bin .add (.t 12) (.c (.int .i64 1)), none⟩,
          ⟨(.v 2), .asg (.t 13), none⟩] none ⟨[], [], [], []⟩))))))
  (.seq (.reg 13 [] [
      ⟨(.v 1), .asg (.c (.bool true)), none⟩] none ⟨[], [], [], []⟩)
  .ret))))
theorem c29 : compFn Try.prog 29 F29 = some (1, strip a29, [.v 1]) ∧ lexAll a29 = true := ⟨by kernel_rfl, by kernel_rfl⟩
/-- clusterlocks/clusterlocksref34.Copy -/
def F30 : Fr := ⟨23, [0, 2, 3]⟩
def a30 : ACode :=
  (.seq (.reg 0 [] [
      ⟨(.v 1), .asg (.c (.slice none 0 0)), none⟩] none ⟨[], [], [], []⟩)
  (.seq (.reg 1 [] [
      ⟨(.v 2), .asg (.c (.slice none 0 0)), none⟩] none ⟨[], [], [], []⟩)
  (.seq (.seq (.reg 2 [.own (.var 2) 42 2] [
      ⟨(.t 6), .mv (.v 0), none⟩,
      ⟨(.t 7), .len (.t 6), none⟩,
      ⟨(.t 8), .mv (.c (.int .i64 0)), none⟩] none ⟨[], [], [], []⟩)
  (.block 0
    (.loop
      (.seq (.reg 3 [] [
          ⟨(.t 9), .bin .lss (.t 8) (.t 7), none⟩] none ⟨[], [], [], []⟩)
      (.seq (.cond (.t 9)
        .skip
        (.exit 0))
      (.seq (.block 1
        (.seq (.reg 4 [] [
            ⟨(.t 10), .ia 2 (.t 6) (.t 8), none⟩,
            ⟨(.t 11), .ld 2 true (.t 10), none⟩,
            ⟨(.t 5), .allo [(.int .i64 0), (.slice none 0 0)], none⟩,
            ⟨.none, .st 2 (.t 5) (.t 11), none⟩] none ⟨[], [], [], []⟩)
        (.reg 5 [.lend (.var 2) 20] [
            ⟨(.t 12), .mv (.v 2), none⟩,
            ⟨(.t 13), .fa 0 (.t 5), none⟩,
            ⟨(.t 14), .ld 1 false (.t 13), none⟩,
            ⟨(.t 15), .fa 1 (.t 5), none⟩,
            ⟨(.t 16), .ld 1 false (.t 15), none⟩,
            ⟨(.t 17), .app 3 1 8 (.c (.slice none 0 0)) (.t 16), none⟩,
            ⟨(.t 18), .bld [(.int .i64 0), (.slice none 0 0)] [(0, 1, (.t 14)), (1, 1, (.t 17))], none⟩,
            ⟨(.t 19), .bls 42 2 (.agg #[(.int .i64 0), (.slice none 0 0)]) 1 [(0, (.t 18))], none⟩,
            ⟨(.t 20), .app 42 2 32 (.t 12) (.t 19), none⟩,
            ⟨(.v 2), .asg (.t 20), none⟩] (some [[], [], [1], [], [3], [4], [2, 5], [6], [0, 7, 5], [8, 8, 0, 1, 2, 3, 4, 5, 6, 7, 8]]) ⟨[5], [], [], []⟩)))
      (.reg 6 [] [
          ⟨(.t 21), .bin .add (.t 8) (.c (.int .i64 1)), none⟩,
          ⟨(.t 8), .mv (.t 21), none⟩] none ⟨[], [], [], []⟩)))))))
  (.seq (.reg 7 [.lend (.var 2) 22] [
      ⟨(.t 22), .mv (.v 2), none⟩,
      ⟨(.v 1), .asg (.t 22), none⟩] none ⟨[], [], [], []⟩)
  .ret))))
theorem c30 : compFn Try.prog 30 F30 = some (1, strip a30, [.v 1]) ∧ lexAll a30 = true := ⟨by kernel_rfl, by kernel_rfl⟩
/-- clusterlocks/clusterlocksref34.probes -/
def F31 : Fr := ⟨26, [0, 1, 4, 5, 7]⟩
def a31 : ACode :=
  (.seq (.reg 0 [] [
      ⟨(.v 2), .asg (.c (.slice none 0 0)), none⟩] none ⟨[], [], [], []⟩)
  (.seq (.reg 1 [] [
      ⟨(.v 3), .asg (.c (.slice none 0 0)), none⟩] none ⟨[], [], [], []⟩)
  (.seq (.seq (.reg 2 [.own (.var 3) 58 2] [
      ⟨(.t 8), .mv (.v 0), none⟩,
      ⟨(.t 9), .mv (.v 1), none⟩,
      ⟨(.t 10), .ia 2 (.t 8) (.t 9), none⟩,
      ⟨(.t 11), .fa 1 (.t 10), none⟩,
      ⟨(.t 12), .ld 1 false (.t 11), none⟩,
      ⟨(.t 13), .len (.t 12), none⟩,
      ⟨(.t 14), .mv (.c (.int .i64 0)), none⟩] none ⟨[], [], [], []⟩)
  (.block 0
    (.loop
      (.seq (.reg 3 [] [
          ⟨(.t 15), .bin .lss (.t 14) (.t 13), none⟩] none ⟨[], [], [], []⟩)
      (.seq (.cond (.t 15)
        .skip
        (.exit 0))
      (.seq (.block 1
        (.seq (.reg 4 [] [
            ⟨(.t 16), .ia 1 (.t 12) (.t 14), none⟩,
            ⟨(.t 17), .ld 1 false (.t 16), none⟩,
            ⟨(.v 4), .asg (.t 17), none⟩] none ⟨[], [], [], []⟩)
        (.reg 5 [.lend (.var 3) 23] [
            ⟨(.t 18), .mv (.v 3), none⟩,
            ⟨(.t 19), .mv (.v 1), none⟩,
            ⟨(.t 20), .mv (.v 4), none⟩,
            ⟨(.t 21), .bld [(.int .i64 0), (.int .i64 0)] [(0, 1, (.t 19)), (1, 1, (.t 20))], none⟩,
            ⟨(.t 22), .bls 58 2 (.agg #[(.int .i64 0), (.int .i64 0)]) 1 [(0, (.t 21))], none⟩,
            ⟨(.t 23), .app 58 2 16 (.t 18) (.t 22), none⟩,
            ⟨(.v 3), .asg (.t 23), none⟩] none ⟨[], [], [], []⟩)))
      (.reg 6 [] [
          ⟨(.t 24), .bin .add (.t 14) (.c (.int .i64 1)), none⟩,
          ⟨(.t 14), .mv (.t 24), none⟩] none ⟨[], [], [], []⟩)))))))
  (.seq (.reg 7 [.lend (.var 3) 25] [
      ⟨(.t 25), .mv (.v 3), none⟩,
      ⟨(.v 2), .asg (.t 25), none⟩] none ⟨[], [], [], []⟩)
  .ret))))
theorem c31 : compFn Try.prog 31 F31 = some (2, strip a31, [.v 2]) ∧ lexAll a31 = true := ⟨by kernel_rfl, by kernel_rfl⟩
/-- clusterlocks/clusterlocksref19.Same -/
def F32 : Fr := ⟨42, [0, 1, 4, 5]⟩
def a32 : ACode :=
  (.seq (.reg 0 [] [
      ⟨(.v 2), .asg (.c (.bool false)), none⟩] none ⟨[], [], [], []⟩)
  (.seq (.seq (.reg 1 [] [
      ⟨(.t 6), .mv (.v 0), none⟩,
      ⟨(.t 7), .len (.t 6), none⟩,
      ⟨(.t 8), .mv (.v 1), none⟩,
      ⟨(.t 9), .len (.t 8), none⟩,
      ⟨(.t 10), .bin .neq (.t 7) (.t 9), none⟩] none ⟨[], [], [], []⟩)
  (.cond (.t 10)
    (.seq (.reg 2 [] [
        ⟨(.v 2), .asg (.c (.bool false)), none⟩] none ⟨[], [], [], []⟩)
    .ret)
    .skip))
  (.seq (.seq (.reg 3 [] [
      ⟨(.v 3), .asg (.c (.int .i64 0)), none⟩] none ⟨[], [], [], []⟩)
  (.block 0
    (.loop
      (.seq (.seq (.reg 4 [] [
          ⟨(.t 11), .mv (.v 3), none⟩,
          ⟨(.t 12), .mv (.v 0), none⟩,
          ⟨(.t 13), .len (.t 12), none⟩,
          ⟨(.t 14), .bin .lss (.t 11) (.t 13), none⟩] none ⟨[], [], [], []⟩)
      (.cond (.t 14)
        .skip
        (.exit 0)))
      (.seq (.block 1
        (.seq (.reg 6 [] [
            ⟨(.t 17), .mv (.v 0), none⟩,
            ⟨(.t 18), .mv (.v 3), none⟩,
            ⟨(.t 19), .ia 2 (.t 17) (.t 18), none⟩,
            ⟨(.t 20), .fa 0 (.t 19), none⟩,
            ⟨(.t 21), .ld 1 false (.t 20), none⟩,
            ⟨(.t 22), .mv (.v 1), none⟩,
            ⟨(.t 23), .mv (.v 3), none⟩,
            ⟨(.t 24), .ia 2 (.t 22) (.t 23), none⟩,
            ⟨(.t 25), .fa 0 (.t 24), none⟩,
            ⟨(.t 26), .ld 1 false (.t 25), none⟩,
            ⟨(.t 27), .bin .neq (.t 21) (.t 26), none⟩,
            ⟨(.t 28), .mv (.t 27), none⟩,
            ⟨(.t 29), .mv (.v 0), some (28, false)⟩,
            ⟨(.t 30), .mv (.v 3), some (28, false)⟩,
            ⟨(.t 31), .ia 2 (.t 29) (.t 30), some (28, false)⟩,
            ⟨(.t 32), .fa 1 (.t 31), some (28, false)⟩,
            ⟨(.t 33), .ld 1 false (.t 32), some (28, false)⟩,
            ⟨(.t 34), .mv (.v 1), some (28, false)⟩,
            ⟨(.t 35), .mv (.v 3), some (28, false)⟩,
            ⟨(.t 36), .ia 2 (.t 34) (.t 35), some (28, false)⟩,
            ⟨(.t 37), .fa 1 (.t 36), some (28, false)⟩,
            ⟨(.t 38), .ld 1 false (.t 37), some (28, false)⟩,
            ⟨(.t 39), .call 38 [(.t 33), (.t 38)], some (28, false)⟩,
            ⟨(.t 40), .un .not (.t 39), some (28, false)⟩,
            ⟨(.t 41), .pick (.t 28) (.c (.bool true)) (.t 40), none⟩] (some [[], [], [0, 1], [2], [3], [], [], [5, 6], [7], [8], [4, 9], [10], [11], [11], [12, 13, 11], [14, 11], [15, 11], [11], [11], [17, 18, 11], [19, 11], [20, 11], [16, 21, 11, 11], [22, 11], [11, 23]]) ⟨[28], [], [], []⟩)
        (.cond (.t 41)
          (.seq (.reg 7 [] [
              ⟨(.v 2), .asg (.c (.bool false)), none⟩] none ⟨[], [], [], []⟩)
          .ret)
          .skip)))
      (.reg 5 [] [
          ⟨(.t 15), .mv (.v 3), none⟩,
          ⟨(.t 16), .bin .add (.t 15) (.c (.int .i64 1)), none⟩,
          ⟨(.v 3), .asg (.t 16), none⟩] none ⟨[], [], [], []⟩))))))
  (.seq (.reg 8 [] [
      ⟨(.v 2), .asg (.c (.bool true)), none⟩] none ⟨[], [], [], []⟩)
  .ret))))
theorem c32 : compFn Try.prog 32 F32 = some (2, strip a32, [.v 2]) ∧ lexAll a32 = true := ⟨by kernel_rfl, by kernel_rfl⟩
/-- clusterlocks/clusterlocksref08.SameBools -/
def F33 : Fr := ⟨26, [0, 1, 4, 5]⟩
def a33 : ACode :=
  (.seq (.reg 0 [] [
      ⟨(.v 2), .asg (.c (.bool false)), none⟩] none ⟨[], [], [], []⟩)
  (.seq (.seq (.reg 1 [] [
      ⟨(.t 6), .mv (.v 0), none⟩,
      ⟨(.t 7), .len (.t 6), none⟩,
      ⟨(.t 8), .mv (.v 1), none⟩,
      ⟨(.t 9), .len (.t 8), none⟩,
      ⟨(.t 10), .bin .neq (.t 7) (.t 9), none⟩] none ⟨[], [], [], []⟩)
  (.cond (.t 10)
    (.seq (.reg 2 [] [
        ⟨(.v 2), .asg (.c (.bool false)), none⟩] none ⟨[], [], [], []⟩)
    .ret)
    .skip))
  (.seq (.seq (.reg 3 [] [
      ⟨(.v 3), .asg (.c (.int .i64 0)), none⟩] none ⟨[], [], [], []⟩)
  (.block 0
    (.loop
      (.seq (.seq (.reg 4 [] [
          ⟨(.t 11), .mv (.v 3), none⟩,
          ⟨(.t 12), .mv (.v 0), none⟩,
          ⟨(.t 13), .len (.t 12), none⟩,
          ⟨(.t 14), .bin .lss (.t 11) (.t 13), none⟩] none ⟨[], [], [], []⟩)
      (.cond (.t 14)
        .skip
        (.exit 0)))
      (.seq (.block 1
        (.seq (.reg 6 [] [
            ⟨(.t 17), .mv (.v 0), none⟩,
            ⟨(.t 18), .mv (.v 3), none⟩,
            ⟨(.t 19), .ia 1 (.t 17) (.t 18), none⟩,
            ⟨(.t 20), .ld 1 false (.t 19), none⟩,
            ⟨(.t 21), .mv (.v 1), none⟩,
            ⟨(.t 22), .mv (.v 3), none⟩,
            ⟨(.t 23), .ia 1 (.t 21) (.t 22), none⟩,
            ⟨(.t 24), .ld 1 false (.t 23), none⟩,
            ⟨(.t 25), .bib .neq (.t 20) (.t 24), none⟩] (some [[], [], [0, 1], [2], [], [], [4, 5], [6], [3, 7]]) ⟨[], [], [], []⟩)
        (.cond (.t 25)
          (.seq (.reg 7 [] [
              ⟨(.v 2), .asg (.c (.bool false)), none⟩] none ⟨[], [], [], []⟩)
          .ret)
          .skip)))
      (.reg 5 [] [
          ⟨(.t 15), .mv (.v 3), none⟩,
          ⟨(.t 16), .bin .add (.t 15) (.c (.int .i64 1)), none⟩,
          ⟨(.v 3), .asg (.t 16), none⟩] none ⟨[], [], [], []⟩))))))
  (.seq (.reg 8 [] [
      ⟨(.v 2), .asg (.c (.bool true)), none⟩] none ⟨[], [], [], []⟩)
  .ret))))
theorem c33 : compFn Try.prog 33 F33 = some (2, strip a33, [.v 2]) ∧ lexAll a33 = true := ⟨by kernel_rfl, by kernel_rfl⟩
/-- slices.Contains[[]int,int] -/
def F34 : Fr := ⟨9, [0, 1, 4]⟩
def a34 : ACode :=
  (.seq (.reg 0 [] [
      ⟨(.v 2), .asg (.c (.bool false)), none⟩] none ⟨[], [], [], []⟩)
  (.seq (.reg 1 [] [
      ⟨(.t 5), .mv (.v 0), none⟩,
      ⟨(.t 6), .mv (.v 1), none⟩,
      ⟨(.t 7), .call 39 [(.t 5), (.t 6)], none⟩,
      ⟨(.t 8), .bin .geq (.t 7) (.c (.int .i64 0)), none⟩,
      ⟨(.v 2), .asg (.t 8), none⟩] none ⟨[], [], [], []⟩)
  .ret))
theorem c34 : compFn Try.prog 34 F34 = some (2, strip a34, [.v 2]) ∧ lexAll a34 = true := ⟨by kernel_rfl, by kernel_rfl⟩
/-- clusterlocks/clusterlocksref34.has -/
def F35 : Fr := ⟨17, [0, 1, 4, 6]⟩
def a35 : ACode :=
  (.seq (.reg 0 [] [
      ⟨(.v 2), .asg (.c (.bool false)), none⟩] none ⟨[], [], [], []⟩)
  (.seq (.seq (.reg 1 [] [
      ⟨(.t 7), .mv (.v 0), none⟩,
      ⟨(.t 8), .len (.t 7), none⟩,
      ⟨(.t 9), .mv (.c (.int .i64 0)), none⟩] none ⟨[], [], [], []⟩)
  (.block 0
    (.loop
      (.seq (.reg 2 [] [
          ⟨(.t 10), .bin .lss (.t 9) (.t 8), none⟩] none ⟨[], [], [], []⟩)
      (.seq (.cond (.t 10)
        .skip
        (.exit 0))
      (.seq (.block 1
        (.seq (.reg 3 [] [
            ⟨(.t 11), .ia 1 (.t 7) (.t 9), none⟩,
            ⟨(.t 12), .ld 1 false (.t 11), none⟩,
            ⟨(.v 3), .asg (.t 12), none⟩] none ⟨[], [], [], []⟩)
        (.seq (.reg 4 [] [
            ⟨(.t 13), .mv (.v 3), none⟩,
            ⟨(.t 14), .mv (.v 1), none⟩,
            ⟨(.t 15), .bin .eql (.t 13) (.t 14), none⟩] none ⟨[], [], [], []⟩)
        (.cond (.t 15)
          (.seq (.reg 5 [] [
              ⟨(.v 2), .asg (.c (.bool true)), none⟩] none ⟨[], [], [], []⟩)
          .ret)
          .skip))))
      (.reg 6 [] [
          ⟨(.t 16), .bin .add (.t 9) (.c (.int .i64 1)), none⟩,
          ⟨(.t 9), .mv (.t 16), none⟩] none ⟨[], [], [], []⟩)))))))
  (.seq (.reg 7 [] [
      ⟨(.v 2), .asg (.c (.bool false)), none⟩] none ⟨[], [], [], []⟩)
  .ret)))
theorem c35 : compFn Try.prog 35 F35 = some (2, strip a35, [.v 2]) ∧ lexAll a35 = true := ⟨by kernel_rfl, by kernel_rfl⟩
/-- clusterlocks/clusterlocksref19.distances -/
def F36 : Fr := ⟨75, [0, 1, 4, 5, 6, 7, 8, 9]⟩
def a36 : ACode :=
  (.seq (.reg 0 [] [
      ⟨(.v 2), .asg (.c (.slice none 0 0)), none⟩] none ⟨[], [], [], []⟩)
  (.seq (.reg 1 [] [
      ⟨(.t 10), .mv (.v 0), none⟩,
      ⟨(.t 11), .len (.t 10), none⟩,
      ⟨(.t 12), .mk 3 1 8 (.int .i64 0) (.t 11) (.t 11), none⟩,
      ⟨(.v 3), .asg (.t 12), none⟩] none ⟨[], [], [], []⟩)
  (.seq (.seq (.reg 2 [] [
      ⟨(.v 4), .asg (.c (.int .i64 1)), none⟩] none ⟨[], [], [], []⟩)
  (.block 0
    (.loop
      (.seq (.seq (.reg 3 [] [
          ⟨(.t 13), .mv (.v 4), none⟩,
          ⟨(.t 14), .mv (.v 0), none⟩,
          ⟨(.t 15), .len (.t 14), none⟩,
          ⟨(.t 16), .bin .leq (.t 13) (.t 15), none⟩] none ⟨[], [], [], []⟩)
      (.cond (.t 16)
        .skip
        (.exit 0)))
      (.seq (.block 1
        (.seq (.reg 5 [] [
            ⟨(.v 5), .asg (.c (.int .i64 0)), none⟩] none ⟨[], [], [], []⟩)
        (.block 2
          (.loop
            (.seq (.seq (.reg 6 [] [
                ⟨(.t 19), .mv (.v 5), none⟩,
                ⟨(.t 20), .mv (.v 0), none⟩,
                ⟨(.t 21), .len (.t 20), none⟩,
                ⟨(.t 22), .bin .lss (.t 19) (.t 21), none⟩] none ⟨[], [], [], []⟩)
            (.cond (.t 22)
              .skip
              (.exit 2)))
            (.seq (.block 3
              (.seq (.reg 8 [] [
                  ⟨(.v 6), .asg (.c (.int .i64 0)), none⟩] none ⟨[], [], [], []⟩)
              (.block 4
                (.loop
                  (.seq (.seq (.reg 9 [] [
                      ⟨(.t 25), .mv (.v 6), none⟩,
                      ⟨(.t 26), .mv (.v 0), none⟩,
                      ⟨(.t 27), .mv (.v 5), none⟩,
                      ⟨(.t 28), .ia 2 (.t 26) (.t 27), none⟩,
                      ⟨(.t 29), .fa 1 (.t 28), none⟩,
                      ⟨(.t 30), .ld 1 false (.t 29), none⟩,
                      ⟨(.t 31), .len (.t 30), none⟩,
                      ⟨(.t 32), .bin .lss (.t 25) (.t 31), none⟩,
                      ⟨(.t 33), .mv (.t 32), none⟩,
                      ⟨(.t 34), .mv (.v 3), some (33, true)⟩,
                      ⟨(.t 35), .mv (.v 5), some (33, true)⟩,
                      ⟨(.t 36), .ia 1 (.t 34) (.t 35), some (33, true)⟩,
                      ⟨(.t 37), .ld 1 false (.t 36), some (33, true)⟩,
                      ⟨(.t 38), .bin .eql (.t 37) (.c (.int .i64 0)), some (33, true)⟩,
                      ⟨(.t 39), .pick (.t 33) (.t 38) (.c (.bool false)), none⟩] none ⟨[], [], [], []⟩)
                  (.cond (.t 39)
                    .skip
                    (.exit 4)))
                  (.seq (.block 5
                    (.seq (.reg 11 [] [
                        ⟨(.t 42), .mv (.v 0), none⟩,
                        ⟨(.t 43), .mv (.v 5), none⟩,
                        ⟨(.t 44), .ia 2 (.t 42) (.t 43), none⟩,
                        ⟨(.t 45), .fa 1 (.t 44), none⟩,
                        ⟨(.t 46), .ld 1 false (.t 45), none⟩,
                        ⟨(.t 47), .mv (.v 6), none⟩,
                        ⟨(.t 48), .ia 1 (.t 46) (.t 47), none⟩,
                        ⟨(.t 49), .ld 1 false (.t 48), none⟩,
                        ⟨(.v 7), .asg (.t 49), none⟩] none ⟨[], [], [], []⟩)
                    (.seq (.reg 12 [] [
                        ⟨(.t 50), .mv (.v 4), none⟩,
                        ⟨(.t 51), .bin .eql (.t 50) (.c (.int .i64 1)), none⟩,
                        ⟨(.t 52), .mv (.t 51), none⟩,
                        ⟨(.t 53), .mv (.v 7), some (52, true)⟩,
                        ⟨(.t 54), .mv (.v 1), some (52, true)⟩,
                        ⟨(.t 55), .bin .eql (.t 53) (.t 54), some (52, true)⟩,
                        ⟨(.t 56), .pick (.t 52) (.t 55) (.c (.bool false)), none⟩,
                        ⟨(.t 57), .mv (.t 56), none⟩,
                        ⟨(.t 58), .mv (.v 4), some (57, false)⟩,
                        ⟨(.t 59), .bin .gtr (.t 58) (.c (.int .i64 1)), some (57, false)⟩,
                        ⟨(.t 60), .mv (.t 59), some (57, false)⟩,
                        ⟨(.t 61), .mv (.v 3), some (60, true)⟩,
                        ⟨(.t 62), .mv (.v 7), some (60, true)⟩,
                        ⟨(.t 63), .ia 1 (.t 61) (.t 62), some (60, true)⟩,
                        ⟨(.t 64), .ld 1 false (.t 63), some (60, true)⟩,
                        ⟨(.t 65), .mv (.v 4), some (60, true)⟩,
                        ⟨(.t 66), .bin .sub (.t 65) (.c (.int .i64 1)), some (60, true)⟩,
                        ⟨(.t 67), .bin .eql (.t 64) (.t 66), some (60, true)⟩,
                        ⟨(.t 68), .pick (.t 60) (.t 67) (.c (.bool false)), some (57, false)⟩,
                        ⟨(.t 69), .pick (.t 57) (.c (.bool true)) (.t 68), none⟩] none ⟨[], [], [], []⟩)
                    (.cond (.t 69)
                      (.reg 13 [] [
                          ⟨(.t 70), .mv (.v 3), none⟩,
                          ⟨(.t 71), .mv (.v 5), none⟩,
                          ⟨(.t 72), .mv (.v 4), none⟩,
                          ⟨(.t 73), .ia 1 (.t 70) (.t 71), none⟩,
                          ⟨.none, .st 1 (.t 73) (.t 72), none⟩] none ⟨[], [], [], []⟩)
                      .skip))))
                  (.reg 10 [] [
                      ⟨(.t 40), .mv (.v 6), none⟩,
                      ⟨(.t 41), .bin .add (.t 40) (.c (.int .i64 1)), none⟩,
                      ⟨(.v 6), .asg (.t 41), none⟩] none ⟨[], [], [], []⟩)))))))
            (.reg 7 [] [
                ⟨(.t 23), .mv (.v 5), none⟩,
                ⟨(.t 24), .bin .add (.t 23) (.c (.int .i64 1)), none⟩,
                ⟨(.v 5), .asg (.t 24), none⟩] none ⟨[], [], [], []⟩)))))))
      (.reg 4 [] [
          ⟨(.t 17), .mv (.v 4), none⟩,
          ⟨(.t 18), .bin .add (.t 17) (.c (.int .i64 1)), none⟩,
          ⟨(.v 4), .asg (.t 18), none⟩] none ⟨[], [], [], []⟩))))))
  (.seq (.reg 14 [.freeze (.var 3)] [
      ⟨(.t 74), .mv (.v 3), none⟩,
      ⟨(.v 2), .asg (.t 74), none⟩] none ⟨[], [], [], []⟩)
  .ret))))
theorem c36 : compFn Try.prog 36 F36 = some (2, strip a36, [.v 2]) ∧ lexAll a36 = true := ⟨by kernel_rfl, by kernel_rfl⟩
/-- slices.Clone[[]int,int] -/
def F37 : Fr := ⟨8, [0, 2]⟩
def a37 : ACode :=
  (.seq (.reg 0 [] [
      ⟨(.v 1), .asg (.c (.slice none 0 0)), none⟩] none ⟨[], [], [], []⟩)
  (.seq (.seq (.reg 1 [] [
      ⟨(.t 3), .mv (.v 0), none⟩,
      ⟨(.t 4), .isn false (.t 3), none⟩] none ⟨[], [], [], []⟩)
  (.cond (.t 4)
    (.seq (.reg 2 [] [
        ⟨(.v 1), .asg (.c (.slice none 0 0)), none⟩] none ⟨[], [], [], []⟩)
    .ret)
    .skip))
  (.seq (.reg 3 [] [
      ⟨(.t 5), .bls 3 1 (.int .i64 0) 0 [], none⟩,
      ⟨(.t 6), .mv (.v 0), none⟩,
      ⟨(.t 7), .app 3 1 8 (.t 5) (.t 6), none⟩,
      ⟨(.v 1), .asg (.t 7), none⟩] none ⟨[], [], [], []⟩)
  .ret)))
theorem c37 : compFn Try.prog 37 F37 = some (1, strip a37, [.v 1]) ∧ lexAll a37 = true := ⟨by kernel_rfl, by kernel_rfl⟩
/-- clusterlocks/clusterlocksref19.SameInts -/
def F38 : Fr := ⟨26, [0, 1, 4, 5]⟩
def a38 : ACode :=
  (.seq (.reg 0 [] [
      ⟨(.v 2), .asg (.c (.bool false)), none⟩] none ⟨[], [], [], []⟩)
  (.seq (.seq (.reg 1 [] [
      ⟨(.t 6), .mv (.v 0), none⟩,
      ⟨(.t 7), .len (.t 6), none⟩,
      ⟨(.t 8), .mv (.v 1), none⟩,
      ⟨(.t 9), .len (.t 8), none⟩,
      ⟨(.t 10), .bin .neq (.t 7) (.t 9), none⟩] none ⟨[], [], [], []⟩)
  (.cond (.t 10)
    (.seq (.reg 2 [] [
        ⟨(.v 2), .asg (.c (.bool false)), none⟩] none ⟨[], [], [], []⟩)
    .ret)
    .skip))
  (.seq (.seq (.reg 3 [] [
      ⟨(.v 3), .asg (.c (.int .i64 0)), none⟩] none ⟨[], [], [], []⟩)
  (.block 0
    (.loop
      (.seq (.seq (.reg 4 [] [
          ⟨(.t 11), .mv (.v 3), none⟩,
          ⟨(.t 12), .mv (.v 0), none⟩,
          ⟨(.t 13), .len (.t 12), none⟩,
          ⟨(.t 14), .bin .lss (.t 11) (.t 13), none⟩] none ⟨[], [], [], []⟩)
      (.cond (.t 14)
        .skip
        (.exit 0)))
      (.seq (.block 1
        (.seq (.reg 6 [] [
            ⟨(.t 17), .mv (.v 0), none⟩,
            ⟨(.t 18), .mv (.v 3), none⟩,
            ⟨(.t 19), .ia 1 (.t 17) (.t 18), none⟩,
            ⟨(.t 20), .ld 1 false (.t 19), none⟩,
            ⟨(.t 21), .mv (.v 1), none⟩,
            ⟨(.t 22), .mv (.v 3), none⟩,
            ⟨(.t 23), .ia 1 (.t 21) (.t 22), none⟩,
            ⟨(.t 24), .ld 1 false (.t 23), none⟩,
            ⟨(.t 25), .bin .neq (.t 20) (.t 24), none⟩] (some [[], [], [0, 1], [2], [], [], [4, 5], [6], [3, 7]]) ⟨[], [], [], []⟩)
        (.cond (.t 25)
          (.seq (.reg 7 [] [
              ⟨(.v 2), .asg (.c (.bool false)), none⟩] none ⟨[], [], [], []⟩)
          .ret)
          .skip)))
      (.reg 5 [] [
          ⟨(.t 15), .mv (.v 3), none⟩,
          ⟨(.t 16), .bin .add (.t 15) (.c (.int .i64 1)), none⟩,
          ⟨(.v 3), .asg (.t 16), none⟩] none ⟨[], [], [], []⟩))))))
  (.seq (.reg 8 [] [
      ⟨(.v 2), .asg (.c (.bool true)), none⟩] none ⟨[], [], [], []⟩)
  .ret))))
theorem c38 : compFn Try.prog 38 F38 = some (2, strip a38, [.v 2]) ∧ lexAll a38 = true := ⟨by kernel_rfl, by kernel_rfl⟩
/-- slices.Index[[]int,int] -/
def F39 : Fr := ⟨19, [0, 1, 4, 5]⟩
def a39 : ACode :=
  (.seq (.reg 0 [] [
      ⟨(.v 2), .asg (.c (.int .i64 0)), none⟩] none ⟨[], [], [], []⟩)
  (.seq (.seq (.reg 1 [] [
      ⟨(.t 6), .mv (.v 0), none⟩,
      ⟨(.t 7), .len (.t 6), none⟩,
      ⟨(.t 8), .mv (.c (.int .i64 0)), none⟩] none ⟨[], [], [], []⟩)
  (.block 0
    (.loop
      (.seq (.reg 2 [] [
          ⟨(.t 9), .bin .lss (.t 8) (.t 7), none⟩] none ⟨[], [], [], []⟩)
      (.seq (.cond (.t 9)
        .skip
        (.exit 0))
      (.seq (.block 1
        (.seq (.reg 3 [] [
            ⟨(.t 10), .mv (.t 8), none⟩,
            ⟨(.v 3), .asg (.t 10), none⟩] none ⟨[], [], [], []⟩)
        (.seq (.reg 4 [] [
            ⟨(.t 11), .mv (.v 1), none⟩,
            ⟨(.t 12), .mv (.v 0), none⟩,
            ⟨(.t 13), .mv (.v 3), none⟩,
            ⟨(.t 14), .ia 1 (.t 12) (.t 13), none⟩,
            ⟨(.t 15), .ld 1 false (.t 14), none⟩,
            ⟨(.t 16), .bin .eql (.t 11) (.t 15), none⟩] none ⟨[], [], [], []⟩)
        (.cond (.t 16)
          (.seq (.reg 5 [] [
              ⟨(.t 17), .mv (.v 3), none⟩,
              ⟨(.v 2), .asg (.t 17), none⟩] none ⟨[], [], [], []⟩)
          .ret)
          .skip))))
      (.reg 6 [] [
          ⟨(.t 18), .bin .add (.t 8) (.c (.int .i64 1)), none⟩,
          ⟨(.t 8), .mv (.t 18), none⟩] none ⟨[], [], [], []⟩)))))))
  (.seq (.reg 7 [] [
      ⟨(.v 2), .asg (.c (.int .i64 (-1))), none⟩] none ⟨[], [], [], []⟩)
  .ret)))
theorem c39 : compFn Try.prog 39 F39 = some (2, strip a39, [.v 2]) ∧ lexAll a39 = true := ⟨by kernel_rfl, by kernel_rfl⟩
theorem mixed : Try.prog.follows .mixedOrders = true := by kernel_rfl
end Go.Proofs.Ytbbhenjhghbimaa

namespace Go.Proofs.Ytbbhenjhghbimaa
open Go.RowKit
def a3b : ACode :=
  (.seq (.reg 0 [] [
      ⟨(.t 6), .box 5 (.v 1), none⟩,
      ⟨(.v 5), .asg (.c (.bool false)), none⟩] none ⟨[], [], [], []⟩)
  (.seq (.seq (.reg 1 [] [
      ⟨(.t 30), .mv (.v 0), none⟩,
      ⟨(.t 31), .call 7 [(.t 30)], none⟩,
      ⟨(.t 32), .un .not (.t 31), none⟩,
      ⟨(.t 33), .mv (.t 32), none⟩,
      ⟨(.t 34), .fa 0 (.t 6), some (33, false)⟩,
      ⟨(.t 35), .ld 1 false (.t 34), some (33, false)⟩,
      ⟨(.t 36), .call 7 [(.t 35)], some (33, false)⟩,
      ⟨(.t 37), .un .not (.t 36), some (33, false)⟩,
      ⟨(.t 38), .pick (.t 33) (.c (.bool true)) (.t 37), none⟩,
      ⟨(.t 39), .mv (.t 38), none⟩,
      ⟨(.t 40), .fa 2 (.t 6), some (39, false)⟩,
      ⟨(.t 41), .ld 1 false (.t 40), some (39, false)⟩,
      ⟨(.t 42), .len (.t 41), some (39, false)⟩,
      ⟨(.t 43), .bin .gtr (.t 42) (.c (.int .i64 100)), some (39, false)⟩,
      ⟨(.t 44), .pick (.t 39) (.c (.bool true)) (.t 43), none⟩,
      ⟨(.t 45), .mv (.t 44), none⟩,
      ⟨(.t 46), .fa 3 (.t 6), some (45, false)⟩,
      ⟨(.t 47), .ld 1 false (.t 46), some (45, false)⟩,
      ⟨(.t 48), .len (.t 47), some (45, false)⟩,
      ⟨(.t 49), .bin .gtr (.t 48) (.c (.int .i64 40)), some (45, false)⟩,
      ⟨(.t 50), .pick (.t 45) (.c (.bool true)) (.t 49), none⟩,
      ⟨(.t 51), .mv (.t 50), none⟩,
      ⟨(.t 52), .mv (.v 3), some (51, false)⟩,
      ⟨(.t 53), .len (.t 52), some (51, false)⟩,
      ⟨(.t 54), .bin .gtr (.t 53) (.c (.int .i64 120)), some (51, false)⟩,
      ⟨(.t 55), .pick (.t 51) (.c (.bool true)) (.t 54), none⟩,
      ⟨(.t 56), .mv (.t 55), none⟩,
      ⟨(.t 57), .mv (.v 4), some (56, false)⟩,
      ⟨(.t 58), .len (.t 57), some (56, false)⟩,
      ⟨(.t 59), .bin .gtr (.t 58) (.c (.int .i64 60)), some (56, false)⟩,
      ⟨(.t 60), .pick (.t 56) (.c (.bool true)) (.t 59), none⟩] none ⟨[], [], [], []⟩)
  (.cond (.t 60)
    (.seq (.reg 2 [] [
        ⟨(.t 61), .call 8 [], none⟩,
        ⟨(.v 5), .asg (.t 61), none⟩] none ⟨[], [], [], []⟩)
    .ret)
    .skip))
  (.seq (.reg 3 [] [
      ⟨(.t 62), .mv (.v 3), none⟩,
      ⟨(.t 63), .call 9 [(.t 62), (.c (.bool false))], none⟩,
      ⟨(.v 6), .asg (.t 63), none⟩] none ⟨[], [], [], []⟩)
  (.seq (.seq (.reg 4 [] [
      ⟨(.v 7), .asg (.c (.int .i64 (-1))), none⟩] none ⟨[], [], [], []⟩)
  (.block 0
    (.loop
      (.seq (.seq (.reg 5 [] [
          ⟨(.t 64), .mv (.v 7), none⟩,
          ⟨(.t 65), .mv (.v 6), none⟩,
          ⟨(.t 66), .len (.t 65), none⟩,
          ⟨(.t 67), .bin .leq (.t 64) (.t 66), none⟩] none ⟨[], [], [], []⟩)
      (.cond (.t 67)
        .skip
        (.exit 0)))
      (.seq (.block 1
        (.seq (.reg 7 [] [
            ⟨(.t 71), .mv (.v 6), none⟩,
            ⟨(.t 72), .mv (.v 7), none⟩,
            ⟨(.t 73), .call 10 [(.t 71), (.t 72)], none⟩,
            ⟨(.t 70), .mv (.t 73), none⟩,
            ⟨(.t 74), .ext 70 0, none⟩,
            ⟨(.t 75), .ext 70 1, none⟩,
            ⟨(.t 13), .allo [(.slice none 0 0), (.int .i64 0), (.slice none 0 0), (.slice none 0 0), (.bool false)], none⟩,
            ⟨.none, .st 5 (.t 13) (.t 74), none⟩,
            ⟨(.v 8), .asg (.t 75), none⟩] none ⟨[], [], [], []⟩)
        (.seq (.reg 8 [] [
            ⟨(.t 77), .mv (.v 6), none⟩,
            ⟨(.t 78), .mv (.v 7), none⟩,
            ⟨(.t 79), .call 11 [(.t 77), (.t 78)], none⟩,
            ⟨(.t 76), .mv (.t 79), none⟩,
            ⟨(.t 80), .ext 76 0, none⟩,
            ⟨(.t 81), .ext 76 1, none⟩,
            ⟨(.t 15), .allo [(.slice none 0 0), (.int .i64 0), (.slice none 0 0), (.slice none 0 0), (.bool false)], none⟩,
            ⟨.none, .st 5 (.t 15) (.t 80), none⟩,
            ⟨(.v 9), .asg (.t 81), none⟩] none ⟨[], [], [], []⟩)
        (.seq (.seq (.reg 9 [.freeze (.cell 2 0), .freeze (.cell 2 2), .freeze (.cell 2 3)] [
            ⟨(.t 82), .mv (.v 8), none⟩,
            ⟨(.t 83), .mv (.v 9), none⟩,
            ⟨(.t 84), .bin .neq (.t 82) (.t 83), none⟩,
            ⟨(.t 85), .mv (.t 84), none⟩,
            ⟨(.t 86), .ld 5 true (.t 13), some (85, false)⟩,
            ⟨(.t 87), .ld 5 true (.t 15), some (85, false)⟩,
            ⟨(.t 88), .call 12 [(.t 86), (.t 87)], some (85, false)⟩,
            ⟨(.t 89), .un .not (.t 88), some (85, false)⟩,
            ⟨(.t 90), .pick (.t 85) (.c (.bool true)) (.t 89), none⟩] none ⟨[], [], [], []⟩)
        (.cond (.t 90)
          (.seq (.reg 10 [] [
              ⟨(.v 5), .asg (.c (.bool false)), none⟩] none ⟨[], [], [], []⟩)
          .ret)
          .skip))
        (.seq (.reg 11 [] [
            ⟨(.t 91), .mv (.v 4), none⟩,
            ⟨(.t 92), .len (.t 91), none⟩,
            ⟨(.t 93), .mv (.c (.int .i64 0)), none⟩] none ⟨[], [], [], []⟩)
        (.block 2
          (.loop
            (.seq (.reg 12 [] [
                ⟨(.t 94), .bin .lss (.t 93) (.t 92), none⟩] none ⟨[], [], [], []⟩)
            (.seq (.cond (.t 94)
              .skip
              (.exit 2))
            (.seq (.block 3
              (.seq (.reg 13 [] [
                  ⟨(.t 95), .ia 1 (.t 91) (.t 93), none⟩,
                  ⟨(.t 96), .ld 1 false (.t 95), none⟩,
                  ⟨(.v 10), .asg (.t 96), none⟩] none ⟨[], [], [], []⟩)
              (.seq (.seq (.reg 14 [] [
                  ⟨(.t 97), .mv (.v 9), none⟩,
                  ⟨(.t 98), .bin .neq (.t 97) (.c (.int .i64 0)), none⟩,
                  ⟨(.t 99), .mv (.t 98), none⟩,
                  ⟨(.t 100), .fa 2 (.t 15), some (99, false)⟩,
                  ⟨(.t 101), .ld 1 false (.t 100), some (99, false)⟩,
                  ⟨(.t 102), .len (.t 101), some (99, false)⟩,
                  ⟨(.t 103), .bin .eql (.t 102) (.c (.int .i64 0)), some (99, false)⟩,
                  ⟨(.t 104), .pick (.t 99) (.c (.bool true)) (.t 103), none⟩] none ⟨[], [], [], []⟩)
              (.cond (.t 104)
                (.exit 2)
                .skip))
              (.seq (.reg 15 [] [
                  ⟨(.t 105), .mv (.v 10), none⟩,
                  ⟨(.t 106), .fa 2 (.t 15), none⟩,
                  ⟨(.t 107), .ld 1 false (.t 106), none⟩,
                  ⟨(.t 108), .len (.t 107), none⟩,
                  ⟨(.t 109), .bin .add (.t 108) (.c (.int .i64 1)), none⟩,
                  ⟨(.t 110), .call 13 [(.t 105), (.t 109)], none⟩,
                  ⟨(.v 11), .asg (.t 110), none⟩] none ⟨[], [], [], []⟩)
              (.seq (.reg 16 [] [
                  ⟨(.t 112), .ld 5 true (.t 15), none⟩,
                  ⟨(.t 113), .mv (.v 11), none⟩,
                  ⟨(.t 114), .call 14 [(.t 112), (.t 113)], none⟩,
                  ⟨(.t 111), .mv (.t 114), none⟩,
                  ⟨(.t 115), .ext 111 0, none⟩,
                  ⟨(.t 116), .ext 111 1, none⟩,
                  ⟨.none, .st 5 (.t 13) (.t 115), none⟩,
                  ⟨(.v 8), .asg (.t 116), none⟩] none ⟨[], [], [], []⟩)
              (.seq (.reg 17 [] [
                  ⟨(.t 118), .ld 5 true (.t 15), none⟩,
                  ⟨(.t 119), .mv (.v 11), none⟩,
                  ⟨(.t 120), .call 15 [(.t 118), (.t 119)], none⟩,
                  ⟨(.t 117), .mv (.t 120), none⟩,
                  ⟨(.t 121), .ext 117 0, none⟩,
                  ⟨(.t 122), .ext 117 1, none⟩,
                  ⟨(.t 20), .allo [(.slice none 0 0), (.int .i64 0), (.slice none 0 0), (.slice none 0 0), (.bool false)], none⟩,
                  ⟨.none, .st 5 (.t 20) (.t 121), none⟩,
                  ⟨(.v 12), .asg (.t 122), none⟩] none ⟨[], [], [], []⟩)
              (.seq (.seq (.reg 18 [] [
                  ⟨(.t 123), .mv (.v 8), none⟩,
                  ⟨(.t 124), .mv (.v 12), none⟩,
                  ⟨(.t 125), .bin .neq (.t 123) (.t 124), none⟩,
                  ⟨(.t 126), .mv (.t 125), none⟩,
                  ⟨(.t 127), .ld 5 true (.t 13), some (126, false)⟩,
                  ⟨(.t 128), .ld 5 true (.t 20), some (126, false)⟩,
                  ⟨(.t 129), .call 12 [(.t 127), (.t 128)], some (126, false)⟩,
                  ⟨(.t 130), .un .not (.t 129), some (126, false)⟩,
                  ⟨(.t 131), .pick (.t 126) (.c (.bool true)) (.t 130), none⟩,
                  ⟨(.t 132), .mv (.t 131), none⟩,
                  ⟨(.t 133), .ld 5 true (.t 15), some (132, false)⟩,
                  ⟨(.t 134), .call 16 [(.t 133)], some (132, false)⟩,
                  ⟨(.t 135), .ld 5 true (.t 15), some (132, false)⟩,
                  ⟨(.t 136), .call 17 [(.t 135)], some (132, false)⟩,
                  ⟨(.t 137), .bib .neq (.t 134) (.t 136), some (132, false)⟩,
                  ⟨(.t 138), .pick (.t 132) (.c (.bool true)) (.t 137), none⟩] (some [[], [], [0, 1], [2], [3], [3], [4, 5, 3, 3], [6, 3], [3, 7], [8, 6], [9], [10, 9, 9], [9], [12, 11, 9], [11, 13, 9], [9, 14]]) ⟨[126, 15, 132], [], [], []⟩)
              (.cond (.t 138)
                (.seq (.reg 19 [] [
                    ⟨(.v 5), .asg (.c (.bool false)), none⟩] none ⟨[], [], [], []⟩)
                .ret)
                .skip))
              (.seq (.reg 20 [] [
                  ⟨(.t 139), .mv (.v 12), none⟩,
                  ⟨(.t 140), .bin .eql (.t 139) (.c (.int .i64 0)), none⟩] none ⟨[], [], [], []⟩)
              (.cond (.t 140)
                (.reg 21 [] [
                    ⟨(.t 141), .ld 5 true (.t 20), none⟩,
                    ⟨.none, .st 5 (.t 15) (.t 141), none⟩] none ⟨[], [], [], []⟩)
                .skip)))))))))
            (.reg 22 [] [
                ⟨(.t 142), .bin .add (.t 93) (.c (.int .i64 1)), none⟩,
                ⟨(.t 93), .mv (.t 142), none⟩] none ⟨[], [], [], []⟩)))))))))))
      (.reg 6 [] [
          ⟨(.t 68), .mv (.v 7), none⟩,
          ⟨(.t 69), .bin .add (.t 68) (.c (.int .i64 1)), none⟩,
          ⟨(.v 7), .asg (.t 69), none⟩] none ⟨[], [], [], []⟩))))))
  (.seq (.reg 23 [] [
      ⟨(.t 144), .mv (.v 0), none⟩,
      ⟨(.t 145), .mv (.v 2), none⟩,
      ⟨(.t 146), .call 10 [(.t 144), (.t 145)], none⟩,
      ⟨(.t 143), .mv (.t 146), none⟩,
      ⟨(.t 147), .ext 143 0, none⟩,
      ⟨(.t 148), .ext 143 1, none⟩,
      ⟨(.t 22), .allo [(.slice none 0 0), (.int .i64 0), (.slice none 0 0), (.slice none 0 0), (.bool false)], none⟩,
      ⟨.none, .st 5 (.t 22) (.t 147), none⟩,
      ⟨(.v 13), .asg (.t 148), none⟩] none ⟨[], [], [], []⟩)
  (.seq (.reg 24 [] [
      ⟨(.t 150), .mv (.v 0), none⟩,
      ⟨(.t 151), .mv (.v 2), none⟩,
      ⟨(.t 152), .call 11 [(.t 150), (.t 151)], none⟩,
      ⟨(.t 149), .mv (.t 152), none⟩,
      ⟨(.t 153), .ext 149 0, none⟩,
      ⟨(.t 154), .ext 149 1, none⟩,
      ⟨(.t 24), .allo [(.slice none 0 0), (.int .i64 0), (.slice none 0 0), (.slice none 0 0), (.bool false)], none⟩,
      ⟨.none, .st 5 (.t 24) (.t 153), none⟩,
      ⟨(.v 14), .asg (.t 154), none⟩] none ⟨[], [], [], []⟩)
  (.seq (.reg 25 [.freeze (.cell 2 0), .freeze (.cell 2 2), .freeze (.cell 2 3)] [
      ⟨(.t 156), .ld 5 true (.t 6), none⟩,
      ⟨(.t 157), .mv (.v 2), none⟩,
      ⟨(.t 158), .call 14 [(.t 156), (.t 157)], none⟩,
      ⟨(.t 155), .mv (.t 158), none⟩,
      ⟨(.t 159), .ext 155 0, none⟩,
      ⟨(.t 160), .ext 155 1, none⟩,
      ⟨(.t 26), .allo [(.slice none 0 0), (.int .i64 0), (.slice none 0 0), (.slice none 0 0), (.bool false)], none⟩,
      ⟨.none, .st 5 (.t 26) (.t 159), none⟩,
      ⟨(.v 15), .asg (.t 160), none⟩] none ⟨[], [], [], []⟩)
  (.seq (.reg 26 [] [
      ⟨(.t 162), .ld 5 true (.t 6), none⟩,
      ⟨(.t 163), .mv (.v 2), none⟩,
      ⟨(.t 164), .call 15 [(.t 162), (.t 163)], none⟩,
      ⟨(.t 161), .mv (.t 164), none⟩,
      ⟨(.t 165), .ext 161 0, none⟩,
      ⟨(.t 166), .ext 161 1, none⟩,
      ⟨(.t 28), .allo [(.slice none 0 0), (.int .i64 0), (.slice none 0 0), (.slice none 0 0), (.bool false)], none⟩,
      ⟨.none, .st 5 (.t 28) (.t 165), none⟩,
      ⟨(.v 16), .asg (.t 166), none⟩] none ⟨[], [], [], []⟩)
  (.seq (.reg 27 [] [
      ⟨(.t 167), .call 8 [], none⟩,
      ⟨(.t 168), .mv (.t 167), none⟩,
      ⟨(.t 169), .mv (.v 13), some (168, true)⟩,
      ⟨(.t 170), .mv (.v 14), some (168, true)⟩,
      ⟨(.t 171), .bin .eql (.t 169) (.t 170), some (168, true)⟩,
      ⟨(.t 172), .pick (.t 168) (.t 171) (.c (.bool false)), none⟩,
      ⟨(.t 173), .mv (.t 172), none⟩,
      ⟨(.t 174), .mv (.v 15), some (173, true)⟩,
      ⟨(.t 175), .mv (.v 16), some (173, true)⟩,
      ⟨(.t 176), .bin .eql (.t 174) (.t 175), some (173, true)⟩,
      ⟨(.t 177), .pick (.t 173) (.t 176) (.c (.bool false)), none⟩,
      ⟨(.t 178), .mv (.t 177), none⟩,
      ⟨(.t 179), .ld 5 true (.t 22), some (178, true)⟩,
      ⟨(.t 180), .ld 5 true (.t 24), some (178, true)⟩,
      ⟨(.t 181), .call 12 [(.t 179), (.t 180)], some (178, true)⟩,
      ⟨(.t 182), .pick (.t 178) (.t 181) (.c (.bool false)), none⟩,
      ⟨(.t 183), .mv (.t 182), none⟩,
      ⟨(.t 184), .ld 5 true (.t 26), some (183, true)⟩,
      ⟨(.t 185), .ld 5 true (.t 28), some (183, true)⟩,
      ⟨(.t 186), .call 12 [(.t 184), (.t 185)], some (183, true)⟩,
      ⟨(.t 187), .pick (.t 183) (.t 186) (.c (.bool false)), none⟩,
      ⟨(.t 188), .mv (.t 187), none⟩,
      ⟨(.t 189), .ld 5 true (.t 6), some (188, true)⟩,
      ⟨(.t 190), .call 18 [(.t 189)], some (188, true)⟩,
      ⟨(.t 191), .ld 5 true (.t 6), some (188, true)⟩,
      ⟨(.t 192), .call 19 [(.t 191)], some (188, true)⟩,
      ⟨(.t 193), .bib .eql (.t 190) (.t 192), some (188, true)⟩,
      ⟨(.t 194), .pick (.t 188) (.t 193) (.c (.bool false)), none⟩,
      ⟨(.t 195), .mv (.t 194), none⟩,
      ⟨(.t 196), .ld 5 true (.t 6), some (195, true)⟩,
      ⟨(.t 197), .call 16 [(.t 196)], some (195, true)⟩,
      ⟨(.t 198), .ld 5 true (.t 6), some (195, true)⟩,
      ⟨(.t 199), .call 17 [(.t 198)], some (195, true)⟩,
      ⟨(.t 200), .bib .eql (.t 197) (.t 199), some (195, true)⟩,
      ⟨(.t 201), .pick (.t 195) (.t 200) (.c (.bool false)), none⟩,
      ⟨(.v 5), .asg (.t 201), none⟩] (some [[], [0, 0], [1], [1], [2, 3, 1], [1, 4], [5, 1], [6], [6], [7, 8, 6], [6, 9], [10, 6], [11], [11], [12, 13, 11, 11], [11, 14], [15, 14], [16], [16], [17, 18, 16, 16], [16, 19], [20, 19], [21], [22, 21, 21], [21], [24, 23, 21], [23, 25, 21], [21, 26], [27, 25], [28], [29, 28, 28], [28], [31, 30, 28], [30, 32, 28], [28, 33], [34, 32, 0, 1, 2, 3, 4, 5, 6, 7, 8, 9, 10, 11, 12, 13, 14, 15, 16, 17, 18, 19, 20, 21, 22, 23, 24, 25, 26, 27, 28, 29, 30, 31, 32, 33, 34]]) ⟨[168, 173, 178, 183, 6, 188, 195], [], [], []⟩)
  .ret)))))))))
theorem c3b : compFn Try.prog 3 F3 = some (5, strip a3b, [.v 5]) ∧ lexAll a3b = true := ⟨by kernel_rfl, by kernel_rfl⟩
end Go.Proofs.Ytbbhenjhghbimaa
