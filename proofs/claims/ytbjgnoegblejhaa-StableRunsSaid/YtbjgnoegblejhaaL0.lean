/- The functions of this seat as trees' code (printed). -/
import Derived.Test.YtbjgnoegblejhaaG3
import Derived.Tactics
import Derived.IntWalk
import Derived.Test.YtbjgnoegblejhaaProg
set_option linter.unusedVariables false
set_option linter.unusedSimpArgs false
namespace Go.Proofs.Ytbjgnoegblejhaa
open Go.RowKit Go.Proofs
/-- clusterlocks/clusterlockslaw26.StableActs -/
def F3 : Fr := ⟨113, [0, 1, 2, 6, 7, 8, 9, 10, 11, 12, 14, 16, 18, 20]⟩
def a3 : ACode :=
  (.seq (.reg 0 [] [
      ⟨(.t 3), .box 2 (.v 0), none⟩,
      ⟨(.v 3), .asg (.c (.bool false)), none⟩] none ⟨[], [], []⟩)
  (.seq (.seq (.reg 1 [] [
      ⟨(.t 21), .fa 0 (.t 3), none⟩,
      ⟨(.t 22), .ld 1 false (.t 21), none⟩,
      ⟨(.t 23), .len (.t 22), none⟩,
      ⟨(.t 24), .bin .gtr (.t 23) (.c (.int .i64 5000)), none⟩,
      ⟨(.t 25), .mv (.t 24), none⟩,
      ⟨(.t 26), .fa 1 (.t 3), some (25, false)⟩,
      ⟨(.t 27), .ld 1 false (.t 26), some (25, false)⟩,
      ⟨(.t 28), .len (.t 27), some (25, false)⟩,
      ⟨(.t 29), .bin .gtr (.t 28) (.c (.int .i64 5000)), some (25, false)⟩,
      ⟨(.t 30), .pick (.t 25) (.c (.bool true)) (.t 29), none⟩,
      ⟨(.t 31), .mv (.t 30), none⟩,
      ⟨(.t 32), .mv (.v 1), some (31, false)⟩,
      ⟨(.t 33), .len (.t 32), some (31, false)⟩,
      ⟨(.t 34), .bin .gtr (.t 33) (.c (.int .i64 5000)), some (31, false)⟩,
      ⟨(.t 35), .pick (.t 31) (.c (.bool true)) (.t 34), none⟩] none ⟨[], [], []⟩)
  (.cond (.t 35)
    (.seq (.reg 2 [] [
        ⟨(.t 36), .call 7 [], none⟩,
        ⟨(.v 3), .asg (.t 36), none⟩] none ⟨[], [], []⟩)
    .ret)
    .skip))
  (.seq (.reg 3 [] [
      ⟨(.t 38), .ld 2 true (.t 3), none⟩,
      ⟨(.t 39), .call 8 [(.t 38)], none⟩,
      ⟨(.t 37), .mv (.t 39), none⟩,
      ⟨(.t 40), .ext 37 0, none⟩,
      ⟨(.t 41), .ext 37 1, none⟩,
      ⟨(.t 42), .ext 37 2, none⟩,
      ⟨(.v 4), .asg (.t 40), none⟩,
      ⟨(.v 5), .asg (.t 41), none⟩,
      ⟨(.v 6), .asg (.t 42), none⟩] none ⟨[], [], []⟩)
  (.seq (.reg 4 [] [
      ⟨(.t 44), .ld 2 true (.t 3), none⟩,
      ⟨(.t 45), .call 9 [(.t 44)], none⟩,
      ⟨(.t 43), .mv (.t 45), none⟩,
      ⟨(.t 46), .ext 43 0, none⟩,
      ⟨(.t 47), .ext 43 1, none⟩,
      ⟨(.t 48), .ext 43 2, none⟩,
      ⟨(.v 7), .asg (.t 46), none⟩,
      ⟨(.v 8), .asg (.t 47), none⟩,
      ⟨(.v 9), .asg (.t 48), none⟩] none ⟨[], [], []⟩)
  (.seq (.reg 5 [] [
      ⟨(.t 50), .ld 2 true (.t 3), none⟩,
      ⟨(.t 51), .mv (.v 1), none⟩,
      ⟨(.t 52), .call 10 [(.t 50), (.t 51)], none⟩,
      ⟨(.t 49), .mv (.t 52), none⟩,
      ⟨(.t 53), .ext 49 0, none⟩,
      ⟨(.t 54), .ext 49 1, none⟩,
      ⟨(.t 13), .allo [(.slice none 0 0), (.slice none 0 0)], none⟩,
      ⟨.none, .st 2 (.t 13) (.t 53), none⟩,
      ⟨(.v 10), .asg (.t 54), none⟩] none ⟨[], [], []⟩)
  (.seq (.reg 6 [] [
      ⟨(.t 56), .ld 2 true (.t 3), none⟩,
      ⟨(.t 57), .mv (.v 1), none⟩,
      ⟨(.t 58), .call 11 [(.t 56), (.t 57)], none⟩,
      ⟨(.t 55), .mv (.t 58), none⟩,
      ⟨(.t 59), .ext 55 0, none⟩,
      ⟨(.t 60), .ext 55 1, none⟩,
      ⟨(.t 15), .allo [(.slice none 0 0), (.slice none 0 0)], none⟩,
      ⟨.none, .st 2 (.t 15) (.t 59), none⟩,
      ⟨(.v 11), .asg (.t 60), none⟩] none ⟨[], [], []⟩)
  (.seq (.reg 7 [] [
      ⟨(.t 62), .ld 2 true (.t 3), none⟩,
      ⟨(.t 63), .mv (.v 1), none⟩,
      ⟨(.t 64), .mv (.v 2), none⟩,
      ⟨(.t 65), .call 12 [(.t 62), (.t 63), (.t 64)], none⟩,
      ⟨(.t 61), .mv (.t 65), none⟩,
      ⟨(.t 66), .ext 61 0, none⟩,
      ⟨(.t 67), .ext 61 1, none⟩,
      ⟨(.t 17), .allo [(.slice none 0 0), (.slice none 0 0)], none⟩,
      ⟨.none, .st 2 (.t 17) (.t 66), none⟩,
      ⟨(.v 12), .asg (.t 67), none⟩] none ⟨[], [], []⟩)
  (.seq (.reg 8 [] [
      ⟨(.t 69), .ld 2 true (.t 3), none⟩,
      ⟨(.t 70), .mv (.v 1), none⟩,
      ⟨(.t 71), .mv (.v 2), none⟩,
      ⟨(.t 72), .call 13 [(.t 69), (.t 70), (.t 71)], none⟩,
      ⟨(.t 68), .mv (.t 72), none⟩,
      ⟨(.t 73), .ext 68 0, none⟩,
      ⟨(.t 74), .ext 68 1, none⟩,
      ⟨(.t 19), .allo [(.slice none 0 0), (.slice none 0 0)], none⟩,
      ⟨.none, .st 2 (.t 19) (.t 73), none⟩,
      ⟨(.v 13), .asg (.t 74), none⟩] none ⟨[], [], []⟩)
  (.seq (.reg 9 [] [
      ⟨(.t 75), .call 7 [], none⟩,
      ⟨(.t 76), .mv (.t 75), none⟩,
      ⟨(.t 77), .mv (.v 6), some (76, true)⟩,
      ⟨(.t 78), .mv (.v 9), some (76, true)⟩,
      ⟨(.t 79), .bin .eql (.t 77) (.t 78), some (76, true)⟩,
      ⟨(.t 80), .pick (.t 76) (.t 79) (.c (.bool false)), none⟩,
      ⟨(.t 81), .mv (.t 80), none⟩,
      ⟨(.t 82), .mv (.v 10), some (81, true)⟩,
      ⟨(.t 83), .mv (.v 11), some (81, true)⟩,
      ⟨(.t 84), .bin .eql (.t 82) (.t 83), some (81, true)⟩,
      ⟨(.t 85), .pick (.t 81) (.t 84) (.c (.bool false)), none⟩,
      ⟨(.t 86), .mv (.t 85), none⟩,
      ⟨(.t 87), .mv (.v 12), some (86, true)⟩,
      ⟨(.t 88), .mv (.v 13), some (86, true)⟩,
      ⟨(.t 89), .bin .eql (.t 87) (.t 88), some (86, true)⟩,
      ⟨(.t 90), .pick (.t 86) (.t 89) (.c (.bool false)), none⟩,
      ⟨(.t 91), .mv (.t 90), none⟩,
      ⟨(.t 92), .mv (.v 5), some (91, true)⟩,
      ⟨(.t 93), .mv (.v 8), some (91, true)⟩,
      ⟨(.t 94), .bin .eql (.t 92) (.t 93), some (91, true)⟩,
      ⟨(.t 95), .pick (.t 91) (.t 94) (.c (.bool false)), none⟩,
      ⟨(.t 96), .mv (.t 95), none⟩,
      ⟨(.t 97), .mv (.v 4), some (96, true)⟩,
      ⟨(.t 98), .b2s (.t 97), some (96, true)⟩,
      ⟨(.t 99), .mv (.v 7), some (96, true)⟩,
      ⟨(.t 100), .b2s (.t 99), some (96, true)⟩,
      ⟨(.t 101), .bin .eql (.t 98) (.t 100), some (96, true)⟩,
      ⟨(.t 102), .pick (.t 96) (.t 101) (.c (.bool false)), none⟩,
      ⟨(.t 103), .mv (.t 102), none⟩,
      ⟨(.t 104), .ld 2 true (.t 13), some (103, true)⟩,
      ⟨(.t 105), .ld 2 true (.t 15), some (103, true)⟩,
      ⟨(.t 106), .call 14 [(.t 104), (.t 105)], some (103, true)⟩,
      ⟨(.t 107), .pick (.t 103) (.t 106) (.c (.bool false)), none⟩,
      ⟨(.t 108), .mv (.t 107), none⟩,
      ⟨(.t 109), .ld 2 true (.t 17), some (108, true)⟩,
      ⟨(.t 110), .ld 2 true (.t 19), some (108, true)⟩,
      ⟨(.t 111), .call 14 [(.t 109), (.t 110)], some (108, true)⟩,
      ⟨(.t 112), .pick (.t 108) (.t 111) (.c (.bool false)), none⟩,
      ⟨(.v 3), .asg (.t 112), none⟩] none ⟨[], [], []⟩)
  .ret)))))))))
theorem c3 : compFn Try.prog 3 F3 = some (3, strip a3, [.v 3]) ∧ lexAll a3 = true := ⟨by kernel_rfl, by kernel_rfl⟩
/-- clusterlocks/clusterlockslaw26.StableRuns -/
def F4 : Fr := ⟨175, [0, 1, 4, 5, 8, 9, 10, 11, 12, 13, 14, 15, 16, 17, 20, 21, 22, 23]⟩
def a4 : ACode :=
  (.seq (.reg 0 [] [
      ⟨(.v 2), .asg (.c (.bool false)), none⟩] none ⟨[], [], []⟩)
  (.seq (.seq (.reg 1 [] [
      ⟨(.t 24), .mv (.v 0), none⟩,
      ⟨(.t 25), .call 15 [(.t 24)], none⟩,
      ⟨(.t 26), .un .not (.t 25), none⟩] none ⟨[], [], []⟩)
  (.cond (.t 26)
    (.seq (.reg 2 [] [
        ⟨(.t 27), .call 7 [], none⟩,
        ⟨(.v 2), .asg (.t 27), none⟩] none ⟨[], [], []⟩)
    .ret)
    .skip))
  (.seq (.reg 3 [] [
      ⟨(.t 28), .mv (.v 0), none⟩,
      ⟨(.t 29), .bld [(.slice none 0 0), (.int .i64 0)] [(0, 1, (.t 28))], none⟩,
      ⟨(.t 30), .box 2 (.t 29), none⟩,
      ⟨(.v 3), .asg (.t 30), none⟩] none ⟨[], [], []⟩)
  (.seq (.reg 4 [] [
      ⟨(.t 31), .call 16 [], none⟩,
      ⟨(.t 32), .call 17 [], none⟩,
      ⟨(.t 6), .allo [(.slice none 0 0), (.slice none 0 0)], none⟩,
      ⟨(.t 7), .allo [(.slice none 0 0), (.slice none 0 0)], none⟩,
      ⟨.none, .st 2 (.t 6) (.t 31), none⟩,
      ⟨.none, .st 2 (.t 7) (.t 32), none⟩] none ⟨[], [], []⟩)
  (.seq (.reg 5 [] [
      ⟨(.v 4), .asg (.c (.slice none 0 0)), none⟩] none ⟨[], [], []⟩)
  (.seq (.reg 6 [] [
      ⟨(.v 5), .asg (.c (.int .i64 0)), none⟩] none ⟨[], [], []⟩)
  (.seq (.block 0
    (.loop
      (.seq (.seq (.reg 7 [] [
          ⟨(.t 33), .mv (.v 3), none⟩,
          ⟨(.t 34), .call 18 [(.t 33)], none⟩] none ⟨[], [], []⟩)
      (.cond (.t 34)
        .skip
        (.exit 0)))
      (.block 1
        (.seq (.reg 8 [] [
            ⟨(.t 35), .mv (.v 3), none⟩,
            ⟨(.t 36), .call 19 [(.t 35), (.c (.int .i64 3))], none⟩,
            ⟨(.t 37), .mv (.v 3), none⟩,
            ⟨(.t 38), .call 19 [(.t 37), (.c (.int .i64 40))], none⟩,
            ⟨(.t 39), .bin .sub (.t 38) (.c (.int .i64 1)), none⟩,
            ⟨(.t 40), .mv (.v 3), none⟩,
            ⟨(.t 41), .call 19 [(.t 40), (.c (.int .i64 256))], none⟩,
            ⟨(.v 6), .asg (.t 36), none⟩,
            ⟨(.v 7), .asg (.t 39), none⟩,
            ⟨(.v 8), .asg (.t 41), none⟩] none ⟨[], [], []⟩)
        (.seq (.reg 9 [] [
            ⟨(.t 42), .mv (.v 1), none⟩,
            ⟨(.t 43), .call 20 [(.t 42), (.c (.int .i64 30))], none⟩,
            ⟨(.t 44), .mv (.v 3), none⟩,
            ⟨(.t 45), .call 19 [(.t 44), (.c (.int .i64 3))], none⟩,
            ⟨(.t 46), .bin .add (.t 43) (.t 45), none⟩,
            ⟨(.t 47), .mk 5 1 1 (.int .u8 0) (.t 46) (.t 46), none⟩,
            ⟨(.v 9), .asg (.t 47), none⟩] none ⟨[], [], []⟩)
        (.seq (.seq (.reg 10 [] [
            ⟨(.t 48), .mv (.v 9), none⟩,
            ⟨(.t 49), .len (.t 48), none⟩,
            ⟨(.t 50), .mv (.c (.int .i64 0)), none⟩] none ⟨[], [], []⟩)
        (.block 2
          (.loop
            (.seq (.reg 11 [] [
                ⟨(.t 51), .bin .lss (.t 50) (.t 49), none⟩] none ⟨[], [], []⟩)
            (.seq (.cond (.t 51)
              .skip
              (.exit 2))
            (.seq (.block 3
              (.seq (.reg 12 [] [
                  ⟨(.t 52), .mv (.t 50), none⟩,
                  ⟨(.v 10), .asg (.t 52), none⟩] none ⟨[], [], []⟩)
              (.reg 13 [] [
                  ⟨(.t 53), .mv (.v 9), none⟩,
                  ⟨(.t 54), .mv (.v 10), none⟩,
                  ⟨(.t 55), .mv (.v 8), none⟩,
                  ⟨(.t 56), .mv (.v 10), none⟩,
                  ⟨(.t 57), .bin .add (.t 55) (.t 56), none⟩,
                  ⟨(.t 58), .conv .u8 (.t 57), none⟩,
                  ⟨(.t 59), .ia 1 (.t 53) (.t 54), none⟩,
                  ⟨.none, .st 1 (.t 59) (.t 58), none⟩] none ⟨[], [], []⟩)))
            (.reg 14 [] [
                ⟨(.t 60), .bin .add (.t 50) (.c (.int .i64 1)), none⟩,
                ⟨(.t 50), .mv (.t 60), none⟩] none ⟨[], [], []⟩)))))))
        (.seq (.reg 15 [.freeze (.var 9)] [
            ⟨(.v 11), .asg (.c (.int .i64 0)), none⟩,
            ⟨(.v 12), .asg (.c (.int .i64 0)), none⟩] none ⟨[], [], []⟩)
        (.seq (.reg 16 [] [
            ⟨(.v 13), .asg (.c (.bool true)), none⟩] none ⟨[], [], []⟩)
        (.seq (.reg 17 [.lend (.cell 1 0) 61, .lend (.cell 1 1) 61] [
            ⟨(.t 61), .ld 2 true (.t 6), none⟩,
            ⟨(.t 18), .allo [(.slice none 0 0), (.slice none 0 0)], none⟩,
            ⟨.none, .st 2 (.t 18) (.t 61), none⟩] none ⟨[], [], []⟩)
        (.seq (.seq (.reg 18 [] [
            ⟨(.t 62), .mv (.v 6), none⟩,
            ⟨(.t 63), .bin .eql (.t 62) (.c (.int .i64 0)), none⟩] none ⟨[], [], []⟩)
        (.cond (.t 63)
          (.seq (.reg 19 [] [
              ⟨(.t 65), .ld 2 true (.t 6), none⟩,
              ⟨(.t 66), .mv (.v 9), none⟩,
              ⟨(.t 67), .mv (.v 7), none⟩,
              ⟨(.t 68), .call 12 [(.t 65), (.t 66), (.t 67)], none⟩,
              ⟨(.t 64), .mv (.t 68), none⟩,
              ⟨(.t 69), .ext 64 0, none⟩,
              ⟨(.t 70), .ext 64 1, none⟩,
              ⟨.none, .st 2 (.t 6) (.t 69), none⟩,
              ⟨(.v 11), .asg (.t 70), none⟩] none ⟨[], [], []⟩)
          (.seq (.reg 20 [] [
              ⟨(.t 72), .ld 2 true (.t 7), none⟩,
              ⟨(.t 73), .mv (.v 9), none⟩,
              ⟨(.t 74), .mv (.v 7), none⟩,
              ⟨(.t 75), .call 13 [(.t 72), (.t 73), (.t 74)], none⟩,
              ⟨(.t 71), .mv (.t 75), none⟩,
              ⟨(.t 76), .ext 71 0, none⟩,
              ⟨(.t 77), .ext 71 1, none⟩,
              ⟨.none, .st 2 (.t 7) (.t 76), none⟩,
              ⟨(.v 12), .asg (.t 77), none⟩] none ⟨[], [], []⟩)
          (.seq (.reg 21 [] [
              ⟨(.t 79), .ld 2 true (.t 18), none⟩,
              ⟨(.t 80), .mv (.v 9), none⟩,
              ⟨(.t 81), .call 10 [(.t 79), (.t 80)], none⟩,
              ⟨(.t 78), .mv (.t 81), none⟩,
              ⟨(.t 82), .ext 78 0, none⟩,
              ⟨(.t 83), .ext 78 1, none⟩,
              ⟨(.t 19), .allo [(.slice none 0 0), (.slice none 0 0)], none⟩,
              ⟨.none, .st 2 (.t 19) (.t 82), none⟩,
              ⟨(.v 14), .asg (.t 83), none⟩] none ⟨[], [], []⟩)
          (.reg 22 [] [
              ⟨(.t 84), .mv (.v 7), none⟩,
              ⟨(.t 85), .fa 0 (.t 19), none⟩,
              ⟨(.t 86), .ld 1 false (.t 85), none⟩,
              ⟨(.t 87), .len (.t 86), none⟩,
              ⟨(.t 88), .bin .geq (.t 84) (.t 87), none⟩,
              ⟨(.t 89), .mv (.t 88), none⟩,
              ⟨(.t 90), .fa 0 (.t 19), some (89, true)⟩,
              ⟨(.t 91), .ld 1 false (.t 90), some (89, true)⟩,
              ⟨(.t 92), .b2s (.t 91), some (89, true)⟩,
              ⟨(.t 93), .fa 0 (.t 18), some (89, true)⟩,
              ⟨(.t 94), .ld 1 false (.t 93), some (89, true)⟩,
              ⟨(.t 95), .b2s (.t 94), some (89, true)⟩,
              ⟨(.t 96), .bin .neq (.t 92) (.t 95), some (89, true)⟩,
              ⟨(.t 97), .pick (.t 89) (.t 96) (.c (.bool false)), none⟩,
              ⟨(.t 98), .mv (.t 97), none⟩,
              ⟨(.t 99), .mv (.v 7), some (98, false)⟩,
              ⟨(.t 100), .fa 1 (.t 19), some (98, false)⟩,
              ⟨(.t 101), .ld 1 false (.t 100), some (98, false)⟩,
              ⟨(.t 102), .len (.t 101), some (98, false)⟩,
              ⟨(.t 103), .bin .geq (.t 99) (.t 102), some (98, false)⟩,
              ⟨(.t 104), .mv (.t 103), some (98, false)⟩,
              ⟨(.t 105), .fa 1 (.t 19), some (104, true)⟩,
              ⟨(.t 106), .ld 1 false (.t 105), some (104, true)⟩,
              ⟨(.t 107), .b2s (.t 106), some (104, true)⟩,
              ⟨(.t 108), .fa 1 (.t 18), some (104, true)⟩,
              ⟨(.t 109), .ld 1 false (.t 108), some (104, true)⟩,
              ⟨(.t 110), .b2s (.t 109), some (104, true)⟩,
              ⟨(.t 111), .bin .neq (.t 107) (.t 110), some (104, true)⟩,
              ⟨(.t 112), .pick (.t 104) (.t 111) (.c (.bool false)), some (98, false)⟩,
              ⟨(.t 113), .pick (.t 98) (.c (.bool true)) (.t 112), none⟩,
              ⟨(.v 13), .asg (.t 113), none⟩] none ⟨[], [], []⟩))))
          (.seq (.reg 23 [] [
              ⟨(.t 115), .ld 2 true (.t 6), none⟩,
              ⟨(.t 116), .mv (.v 9), none⟩,
              ⟨(.t 117), .call 10 [(.t 115), (.t 116)], none⟩,
              ⟨(.t 114), .mv (.t 117), none⟩,
              ⟨(.t 118), .ext 114 0, none⟩,
              ⟨(.t 119), .ext 114 1, none⟩,
              ⟨.none, .st 2 (.t 6) (.t 118), none⟩,
              ⟨(.v 11), .asg (.t 119), none⟩] none ⟨[], [], []⟩)
          (.reg 24 [] [
              ⟨(.t 121), .ld 2 true (.t 7), none⟩,
              ⟨(.t 122), .mv (.v 9), none⟩,
              ⟨(.t 123), .call 11 [(.t 121), (.t 122)], none⟩,
              ⟨(.t 120), .mv (.t 123), none⟩,
              ⟨(.t 124), .ext 120 0, none⟩,
              ⟨(.t 125), .ext 120 1, none⟩,
              ⟨.none, .st 2 (.t 7) (.t 124), none⟩,
              ⟨(.v 12), .asg (.t 125), none⟩] none ⟨[], [], []⟩))))
        (.seq (.seq (.reg 25 [] [
            ⟨(.t 126), .mv (.v 11), none⟩,
            ⟨(.t 127), .bin .neq (.t 126) (.c (.int .i64 0)), none⟩,
            ⟨(.t 128), .mv (.t 127), none⟩,
            ⟨(.t 129), .mv (.v 12), some (128, false)⟩,
            ⟨(.t 130), .bin .neq (.t 129) (.c (.int .i64 0)), some (128, false)⟩,
            ⟨(.t 131), .pick (.t 128) (.c (.bool true)) (.t 130), none⟩,
            ⟨(.t 132), .mv (.t 131), none⟩,
            ⟨(.t 133), .ld 2 true (.t 6), some (132, false)⟩,
            ⟨(.t 134), .ld 2 true (.t 7), some (132, false)⟩,
            ⟨(.t 135), .call 14 [(.t 133), (.t 134)], some (132, false)⟩,
            ⟨(.t 136), .un .not (.t 135), some (132, false)⟩,
            ⟨(.t 137), .pick (.t 132) (.c (.bool true)) (.t 136), none⟩] none ⟨[], [], []⟩)
        (.cond (.t 137)
          (.seq (.reg 26 [] [
              ⟨(.v 2), .asg (.c (.bool false)), none⟩] none ⟨[], [], []⟩)
          .ret)
          .skip))
        (.seq (.seq (.reg 27 [] [
            ⟨(.t 138), .mv (.v 13), none⟩] none ⟨[], [], []⟩)
        (.cond (.t 138)
          (.reg 28 [] [
              ⟨(.t 139), .mv (.v 9), none⟩,
              ⟨(.t 140), .mv (.v 5), none⟩,
              ⟨(.t 141), .bin .add (.t 140) (.c (.int .i64 1)), none⟩,
              ⟨(.v 4), .asg (.t 139), none⟩,
              ⟨(.v 5), .asg (.t 141), none⟩] none ⟨[], [], []⟩)
          .skip))
        (.seq (.reg 29 [] [
            ⟨(.t 143), .ld 2 true (.t 6), none⟩,
            ⟨(.t 144), .call 8 [(.t 143)], none⟩,
            ⟨(.t 142), .mv (.t 144), none⟩,
            ⟨(.t 145), .ext 142 0, none⟩,
            ⟨(.t 146), .ext 142 1, none⟩,
            ⟨(.t 147), .ext 142 2, none⟩,
            ⟨(.v 15), .asg (.t 145), none⟩,
            ⟨(.v 16), .asg (.t 146), none⟩,
            ⟨(.v 17), .asg (.t 147), none⟩] none ⟨[], [], []⟩)
        (.seq (.reg 30 [] [
            ⟨(.t 148), .mv (.v 5), none⟩,
            ⟨(.t 149), .bin .eql (.t 148) (.c (.int .i64 0)), none⟩,
            ⟨(.t 150), .mv (.t 149), none⟩,
            ⟨(.t 151), .mv (.v 17), some (150, true)⟩,
            ⟨(.t 152), .bin .neq (.t 151) (.c (.int .i64 10)), some (150, true)⟩,
            ⟨(.t 153), .pick (.t 150) (.t 152) (.c (.bool false)), none⟩,
            ⟨(.t 154), .mv (.t 153), none⟩,
            ⟨(.t 155), .mv (.v 5), some (154, false)⟩,
            ⟨(.t 156), .bin .gtr (.t 155) (.c (.int .i64 0)), some (154, false)⟩,
            ⟨(.t 157), .mv (.t 156), some (154, false)⟩,
            ⟨(.t 158), .mv (.v 17), some (157, true)⟩,
            ⟨(.t 159), .bin .neq (.t 158) (.c (.int .i64 0)), some (157, true)⟩,
            ⟨(.t 160), .mv (.t 159), some (157, true)⟩,
            ⟨(.t 161), .mv (.v 16), some (160, false)⟩,
            ⟨(.t 162), .mv (.v 5), some (160, false)⟩,
            ⟨(.t 163), .bin .neq (.t 161) (.t 162), some (160, false)⟩,
            ⟨(.t 164), .pick (.t 160) (.c (.bool true)) (.t 163), some (157, true)⟩,
            ⟨(.t 165), .mv (.t 164), some (157, true)⟩,
            ⟨(.t 166), .mv (.v 15), some (165, false)⟩,
            ⟨(.t 167), .b2s (.t 166), some (165, false)⟩,
            ⟨(.t 168), .mv (.v 4), some (165, false)⟩,
            ⟨(.t 169), .b2s (.t 168), some (165, false)⟩,
            ⟨(.t 170), .bin .neq (.t 167) (.t 169), some (165, false)⟩,
            ⟨(.t 171), .pick (.t 165) (.c (.bool true)) (.t 170), some (157, true)⟩,
            ⟨(.t 172), .pick (.t 157) (.t 171) (.c (.bool false)), some (154, false)⟩,
            ⟨(.t 173), .pick (.t 154) (.c (.bool true)) (.t 172), none⟩] none ⟨[], [], []⟩)
        (.cond (.t 173)
          (.seq (.reg 31 [] [
              ⟨(.v 2), .asg (.c (.bool false)), none⟩] none ⟨[], [], []⟩)
          .ret)
          .skip))))))))))))))))
  (.seq (.reg 32 [] [
      ⟨(.t 174), .call 7 [], none⟩,
      ⟨(.v 2), .asg (.t 174), none⟩] none ⟨[], [], []⟩)
  .ret))))))))
theorem c4 : compFn Try.prog 4 F4 = some (2, strip a4, [.v 2]) ∧ lexAll a4 = true := ⟨by kernel_rfl, by kernel_rfl⟩
/-- clusterlocks/clusterlockslaw26.StableLong -/
def F5 : Fr := ⟨66, [0, 1, 4, 5, 6, 8, 9, 10, 11]⟩
def a5 : ACode :=
  (.seq (.reg 0 [] [
      ⟨(.v 2), .asg (.c (.bool false)), none⟩] none ⟨[], [], []⟩)
  (.seq (.reg 1 [] [
      ⟨(.t 12), .mv (.v 0), none⟩,
      ⟨(.t 13), .call 20 [(.t 12), (.c (.int .i64 4))], none⟩,
      ⟨(.v 0), .asg (.t 13), none⟩] none ⟨[], [], []⟩)
  (.seq (.reg 2 [] [
      ⟨(.t 14), .mv (.v 0), none⟩,
      ⟨(.t 15), .bin .add (.c (.int .i64 510)) (.t 14), none⟩,
      ⟨(.t 16), .mk 5 1 1 (.int .u8 0) (.t 15) (.t 15), none⟩,
      ⟨(.v 3), .asg (.t 16), none⟩] none ⟨[], [], []⟩)
  (.seq (.seq (.reg 3 [] [
      ⟨(.t 17), .mv (.v 3), none⟩,
      ⟨(.t 18), .len (.t 17), none⟩,
      ⟨(.t 19), .mv (.c (.int .i64 0)), none⟩] none ⟨[], [], []⟩)
  (.block 0
    (.loop
      (.seq (.reg 4 [] [
          ⟨(.t 20), .bin .lss (.t 19) (.t 18), none⟩] none ⟨[], [], []⟩)
      (.seq (.cond (.t 20)
        .skip
        (.exit 0))
      (.seq (.block 1
        (.seq (.reg 5 [] [
            ⟨(.t 21), .mv (.t 19), none⟩,
            ⟨(.v 4), .asg (.t 21), none⟩] none ⟨[], [], []⟩)
        (.reg 6 [] [
            ⟨(.t 22), .mv (.v 3), none⟩,
            ⟨(.t 23), .mv (.v 4), none⟩,
            ⟨(.t 24), .mv (.v 1), none⟩,
            ⟨(.t 25), .ia 1 (.t 22) (.t 23), none⟩,
            ⟨.none, .st 1 (.t 25) (.t 24), none⟩] none ⟨[], [], []⟩)))
      (.reg 7 [] [
          ⟨(.t 26), .bin .add (.t 19) (.c (.int .i64 1)), none⟩,
          ⟨(.t 19), .mv (.t 26), none⟩] none ⟨[], [], []⟩)))))))
  (.seq (.reg 8 [.freeze (.var 3)] [
      ⟨(.t 28), .call 16 [], none⟩,
      ⟨(.t 29), .mv (.v 3), none⟩,
      ⟨(.t 30), .call 10 [(.t 28), (.t 29)], none⟩,
      ⟨(.t 27), .mv (.t 30), none⟩,
      ⟨(.t 31), .ext 27 0, none⟩,
      ⟨(.t 32), .ext 27 1, none⟩,
      ⟨(.t 7), .allo [(.slice none 0 0), (.slice none 0 0)], none⟩,
      ⟨.none, .st 2 (.t 7) (.t 31), none⟩,
      ⟨(.v 5), .asg (.t 32), none⟩] none ⟨[], [], []⟩)
  (.seq (.seq (.reg 9 [] [
      ⟨(.t 33), .mv (.v 0), none⟩,
      ⟨(.t 34), .bin .eql (.t 33) (.c (.int .i64 3)), none⟩] none ⟨[], [], []⟩)
  (.cond (.t 34)
    (.seq (.reg 10 [] [
        ⟨(.t 35), .call 7 [], none⟩,
        ⟨(.t 36), .mv (.t 35), none⟩,
        ⟨(.t 37), .mv (.v 5), some (36, true)⟩,
        ⟨(.t 38), .bin .eql (.t 37) (.c (.int .i64 3)), some (36, true)⟩,
        ⟨(.t 39), .pick (.t 36) (.t 38) (.c (.bool false)), none⟩,
        ⟨(.v 2), .asg (.t 39), none⟩] none ⟨[], [], []⟩)
    .ret)
    .skip))
  (.seq (.reg 11 [] [
      ⟨(.t 41), .ld 2 true (.t 7), none⟩,
      ⟨(.t 42), .call 8 [(.t 41)], none⟩,
      ⟨(.t 40), .mv (.t 42), none⟩,
      ⟨(.t 43), .ext 40 0, none⟩,
      ⟨(.t 44), .ext 40 1, none⟩,
      ⟨(.t 45), .ext 40 2, none⟩,
      ⟨(.v 6), .asg (.t 43), none⟩,
      ⟨(.v 7), .asg (.t 44), none⟩,
      ⟨(.v 8), .asg (.t 45), none⟩] none ⟨[], [], []⟩)
  (.seq (.reg 12 [] [
      ⟨(.t 46), .call 7 [], none⟩,
      ⟨(.t 47), .mv (.t 46), none⟩,
      ⟨(.t 48), .mv (.v 5), some (47, true)⟩,
      ⟨(.t 49), .bin .eql (.t 48) (.c (.int .i64 0)), some (47, true)⟩,
      ⟨(.t 50), .pick (.t 47) (.t 49) (.c (.bool false)), none⟩,
      ⟨(.t 51), .mv (.t 50), none⟩,
      ⟨(.t 52), .mv (.v 8), some (51, true)⟩,
      ⟨(.t 53), .bin .eql (.t 52) (.c (.int .i64 0)), some (51, true)⟩,
      ⟨(.t 54), .pick (.t 51) (.t 53) (.c (.bool false)), none⟩,
      ⟨(.t 55), .mv (.t 54), none⟩,
      ⟨(.t 56), .mv (.v 7), some (55, true)⟩,
      ⟨(.t 57), .bin .eql (.t 56) (.c (.int .i64 1)), some (55, true)⟩,
      ⟨(.t 58), .pick (.t 55) (.t 57) (.c (.bool false)), none⟩,
      ⟨(.t 59), .mv (.t 58), none⟩,
      ⟨(.t 60), .mv (.v 6), some (59, true)⟩,
      ⟨(.t 61), .b2s (.t 60), some (59, true)⟩,
      ⟨(.t 62), .mv (.v 3), some (59, true)⟩,
      ⟨(.t 63), .b2s (.t 62), some (59, true)⟩,
      ⟨(.t 64), .bin .eql (.t 61) (.t 63), some (59, true)⟩,
      ⟨(.t 65), .pick (.t 59) (.t 64) (.c (.bool false)), none⟩,
      ⟨(.v 2), .asg (.t 65), none⟩] none ⟨[], [], []⟩)
  .ret))))))))
theorem c5 : compFn Try.prog 5 F5 = some (2, strip a5, [.v 2]) ∧ lexAll a5 = true := ⟨by kernel_rfl, by kernel_rfl⟩
/-- clusterlocks/clusterlockslaw26.StableDamage -/
def F6 : Fr := ⟨78, [0, 1, 2, 6, 8, 10, 11, 12, 13]⟩
def a6 : ACode :=
  (.seq (.reg 0 [] [
      ⟨(.v 3), .asg (.c (.bool false)), none⟩] none ⟨[], [], []⟩)
  (.seq (.seq (.reg 1 [] [
      ⟨(.t 14), .mv (.v 0), none⟩,
      ⟨(.t 15), .len (.t 14), none⟩,
      ⟨(.t 16), .bin .gtr (.t 15) (.c (.int .i64 512)), none⟩,
      ⟨(.t 17), .mv (.t 16), none⟩,
      ⟨(.t 18), .mv (.v 1), some (17, false)⟩,
      ⟨(.t 19), .len (.t 18), some (17, false)⟩,
      ⟨(.t 20), .bin .gtr (.t 19) (.c (.int .i64 512)), some (17, false)⟩,
      ⟨(.t 21), .pick (.t 17) (.c (.bool true)) (.t 20), none⟩] none ⟨[], [], []⟩)
  (.cond (.t 21)
    (.seq (.reg 2 [] [
        ⟨(.t 22), .call 7 [], none⟩,
        ⟨(.v 3), .asg (.t 22), none⟩] none ⟨[], [], []⟩)
    .ret)
    .skip))
  (.seq (.reg 3 [] [
      ⟨(.t 24), .call 16 [], none⟩,
      ⟨(.t 25), .mv (.v 0), none⟩,
      ⟨(.t 26), .call 10 [(.t 24), (.t 25)], none⟩,
      ⟨(.t 23), .mv (.t 26), none⟩,
      ⟨(.t 27), .ext 23 0, none⟩,
      ⟨(.t 28), .ext 23 1, none⟩,
      ⟨(.t 7), .allo [(.slice none 0 0), (.slice none 0 0)], none⟩,
      ⟨.none, .st 2 (.t 7) (.t 27), none⟩,
      ⟨(.v 4), .asg (.t 28), none⟩] none ⟨[], [], []⟩)
  (.seq (.reg 4 [] [
      ⟨(.t 30), .ld 2 true (.t 7), none⟩,
      ⟨(.t 31), .mv (.v 1), none⟩,
      ⟨(.t 32), .call 10 [(.t 30), (.t 31)], none⟩,
      ⟨(.t 29), .mv (.t 32), none⟩,
      ⟨(.t 33), .ext 29 0, none⟩,
      ⟨(.t 34), .ext 29 1, none⟩,
      ⟨(.t 9), .allo [(.slice none 0 0), (.slice none 0 0)], none⟩,
      ⟨.none, .st 2 (.t 9) (.t 33), none⟩,
      ⟨(.v 5), .asg (.t 34), none⟩] none ⟨[], [], []⟩)
  (.seq (.seq (.reg 5 [] [
      ⟨(.t 35), .mv (.v 4), none⟩,
      ⟨(.t 36), .bin .neq (.t 35) (.c (.int .i64 0)), none⟩,
      ⟨(.t 37), .mv (.t 36), none⟩,
      ⟨(.t 38), .mv (.v 5), some (37, false)⟩,
      ⟨(.t 39), .bin .neq (.t 38) (.c (.int .i64 0)), some (37, false)⟩,
      ⟨(.t 40), .pick (.t 37) (.c (.bool true)) (.t 39), none⟩,
      ⟨(.t 41), .mv (.t 40), none⟩,
      ⟨(.t 42), .fa 1 (.t 9), some (41, false)⟩,
      ⟨(.t 43), .ld 1 false (.t 42), some (41, false)⟩,
      ⟨(.t 44), .len (.t 43), some (41, false)⟩,
      ⟨(.t 45), .bin .eql (.t 44) (.c (.int .i64 0)), some (41, false)⟩,
      ⟨(.t 46), .pick (.t 41) (.c (.bool true)) (.t 45), none⟩] none ⟨[], [], []⟩)
  (.cond (.t 46)
    (.seq (.reg 6 [] [
        ⟨(.v 3), .asg (.c (.bool false)), none⟩] none ⟨[], [], []⟩)
    .ret)
    .skip))
  (.seq (.reg 7 [] [
      ⟨(.t 47), .fa 1 (.t 9), none⟩,
      ⟨(.t 48), .ld 1 false (.t 47), none⟩,
      ⟨(.t 49), .mv (.v 2), none⟩,
      ⟨(.t 50), .fa 1 (.t 9), none⟩,
      ⟨(.t 51), .ld 1 false (.t 50), none⟩,
      ⟨(.t 52), .len (.t 51), none⟩,
      ⟨(.t 53), .call 20 [(.t 49), (.t 52)], none⟩,
      ⟨(.t 54), .sl 5 1 (.t 48) none (some (.t 53)) none, none⟩,
      ⟨(.t 55), .fa 1 (.t 9), none⟩,
      ⟨.none, .st 1 (.t 55) (.t 54), none⟩] (some [[], [0], [], [], [3], [4], [2, 5], [1, 6], [0, 1, 2, 3, 4, 5, 6, 7], [8, 7, 6, 0, 1, 2, 3, 4, 5, 6, 7]]) ⟨[9], [], []⟩)
  (.seq (.reg 8 [] [
      ⟨(.t 57), .ld 2 true (.t 9), none⟩,
      ⟨(.t 58), .call 8 [(.t 57)], none⟩,
      ⟨(.t 56), .mv (.t 58), none⟩,
      ⟨(.t 59), .ext 56 0, none⟩,
      ⟨(.t 60), .ext 56 1, none⟩,
      ⟨(.t 61), .ext 56 2, none⟩,
      ⟨(.v 6), .asg (.t 59), none⟩,
      ⟨(.v 7), .asg (.t 60), none⟩,
      ⟨(.v 8), .asg (.t 61), none⟩] none ⟨[], [], []⟩)
  (.seq (.reg 9 [] [
      ⟨(.t 62), .call 7 [], none⟩,
      ⟨(.t 63), .mv (.t 62), none⟩,
      ⟨(.t 64), .mv (.v 8), some (63, true)⟩,
      ⟨(.t 65), .bin .eql (.t 64) (.c (.int .i64 0)), some (63, true)⟩,
      ⟨(.t 66), .pick (.t 63) (.t 65) (.c (.bool false)), none⟩,
      ⟨(.t 67), .mv (.t 66), none⟩,
      ⟨(.t 68), .mv (.v 7), some (67, true)⟩,
      ⟨(.t 69), .bin .eql (.t 68) (.c (.int .i64 1)), some (67, true)⟩,
      ⟨(.t 70), .pick (.t 67) (.t 69) (.c (.bool false)), none⟩,
      ⟨(.t 71), .mv (.t 70), none⟩,
      ⟨(.t 72), .mv (.v 6), some (71, true)⟩,
      ⟨(.t 73), .b2s (.t 72), some (71, true)⟩,
      ⟨(.t 74), .mv (.v 0), some (71, true)⟩,
      ⟨(.t 75), .b2s (.t 74), some (71, true)⟩,
      ⟨(.t 76), .bin .eql (.t 73) (.t 75), some (71, true)⟩,
      ⟨(.t 77), .pick (.t 71) (.t 76) (.c (.bool false)), none⟩,
      ⟨(.v 3), .asg (.t 77), none⟩] none ⟨[], [], []⟩)
  .ret))))))))
theorem c6 : compFn Try.prog 6 F6 = some (3, strip a6, [.v 3]) ∧ lexAll a6 = true := ⟨by kernel_rfl, by kernel_rfl⟩
/-- clusterlocks/clusterlockslaw26.awake -/
def F7 : Fr := ⟨82, [0, 2, 4, 5, 6, 7, 8, 9, 10, 11, 12, 13]⟩
def a7 : ACode :=
  (.seq (.reg 0 [] [
      ⟨(.v 0), .asg (.c (.bool false)), none⟩] none ⟨[], [], []⟩)
  (.seq (.reg 1 [] [
      ⟨(.t 15), .call 16 [], none⟩,
      ⟨(.t 16), .bls 5 1 (.int .u8 0) 1 [(0, (.c (.int .u8 120)))], none⟩,
      ⟨(.t 17), .cvb (.t 16), none⟩,
      ⟨(.t 18), .call 10 [(.t 15), (.t 17)], none⟩,
      ⟨(.t 14), .mv (.t 18), none⟩,
      ⟨(.t 19), .ext 14 0, none⟩,
      ⟨(.t 20), .ext 14 1, none⟩,
      ⟨(.t 1), .allo [(.slice none 0 0), (.slice none 0 0)], none⟩,
      ⟨.none, .st 2 (.t 1) (.t 19), none⟩,
      ⟨(.v 1), .asg (.t 20), none⟩] none ⟨[], [], []⟩)
  (.seq (.reg 2 [] [
      ⟨(.t 22), .ld 2 true (.t 1), none⟩,
      ⟨(.t 23), .bls 5 1 (.int .u8 0) 1 [(0, (.c (.int .u8 121)))], none⟩,
      ⟨(.t 24), .cvb (.t 23), none⟩,
      ⟨(.t 25), .call 12 [(.t 22), (.t 24), (.c (.int .i64 3))], none⟩,
      ⟨(.t 21), .mv (.t 25), none⟩,
      ⟨(.t 26), .ext 21 0, none⟩,
      ⟨(.t 27), .ext 21 1, none⟩,
      ⟨(.t 3), .allo [(.slice none 0 0), (.slice none 0 0)], none⟩,
      ⟨.none, .st 2 (.t 3) (.t 26), none⟩,
      ⟨(.v 2), .asg (.t 27), none⟩] none ⟨[], [], []⟩)
  (.seq (.reg 3 [] [
      ⟨(.t 29), .ld 2 true (.t 1), none⟩,
      ⟨(.t 30), .call 8 [(.t 29)], none⟩,
      ⟨(.t 28), .mv (.t 30), none⟩,
      ⟨(.t 31), .ext 28 0, none⟩,
      ⟨(.t 32), .ext 28 1, none⟩,
      ⟨(.t 33), .ext 28 2, none⟩,
      ⟨(.v 3), .asg (.t 31), none⟩,
      ⟨(.v 4), .asg (.t 32), none⟩,
      ⟨(.v 5), .asg (.t 33), none⟩] none ⟨[], [], []⟩)
  (.seq (.reg 4 [] [
      ⟨(.t 35), .ld 2 true (.t 3), none⟩,
      ⟨(.t 36), .call 8 [(.t 35)], none⟩,
      ⟨(.t 34), .mv (.t 36), none⟩,
      ⟨(.t 37), .ext 34 0, none⟩,
      ⟨(.t 38), .ext 34 1, none⟩,
      ⟨(.t 39), .ext 34 2, none⟩,
      ⟨(.v 6), .asg (.t 37), none⟩,
      ⟨(.v 7), .asg (.t 38), none⟩,
      ⟨(.v 8), .asg (.t 39), none⟩] none ⟨[], [], []⟩)
  (.seq (.reg 5 [] [
      ⟨(.t 41), .call 16 [], none⟩,
      ⟨(.t 42), .call 8 [(.t 41)], none⟩,
      ⟨(.t 40), .mv (.t 42), none⟩,
      ⟨(.t 43), .ext 40 0, none⟩,
      ⟨(.t 44), .ext 40 1, none⟩,
      ⟨(.t 45), .ext 40 2, none⟩,
      ⟨(.v 9), .asg (.t 43), none⟩,
      ⟨(.v 10), .asg (.t 44), none⟩,
      ⟨(.v 11), .asg (.t 45), none⟩] none ⟨[], [], []⟩)
  (.seq (.reg 6 [] [
      ⟨(.t 46), .mv (.v 1), none⟩,
      ⟨(.t 47), .bin .eql (.t 46) (.c (.int .i64 0)), none⟩,
      ⟨(.t 48), .mv (.t 47), none⟩,
      ⟨(.t 49), .mv (.v 2), some (48, true)⟩,
      ⟨(.t 50), .bin .eql (.t 49) (.c (.int .i64 0)), some (48, true)⟩,
      ⟨(.t 51), .pick (.t 48) (.t 50) (.c (.bool false)), none⟩,
      ⟨(.t 52), .mv (.t 51), none⟩,
      ⟨(.t 53), .mv (.v 5), some (52, true)⟩,
      ⟨(.t 54), .bin .eql (.t 53) (.c (.int .i64 0)), some (52, true)⟩,
      ⟨(.t 55), .pick (.t 52) (.t 54) (.c (.bool false)), none⟩,
      ⟨(.t 56), .mv (.t 55), none⟩,
      ⟨(.t 57), .mv (.v 8), some (56, true)⟩,
      ⟨(.t 58), .bin .eql (.t 57) (.c (.int .i64 0)), some (56, true)⟩,
      ⟨(.t 59), .pick (.t 56) (.t 58) (.c (.bool false)), none⟩,
      ⟨(.t 60), .mv (.t 59), none⟩,
      ⟨(.t 61), .mv (.v 3), some (60, true)⟩,
      ⟨(.t 62), .b2s (.t 61), some (60, true)⟩,
      ⟨(.t 63), .bin .eql (.t 62) (.c (.string (ByteArray.mk #[120]))), some (60, true)⟩,
      ⟨(.t 64), .pick (.t 60) (.t 63) (.c (.bool false)), none⟩,
      ⟨(.t 65), .mv (.t 64), none⟩,
      ⟨(.t 66), .mv (.v 4), some (65, true)⟩,
      ⟨(.t 67), .bin .eql (.t 66) (.c (.int .i64 1)), some (65, true)⟩,
      ⟨(.t 68), .pick (.t 65) (.t 67) (.c (.bool false)), none⟩,
      ⟨(.t 69), .mv (.t 68), none⟩,
      ⟨(.t 70), .mv (.v 6), some (69, true)⟩,
      ⟨(.t 71), .b2s (.t 70), some (69, true)⟩,
      ⟨(.t 72), .bin .eql (.t 71) (.c (.string (ByteArray.mk #[120]))), some (69, true)⟩,
      ⟨(.t 73), .pick (.t 69) (.t 72) (.c (.bool false)), none⟩,
      ⟨(.t 74), .mv (.t 73), none⟩,
      ⟨(.t 75), .mv (.v 7), some (74, true)⟩,
      ⟨(.t 76), .bin .eql (.t 75) (.c (.int .i64 1)), some (74, true)⟩,
      ⟨(.t 77), .pick (.t 74) (.t 76) (.c (.bool false)), none⟩,
      ⟨(.t 78), .mv (.t 77), none⟩,
      ⟨(.t 79), .mv (.v 11), some (78, true)⟩,
      ⟨(.t 80), .bin .eql (.t 79) (.c (.int .i64 10)), some (78, true)⟩,
      ⟨(.t 81), .pick (.t 78) (.t 80) (.c (.bool false)), none⟩,
      ⟨(.v 0), .asg (.t 81), none⟩] none ⟨[], [], []⟩)
  .ret)))))))
theorem c7 : compFn Try.prog 7 F7 = some (0, strip a7, [.v 0]) ∧ lexAll a7 = true := ⟨by kernel_rfl, by kernel_rfl⟩
/-- clusterlocks/stable.Read -/
def F8 : Fr := ⟨23, [0, 2, 3, 4, 5, 6, 7]⟩
def a8 : ACode :=
  (.seq (.reg 0 [] [
      ⟨(.t 1), .box 2 (.v 0), none⟩,
      ⟨(.v 1), .asg (.c (.slice none 0 0)), none⟩,
      ⟨(.v 2), .asg (.c (.int .i64 0)), none⟩,
      ⟨(.v 3), .asg (.c (.int .i64 0)), none⟩] none ⟨[], [], []⟩)
  (.seq (.reg 1 [] [
      ⟨(.t 9), .fa 0 (.t 1), none⟩,
      ⟨(.t 10), .ld 1 false (.t 9), none⟩,
      ⟨(.t 11), .fa 1 (.t 1), none⟩,
      ⟨(.t 12), .ld 1 false (.t 11), none⟩,
      ⟨(.t 13), .bld [(.slice none 0 0), (.slice none 0 0)] [(0, 1, (.t 10)), (1, 1, (.t 12))], none⟩,
      ⟨(.t 14), .call 21 [(.t 13)], none⟩,
      ⟨(.t 8), .mv (.t 14), none⟩,
      ⟨(.t 15), .ext 8 0, none⟩,
      ⟨(.t 16), .ext 8 1, none⟩,
      ⟨(.t 17), .ext 8 2, none⟩,
      ⟨(.v 4), .asg (.t 15), none⟩,
      ⟨(.v 5), .asg (.t 16), none⟩,
      ⟨(.v 6), .asg (.t 17), none⟩] none ⟨[], [], []⟩)
  (.seq (.seq (.reg 2 [] [
      ⟨(.t 18), .mv (.v 6), none⟩,
      ⟨(.t 19), .bin .eql (.t 18) (.c (.int .i64 0)), none⟩] none ⟨[], [], []⟩)
  (.cond (.t 19)
    (.seq (.reg 3 [] [
        ⟨(.v 1), .asg (.c (.slice none 0 0)), none⟩,
        ⟨(.v 2), .asg (.c (.int .i64 0)), none⟩,
        ⟨(.v 3), .asg (.c (.int .i64 10)), none⟩] none ⟨[], [], []⟩)
    .ret)
    .skip))
  (.seq (.reg 4 [] [
      ⟨(.t 20), .mv (.v 5), none⟩,
      ⟨(.t 21), .call 22 [(.t 20)], none⟩,
      ⟨(.t 22), .mv (.v 6), none⟩,
      ⟨(.v 1), .asg (.t 21), none⟩,
      ⟨(.v 2), .asg (.t 22), none⟩,
      ⟨(.v 3), .asg (.c (.int .i64 0)), none⟩] none ⟨[], [], []⟩)
  .ret))))
theorem c8 : compFn Try.prog 8 F8 = some (1, strip a8, [.v 1, .v 2, .v 3]) ∧ lexAll a8 = true := ⟨by kernel_rfl, by kernel_rfl⟩
/-- clusterlocks/clusterlocksref26.Read -/
def F9 : Fr := ⟨36, [0, 2, 3, 4, 5, 6, 7, 8, 21, 28]⟩
def a9 : ACode :=
  (.seq (.reg 0 [] [
      ⟨(.t 1), .box 2 (.v 0), none⟩,
      ⟨(.v 1), .asg (.c (.slice none 0 0)), none⟩,
      ⟨(.v 2), .asg (.c (.int .i64 0)), none⟩,
      ⟨(.v 3), .asg (.c (.int .i64 0)), none⟩] none ⟨[], [], []⟩)
  (.seq (.reg 1 [] [
      ⟨(.t 10), .fa 0 (.t 1), none⟩,
      ⟨(.t 11), .ld 1 false (.t 10), none⟩,
      ⟨(.t 12), .call 23 [(.t 11)], none⟩,
      ⟨(.t 9), .mv (.t 12), none⟩,
      ⟨(.t 13), .ext 9 0, none⟩,
      ⟨(.t 14), .ext 9 1, none⟩,
      ⟨(.v 4), .asg (.t 13), none⟩,
      ⟨(.v 5), .asg (.t 14), none⟩] none ⟨[], [], []⟩)
  (.seq (.reg 2 [] [
      ⟨(.t 16), .fa 1 (.t 1), none⟩,
      ⟨(.t 17), .ld 1 false (.t 16), none⟩,
      ⟨(.t 18), .call 23 [(.t 17)], none⟩,
      ⟨(.t 15), .mv (.t 18), none⟩,
      ⟨(.t 19), .ext 15 0, none⟩,
      ⟨(.t 20), .ext 15 1, none⟩,
      ⟨(.v 6), .asg (.t 19), none⟩,
      ⟨(.v 7), .asg (.t 20), none⟩] none ⟨[], [], []⟩)
  (.seq (.block 0
    (.seq (.reg 3 [] [
        ⟨(.t 22), .mv (.v 5), none⟩,
        ⟨(.t 23), .bin .eql (.t 22) (.c (.int .i64 0)), none⟩,
        ⟨(.t 24), .mv (.t 23), none⟩,
        ⟨(.t 25), .mv (.v 7), some (24, true)⟩,
        ⟨(.t 26), .bin .eql (.t 25) (.c (.int .i64 0)), some (24, true)⟩,
        ⟨(.t 27), .pick (.t 24) (.t 26) (.c (.bool false)), none⟩,
        ⟨(.v 8), .asg (.t 27), none⟩] none ⟨[], [], []⟩)
    (.cond (.v 8)
      (.seq (.reg 4 [] [
          ⟨(.v 1), .asg (.c (.slice none 0 0)), none⟩,
          ⟨(.v 2), .asg (.c (.int .i64 0)), none⟩,
          ⟨(.v 3), .asg (.c (.int .i64 10)), none⟩] none ⟨[], [], []⟩)
      .ret)
      (.seq (.reg 5 [] [
          ⟨(.t 29), .mv (.v 5), none⟩,
          ⟨(.t 30), .mv (.v 7), none⟩,
          ⟨(.t 31), .bin .geq (.t 29) (.t 30), none⟩,
          ⟨(.v 9), .asg (.t 31), none⟩] none ⟨[], [], []⟩)
      (.cond (.v 9)
        (.seq (.reg 6 [.freeze (.var 4)] [
            ⟨(.t 32), .mv (.v 4), none⟩,
            ⟨(.t 33), .mv (.v 5), none⟩,
            ⟨(.v 1), .asg (.t 32), none⟩,
            ⟨(.v 2), .asg (.t 33), none⟩,
            ⟨(.v 3), .asg (.c (.int .i64 0)), none⟩] none ⟨[], [], []⟩)
        .ret)
        .skip)))))
  (.seq (.reg 7 [.freeze (.var 6)] [
      ⟨(.t 34), .mv (.v 6), none⟩,
      ⟨(.t 35), .mv (.v 7), none⟩,
      ⟨(.v 1), .asg (.t 34), none⟩,
      ⟨(.v 2), .asg (.t 35), none⟩,
      ⟨(.v 3), .asg (.c (.int .i64 0)), none⟩] none ⟨[], [], []⟩)
  .ret)))))
theorem c9 : compFn Try.prog 9 F9 = some (1, strip a9, [.v 1, .v 2, .v 3]) ∧ lexAll a9 = true := ⟨by kernel_rfl, by kernel_rfl⟩
/-- clusterlocks/stable.Write -/
def F10 : Fr := ⟨11, [0, 1, 5]⟩
def a10 : ACode :=
  (.seq (.reg 0 [] [
      ⟨(.t 2), .box 2 (.v 0), none⟩,
      ⟨(.t 4), .allo [(.slice none 0 0), (.slice none 0 0)], none⟩,
      ⟨(.v 2), .asg (.c (.int .i64 0)), none⟩] none ⟨[], [], []⟩)
  (.seq (.reg 1 [] [
      ⟨(.t 6), .ld 2 true (.t 2), none⟩,
      ⟨(.t 7), .mv (.v 1), none⟩,
      ⟨(.t 8), .call 12 [(.t 6), (.t 7), (.c (.int .i64 9223372036854775807))], none⟩,
      ⟨(.t 9), .ext 8 0, none⟩,
      ⟨(.t 10), .ext 8 1, none⟩,
      ⟨.none, .st 2 (.t 4) (.t 9), none⟩,
      ⟨(.v 2), .asg (.t 10), none⟩] none ⟨[], [], []⟩)
  .ret))
theorem c10 : compFn Try.prog 10 F10 = some (2, strip a10, [.c 4 2 true, .v 2]) ∧ lexAll a10 = true := ⟨by kernel_rfl, by kernel_rfl⟩
/-- clusterlocks/clusterlocksref26.Write -/
def F11 : Fr := ⟨11, [0, 1, 5]⟩
def a11 : ACode :=
  (.seq (.reg 0 [] [
      ⟨(.t 2), .box 2 (.v 0), none⟩,
      ⟨(.t 4), .allo [(.slice none 0 0), (.slice none 0 0)], none⟩,
      ⟨(.v 2), .asg (.c (.int .i64 0)), none⟩] none ⟨[], [], []⟩)
  (.seq (.reg 1 [] [
      ⟨(.t 6), .ld 2 true (.t 2), none⟩,
      ⟨(.t 7), .mv (.v 1), none⟩,
      ⟨(.t 8), .call 13 [(.t 6), (.t 7), (.c (.int .i64 8192))], none⟩,
      ⟨(.t 9), .ext 8 0, none⟩,
      ⟨(.t 10), .ext 8 1, none⟩,
      ⟨.none, .st 2 (.t 4) (.t 9), none⟩,
      ⟨(.v 2), .asg (.t 10), none⟩] none ⟨[], [], []⟩)
  .ret))
theorem c11 : compFn Try.prog 11 F11 = some (2, strip a11, [.c 4 2 true, .v 2]) ∧ lexAll a11 = true := ⟨by kernel_rfl, by kernel_rfl⟩
/-- clusterlocks/stable.Torn -/
def F12 : Fr := ⟨78, [0, 1, 2, 7, 9, 10, 11, 12, 13, 14]⟩
def a12 : ACode :=
  (.seq (.reg 0 [] [
      ⟨(.t 3), .box 2 (.v 0), none⟩,
      ⟨(.t 6), .allo [(.slice none 0 0), (.slice none 0 0)], none⟩,
      ⟨(.v 3), .asg (.c (.int .i64 0)), none⟩] none ⟨[], [], []⟩)
  (.seq (.seq (.reg 1 [] [
      ⟨(.t 16), .mv (.v 1), none⟩,
      ⟨(.t 17), .len (.t 16), none⟩,
      ⟨(.t 18), .bin .gtr (.t 17) (.c (.int .i64 512)), none⟩] none ⟨[], [], []⟩)
  (.cond (.t 18)
    (.seq (.reg 2 [] [
        ⟨(.t 19), .bld [(.slice none 0 0), (.slice none 0 0)] [], none⟩,
        ⟨.none, .st 2 (.t 6) (.t 19), none⟩,
        ⟨(.v 3), .asg (.c (.int .i64 3)), none⟩] none ⟨[], [], []⟩)
    .ret)
    .skip))
  (.seq (.reg 3 [] [
      ⟨(.t 20), .fa 0 (.t 3), none⟩,
      ⟨(.t 21), .ld 1 false (.t 20), none⟩,
      ⟨(.t 22), .fa 1 (.t 3), none⟩,
      ⟨(.t 23), .ld 1 false (.t 22), none⟩,
      ⟨(.t 24), .bld [(.slice none 0 0), (.slice none 0 0)] [(0, 1, (.t 21)), (1, 1, (.t 23))], none⟩,
      ⟨(.t 8), .allo [(.slice none 0 0), (.slice none 0 0)], none⟩,
      ⟨.none, .st 2 (.t 8) (.t 24), none⟩] none ⟨[], [], []⟩)
  (.seq (.reg 4 [] [
      ⟨(.t 26), .ld 2 true (.t 8), none⟩,
      ⟨(.t 27), .call 21 [(.t 26)], none⟩,
      ⟨(.t 25), .mv (.t 27), none⟩,
      ⟨(.t 28), .ext 25 0, none⟩,
      ⟨(.t 29), .ext 25 1, none⟩,
      ⟨(.t 30), .ext 25 2, none⟩,
      ⟨(.v 4), .asg (.t 28), none⟩,
      ⟨(.v 5), .asg (.t 29), none⟩,
      ⟨(.v 6), .asg (.t 30), none⟩] none ⟨[], [], []⟩)
  (.seq (.seq (.reg 5 [] [
      ⟨(.t 31), .mv (.v 6), none⟩,
      ⟨(.t 32), .bin .eql (.t 31) (.c (.int .i64 1073741824)), none⟩] none ⟨[], [], []⟩)
  (.cond (.t 32)
    (.seq (.reg 6 [] [
        ⟨(.t 33), .bld [(.slice none 0 0), (.slice none 0 0)] [], none⟩,
        ⟨.none, .st 2 (.t 6) (.t 33), none⟩,
        ⟨(.v 3), .asg (.c (.int .i64 16)), none⟩] none ⟨[], [], []⟩)
    .ret)
    .skip))
  (.seq (.reg 7 [] [
      ⟨(.t 35), .mv (.v 6), none⟩,
      ⟨(.t 36), .conv .u64 (.t 35), none⟩,
      ⟨(.t 37), .bin .add (.t 36) (.c (.int .u64 1)), none⟩,
      ⟨(.t 38), .call 25 [(.c (.slice none 0 0)), (.t 37)], none⟩,
      ⟨(.t 39), .mv (.v 1), none⟩,
      ⟨(.t 40), .app 5 1 1 (.t 38) (.t 39), none⟩,
      ⟨(.t 41), .call 24 [(.t 40)], none⟩,
      ⟨(.t 34), .mv (.t 41), none⟩,
      ⟨(.t 42), .ext 34 0, none⟩,
      ⟨(.t 43), .ext 34 1, none⟩,
      ⟨(.v 7), .asg (.t 42), none⟩,
      ⟨(.v 8), .asg (.t 43), none⟩] none ⟨[], [], []⟩)
  (.seq (.seq (.reg 8 [] [
      ⟨(.t 44), .mv (.v 8), none⟩,
      ⟨(.t 45), .bin .neq (.t 44) (.c (.int .i64 0)), none⟩] none ⟨[], [], []⟩)
  (.cond (.t 45)
    (.seq (.reg 9 [] [
        ⟨(.t 46), .bld [(.slice none 0 0), (.slice none 0 0)] [], none⟩,
        ⟨(.t 47), .mv (.v 8), none⟩,
        ⟨.none, .st 2 (.t 6) (.t 46), none⟩,
        ⟨(.v 3), .asg (.t 47), none⟩] none ⟨[], [], []⟩)
    .ret)
    .skip))
  (.seq (.reg 10 [] [
      ⟨(.t 48), .mv (.v 6), none⟩,
      ⟨(.t 49), .bin .gtr (.t 48) (.c (.int .i64 0)), none⟩,
      ⟨(.t 50), .mv (.t 49), none⟩,
      ⟨(.t 51), .mv (.v 4), some (50, true)⟩,
      ⟨(.t 52), .un .not (.t 51), some (50, true)⟩,
      ⟨(.t 53), .pick (.t 50) (.t 52) (.c (.bool false)), none⟩,
      ⟨(.t 54), .call 26 [(.t 53)], none⟩,
      ⟨(.v 9), .asg (.t 54), none⟩] none ⟨[], [], []⟩)
  (.seq (.reg 11 [] [
      ⟨(.t 15), .allo [(.slice none 0 0), (.slice none 0 0)], none⟩] none ⟨[], [], []⟩)
  (.seq (.reg 12 [.freeze (.var 7)] [
      ⟨(.t 55), .mv (.v 9), none⟩,
      ⟨(.t 56), .mv (.v 7), none⟩,
      ⟨(.t 57), .mv (.v 2), none⟩,
      ⟨(.t 58), .mnx true (.t 57) (.c (.int .i64 0)), none⟩,
      ⟨(.t 59), .mv (.v 7), none⟩,
      ⟨(.t 60), .len (.t 59), none⟩,
      ⟨(.t 61), .mnx false (.t 58) (.t 60), none⟩,
      ⟨(.t 62), .sl 5 1 (.t 56) none (some (.t 61)) none, none⟩,
      ⟨(.t 63), .call 22 [(.t 62)], none⟩,
      ⟨(.t 64), .iaa 1 2 (.t 15) (.t 55), none⟩,
      ⟨.none, .st 1 (.t 64) (.t 63), none⟩] none ⟨[], [], []⟩)
  (.seq (.reg 13 [] [
      ⟨(.t 65), .mv (.v 9), none⟩,
      ⟨(.t 66), .bin .sub (.c (.int .i64 1)) (.t 65), none⟩,
      ⟨(.t 67), .mv (.v 9), none⟩,
      ⟨(.t 68), .bin .sub (.c (.int .i64 1)) (.t 67), none⟩,
      ⟨(.t 69), .iaa 1 2 (.t 8) (.t 68), none⟩,
      ⟨(.t 70), .ld 1 false (.t 69), none⟩,
      ⟨(.t 71), .call 22 [(.t 70)], none⟩,
      ⟨(.t 72), .iaa 1 2 (.t 15) (.t 66), none⟩,
      ⟨.none, .st 1 (.t 72) (.t 71), none⟩] none ⟨[], [], []⟩)
  (.seq (.reg 14 [.freeze (.cell 3 0), .freeze (.cell 3 1)] [
      ⟨(.t 73), .iaa 1 2 (.t 15) (.c (.int .i64 0)), none⟩,
      ⟨(.t 74), .ld 1 false (.t 73), none⟩,
      ⟨(.t 75), .iaa 1 2 (.t 15) (.c (.int .i64 1)), none⟩,
      ⟨(.t 76), .ld 1 false (.t 75), none⟩,
      ⟨(.t 77), .bld [(.slice none 0 0), (.slice none 0 0)] [(0, 1, (.t 74)), (1, 1, (.t 76))], none⟩,
      ⟨.none, .st 2 (.t 6) (.t 77), none⟩,
      ⟨(.v 3), .asg (.c (.int .i64 0)), none⟩] none ⟨[], [], []⟩)
  .ret))))))))))))
theorem c12 : compFn Try.prog 12 F12 = some (3, strip a12, [.c 6 2 true, .v 3]) ∧ lexAll a12 = true := ⟨by kernel_rfl, by kernel_rfl⟩
/-- clusterlocks/clusterlocksref26.Torn -/
def F13 : Fr := ⟨43, [0, 1, 2, 7, 8, 9, 10]⟩
def a13 : ACode :=
  (.seq (.reg 0 [] [
      ⟨(.t 3), .box 2 (.v 0), none⟩,
      ⟨(.t 6), .allo [(.slice none 0 0), (.slice none 0 0)], none⟩,
      ⟨(.v 3), .asg (.c (.int .i64 0)), none⟩] none ⟨[], [], []⟩)
  (.seq (.reg 1 [] [
      ⟨(.t 13), .ld 2 true (.t 3), none⟩,
      ⟨(.t 14), .mv (.v 1), none⟩,
      ⟨(.t 15), .call 27 [(.t 13), (.t 14)], none⟩,
      ⟨(.t 12), .mv (.t 15), none⟩,
      ⟨(.t 16), .ext 12 0, none⟩,
      ⟨(.t 17), .ext 12 1, none⟩,
      ⟨(.t 18), .ext 12 2, none⟩,
      ⟨(.v 4), .asg (.t 16), none⟩,
      ⟨(.v 5), .asg (.t 17), none⟩,
      ⟨(.v 6), .asg (.t 18), none⟩] none ⟨[], [], []⟩)
  (.seq (.seq (.reg 2 [] [
      ⟨(.t 19), .mv (.v 6), none⟩,
      ⟨(.t 20), .bin .neq (.t 19) (.c (.int .i64 0)), none⟩] none ⟨[], [], []⟩)
  (.cond (.t 20)
    (.seq (.reg 3 [] [
        ⟨(.t 21), .bld [(.slice none 0 0), (.slice none 0 0)] [], none⟩,
        ⟨(.t 22), .mv (.v 6), none⟩,
        ⟨.none, .st 2 (.t 6) (.t 21), none⟩,
        ⟨(.v 3), .asg (.t 22), none⟩] none ⟨[], [], []⟩)
    .ret)
    .skip))
  (.seq (.reg 4 [.freeze (.var 4)] [
      ⟨(.t 23), .mv (.v 4), none⟩,
      ⟨(.t 24), .mv (.v 2), none⟩,
      ⟨(.t 25), .mv (.v 4), none⟩,
      ⟨(.t 26), .len (.t 25), none⟩,
      ⟨(.t 27), .mnx false (.t 24) (.t 26), none⟩,
      ⟨(.t 28), .mnx true (.t 27) (.c (.int .i64 0)), none⟩,
      ⟨(.t 29), .sl 5 1 (.t 23) none (some (.t 28)) none, none⟩,
      ⟨(.v 4), .asg (.t 29), none⟩] none ⟨[], [], []⟩)
  (.seq (.reg 5 [] [
      ⟨(.t 30), .fa 0 (.t 3), none⟩,
      ⟨(.t 31), .ld 1 false (.t 30), none⟩,
      ⟨(.t 32), .app 5 1 1 (.c (.slice none 0 0)) (.t 31), none⟩,
      ⟨(.t 33), .fa 1 (.t 3), none⟩,
      ⟨(.t 34), .ld 1 false (.t 33), none⟩,
      ⟨(.t 35), .app 5 1 1 (.c (.slice none 0 0)) (.t 34), none⟩,
      ⟨(.t 36), .bld [(.slice none 0 0), (.slice none 0 0)] [(0, 1, (.t 32)), (1, 1, (.t 35))], none⟩,
      ⟨(.t 11), .allo [(.slice none 0 0), (.slice none 0 0)], none⟩,
      ⟨.none, .st 2 (.t 11) (.t 36), none⟩] (some [[], [0], [1], [], [3], [4, 2], [2, 5], [], [7, 6, 5, 0, 1, 2, 3, 4, 5, 6, 7]]) ⟨[3], [], []⟩)
  (.seq (.seq (.reg 6 [] [
      ⟨(.t 37), .mv (.v 5), none⟩] none ⟨[], [], []⟩)
  (.cond (.t 37)
    (.reg 7 [] [
        ⟨(.t 38), .mv (.v 4), none⟩,
        ⟨(.t 39), .fa 0 (.t 11), none⟩,
        ⟨.none, .st 1 (.t 39) (.t 38), none⟩] none ⟨[], [], []⟩)
    (.reg 8 [] [
        ⟨(.t 40), .mv (.v 4), none⟩,
        ⟨(.t 41), .fa 1 (.t 11), none⟩,
        ⟨.none, .st 1 (.t 41) (.t 40), none⟩] none ⟨[], [], []⟩)))
  (.seq (.reg 9 [.freeze (.cell 2 0), .freeze (.cell 2 1)] [
      ⟨(.t 42), .ld 2 true (.t 11), none⟩,
      ⟨.none, .st 2 (.t 6) (.t 42), none⟩,
      ⟨(.v 3), .asg (.c (.int .i64 0)), none⟩] none ⟨[], [], []⟩)
  .ret)))))))
theorem c13 : compFn Try.prog 13 F13 = some (3, strip a13, [.c 6 2 true, .v 3]) ∧ lexAll a13 = true := ⟨by kernel_rfl, by kernel_rfl⟩
/-- clusterlocks/clusterlocksref26.Same -/
def F14 : Fr := ⟨21, [0, 1, 4]⟩
def a14 : ACode :=
  (.seq (.reg 0 [] [
      ⟨(.t 2), .box 2 (.v 0), none⟩,
      ⟨(.t 3), .box 2 (.v 1), none⟩,
      ⟨(.v 2), .asg (.c (.bool false)), none⟩] none ⟨[], [], []⟩)
  (.seq (.reg 1 [] [
      ⟨(.t 5), .fa 0 (.t 2), none⟩,
      ⟨(.t 6), .ld 1 false (.t 5), none⟩,
      ⟨(.t 7), .b2s (.t 6), none⟩,
      ⟨(.t 8), .fa 0 (.t 3), none⟩,
      ⟨(.t 9), .ld 1 false (.t 8), none⟩,
      ⟨(.t 10), .b2s (.t 9), none⟩,
      ⟨(.t 11), .bin .eql (.t 7) (.t 10), none⟩,
      ⟨(.t 12), .mv (.t 11), none⟩,
      ⟨(.t 13), .fa 1 (.t 2), some (12, true)⟩,
      ⟨(.t 14), .ld 1 false (.t 13), some (12, true)⟩,
      ⟨(.t 15), .b2s (.t 14), some (12, true)⟩,
      ⟨(.t 16), .fa 1 (.t 3), some (12, true)⟩,
      ⟨(.t 17), .ld 1 false (.t 16), some (12, true)⟩,
      ⟨(.t 18), .b2s (.t 17), some (12, true)⟩,
      ⟨(.t 19), .bin .eql (.t 15) (.t 18), some (12, true)⟩,
      ⟨(.t 20), .pick (.t 12) (.t 19) (.c (.bool false)), none⟩,
      ⟨(.v 2), .asg (.t 20), none⟩] none ⟨[], [], []⟩)
  .ret))
theorem c14 : compFn Try.prog 14 F14 = some (2, strip a14, [.v 2]) ∧ lexAll a14 = true := ⟨by kernel_rfl, by kernel_rfl⟩
/-- clusterlocks/clusterlocksplan.Light -/
def F15 : Fr := ⟨6, [0, 2]⟩
def a15 : ACode :=
  (.seq (.reg 0 [] [
      ⟨(.v 1), .asg (.c (.bool false)), none⟩] none ⟨[], [], []⟩)
  (.seq (.reg 1 [] [
      ⟨(.t 3), .mv (.v 0), none⟩,
      ⟨(.t 4), .len (.t 3), none⟩,
      ⟨(.t 5), .bin .leq (.t 4) (.c (.int .i64 400)), none⟩,
      ⟨(.v 1), .asg (.t 5), none⟩] none ⟨[], [], []⟩)
  .ret))
theorem c15 : compFn Try.prog 15 F15 = some (1, strip a15, [.v 1]) ∧ lexAll a15 = true := ⟨by kernel_rfl, by kernel_rfl⟩
/-- clusterlocks/stable.New -/
def F16 : Fr := ⟨2, []⟩
def a16 : ACode :=
  (.seq (.reg 0 [] [
      ⟨(.t 0), .allo [(.slice none 0 0), (.slice none 0 0)], none⟩] none ⟨[], [], []⟩)
  (.seq (.reg 1 [] [
      ⟨(.t 1), .bld [(.slice none 0 0), (.slice none 0 0)] [], none⟩,
      ⟨.none, .st 2 (.t 0) (.t 1), none⟩] none ⟨[], [], []⟩)
  .ret))
theorem c16 : compFn Try.prog 16 F16 = some (0, strip a16, [.c 0 2 true]) ∧ lexAll a16 = true := ⟨by kernel_rfl, by kernel_rfl⟩
/-- clusterlocks/clusterlocksref26.New -/
def F17 : Fr := ⟨2, []⟩
def a17 : ACode :=
  (.seq (.reg 0 [] [
      ⟨(.t 0), .allo [(.slice none 0 0), (.slice none 0 0)], none⟩] none ⟨[], [], []⟩)
  (.seq (.reg 1 [] [
      ⟨(.t 1), .bld [(.slice none 0 0), (.slice none 0 0)] [], none⟩,
      ⟨.none, .st 2 (.t 0) (.t 1), none⟩] none ⟨[], [], []⟩)
  .ret))
theorem c17 : compFn Try.prog 17 F17 = some (0, strip a17, [.c 0 2 true]) ∧ lexAll a17 = true := ⟨by kernel_rfl, by kernel_rfl⟩
/-- (*clusterlocks/clusterlocksmill.Tape).More -/
def F18 : Fr := ⟨13, [0, 2]⟩
def a18 : ACode :=
  (.seq (.reg 0 [] [
      ⟨(.v 1), .asg (.c (.bool false)), none⟩] none ⟨[], [], []⟩)
  (.seq (.reg 1 [] [
      ⟨(.t 3), .mv (.v 0), none⟩,
      ⟨(.t 4), .nilck (.t 3), none⟩,
      ⟨(.t 5), .fa 1 (.t 4), none⟩,
      ⟨(.t 6), .ld 1 false (.t 5), none⟩,
      ⟨(.t 7), .mv (.v 0), none⟩,
      ⟨(.t 8), .nilck (.t 7), none⟩,
      ⟨(.t 9), .fa 0 (.t 8), none⟩,
      ⟨(.t 10), .ld 1 false (.t 9), none⟩,
      ⟨(.t 11), .len (.t 10), none⟩,
      ⟨(.t 12), .bin .lss (.t 6) (.t 11), none⟩,
      ⟨(.v 1), .asg (.t 12), none⟩] (some [[], [0], [1], [2], [], [4], [5], [6], [7], [3, 8], [9, 0, 1, 2, 3, 4, 5, 6, 7, 8, 9]]) ⟨[], [], []⟩)
  .ret))
theorem c18 : compFn Try.prog 18 F18 = some (1, strip a18, [.v 1]) ∧ lexAll a18 = true := ⟨by kernel_rfl, by kernel_rfl⟩
/-- (*clusterlocks/clusterlocksmill.Tape).Next -/
def F19 : Fr := ⟨35, [0, 1, 4]⟩
def a19 : ACode :=
  (.seq (.reg 0 [] [
      ⟨(.v 2), .asg (.c (.int .i64 0)), none⟩] none ⟨[], [], []⟩)
  (.seq (.seq (.reg 1 [] [
      ⟨(.t 5), .mv (.v 0), none⟩,
      ⟨(.t 6), .nilck (.t 5), none⟩,
      ⟨(.t 7), .fa 1 (.t 6), none⟩,
      ⟨(.t 8), .ld 1 false (.t 7), none⟩,
      ⟨(.t 9), .mv (.v 0), none⟩,
      ⟨(.t 10), .nilck (.t 9), none⟩,
      ⟨(.t 11), .fa 0 (.t 10), none⟩,
      ⟨(.t 12), .ld 1 false (.t 11), none⟩,
      ⟨(.t 13), .len (.t 12), none⟩,
      ⟨(.t 14), .bin .geq (.t 8) (.t 13), none⟩] (some [[], [0], [1], [2], [], [4], [5], [6], [7], [3, 8]]) ⟨[], [], []⟩)
  (.cond (.t 14)
    (.seq (.reg 2 [] [
        ⟨(.v 2), .asg (.c (.int .i64 0)), none⟩] none ⟨[], [], []⟩)
    .ret)
    .skip))
  (.seq (.reg 3 [] [
      ⟨(.t 15), .mv (.v 0), none⟩,
      ⟨(.t 16), .nilck (.t 15), none⟩,
      ⟨(.t 17), .fa 1 (.t 16), none⟩,
      ⟨(.t 18), .ld 1 false (.t 17), none⟩,
      ⟨(.t 19), .bin .add (.t 18) (.c (.int .i64 1)), none⟩,
      ⟨(.t 20), .nilck (.t 15), none⟩,
      ⟨(.t 21), .fa 1 (.t 20), none⟩,
      ⟨.none, .st 1 (.t 21) (.t 19), none⟩] none ⟨[], [], []⟩)
  (.seq (.reg 4 [] [
      ⟨(.t 22), .mv (.v 0), none⟩,
      ⟨(.t 23), .nilck (.t 22), none⟩,
      ⟨(.t 24), .fa 0 (.t 23), none⟩,
      ⟨(.t 25), .ld 1 false (.t 24), none⟩,
      ⟨(.t 26), .mv (.v 0), none⟩,
      ⟨(.t 27), .nilck (.t 26), none⟩,
      ⟨(.t 28), .fa 1 (.t 27), none⟩,
      ⟨(.t 29), .ld 1 false (.t 28), none⟩,
      ⟨(.t 30), .bin .sub (.t 29) (.c (.int .i64 1)), none⟩,
      ⟨(.t 31), .ia 1 (.t 25) (.t 30), none⟩,
      ⟨(.t 32), .ld 1 false (.t 31), none⟩,
      ⟨(.t 33), .mv (.v 1), none⟩,
      ⟨(.t 34), .call 20 [(.t 32), (.t 33)], none⟩,
      ⟨(.v 2), .asg (.t 34), none⟩] (some [[], [0], [1], [2], [], [4], [5], [6], [7], [3, 8], [9], [], [10, 11], [12, 12, 0, 1, 2, 3, 4, 5, 6, 7, 8, 9, 10, 11, 12]]) ⟨[], [], []⟩)
  .ret))))
theorem c19 : compFn Try.prog 19 F19 = some (2, strip a19, [.v 2]) ∧ lexAll a19 = true := ⟨by kernel_rfl, by kernel_rfl⟩
/-- clusterlocks/clusterlocksmill.Mod -/
def F20 : Fr := ⟨16, [0, 1, 4]⟩
def a20 : ACode :=
  (.seq (.reg 0 [] [
      ⟨(.v 2), .asg (.c (.int .i64 0)), none⟩] none ⟨[], [], []⟩)
  (.seq (.seq (.reg 1 [] [
      ⟨(.t 5), .mv (.v 1), none⟩,
      ⟨(.t 6), .bin .lss (.t 5) (.c (.int .i64 1)), none⟩] none ⟨[], [], []⟩)
  (.cond (.t 6)
    (.seq (.reg 2 [] [
        ⟨(.v 2), .asg (.c (.int .i64 0)), none⟩] none ⟨[], [], []⟩)
    .ret)
    .skip))
  (.seq (.reg 3 [] [
      ⟨(.t 7), .mv (.v 0), none⟩,
      ⟨(.t 8), .mv (.v 1), none⟩,
      ⟨(.t 9), .bin .rem (.t 7) (.t 8), none⟩,
      ⟨(.v 0), .asg (.t 9), none⟩] none ⟨[], [], []⟩)
  (.seq (.seq (.reg 4 [] [
      ⟨(.t 10), .mv (.v 0), none⟩,
      ⟨(.t 11), .bin .lss (.t 10) (.c (.int .i64 0)), none⟩] none ⟨[], [], []⟩)
  (.cond (.t 11)
    (.reg 5 [] [
        ⟨(.t 12), .mv (.v 0), none⟩,
        ⟨(.t 13), .mv (.v 1), none⟩,
        ⟨(.t 14), .bin .add (.t 12) (.t 13), none⟩,
        ⟨(.v 0), .asg (.t 14), none⟩] none ⟨[], [], []⟩)
    .skip))
  (.seq (.reg 6 [] [
      ⟨(.t 15), .mv (.v 0), none⟩,
      ⟨(.v 2), .asg (.t 15), none⟩] none ⟨[], [], []⟩)
  .ret)))))
theorem c20 : compFn Try.prog 20 F20 = some (2, strip a20, [.v 2]) ∧ lexAll a20 = true := ⟨by kernel_rfl, by kernel_rfl⟩
/-- clusterlocks/stable.present -/
def F21 : Fr := ⟨38, [0, 2, 3, 4, 5, 6, 7, 8, 9, 10, 11, 12]⟩
def a21 : ACode :=
  (.seq (.reg 0 [] [
      ⟨(.t 1), .box 2 (.v 0), none⟩,
      ⟨(.v 1), .asg (.c (.bool false)), none⟩,
      ⟨(.v 2), .asg (.c (.slice none 0 0)), none⟩,
      ⟨(.v 3), .asg (.c (.int .i64 0)), none⟩] none ⟨[], [], []⟩)
  (.seq (.reg 1 [] [
      ⟨(.v 4), .asg (.c (.bool false)), none⟩] none ⟨[], [], []⟩)
  (.seq (.reg 2 [] [
      ⟨(.v 5), .asg (.c (.slice none 0 0)), none⟩] none ⟨[], [], []⟩)
  (.seq (.reg 3 [] [
      ⟨(.v 6), .asg (.c (.int .i64 0)), none⟩] none ⟨[], [], []⟩)
  (.seq (.seq (.reg 4 [] [
      ⟨(.t 13), .ld 2 true (.t 1), none⟩,
      ⟨(.t 14), .mv (.c (.int .i64 0)), none⟩] none ⟨[], [], []⟩)
  (.block 0
    (.loop
      (.seq (.reg 5 [] [
          ⟨(.t 15), .bin .lss (.t 14) (.c (.int .i64 2)), none⟩] none ⟨[], [], []⟩)
      (.seq (.cond (.t 15)
        .skip
        (.exit 0))
      (.seq (.block 1
        (.seq (.reg 6 [] [
            ⟨(.t 16), .mv (.t 14), none⟩,
            ⟨(.t 17), .ex (.idx 2 1 false) (.t 13) (.t 14), none⟩,
            ⟨(.v 7), .asg (.t 16), none⟩,
            ⟨(.v 8), .asg (.t 17), none⟩] none ⟨[], [], []⟩)
        (.seq (.reg 7 [] [
            ⟨(.t 19), .mv (.v 8), none⟩,
            ⟨(.t 20), .call 28 [(.t 19)], none⟩,
            ⟨(.t 18), .mv (.t 20), none⟩,
            ⟨(.t 21), .ext 18 0, none⟩,
            ⟨(.t 22), .ext 18 1, none⟩,
            ⟨(.t 23), .ext 18 2, none⟩,
            ⟨(.v 9), .asg (.t 21), none⟩,
            ⟨(.v 10), .asg (.t 22), none⟩,
            ⟨(.v 11), .asg (.t 23), none⟩] none ⟨[], [], []⟩)
        (.seq (.reg 8 [] [
            ⟨(.t 24), .mv (.v 11), none⟩,
            ⟨(.t 25), .mv (.t 24), none⟩,
            ⟨(.t 26), .mv (.v 10), some (25, true)⟩,
            ⟨(.t 27), .mv (.v 6), some (25, true)⟩,
            ⟨(.t 28), .bin .gtr (.t 26) (.t 27), some (25, true)⟩,
            ⟨(.t 29), .pick (.t 25) (.t 28) (.c (.bool false)), none⟩] none ⟨[], [], []⟩)
        (.cond (.t 29)
          (.reg 9 [] [
              ⟨(.t 30), .mv (.v 7), none⟩,
              ⟨(.t 31), .bin .eql (.t 30) (.c (.int .i64 1)), none⟩,
              ⟨(.t 32), .mv (.v 9), none⟩,
              ⟨(.t 33), .mv (.v 10), none⟩,
              ⟨(.v 4), .asg (.t 31), none⟩,
              ⟨(.v 5), .asg (.t 32), none⟩,
              ⟨(.v 6), .asg (.t 33), none⟩] none ⟨[], [], []⟩)
          .skip)))))
      (.reg 10 [] [
          ⟨(.t 34), .bin .add (.t 14) (.c (.int .i64 1)), none⟩,
          ⟨(.t 14), .mv (.t 34), none⟩] none ⟨[], [], []⟩)))))))
  (.seq (.reg 11 [] [
      ⟨(.t 35), .mv (.v 4), none⟩,
      ⟨(.t 36), .mv (.v 5), none⟩,
      ⟨(.t 37), .mv (.v 6), none⟩,
      ⟨(.v 1), .asg (.t 35), none⟩,
      ⟨(.v 2), .asg (.t 36), none⟩,
      ⟨(.v 3), .asg (.t 37), none⟩] none ⟨[], [], []⟩)
  .ret))))))
theorem c21 : compFn Try.prog 21 F21 = some (1, strip a21, [.v 1, .v 2, .v 3]) ∧ lexAll a21 = true := ⟨by kernel_rfl, by kernel_rfl⟩
/-- clusterlocks/stable.clone -/
def F22 : Fr := ⟨5, [0, 2]⟩
def a22 : ACode :=
  (.seq (.reg 0 [] [
      ⟨(.v 1), .asg (.c (.slice none 0 0)), none⟩] none ⟨[], [], []⟩)
  (.seq (.reg 1 [] [
      ⟨(.t 3), .mv (.v 0), none⟩,
      ⟨(.t 4), .app 5 1 1 (.c (.slice none 0 0)) (.t 3), none⟩,
      ⟨(.v 1), .asg (.t 4), none⟩] none ⟨[], [], []⟩)
  .ret))
theorem c22 : compFn Try.prog 22 F22 = some (1, strip a22, [.v 1]) ∧ lexAll a22 = true := ⟨by kernel_rfl, by kernel_rfl⟩
/-- clusterlocks/clusterlocksref26.whole -/
def F23 : Fr := ⟨52, [0, 2, 3, 4, 5, 6, 7, 8]⟩
def a23 : ACode :=
  (.seq (.reg 0 [] [
      ⟨(.v 1), .asg (.c (.slice none 0 0)), none⟩,
      ⟨(.v 2), .asg (.c (.int .i64 0)), none⟩] none ⟨[], [], []⟩)
  (.seq (.reg 1 [] [
      ⟨(.t 10), .mv (.v 0), none⟩,
      ⟨(.t 11), .call 29 [(.t 10)], none⟩,
      ⟨(.t 9), .mv (.t 11), none⟩,
      ⟨(.t 12), .ext 9 0, none⟩,
      ⟨(.t 13), .ext 9 1, none⟩,
      ⟨(.t 14), .ext 9 2, none⟩,
      ⟨(.v 3), .asg (.t 12), none⟩,
      ⟨(.v 4), .asg (.t 13), none⟩,
      ⟨(.v 5), .asg (.t 14), none⟩] none ⟨[], [], []⟩)
  (.seq (.seq (.reg 2 [] [
      ⟨(.t 15), .mv (.v 5), none⟩,
      ⟨(.t 16), .bin .neq (.t 15) (.c (.int .i64 0)), none⟩,
      ⟨(.t 17), .mv (.t 16), none⟩,
      ⟨(.t 18), .mv (.v 4), some (17, false)⟩,
      ⟨(.t 19), .mv (.v 0), some (17, false)⟩,
      ⟨(.t 20), .len (.t 19), some (17, false)⟩,
      ⟨(.t 21), .bin .neq (.t 18) (.t 20), some (17, false)⟩,
      ⟨(.t 22), .pick (.t 17) (.c (.bool true)) (.t 21), none⟩] none ⟨[], [], []⟩)
  (.cond (.t 22)
    (.seq (.reg 3 [] [
        ⟨(.v 1), .asg (.c (.slice none 0 0)), none⟩,
        ⟨(.v 2), .asg (.c (.int .i64 0)), none⟩] none ⟨[], [], []⟩)
    .ret)
    .skip))
  (.seq (.reg 4 [.freeze (.var 3)] [
      ⟨(.t 24), .mv (.v 3), none⟩,
      ⟨(.t 25), .call 30 [(.t 24)], none⟩,
      ⟨(.t 23), .mv (.t 25), none⟩,
      ⟨(.t 26), .ext 23 0, none⟩,
      ⟨(.t 27), .ext 23 1, none⟩,
      ⟨(.t 28), .ext 23 2, none⟩,
      ⟨(.v 6), .asg (.t 26), none⟩,
      ⟨(.v 7), .asg (.t 27), none⟩,
      ⟨(.v 5), .asg (.t 28), none⟩] none ⟨[], [], []⟩)
  (.seq (.seq (.reg 5 [] [
      ⟨(.t 29), .mv (.v 5), none⟩,
      ⟨(.t 30), .bin .neq (.t 29) (.c (.int .i64 0)), none⟩,
      ⟨(.t 31), .mv (.t 30), none⟩,
      ⟨(.t 32), .mv (.v 6), some (31, false)⟩,
      ⟨(.t 33), .bin .lss (.t 32) (.c (.int .u64 1)), some (31, false)⟩,
      ⟨(.t 34), .pick (.t 31) (.c (.bool true)) (.t 33), none⟩,
      ⟨(.t 35), .mv (.t 34), none⟩,
      ⟨(.t 36), .mv (.v 6), some (35, false)⟩,
      ⟨(.t 37), .bin .gtr (.t 36) (.c (.int .u64 1073741824)), some (35, false)⟩,
      ⟨(.t 38), .pick (.t 35) (.c (.bool true)) (.t 37), none⟩,
      ⟨(.t 39), .mv (.t 38), none⟩,
      ⟨(.t 40), .mv (.v 3), some (39, false)⟩,
      ⟨(.t 41), .len (.t 40), some (39, false)⟩,
      ⟨(.t 42), .mv (.v 7), some (39, false)⟩,
      ⟨(.t 43), .bin .sub (.t 41) (.t 42), some (39, false)⟩,
      ⟨(.t 44), .bin .gtr (.t 43) (.c (.int .i64 512)), some (39, false)⟩,
      ⟨(.t 45), .pick (.t 39) (.c (.bool true)) (.t 44), none⟩] none ⟨[], [], []⟩)
  (.cond (.t 45)
    (.seq (.reg 6 [] [
        ⟨(.v 1), .asg (.c (.slice none 0 0)), none⟩,
        ⟨(.v 2), .asg (.c (.int .i64 0)), none⟩] none ⟨[], [], []⟩)
    .ret)
    .skip))
  (.seq (.reg 7 [] [
      ⟨(.t 46), .mv (.v 3), none⟩,
      ⟨(.t 47), .mv (.v 7), none⟩,
      ⟨(.t 48), .sl 5 1 (.t 46) (some (.t 47)) none none, none⟩,
      ⟨(.t 49), .app 5 1 1 (.c (.slice none 0 0)) (.t 48), none⟩,
      ⟨(.t 50), .mv (.v 6), none⟩,
      ⟨(.t 51), .conv .i64 (.t 50), none⟩,
      ⟨(.v 1), .asg (.t 49), none⟩,
      ⟨(.v 2), .asg (.t 51), none⟩] none ⟨[], [], []⟩)
  .ret))))))
theorem c23 : compFn Try.prog 23 F23 = some (1, strip a23, [.v 1, .v 2]) ∧ lexAll a23 = true := ⟨by kernel_rfl, by kernel_rfl⟩
/-- clusterlocks/codec.Frame -/
def F24 : Fr := ⟨31, [0, 2, 3, 4, 5]⟩
def a24 : ACode :=
  (.seq (.reg 0 [] [
      ⟨(.v 1), .asg (.c (.slice none 0 0)), none⟩,
      ⟨(.v 2), .asg (.c (.int .i64 0)), none⟩] none ⟨[], [], []⟩)
  (.seq (.seq (.reg 1 [] [
      ⟨(.t 6), .mv (.v 0), none⟩,
      ⟨(.t 7), .len (.t 6), none⟩,
      ⟨(.t 8), .bin .gtr (.t 7) (.c (.int .i64 4096)), none⟩] none ⟨[], [], []⟩)
  (.cond (.t 8)
    (.seq (.reg 2 [] [
        ⟨(.v 1), .asg (.c (.slice none 0 0)), none⟩,
        ⟨(.v 2), .asg (.c (.int .i64 3)), none⟩] none ⟨[], [], []⟩)
    .ret)
    .skip))
  (.seq (.reg 3 [] [
      ⟨(.t 9), .mv (.v 0), none⟩,
      ⟨(.t 10), .call 31 [(.t 9)], none⟩,
      ⟨(.v 3), .asg (.t 10), none⟩] none ⟨[], [], []⟩)
  (.seq (.reg 4 [] [
      ⟨(.t 11), .mv (.v 0), none⟩,
      ⟨(.t 12), .len (.t 11), none⟩,
      ⟨(.t 13), .conv .u64 (.t 12), none⟩,
      ⟨(.t 14), .call 25 [(.c (.slice none 0 0)), (.t 13)], none⟩,
      ⟨(.t 15), .mv (.v 0), none⟩,
      ⟨(.t 16), .app 5 1 1 (.t 14) (.t 15), none⟩,
      ⟨(.v 4), .asg (.t 16), none⟩] none ⟨[], [], []⟩)
  (.seq (.reg 5 [.lend (.var 4) 30] [
      ⟨(.t 17), .mv (.v 4), none⟩,
      ⟨(.t 18), .mv (.v 3), none⟩,
      ⟨(.t 19), .bin .shr (.t 18) (.c (.int .u64 24)), none⟩,
      ⟨(.t 20), .conv .u8 (.t 19), none⟩,
      ⟨(.t 21), .mv (.v 3), none⟩,
      ⟨(.t 22), .bin .shr (.t 21) (.c (.int .u64 16)), none⟩,
      ⟨(.t 23), .conv .u8 (.t 22), none⟩,
      ⟨(.t 24), .mv (.v 3), none⟩,
      ⟨(.t 25), .bin .shr (.t 24) (.c (.int .u64 8)), none⟩,
      ⟨(.t 26), .conv .u8 (.t 25), none⟩,
      ⟨(.t 27), .mv (.v 3), none⟩,
      ⟨(.t 28), .conv .u8 (.t 27), none⟩,
      ⟨(.t 29), .bls 5 1 (.int .u8 0) 4 [(0, (.t 20)), (1, (.t 23)), (2, (.t 26)), (3, (.t 28))], none⟩,
      ⟨(.t 30), .app 5 1 1 (.t 17) (.t 29), none⟩,
      ⟨(.v 1), .asg (.t 30), none⟩,
      ⟨(.v 2), .asg (.c (.int .i64 0)), none⟩] none ⟨[], [], []⟩)
  .ret)))))
theorem c24 : compFn Try.prog 24 F24 = some (1, strip a24, [.v 1, .v 2]) ∧ lexAll a24 = true := ⟨by kernel_rfl, by kernel_rfl⟩
/-- clusterlocks/codec.PutUint -/
def F25 : Fr := ⟨28, [0, 1, 4, 5]⟩
def a25 : ACode :=
  (.seq (.reg 0 [] [
      ⟨(.v 2), .asg (.c (.slice none 0 0)), none⟩] none ⟨[], [], []⟩)
  (.seq (.reg 1 [] [
      ⟨(.t 6), .mv (.v 0), none⟩,
      ⟨(.t 7), .mv (.v 0), none⟩,
      ⟨(.t 8), .len (.t 7), none⟩,
      ⟨(.t 9), .mv (.v 0), none⟩,
      ⟨(.t 10), .len (.t 9), none⟩,
      ⟨(.t 11), .sl 5 1 (.t 6) none (some (.t 8)) (some (.t 10)), none⟩,
      ⟨(.v 3), .asg (.t 11), none⟩] none ⟨[], [], []⟩)
  (.seq (.block 0
    (.loop
      (.seq (.seq (.reg 2 [] [
          ⟨(.t 12), .mv (.v 1), none⟩,
          ⟨(.t 13), .bin .gtr (.t 12) (.c (.int .u64 127)), none⟩] none ⟨[], [], []⟩)
      (.cond (.t 13)
        .skip
        (.exit 0)))
      (.block 1
        (.seq (.reg 3 [.lend (.var 3) 20] [
            ⟨(.t 14), .mv (.v 3), none⟩,
            ⟨(.t 15), .mv (.v 1), none⟩,
            ⟨(.t 16), .bin .and (.t 15) (.c (.int .u64 127)), none⟩,
            ⟨(.t 17), .conv .u8 (.t 16), none⟩,
            ⟨(.t 18), .bin .or (.t 17) (.c (.int .u8 128)), none⟩,
            ⟨(.t 19), .bls 5 1 (.int .u8 0) 1 [(0, (.t 18))], none⟩,
            ⟨(.t 20), .app 5 1 1 (.t 14) (.t 19), none⟩,
            ⟨(.v 3), .asg (.t 20), none⟩] none ⟨[], [], []⟩)
        (.reg 4 [] [
            ⟨(.t 21), .mv (.v 1), none⟩,
            ⟨(.t 22), .bin .shr (.t 21) (.c (.int .u64 7)), none⟩,
            ⟨(.v 1), .asg (.t 22), none⟩] none ⟨[], [], []⟩))))))
  (.seq (.reg 5 [.lend (.var 3) 27] [
      ⟨(.t 23), .mv (.v 3), none⟩,
      ⟨(.t 24), .mv (.v 1), none⟩,
      ⟨(.t 25), .conv .u8 (.t 24), none⟩,
      ⟨(.t 26), .bls 5 1 (.int .u8 0) 1 [(0, (.t 25))], none⟩,
      ⟨(.t 27), .app 5 1 1 (.t 23) (.t 26), none⟩,
      ⟨(.v 2), .asg (.t 27), none⟩] none ⟨[], [], []⟩)
  .ret))))
theorem c25 : compFn Try.prog 25 F25 = some (2, strip a25, [.v 2]) ∧ lexAll a25 = true := ⟨by kernel_rfl, by kernel_rfl⟩
/-- clusterlocks/stable.number -/
def F26 : Fr := ⟨4, [0, 2]⟩
def a26 : ACode :=
  (.seq (.reg 0 [] [
      ⟨(.v 1), .asg (.c (.int .i64 0)), none⟩] none ⟨[], [], []⟩)
  (.seq (.seq (.reg 1 [] [
      ⟨(.t 3), .mv (.v 0), none⟩] none ⟨[], [], []⟩)
  (.cond (.t 3)
    (.seq (.reg 2 [] [
        ⟨(.v 1), .asg (.c (.int .i64 1)), none⟩] none ⟨[], [], []⟩)
    .ret)
    .skip))
  (.seq (.reg 3 [] [
      ⟨(.v 1), .asg (.c (.int .i64 0)), none⟩] none ⟨[], [], []⟩)
  .ret)))
theorem c26 : compFn Try.prog 26 F26 = some (1, strip a26, [.v 1]) ∧ lexAll a26 = true := ⟨by kernel_rfl, by kernel_rfl⟩
/-- clusterlocks/clusterlocksref26.next -/
def F27 : Fr := ⟨57, [0, 1, 4, 5, 6, 7, 8, 9, 10, 11, 12]⟩
def a27 : ACode :=
  (.seq (.reg 0 [] [
      ⟨(.t 2), .box 2 (.v 0), none⟩,
      ⟨(.v 2), .asg (.c (.slice none 0 0)), none⟩,
      ⟨(.v 3), .asg (.c (.bool false)), none⟩,
      ⟨(.v 4), .asg (.c (.int .i64 0)), none⟩] none ⟨[], [], []⟩)
  (.seq (.seq (.reg 1 [] [
      ⟨(.t 13), .mv (.v 1), none⟩,
      ⟨(.t 14), .len (.t 13), none⟩,
      ⟨(.t 15), .bin .gtr (.t 14) (.c (.int .i64 512)), none⟩] none ⟨[], [], []⟩)
  (.cond (.t 15)
    (.seq (.reg 2 [] [
        ⟨(.v 2), .asg (.c (.slice none 0 0)), none⟩,
        ⟨(.v 3), .asg (.c (.bool false)), none⟩,
        ⟨(.v 4), .asg (.c (.int .i64 3)), none⟩] none ⟨[], [], []⟩)
    .ret)
    .skip))
  (.seq (.reg 3 [] [
      ⟨(.t 17), .fa 0 (.t 2), none⟩,
      ⟨(.t 18), .ld 1 false (.t 17), none⟩,
      ⟨(.t 19), .call 23 [(.t 18)], none⟩,
      ⟨(.t 16), .mv (.t 19), none⟩,
      ⟨(.t 20), .ext 16 0, none⟩,
      ⟨(.t 21), .ext 16 1, none⟩,
      ⟨(.v 5), .asg (.t 20), none⟩,
      ⟨(.v 6), .asg (.t 21), none⟩] none ⟨[], [], []⟩)
  (.seq (.reg 4 [] [
      ⟨(.t 23), .fa 1 (.t 2), none⟩,
      ⟨(.t 24), .ld 1 false (.t 23), none⟩,
      ⟨(.t 25), .call 23 [(.t 24)], none⟩,
      ⟨(.t 22), .mv (.t 25), none⟩,
      ⟨(.t 26), .ext 22 0, none⟩,
      ⟨(.t 27), .ext 22 1, none⟩,
      ⟨(.v 7), .asg (.t 26), none⟩,
      ⟨(.v 8), .asg (.t 27), none⟩] none ⟨[], [], []⟩)
  (.seq (.seq (.reg 5 [] [
      ⟨(.t 28), .mv (.v 6), none⟩,
      ⟨(.t 29), .mv (.v 8), none⟩,
      ⟨(.t 30), .mnx true (.t 28) (.t 29), none⟩,
      ⟨(.t 31), .bin .eql (.t 30) (.c (.int .i64 1073741824)), none⟩] none ⟨[], [], []⟩)
  (.cond (.t 31)
    (.seq (.reg 6 [] [
        ⟨(.v 2), .asg (.c (.slice none 0 0)), none⟩,
        ⟨(.v 3), .asg (.c (.bool false)), none⟩,
        ⟨(.v 4), .asg (.c (.int .i64 16)), none⟩] none ⟨[], [], []⟩)
    .ret)
    .skip))
  (.seq (.reg 7 [] [
      ⟨(.t 33), .mv (.v 6), none⟩,
      ⟨(.t 34), .mv (.v 8), none⟩,
      ⟨(.t 35), .mnx true (.t 33) (.t 34), none⟩,
      ⟨(.t 36), .bin .add (.t 35) (.c (.int .i64 1)), none⟩,
      ⟨(.t 37), .conv .u64 (.t 36), none⟩,
      ⟨(.t 38), .call 33 [(.c (.slice none 0 0)), (.t 37)], none⟩,
      ⟨(.t 39), .mv (.v 1), none⟩,
      ⟨(.t 40), .app 5 1 1 (.t 38) (.t 39), none⟩,
      ⟨(.t 41), .call 32 [(.t 40)], none⟩,
      ⟨(.t 32), .mv (.t 41), none⟩,
      ⟨(.t 42), .ext 32 0, none⟩,
      ⟨(.t 43), .ext 32 1, none⟩,
      ⟨(.v 9), .asg (.t 42), none⟩,
      ⟨(.v 10), .asg (.t 43), none⟩] none ⟨[], [], []⟩)
  (.seq (.reg 8 [.freeze (.var 9)] [
      ⟨(.t 44), .mv (.v 9), none⟩,
      ⟨(.t 45), .mv (.v 6), none⟩,
      ⟨(.t 46), .bin .eql (.t 45) (.c (.int .i64 0)), none⟩,
      ⟨(.t 47), .mv (.t 46), none⟩,
      ⟨(.t 48), .mv (.v 8), some (47, true)⟩,
      ⟨(.t 49), .bin .eql (.t 48) (.c (.int .i64 0)), some (47, true)⟩,
      ⟨(.t 50), .pick (.t 47) (.t 49) (.c (.bool false)), none⟩,
      ⟨(.t 51), .mv (.t 50), none⟩,
      ⟨(.t 52), .mv (.v 8), some (51, false)⟩,
      ⟨(.t 53), .mv (.v 6), some (51, false)⟩,
      ⟨(.t 54), .bin .gtr (.t 52) (.t 53), some (51, false)⟩,
      ⟨(.t 55), .pick (.t 51) (.c (.bool true)) (.t 54), none⟩,
      ⟨(.t 56), .mv (.v 10), none⟩,
      ⟨(.v 2), .asg (.t 44), none⟩,
      ⟨(.v 3), .asg (.t 55), none⟩,
      ⟨(.v 4), .asg (.t 56), none⟩] none ⟨[], [], []⟩)
  .ret)))))))
theorem c27 : compFn Try.prog 27 F27 = some (2, strip a27, [.v 2, .v 3, .v 4]) ∧ lexAll a27 = true := ⟨by kernel_rfl, by kernel_rfl⟩
/-- clusterlocks/stable.whole -/
def F28 : Fr := ⟨52, [0, 2, 3, 4, 5, 6, 7, 8, 9]⟩
def a28 : ACode :=
  (.seq (.reg 0 [] [
      ⟨(.v 1), .asg (.c (.slice none 0 0)), none⟩,
      ⟨(.v 2), .asg (.c (.int .i64 0)), none⟩,
      ⟨(.v 3), .asg (.c (.bool false)), none⟩] none ⟨[], [], []⟩)
  (.seq (.reg 1 [] [
      ⟨(.t 11), .mv (.v 0), none⟩,
      ⟨(.t 12), .call 34 [(.t 11)], none⟩,
      ⟨(.t 10), .mv (.t 12), none⟩,
      ⟨(.t 13), .ext 10 0, none⟩,
      ⟨(.t 14), .ext 10 1, none⟩,
      ⟨(.t 15), .ext 10 2, none⟩,
      ⟨(.v 4), .asg (.t 13), none⟩,
      ⟨(.v 5), .asg (.t 14), none⟩,
      ⟨(.v 6), .asg (.t 15), none⟩] none ⟨[], [], []⟩)
  (.seq (.seq (.reg 2 [] [
      ⟨(.t 16), .mv (.v 6), none⟩,
      ⟨(.t 17), .bin .neq (.t 16) (.c (.int .i64 0)), none⟩,
      ⟨(.t 18), .mv (.t 17), none⟩,
      ⟨(.t 19), .mv (.v 5), some (18, false)⟩,
      ⟨(.t 20), .mv (.v 0), some (18, false)⟩,
      ⟨(.t 21), .len (.t 20), some (18, false)⟩,
      ⟨(.t 22), .bin .neq (.t 19) (.t 21), some (18, false)⟩,
      ⟨(.t 23), .pick (.t 18) (.c (.bool true)) (.t 22), none⟩] none ⟨[], [], []⟩)
  (.cond (.t 23)
    (.seq (.reg 3 [] [
        ⟨(.v 1), .asg (.c (.slice none 0 0)), none⟩,
        ⟨(.v 2), .asg (.c (.int .i64 0)), none⟩,
        ⟨(.v 3), .asg (.c (.bool false)), none⟩] none ⟨[], [], []⟩)
    .ret)
    .skip))
  (.seq (.reg 4 [.freeze (.var 4)] [
      ⟨(.t 25), .mv (.v 4), none⟩,
      ⟨(.t 26), .call 35 [(.t 25)], none⟩,
      ⟨(.t 24), .mv (.t 26), none⟩,
      ⟨(.t 27), .ext 24 0, none⟩,
      ⟨(.t 28), .ext 24 1, none⟩,
      ⟨(.t 29), .ext 24 2, none⟩,
      ⟨(.v 7), .asg (.t 27), none⟩,
      ⟨(.v 8), .asg (.t 28), none⟩,
      ⟨(.v 6), .asg (.t 29), none⟩] none ⟨[], [], []⟩)
  (.seq (.seq (.reg 5 [] [
      ⟨(.t 30), .mv (.v 6), none⟩,
      ⟨(.t 31), .bin .neq (.t 30) (.c (.int .i64 0)), none⟩,
      ⟨(.t 32), .mv (.t 31), none⟩,
      ⟨(.t 33), .mv (.v 7), some (32, false)⟩,
      ⟨(.t 34), .bin .lss (.t 33) (.c (.int .u64 1)), some (32, false)⟩,
      ⟨(.t 35), .pick (.t 32) (.c (.bool true)) (.t 34), none⟩,
      ⟨(.t 36), .mv (.t 35), none⟩,
      ⟨(.t 37), .mv (.v 7), some (36, false)⟩,
      ⟨(.t 38), .bin .gtr (.t 37) (.c (.int .u64 1073741824)), some (36, false)⟩,
      ⟨(.t 39), .pick (.t 36) (.c (.bool true)) (.t 38), none⟩,
      ⟨(.t 40), .mv (.t 39), none⟩,
      ⟨(.t 41), .mv (.v 4), some (40, false)⟩,
      ⟨(.t 42), .len (.t 41), some (40, false)⟩,
      ⟨(.t 43), .mv (.v 8), some (40, false)⟩,
      ⟨(.t 44), .bin .sub (.t 42) (.t 43), some (40, false)⟩,
      ⟨(.t 45), .bin .gtr (.t 44) (.c (.int .i64 512)), some (40, false)⟩,
      ⟨(.t 46), .pick (.t 40) (.c (.bool true)) (.t 45), none⟩] none ⟨[], [], []⟩)
  (.cond (.t 46)
    (.seq (.reg 6 [] [
        ⟨(.v 1), .asg (.c (.slice none 0 0)), none⟩,
        ⟨(.v 2), .asg (.c (.int .i64 0)), none⟩,
        ⟨(.v 3), .asg (.c (.bool false)), none⟩] none ⟨[], [], []⟩)
    .ret)
    .skip))
  (.seq (.reg 7 [] [
      ⟨(.t 47), .mv (.v 4), none⟩,
      ⟨(.t 48), .mv (.v 8), none⟩,
      ⟨(.t 49), .sl 5 1 (.t 47) (some (.t 48)) none none, none⟩,
      ⟨(.t 50), .mv (.v 7), none⟩,
      ⟨(.t 51), .conv .i64 (.t 50), none⟩,
      ⟨(.v 1), .asg (.t 49), none⟩,
      ⟨(.v 2), .asg (.t 51), none⟩,
      ⟨(.v 3), .asg (.c (.bool true)), none⟩] none ⟨[], [], []⟩)
  .ret))))))
theorem c28 : compFn Try.prog 28 F28 = some (1, strip a28, [.v 1, .v 2, .v 3]) ∧ lexAll a28 = true := ⟨by kernel_rfl, by kernel_rfl⟩
/-- clusterlocks/clusterlocksref01.Unframe -/
def F29 : Fr := ⟨75, [0, 2, 3, 4, 5, 6, 7, 8, 9]⟩
def a29 : ACode :=
  (.seq (.reg 0 [] [
      ⟨(.v 1), .asg (.c (.slice none 0 0)), none⟩,
      ⟨(.v 2), .asg (.c (.int .i64 0)), none⟩,
      ⟨(.v 3), .asg (.c (.int .i64 0)), none⟩] none ⟨[], [], []⟩)
  (.seq (.reg 1 [] [
      ⟨(.t 11), .mv (.v 0), none⟩,
      ⟨(.t 12), .call 30 [(.t 11)], none⟩,
      ⟨(.t 10), .mv (.t 12), none⟩,
      ⟨(.t 13), .ext 10 0, none⟩,
      ⟨(.t 14), .ext 10 1, none⟩,
      ⟨(.t 15), .ext 10 2, none⟩,
      ⟨(.v 4), .asg (.t 13), none⟩,
      ⟨(.v 5), .asg (.t 14), none⟩,
      ⟨(.v 6), .asg (.t 15), none⟩] none ⟨[], [], []⟩)
  (.seq (.seq (.reg 2 [] [
      ⟨(.t 16), .mv (.v 6), none⟩,
      ⟨(.t 17), .bin .neq (.t 16) (.c (.int .i64 0)), none⟩] none ⟨[], [], []⟩)
  (.cond (.t 17)
    (.seq (.reg 3 [] [
        ⟨(.t 18), .mv (.v 6), none⟩,
        ⟨(.v 1), .asg (.c (.slice none 0 0)), none⟩,
        ⟨(.v 2), .asg (.c (.int .i64 0)), none⟩,
        ⟨(.v 3), .asg (.t 18), none⟩] none ⟨[], [], []⟩)
    .ret)
    .skip))
  (.seq (.seq (.reg 4 [] [
      ⟨(.t 19), .mv (.v 4), none⟩,
      ⟨(.t 20), .bin .gtr (.t 19) (.c (.int .u64 4096)), none⟩] none ⟨[], [], []⟩)
  (.cond (.t 20)
    (.seq (.reg 5 [] [
        ⟨(.v 1), .asg (.c (.slice none 0 0)), none⟩,
        ⟨(.v 2), .asg (.c (.int .i64 0)), none⟩,
        ⟨(.v 3), .asg (.c (.int .i64 3)), none⟩] none ⟨[], [], []⟩)
    .ret)
    .skip))
  (.seq (.seq (.reg 6 [] [
      ⟨(.t 21), .mv (.v 0), none⟩,
      ⟨(.t 22), .len (.t 21), none⟩,
      ⟨(.t 23), .mv (.v 5), none⟩,
      ⟨(.t 24), .bin .sub (.t 22) (.t 23), none⟩,
      ⟨(.t 25), .mv (.v 4), none⟩,
      ⟨(.t 26), .conv .i64 (.t 25), none⟩,
      ⟨(.t 27), .bin .add (.t 26) (.c (.int .i64 4)), none⟩,
      ⟨(.t 28), .bin .lss (.t 24) (.t 27), none⟩] none ⟨[], [], []⟩)
  (.cond (.t 28)
    (.seq (.reg 7 [] [
        ⟨(.v 1), .asg (.c (.slice none 0 0)), none⟩,
        ⟨(.v 2), .asg (.c (.int .i64 0)), none⟩,
        ⟨(.v 3), .asg (.c (.int .i64 5)), none⟩] none ⟨[], [], []⟩)
    .ret)
    .skip))
  (.seq (.reg 8 [] [
      ⟨(.t 29), .bls 5 1 (.int .u8 0) 0 [], none⟩,
      ⟨(.t 30), .mv (.v 0), none⟩,
      ⟨(.t 31), .mv (.v 5), none⟩,
      ⟨(.t 32), .mv (.v 5), none⟩,
      ⟨(.t 33), .mv (.v 4), none⟩,
      ⟨(.t 34), .conv .i64 (.t 33), none⟩,
      ⟨(.t 35), .bin .add (.t 32) (.t 34), none⟩,
      ⟨(.t 36), .sl 5 1 (.t 30) (some (.t 31)) (some (.t 35)) none, none⟩,
      ⟨(.t 37), .app 5 1 1 (.t 29) (.t 36), none⟩,
      ⟨(.v 7), .asg (.t 37), none⟩] none ⟨[], [], []⟩)
  (.seq (.reg 9 [] [
      ⟨(.t 38), .mv (.v 0), none⟩,
      ⟨(.t 39), .mv (.v 5), none⟩,
      ⟨(.t 40), .mv (.v 4), none⟩,
      ⟨(.t 41), .conv .i64 (.t 40), none⟩,
      ⟨(.t 42), .bin .add (.t 39) (.t 41), none⟩,
      ⟨(.t 43), .sl 5 1 (.t 38) (some (.t 42)) none none, none⟩,
      ⟨(.v 8), .asg (.t 43), none⟩] none ⟨[], [], []⟩)
  (.seq (.seq (.reg 10 [] [
      ⟨(.t 44), .mv (.v 7), none⟩,
      ⟨(.t 45), .call 36 [(.t 44)], none⟩,
      ⟨(.t 46), .mv (.v 8), none⟩,
      ⟨(.t 47), .ia 1 (.t 46) (.c (.int .i64 0)), none⟩,
      ⟨(.t 48), .ld 1 false (.t 47), none⟩,
      ⟨(.t 49), .conv .u32 (.t 48), none⟩,
      ⟨(.t 50), .bin .shl (.t 49) (.c (.int .u64 24)), none⟩,
      ⟨(.t 51), .mv (.v 8), none⟩,
      ⟨(.t 52), .ia 1 (.t 51) (.c (.int .i64 1)), none⟩,
      ⟨(.t 53), .ld 1 false (.t 52), none⟩,
      ⟨(.t 54), .conv .u32 (.t 53), none⟩,
      ⟨(.t 55), .bin .shl (.t 54) (.c (.int .u64 16)), none⟩,
      ⟨(.t 56), .bin .or (.t 50) (.t 55), none⟩,
      ⟨(.t 57), .mv (.v 8), none⟩,
      ⟨(.t 58), .ia 1 (.t 57) (.c (.int .i64 2)), none⟩,
      ⟨(.t 59), .ld 1 false (.t 58), none⟩,
      ⟨(.t 60), .conv .u32 (.t 59), none⟩,
      ⟨(.t 61), .bin .shl (.t 60) (.c (.int .u64 8)), none⟩,
      ⟨(.t 62), .bin .or (.t 56) (.t 61), none⟩,
      ⟨(.t 63), .mv (.v 8), none⟩,
      ⟨(.t 64), .ia 1 (.t 63) (.c (.int .i64 3)), none⟩,
      ⟨(.t 65), .ld 1 false (.t 64), none⟩,
      ⟨(.t 66), .conv .u32 (.t 65), none⟩,
      ⟨(.t 67), .bin .or (.t 62) (.t 66), none⟩,
      ⟨(.t 68), .bin .neq (.t 45) (.t 67), none⟩] (some [[], [0], [], [2], [3], [4], [5], [], [7], [8], [9], [10], [6, 11], [], [13], [14], [15], [16], [12, 17], [], [19], [20], [21], [18, 22], [1, 23]]) ⟨[], [], []⟩)
  (.cond (.t 68)
    (.seq (.reg 11 [] [
        ⟨(.v 1), .asg (.c (.slice none 0 0)), none⟩,
        ⟨(.v 2), .asg (.c (.int .i64 0)), none⟩,
        ⟨(.v 3), .asg (.c (.int .i64 7)), none⟩] none ⟨[], [], []⟩)
    .ret)
    .skip))
  (.seq (.reg 12 [.lend (.var 7) 69] [
      ⟨(.t 69), .mv (.v 7), none⟩,
      ⟨(.t 70), .mv (.v 5), none⟩,
      ⟨(.t 71), .mv (.v 4), none⟩,
      ⟨(.t 72), .conv .i64 (.t 71), none⟩,
      ⟨(.t 73), .bin .add (.t 70) (.t 72), none⟩,
      ⟨(.t 74), .bin .add (.t 73) (.c (.int .i64 4)), none⟩,
      ⟨(.v 1), .asg (.t 69), none⟩,
      ⟨(.v 2), .asg (.t 74), none⟩,
      ⟨(.v 3), .asg (.c (.int .i64 0)), none⟩] none ⟨[], [], []⟩)
  .ret)))))))))
theorem c29 : compFn Try.prog 29 F29 = some (1, strip a29, [.v 1, .v 2, .v 3]) ∧ lexAll a29 = true := ⟨by kernel_rfl, by kernel_rfl⟩
/-- clusterlocks/clusterlocksref01.Uint -/
def F30 : Fr := ⟨48, [0, 2, 3, 4, 5, 6, 7]⟩
def a30 : ACode :=
  (.seq (.reg 0 [] [
      ⟨(.v 1), .asg (.c (.int .u64 0)), none⟩,
      ⟨(.v 2), .asg (.c (.int .i64 0)), none⟩,
      ⟨(.v 3), .asg (.c (.int .i64 0)), none⟩] none ⟨[], [], []⟩)
  (.seq (.reg 1 [] [
      ⟨(.v 4), .asg (.c (.int .u64 0)), none⟩] none ⟨[], [], []⟩)
  (.seq (.seq (.reg 2 [] [
      ⟨(.v 5), .asg (.c (.int .i64 0)), none⟩] none ⟨[], [], []⟩)
  (.block 0
    (.loop
      (.seq (.seq (.reg 3 [] [
          ⟨(.t 8), .mv (.v 5), none⟩,
          ⟨(.t 9), .bin .lss (.t 8) (.c (.int .i64 10)), none⟩] none ⟨[], [], []⟩)
      (.cond (.t 9)
        .skip
        (.exit 0)))
      (.seq (.block 1
        (.seq (.seq (.reg 5 [] [
            ⟨(.t 12), .mv (.v 5), none⟩,
            ⟨(.t 13), .mv (.v 0), none⟩,
            ⟨(.t 14), .len (.t 13), none⟩,
            ⟨(.t 15), .bin .geq (.t 12) (.t 14), none⟩] none ⟨[], [], []⟩)
        (.cond (.t 15)
          (.seq (.reg 6 [] [
              ⟨(.v 1), .asg (.c (.int .u64 0)), none⟩,
              ⟨(.v 2), .asg (.c (.int .i64 0)), none⟩,
              ⟨(.v 3), .asg (.c (.int .i64 5)), none⟩] none ⟨[], [], []⟩)
          .ret)
          .skip))
        (.seq (.reg 7 [] [
            ⟨(.t 16), .mv (.v 0), none⟩,
            ⟨(.t 17), .mv (.v 5), none⟩,
            ⟨(.t 18), .ia 1 (.t 16) (.t 17), none⟩,
            ⟨(.t 19), .ld 1 false (.t 18), none⟩,
            ⟨(.v 6), .asg (.t 19), none⟩] none ⟨[], [], []⟩)
        (.seq (.seq (.reg 8 [] [
            ⟨(.t 20), .mv (.v 5), none⟩,
            ⟨(.t 21), .bin .eql (.t 20) (.c (.int .i64 9)), none⟩,
            ⟨(.t 22), .mv (.t 21), none⟩,
            ⟨(.t 23), .mv (.v 6), some (22, true)⟩,
            ⟨(.t 24), .bin .gtr (.t 23) (.c (.int .u8 1)), some (22, true)⟩,
            ⟨(.t 25), .pick (.t 22) (.t 24) (.c (.bool false)), none⟩,
            ⟨(.t 26), .mv (.t 25), none⟩,
            ⟨(.t 27), .mv (.v 6), some (26, false)⟩,
            ⟨(.t 28), .bin .eql (.t 27) (.c (.int .u8 0)), some (26, false)⟩,
            ⟨(.t 29), .mv (.t 28), some (26, false)⟩,
            ⟨(.t 30), .mv (.v 5), some (29, true)⟩,
            ⟨(.t 31), .bin .gtr (.t 30) (.c (.int .i64 0)), some (29, true)⟩,
            ⟨(.t 32), .pick (.t 29) (.t 31) (.c (.bool false)), some (26, false)⟩,
            ⟨(.t 33), .pick (.t 26) (.c (.bool true)) (.t 32), none⟩] none ⟨[], [], []⟩)
        (.cond (.t 33)
          (.seq (.reg 9 [] [
              ⟨(.v 1), .asg (.c (.int .u64 0)), none⟩,
              ⟨(.v 2), .asg (.c (.int .i64 0)), none⟩,
              ⟨(.v 3), .asg (.c (.int .i64 6)), none⟩] none ⟨[], [], []⟩)
          .ret)
          .skip))
        (.seq (.reg 10 [] [
            ⟨(.t 34), .mv (.v 4), none⟩,
            ⟨(.t 35), .mv (.v 6), none⟩,
            ⟨(.t 36), .bin .and (.t 35) (.c (.int .u8 127)), none⟩,
            ⟨(.t 37), .conv .u64 (.t 36), none⟩,
            ⟨(.t 38), .mv (.v 5), none⟩,
            ⟨(.t 39), .bin .mul (.c (.int .i64 7)) (.t 38), none⟩,
            ⟨(.t 40), .conv .u64 (.t 39), none⟩,
            ⟨(.t 41), .bin .shl (.t 37) (.t 40), none⟩,
            ⟨(.t 42), .bin .or (.t 34) (.t 41), none⟩,
            ⟨(.v 4), .asg (.t 42), none⟩] none ⟨[], [], []⟩)
        (.seq (.reg 11 [] [
            ⟨(.t 43), .mv (.v 6), none⟩,
            ⟨(.t 44), .bin .lss (.t 43) (.c (.int .u8 128)), none⟩] none ⟨[], [], []⟩)
        (.cond (.t 44)
          (.seq (.reg 12 [] [
              ⟨(.t 45), .mv (.v 4), none⟩,
              ⟨(.t 46), .mv (.v 5), none⟩,
              ⟨(.t 47), .bin .add (.t 46) (.c (.int .i64 1)), none⟩,
              ⟨(.v 1), .asg (.t 45), none⟩,
              ⟨(.v 2), .asg (.t 47), none⟩,
              ⟨(.v 3), .asg (.c (.int .i64 0)), none⟩] none ⟨[], [], []⟩)
          .ret)
          .skip)))))))
      (.reg 4 [] [
          ⟨(.t 10), .mv (.v 5), none⟩,
          ⟨(.t 11), .bin .add (.t 10) (.c (.int .i64 1)), none⟩,
          ⟨(.v 5), .asg (.t 11), none⟩] none ⟨[], [], []⟩))))))
  (.seq (.reg 13 [] [
      ⟨(.v 1), .asg (.c (.int .u64 0)), none⟩,
      ⟨(.v 2), .asg (.c (.int .i64 0)), none⟩,
      ⟨(.v 3), .asg (.c (.int .i64 6)), none⟩] none ⟨[], [], []⟩)
  .ret))))
theorem c30 : compFn Try.prog 30 F30 = some (1, strip a30, [.v 1, .v 2, .v 3]) ∧ lexAll a30 = true := ⟨by kernel_rfl, by kernel_rfl⟩
/-- clusterlocks/codec.Checksum -/
def F31 : Fr := ⟨31, [0, 2, 3, 5, 6]⟩
def a31 : ACode :=
  (.seq (.reg 0 [] [
      ⟨(.v 1), .asg (.c (.int .u32 0)), none⟩] none ⟨[], [], []⟩)
  (.seq (.reg 1 [] [
      ⟨(.v 2), .asg (.c (.int .u32 4294967295)), none⟩] none ⟨[], [], []⟩)
  (.seq (.seq (.reg 2 [] [
      ⟨(.t 7), .mv (.v 0), none⟩,
      ⟨(.t 8), .len (.t 7), none⟩,
      ⟨(.t 9), .mv (.c (.int .i64 0)), none⟩] none ⟨[], [], []⟩)
  (.block 0
    (.loop
      (.seq (.reg 3 [] [
          ⟨(.t 10), .bin .lss (.t 9) (.t 8), none⟩] none ⟨[], [], []⟩)
      (.seq (.cond (.t 10)
        .skip
        (.exit 0))
      (.seq (.block 1
        (.seq (.reg 4 [] [
            ⟨(.t 11), .ia 1 (.t 7) (.t 9), none⟩,
            ⟨(.t 12), .ld 1 false (.t 11), none⟩,
            ⟨(.v 3), .asg (.t 12), none⟩] none ⟨[], [], []⟩)
        (.seq (.reg 5 [] [
            ⟨(.t 13), .mv (.v 2), none⟩,
            ⟨(.t 14), .mv (.v 3), none⟩,
            ⟨(.t 15), .conv .u32 (.t 14), none⟩,
            ⟨(.t 16), .bin .xor (.t 13) (.t 15), none⟩,
            ⟨(.v 2), .asg (.t 16), none⟩] none ⟨[], [], []⟩)
        (.seq (.reg 6 [] [
            ⟨(.t 17), .mv (.c (.int .i64 0)), none⟩] none ⟨[], [], []⟩)
        (.block 2
          (.loop
            (.seq (.reg 7 [] [
                ⟨(.t 18), .bin .lss (.t 17) (.c (.int .i64 8)), none⟩] none ⟨[], [], []⟩)
            (.seq (.cond (.t 18)
              .skip
              (.exit 2))
            (.seq (.block 3
              (.seq (.reg 8 [] [
                  ⟨(.t 19), .mv (.v 2), none⟩,
                  ⟨(.t 20), .bin .and (.t 19) (.c (.int .u32 1)), none⟩,
                  ⟨(.v 4), .asg (.t 20), none⟩] none ⟨[], [], []⟩)
              (.seq (.reg 9 [] [
                  ⟨(.t 21), .mv (.v 2), none⟩,
                  ⟨(.t 22), .bin .shr (.t 21) (.c (.int .u64 1)), none⟩,
                  ⟨(.v 2), .asg (.t 22), none⟩] none ⟨[], [], []⟩)
              (.seq (.reg 10 [] [
                  ⟨(.t 23), .mv (.v 4), none⟩,
                  ⟨(.t 24), .bin .neq (.t 23) (.c (.int .u32 0)), none⟩] none ⟨[], [], []⟩)
              (.cond (.t 24)
                (.reg 11 [] [
                    ⟨(.t 25), .mv (.v 2), none⟩,
                    ⟨(.t 26), .bin .xor (.t 25) (.c (.int .u32 3988292384)), none⟩,
                    ⟨(.v 2), .asg (.t 26), none⟩] none ⟨[], [], []⟩)
                .skip)))))
            (.reg 12 [] [
                ⟨(.t 27), .bin .add (.t 17) (.c (.int .i64 1)), none⟩,
                ⟨(.t 17), .mv (.t 27), none⟩] none ⟨[], [], []⟩))))))))))
      (.reg 13 [] [
          ⟨(.t 28), .bin .add (.t 9) (.c (.int .i64 1)), none⟩,
          ⟨(.t 9), .mv (.t 28), none⟩] none ⟨[], [], []⟩)))))))
  (.seq (.reg 14 [] [
      ⟨(.t 29), .mv (.v 2), none⟩,
      ⟨(.t 30), .bin .xor (.t 29) (.c (.int .u32 4294967295)), none⟩,
      ⟨(.v 1), .asg (.t 30), none⟩] none ⟨[], [], []⟩)
  .ret))))
theorem c31 : compFn Try.prog 31 F31 = some (1, strip a31, [.v 1]) ∧ lexAll a31 = true := ⟨by kernel_rfl, by kernel_rfl⟩
/-- clusterlocks/clusterlocksref01.Frame -/
def F32 : Fr := ⟨31, [0, 2, 3, 4, 5]⟩
def a32 : ACode :=
  (.seq (.reg 0 [] [
      ⟨(.v 1), .asg (.c (.slice none 0 0)), none⟩,
      ⟨(.v 2), .asg (.c (.int .i64 0)), none⟩] none ⟨[], [], []⟩)
  (.seq (.seq (.reg 1 [] [
      ⟨(.t 6), .mv (.v 0), none⟩,
      ⟨(.t 7), .len (.t 6), none⟩,
      ⟨(.t 8), .bin .gtr (.t 7) (.c (.int .i64 4096)), none⟩] none ⟨[], [], []⟩)
  (.cond (.t 8)
    (.seq (.reg 2 [] [
        ⟨(.v 1), .asg (.c (.slice none 0 0)), none⟩,
        ⟨(.v 2), .asg (.c (.int .i64 3)), none⟩] none ⟨[], [], []⟩)
    .ret)
    .skip))
  (.seq (.reg 3 [] [
      ⟨(.t 9), .mv (.v 0), none⟩,
      ⟨(.t 10), .len (.t 9), none⟩,
      ⟨(.t 11), .conv .u64 (.t 10), none⟩,
      ⟨(.t 12), .call 33 [(.c (.slice none 0 0)), (.t 11)], none⟩,
      ⟨(.t 13), .mv (.v 0), none⟩,
      ⟨(.t 14), .app 5 1 1 (.t 12) (.t 13), none⟩,
      ⟨(.v 3), .asg (.t 14), none⟩] none ⟨[], [], []⟩)
  (.seq (.reg 4 [] [
      ⟨(.t 15), .mv (.v 0), none⟩,
      ⟨(.t 16), .call 36 [(.t 15)], none⟩,
      ⟨(.v 4), .asg (.t 16), none⟩] none ⟨[], [], []⟩)
  (.seq (.reg 5 [.lend (.var 3) 30] [
      ⟨(.t 17), .mv (.v 3), none⟩,
      ⟨(.t 18), .mv (.v 4), none⟩,
      ⟨(.t 19), .bin .shr (.t 18) (.c (.int .u64 24)), none⟩,
      ⟨(.t 20), .conv .u8 (.t 19), none⟩,
      ⟨(.t 21), .mv (.v 4), none⟩,
      ⟨(.t 22), .bin .shr (.t 21) (.c (.int .u64 16)), none⟩,
      ⟨(.t 23), .conv .u8 (.t 22), none⟩,
      ⟨(.t 24), .mv (.v 4), none⟩,
      ⟨(.t 25), .bin .shr (.t 24) (.c (.int .u64 8)), none⟩,
      ⟨(.t 26), .conv .u8 (.t 25), none⟩,
      ⟨(.t 27), .mv (.v 4), none⟩,
      ⟨(.t 28), .conv .u8 (.t 27), none⟩,
      ⟨(.t 29), .bls 5 1 (.int .u8 0) 4 [(0, (.t 20)), (1, (.t 23)), (2, (.t 26)), (3, (.t 28))], none⟩,
      ⟨(.t 30), .app 5 1 1 (.t 17) (.t 29), none⟩,
      ⟨(.v 1), .asg (.t 30), none⟩,
      ⟨(.v 2), .asg (.c (.int .i64 0)), none⟩] none ⟨[], [], []⟩)
  .ret)))))
theorem c32 : compFn Try.prog 32 F32 = some (1, strip a32, [.v 1, .v 2]) ∧ lexAll a32 = true := ⟨by kernel_rfl, by kernel_rfl⟩
/-- clusterlocks/clusterlocksref01.PutUint -/
def F33 : Fr := ⟨25, [0, 1, 4, 5]⟩
def a33 : ACode :=
  (.seq (.reg 0 [] [
      ⟨(.v 2), .asg (.c (.slice none 0 0)), none⟩] none ⟨[], [], []⟩)
  (.seq (.reg 1 [] [
      ⟨(.t 6), .bls 5 1 (.int .u8 0) 0 [], none⟩,
      ⟨(.t 7), .mv (.v 0), none⟩,
      ⟨(.t 8), .app 5 1 1 (.t 6) (.t 7), none⟩,
      ⟨(.v 3), .asg (.t 8), none⟩] none ⟨[], [], []⟩)
  (.seq (.block 0
    (.loop
      (.seq (.seq (.reg 2 [] [
          ⟨(.t 9), .mv (.v 1), none⟩,
          ⟨(.t 10), .bin .geq (.t 9) (.c (.int .u64 128)), none⟩] none ⟨[], [], []⟩)
      (.cond (.t 10)
        .skip
        (.exit 0)))
      (.block 1
        (.seq (.reg 3 [.lend (.var 3) 17] [
            ⟨(.t 11), .mv (.v 3), none⟩,
            ⟨(.t 12), .mv (.v 1), none⟩,
            ⟨(.t 13), .bin .and (.t 12) (.c (.int .u64 127)), none⟩,
            ⟨(.t 14), .conv .u8 (.t 13), none⟩,
            ⟨(.t 15), .bin .or (.t 14) (.c (.int .u8 128)), none⟩,
            ⟨(.t 16), .bls 5 1 (.int .u8 0) 1 [(0, (.t 15))], none⟩,
            ⟨(.t 17), .app 5 1 1 (.t 11) (.t 16), none⟩,
            ⟨(.v 3), .asg (.t 17), none⟩] none ⟨[], [], []⟩)
        (.reg 4 [] [
            ⟨(.t 18), .mv (.v 1), none⟩,
            ⟨(.t 19), .bin .shr (.t 18) (.c (.int .u64 7)), none⟩,
            ⟨(.v 1), .asg (.t 19), none⟩] none ⟨[], [], []⟩))))))
  (.seq (.reg 5 [.lend (.var 3) 24] [
      ⟨(.t 20), .mv (.v 3), none⟩,
      ⟨(.t 21), .mv (.v 1), none⟩,
      ⟨(.t 22), .conv .u8 (.t 21), none⟩,
      ⟨(.t 23), .bls 5 1 (.int .u8 0) 1 [(0, (.t 22))], none⟩,
      ⟨(.t 24), .app 5 1 1 (.t 20) (.t 23), none⟩,
      ⟨(.v 2), .asg (.t 24), none⟩] none ⟨[], [], []⟩)
  .ret))))
theorem c33 : compFn Try.prog 33 F33 = some (2, strip a33, [.v 2]) ∧ lexAll a33 = true := ⟨by kernel_rfl, by kernel_rfl⟩
/-- clusterlocks/codec.Unframe -/
def F34 : Fr := ⟨68, [0, 2, 3, 4, 5, 6, 7, 18, 22, 25, 8, 9, 11]⟩
def a34 : ACode :=
  (.seq (.reg 0 [] [
      ⟨(.v 1), .asg (.c (.slice none 0 0)), none⟩,
      ⟨(.v 2), .asg (.c (.int .i64 0)), none⟩,
      ⟨(.v 3), .asg (.c (.int .i64 0)), none⟩] none ⟨[], [], []⟩)
  (.seq (.reg 1 [] [
      ⟨(.t 13), .mv (.v 0), none⟩,
      ⟨(.t 14), .call 35 [(.t 13)], none⟩,
      ⟨(.t 12), .mv (.t 14), none⟩,
      ⟨(.t 15), .ext 12 0, none⟩,
      ⟨(.t 16), .ext 12 1, none⟩,
      ⟨(.t 17), .ext 12 2, none⟩,
      ⟨(.v 4), .asg (.t 15), none⟩,
      ⟨(.v 5), .asg (.t 16), none⟩,
      ⟨(.v 6), .asg (.t 17), none⟩] none ⟨[], [], []⟩)
  (.seq (.block 0
    (.seq (.reg 2 [] [
        ⟨(.t 19), .mv (.v 6), none⟩,
        ⟨(.t 20), .bin .neq (.t 19) (.c (.int .i64 0)), none⟩,
        ⟨(.v 7), .asg (.t 20), none⟩] none ⟨[], [], []⟩)
    (.cond (.v 7)
      (.seq (.reg 3 [] [
          ⟨(.t 21), .mv (.v 6), none⟩,
          ⟨(.v 1), .asg (.c (.slice none 0 0)), none⟩,
          ⟨(.v 2), .asg (.c (.int .i64 0)), none⟩,
          ⟨(.v 3), .asg (.t 21), none⟩] none ⟨[], [], []⟩)
      .ret)
      (.seq (.reg 4 [] [
          ⟨(.t 23), .mv (.v 4), none⟩,
          ⟨(.t 24), .bin .gtr (.t 23) (.c (.int .u64 4096)), none⟩,
          ⟨(.v 8), .asg (.t 24), none⟩] none ⟨[], [], []⟩)
      (.cond (.v 8)
        (.seq (.reg 5 [] [
            ⟨(.v 1), .asg (.c (.slice none 0 0)), none⟩,
            ⟨(.v 2), .asg (.c (.int .i64 0)), none⟩,
            ⟨(.v 3), .asg (.c (.int .i64 3)), none⟩] none ⟨[], [], []⟩)
        .ret)
        (.seq (.reg 6 [] [
            ⟨(.t 26), .mv (.v 0), none⟩,
            ⟨(.t 27), .len (.t 26), none⟩,
            ⟨(.t 28), .mv (.v 5), none⟩,
            ⟨(.t 29), .bin .sub (.t 27) (.t 28), none⟩,
            ⟨(.t 30), .mv (.v 4), none⟩,
            ⟨(.t 31), .conv .i64 (.t 30), none⟩,
            ⟨(.t 32), .bin .add (.t 31) (.c (.int .i64 4)), none⟩,
            ⟨(.t 33), .bin .lss (.t 29) (.t 32), none⟩,
            ⟨(.v 9), .asg (.t 33), none⟩] none ⟨[], [], []⟩)
        (.cond (.v 9)
          (.seq (.reg 7 [] [
              ⟨(.v 1), .asg (.c (.slice none 0 0)), none⟩,
              ⟨(.v 2), .asg (.c (.int .i64 0)), none⟩,
              ⟨(.v 3), .asg (.c (.int .i64 5)), none⟩] none ⟨[], [], []⟩)
          .ret)
          .skip)))))))
  (.seq (.reg 8 [] [
      ⟨(.t 34), .mv (.v 5), none⟩,
      ⟨(.t 35), .mv (.v 4), none⟩,
      ⟨(.t 36), .conv .i64 (.t 35), none⟩,
      ⟨(.t 37), .bin .add (.t 34) (.t 36), none⟩,
      ⟨(.v 10), .asg (.t 37), none⟩] none ⟨[], [], []⟩)
  (.seq (.reg 9 [] [
      ⟨(.v 11), .asg (.c (.int .u32 0)), none⟩] none ⟨[], [], []⟩)
  (.seq (.seq (.reg 10 [] [
      ⟨(.t 38), .mv (.v 0), none⟩,
      ⟨(.t 39), .mv (.v 10), none⟩,
      ⟨(.t 40), .mv (.v 10), none⟩,
      ⟨(.t 41), .bin .add (.t 40) (.c (.int .i64 4)), none⟩,
      ⟨(.t 42), .sl 5 1 (.t 38) (some (.t 39)) (some (.t 41)) none, none⟩,
      ⟨(.t 43), .len (.t 42), none⟩,
      ⟨(.t 44), .mv (.c (.int .i64 0)), none⟩] none ⟨[], [], []⟩)
  (.block 1
    (.loop
      (.seq (.reg 11 [] [
          ⟨(.t 45), .bin .lss (.t 44) (.t 43), none⟩] none ⟨[], [], []⟩)
      (.seq (.cond (.t 45)
        .skip
        (.exit 1))
      (.seq (.block 2
        (.seq (.reg 12 [] [
            ⟨(.t 46), .ia 1 (.t 42) (.t 44), none⟩,
            ⟨(.t 47), .ld 1 false (.t 46), none⟩,
            ⟨(.v 12), .asg (.t 47), none⟩] none ⟨[], [], []⟩)
        (.reg 13 [] [
            ⟨(.t 48), .mv (.v 11), none⟩,
            ⟨(.t 49), .bin .shl (.t 48) (.c (.int .u64 8)), none⟩,
            ⟨(.t 50), .mv (.v 12), none⟩,
            ⟨(.t 51), .conv .u32 (.t 50), none⟩,
            ⟨(.t 52), .bin .or (.t 49) (.t 51), none⟩,
            ⟨(.v 11), .asg (.t 52), none⟩] none ⟨[], [], []⟩)))
      (.reg 14 [] [
          ⟨(.t 53), .bin .add (.t 44) (.c (.int .i64 1)), none⟩,
          ⟨(.t 44), .mv (.t 53), none⟩] none ⟨[], [], []⟩)))))))
  (.seq (.seq (.reg 15 [] [
      ⟨(.t 54), .mv (.v 11), none⟩,
      ⟨(.t 55), .mv (.v 0), none⟩,
      ⟨(.t 56), .mv (.v 5), none⟩,
      ⟨(.t 57), .mv (.v 10), none⟩,
      ⟨(.t 58), .sl 5 1 (.t 55) (some (.t 56)) (some (.t 57)) none, none⟩,
      ⟨(.t 59), .call 31 [(.t 58)], none⟩,
      ⟨(.t 60), .bin .neq (.t 54) (.t 59), none⟩] none ⟨[], [], []⟩)
  (.cond (.t 60)
    (.seq (.reg 16 [] [
        ⟨(.v 1), .asg (.c (.slice none 0 0)), none⟩,
        ⟨(.v 2), .asg (.c (.int .i64 0)), none⟩,
        ⟨(.v 3), .asg (.c (.int .i64 7)), none⟩] none ⟨[], [], []⟩)
    .ret)
    .skip))
  (.seq (.reg 17 [] [
      ⟨(.t 61), .mv (.v 0), none⟩,
      ⟨(.t 62), .mv (.v 5), none⟩,
      ⟨(.t 63), .mv (.v 10), none⟩,
      ⟨(.t 64), .sl 5 1 (.t 61) (some (.t 62)) (some (.t 63)) none, none⟩,
      ⟨(.t 65), .app 5 1 1 (.c (.slice none 0 0)) (.t 64), none⟩,
      ⟨(.t 66), .mv (.v 10), none⟩,
      ⟨(.t 67), .bin .add (.t 66) (.c (.int .i64 4)), none⟩,
      ⟨(.v 1), .asg (.t 65), none⟩,
      ⟨(.v 2), .asg (.t 67), none⟩,
      ⟨(.v 3), .asg (.c (.int .i64 0)), none⟩] none ⟨[], [], []⟩)
  .ret))))))))
theorem c34 : compFn Try.prog 34 F34 = some (1, strip a34, [.v 1, .v 2, .v 3]) ∧ lexAll a34 = true := ⟨by kernel_rfl, by kernel_rfl⟩
/-- clusterlocks/codec.Uint -/
def F35 : Fr := ⟨46, [0, 2, 3, 4, 5, 6, 7]⟩
def a35 : ACode :=
  (.seq (.reg 0 [] [
      ⟨(.v 1), .asg (.c (.int .u64 0)), none⟩,
      ⟨(.v 2), .asg (.c (.int .i64 0)), none⟩,
      ⟨(.v 3), .asg (.c (.int .i64 0)), none⟩] none ⟨[], [], []⟩)
  (.seq (.reg 1 [] [
      ⟨(.v 4), .asg (.c (.int .u64 0)), none⟩] none ⟨[], [], []⟩)
  (.seq (.seq (.reg 2 [] [
      ⟨(.t 8), .mv (.c (.int .i64 0)), none⟩] none ⟨[], [], []⟩)
  (.block 0
    (.loop
      (.seq (.reg 3 [] [
          ⟨(.t 9), .bin .lss (.t 8) (.c (.int .i64 10)), none⟩] none ⟨[], [], []⟩)
      (.seq (.cond (.t 9)
        .skip
        (.exit 0))
      (.seq (.block 1
        (.seq (.reg 4 [] [
            ⟨(.t 10), .mv (.t 8), none⟩,
            ⟨(.v 5), .asg (.t 10), none⟩] none ⟨[], [], []⟩)
        (.seq (.seq (.reg 5 [] [
            ⟨(.t 11), .mv (.v 5), none⟩,
            ⟨(.t 12), .mv (.v 0), none⟩,
            ⟨(.t 13), .len (.t 12), none⟩,
            ⟨(.t 14), .bin .geq (.t 11) (.t 13), none⟩] none ⟨[], [], []⟩)
        (.cond (.t 14)
          (.seq (.reg 6 [] [
              ⟨(.v 1), .asg (.c (.int .u64 0)), none⟩,
              ⟨(.v 2), .asg (.c (.int .i64 0)), none⟩,
              ⟨(.v 3), .asg (.c (.int .i64 5)), none⟩] none ⟨[], [], []⟩)
          .ret)
          .skip))
        (.seq (.reg 7 [] [
            ⟨(.t 15), .mv (.v 0), none⟩,
            ⟨(.t 16), .mv (.v 5), none⟩,
            ⟨(.t 17), .ia 1 (.t 15) (.t 16), none⟩,
            ⟨(.t 18), .ld 1 false (.t 17), none⟩,
            ⟨(.v 6), .asg (.t 18), none⟩] none ⟨[], [], []⟩)
        (.seq (.seq (.reg 8 [] [
            ⟨(.t 19), .mv (.v 5), none⟩,
            ⟨(.t 20), .bin .eql (.t 19) (.c (.int .i64 9)), none⟩,
            ⟨(.t 21), .mv (.t 20), none⟩,
            ⟨(.t 22), .mv (.v 6), some (21, true)⟩,
            ⟨(.t 23), .bin .gtr (.t 22) (.c (.int .u8 1)), some (21, true)⟩,
            ⟨(.t 24), .pick (.t 21) (.t 23) (.c (.bool false)), none⟩] none ⟨[], [], []⟩)
        (.cond (.t 24)
          (.seq (.reg 9 [] [
              ⟨(.v 1), .asg (.c (.int .u64 0)), none⟩,
              ⟨(.v 2), .asg (.c (.int .i64 0)), none⟩,
              ⟨(.v 3), .asg (.c (.int .i64 6)), none⟩] none ⟨[], [], []⟩)
          .ret)
          .skip))
        (.seq (.reg 10 [] [
            ⟨(.t 25), .mv (.v 4), none⟩,
            ⟨(.t 26), .mv (.v 6), none⟩,
            ⟨(.t 27), .bin .and (.t 26) (.c (.int .u8 127)), none⟩,
            ⟨(.t 28), .conv .u64 (.t 27), none⟩,
            ⟨(.t 29), .mv (.v 5), none⟩,
            ⟨(.t 30), .bin .mul (.c (.int .i64 7)) (.t 29), none⟩,
            ⟨(.t 31), .bin .shl (.t 28) (.t 30), none⟩,
            ⟨(.t 32), .bin .or (.t 25) (.t 31), none⟩,
            ⟨(.v 4), .asg (.t 32), none⟩] none ⟨[], [], []⟩)
        (.seq (.seq (.reg 11 [] [
            ⟨(.t 33), .mv (.v 6), none⟩,
            ⟨(.t 34), .bin .and (.t 33) (.c (.int .u8 128)), none⟩,
            ⟨(.t 35), .bin .neq (.t 34) (.c (.int .u8 0)), none⟩] none ⟨[], [], []⟩)
        (.cond (.t 35)
          (.exit 1)
          .skip))
        (.seq (.seq (.reg 12 [] [
            ⟨(.t 36), .mv (.v 6), none⟩,
            ⟨(.t 37), .bin .eql (.t 36) (.c (.int .u8 0)), none⟩,
            ⟨(.t 38), .mv (.t 37), none⟩,
            ⟨(.t 39), .mv (.v 5), some (38, true)⟩,
            ⟨(.t 40), .bin .gtr (.t 39) (.c (.int .i64 0)), some (38, true)⟩,
            ⟨(.t 41), .pick (.t 38) (.t 40) (.c (.bool false)), none⟩] none ⟨[], [], []⟩)
        (.cond (.t 41)
          (.seq (.reg 13 [] [
              ⟨(.v 1), .asg (.c (.int .u64 0)), none⟩,
              ⟨(.v 2), .asg (.c (.int .i64 0)), none⟩,
              ⟨(.v 3), .asg (.c (.int .i64 6)), none⟩] none ⟨[], [], []⟩)
          .ret)
          .skip))
        (.seq (.reg 14 [] [
            ⟨(.t 42), .mv (.v 4), none⟩,
            ⟨(.t 43), .mv (.v 5), none⟩,
            ⟨(.t 44), .bin .add (.t 43) (.c (.int .i64 1)), none⟩,
            ⟨(.v 1), .asg (.t 42), none⟩,
            ⟨(.v 2), .asg (.t 44), none⟩,
            ⟨(.v 3), .asg (.c (.int .i64 0)), none⟩] none ⟨[], [], []⟩)
        .ret)))))))))
      (.reg 15 [] [
          ⟨(.t 45), .bin .add (.t 8) (.c (.int .i64 1)), none⟩,
          ⟨(.t 8), .mv (.t 45), none⟩] none ⟨[], [], []⟩)))))))
  (.seq (.reg 16 [] [
      ⟨(.v 1), .asg (.c (.int .u64 0)), none⟩,
      ⟨(.v 2), .asg (.c (.int .i64 0)), none⟩,
      ⟨(.v 3), .asg (.c (.int .i64 6)), none⟩] none ⟨[], [], []⟩)
  .ret))))
theorem c35 : compFn Try.prog 35 F35 = some (1, strip a35, [.v 1, .v 2, .v 3]) ∧ lexAll a35 = true := ⟨by kernel_rfl, by kernel_rfl⟩
/-- clusterlocks/clusterlocksref01.Checksum -/
def F36 : Fr := ⟨33, [0, 2, 3, 4, 5]⟩
def a36 : ACode :=
  (.seq (.reg 0 [] [
      ⟨(.v 1), .asg (.c (.int .u32 0)), none⟩] none ⟨[], [], []⟩)
  (.seq (.reg 1 [] [
      ⟨(.v 2), .asg (.c (.int .u32 4294967295)), none⟩] none ⟨[], [], []⟩)
  (.seq (.seq (.reg 2 [] [
      ⟨(.v 3), .asg (.c (.int .i64 0)), none⟩] none ⟨[], [], []⟩)
  (.block 0
    (.loop
      (.seq (.seq (.reg 3 [] [
          ⟨(.t 6), .mv (.v 3), none⟩,
          ⟨(.t 7), .mv (.v 0), none⟩,
          ⟨(.t 8), .len (.t 7), none⟩,
          ⟨(.t 9), .bin .lss (.t 6) (.t 8), none⟩] none ⟨[], [], []⟩)
      (.cond (.t 9)
        .skip
        (.exit 0)))
      (.seq (.block 1
        (.seq (.reg 5 [] [
            ⟨(.t 12), .mv (.v 2), none⟩,
            ⟨(.t 13), .mv (.v 0), none⟩,
            ⟨(.t 14), .mv (.v 3), none⟩,
            ⟨(.t 15), .ia 1 (.t 13) (.t 14), none⟩,
            ⟨(.t 16), .ld 1 false (.t 15), none⟩,
            ⟨(.t 17), .conv .u32 (.t 16), none⟩,
            ⟨(.t 18), .bin .xor (.t 12) (.t 17), none⟩,
            ⟨(.v 2), .asg (.t 18), none⟩] none ⟨[], [], []⟩)
        (.seq (.reg 6 [] [
            ⟨(.v 4), .asg (.c (.int .i64 0)), none⟩] none ⟨[], [], []⟩)
        (.block 2
          (.loop
            (.seq (.seq (.reg 7 [] [
                ⟨(.t 19), .mv (.v 4), none⟩,
                ⟨(.t 20), .bin .lss (.t 19) (.c (.int .i64 8)), none⟩] none ⟨[], [], []⟩)
            (.cond (.t 20)
              .skip
              (.exit 2)))
            (.seq (.block 3
              (.seq (.reg 9 [] [
                  ⟨(.t 23), .mv (.v 2), none⟩,
                  ⟨(.t 24), .bin .and (.t 23) (.c (.int .u32 1)), none⟩,
                  ⟨(.t 25), .bin .eql (.t 24) (.c (.int .u32 1)), none⟩] none ⟨[], [], []⟩)
              (.cond (.t 25)
                (.reg 10 [] [
                    ⟨(.t 26), .mv (.v 2), none⟩,
                    ⟨(.t 27), .bin .shr (.t 26) (.c (.int .u64 1)), none⟩,
                    ⟨(.t 28), .bin .xor (.t 27) (.c (.int .u32 3988292384)), none⟩,
                    ⟨(.v 2), .asg (.t 28), none⟩] none ⟨[], [], []⟩)
                (.reg 11 [] [
                    ⟨(.t 29), .mv (.v 2), none⟩,
                    ⟨(.t 30), .bin .shr (.t 29) (.c (.int .u64 1)), none⟩,
                    ⟨(.v 2), .asg (.t 30), none⟩] none ⟨[], [], []⟩))))
            (.reg 8 [] [
                ⟨(.t 21), .mv (.v 4), none⟩,
                ⟨(.t 22), .bin .add (.t 21) (.c (.int .i64 1)), none⟩,
                ⟨(.v 4), .asg (.t 22), none⟩] none ⟨[], [], []⟩))))))))
      (.reg 4 [] [
          ⟨(.t 10), .mv (.v 3), none⟩,
          ⟨(.t 11), .bin .add (.t 10) (.c (.int .i64 1)), none⟩,
          ⟨(.v 3), .asg (.t 11), none⟩] none ⟨[], [], []⟩))))))
  (.seq (.reg 12 [] [
      ⟨(.t 31), .mv (.v 2), none⟩,
      ⟨(.t 32), .un .xor (.t 31), none⟩,
      ⟨(.v 1), .asg (.t 32), none⟩] none ⟨[], [], []⟩)
  .ret))))
theorem c36 : compFn Try.prog 36 F36 = some (1, strip a36, [.v 1]) ∧ lexAll a36 = true := ⟨by kernel_rfl, by kernel_rfl⟩
theorem mixed : Try.prog.follows .mixedOrders = true := by kernel_rfl
end Go.Proofs.Ytbjgnoegblejhaa
