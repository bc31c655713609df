/- Texts put behind one another: L0, LB. -/
import Derived.Test.YtlnmbpaijodpjaaZE
import Derived.Tactics
import Derived.IntWalk
import Derived.Test.YtlnmbpaijodpjaaProg
set_option linter.unusedVariables false
set_option linter.unusedSimpArgs false
namespace Go.Proofs.Ytlnmbpaijodpjaa
open Go.RowKit Go.Proofs
/-- clusterlocks/clusterlockslaw27.TokenOne -/
def F3 : Fr := ⟨24, [0, 1, 4, 5, 6]⟩
def a3 : ACode :=
  (.seq (.reg 0 [] [
      ⟨(.v 2), .asg (.c (.bool false)), none⟩] none ⟨[], [], [], []⟩)
  (.seq (.seq (.reg 1 [] [
      ⟨(.t 7), .mv (.v 0), none⟩,
      ⟨(.t 8), .call 5 [(.t 7)], none⟩,
      ⟨(.t 9), .un .not (.t 8), none⟩] none ⟨[], [], [], []⟩)
  (.cond (.t 9)
    (.seq (.reg 2 [] [
        ⟨(.t 10), .call 6 [], none⟩,
        ⟨(.v 2), .asg (.t 10), none⟩] none ⟨[], [], [], []⟩)
    .ret)
    .skip))
  (.seq (.reg 3 [] [
      ⟨(.t 12), .mv (.v 0), none⟩,
      ⟨(.t 13), .mv (.v 1), none⟩,
      ⟨(.t 14), .conv .i64 (.t 13), none⟩,
      ⟨(.t 15), .bin .rem (.t 14) (.c (.int .i64 4)), none⟩,
      ⟨(.t 16), .bin .add (.c (.int .i64 1)) (.t 15), none⟩,
      ⟨(.t 17), .call 7 [(.t 12), (.t 16)], none⟩,
      ⟨(.t 11), .mv (.t 17), none⟩,
      ⟨(.t 18), .ext 11 0, none⟩,
      ⟨(.t 19), .ext 11 1, none⟩,
      ⟨(.v 3), .asg (.t 18), none⟩,
      ⟨(.v 4), .asg (.t 19), none⟩] none ⟨[], [], [], []⟩)
  (.seq (.reg 4 [] [
      ⟨(.t 20), .call 6 [], none⟩,
      ⟨(.t 21), .mv (.t 20), none⟩,
      ⟨(.t 22), .mv (.v 4), some (21, true)⟩,
      ⟨(.t 23), .pick (.t 21) (.t 22) (.c (.bool false)), none⟩,
      ⟨(.v 2), .asg (.t 23), none⟩] none ⟨[], [], [], []⟩)
  .ret))))
theorem c3 : compFn Try.prog 3 F3 = some (2, strip a3, [.v 2]) ∧ lexAll a3 = true := ⟨by kernel_rfl, by kernel_rfl⟩
/-- clusterlocks/clusterlockslaw27.TokenServed -/
def F4 : Fr := ⟨145, [0, 1, 4, 5, 6, 7, 8, 9, 11, 12, 13]⟩
def a4 : ACode :=
  (.seq (.reg 0 [] [
      ⟨(.v 2), .asg (.c (.bool false)), none⟩] none ⟨[], [], [], []⟩)
  (.seq (.seq (.reg 1 [] [
      ⟨(.t 14), .mv (.v 0), none⟩,
      ⟨(.t 15), .call 5 [(.t 14)], none⟩,
      ⟨(.t 16), .un .not (.t 15), none⟩] none ⟨[], [], [], []⟩)
  (.cond (.t 16)
    (.seq (.reg 2 [] [
        ⟨(.t 17), .call 6 [], none⟩,
        ⟨(.v 2), .asg (.t 17), none⟩] none ⟨[], [], [], []⟩)
    .ret)
    .skip))
  (.seq (.reg 3 [] [
      ⟨(.t 19), .mv (.v 0), none⟩,
      ⟨(.t 20), .mv (.v 1), none⟩,
      ⟨(.t 21), .conv .i64 (.t 20), none⟩,
      ⟨(.t 22), .bin .rem (.t 21) (.c (.int .i64 4)), none⟩,
      ⟨(.t 23), .bin .add (.c (.int .i64 1)) (.t 22), none⟩,
      ⟨(.t 24), .call 7 [(.t 19), (.t 23)], none⟩,
      ⟨(.t 18), .mv (.t 24), none⟩,
      ⟨(.t 25), .ext 18 0, none⟩,
      ⟨(.t 26), .ext 18 1, none⟩,
      ⟨(.v 3), .asg (.t 25), none⟩,
      ⟨(.v 4), .asg (.t 26), none⟩] none ⟨[], [], [], []⟩)
  (.seq (.seq (.reg 4 [] [
      ⟨(.t 27), .mv (.v 4), none⟩,
      ⟨(.t 28), .un .not (.t 27), none⟩] none ⟨[], [], [], []⟩)
  (.cond (.t 28)
    (.seq (.reg 5 [] [
        ⟨(.v 2), .asg (.c (.bool false)), none⟩] none ⟨[], [], [], []⟩)
    .ret)
    .skip))
  (.seq (.seq (.reg 6 [] [
      ⟨(.v 5), .asg (.c (.int .i64 0)), none⟩] none ⟨[], [], [], []⟩)
  (.block 0
    (.loop
      (.seq (.seq (.reg 7 [] [
          ⟨(.t 29), .mv (.v 5), none⟩,
          ⟨(.t 30), .bin .lss (.t 29) (.c (.int .i64 1000)), none⟩] none ⟨[], [], [], []⟩)
      (.cond (.t 30)
        .skip
        (.exit 0)))
      (.seq (.block 1
        (.seq (.reg 9 [] [
            ⟨(.v 6), .asg (.c (.bool false)), none⟩] none ⟨[], [], [], []⟩)
        (.seq (.seq (.reg 10 [] [
            ⟨(.t 33), .mv (.v 3), none⟩,
            ⟨(.t 34), .nilck (.t 33), none⟩,
            ⟨(.t 35), .fa 0 (.t 34), none⟩,
            ⟨(.t 36), .ld 1 false (.t 35), none⟩,
            ⟨(.t 37), .len (.t 36), none⟩,
            ⟨(.t 38), .mv (.c (.int .i64 0)), none⟩] none ⟨[], [], [], []⟩)
        (.block 2
          (.loop
            (.seq (.reg 11 [] [
                ⟨(.t 39), .bin .lss (.t 38) (.t 37), none⟩] none ⟨[], [], [], []⟩)
            (.seq (.cond (.t 39)
              .skip
              (.exit 2))
            (.seq (.block 3
              (.seq (.reg 12 [] [
                  ⟨(.t 40), .mv (.t 38), none⟩,
                  ⟨(.v 7), .asg (.t 40), none⟩] none ⟨[], [], [], []⟩)
              (.seq (.reg 13 [] [
                  ⟨(.t 41), .mv (.v 3), none⟩,
                  ⟨(.t 42), .nilck (.t 41), none⟩,
                  ⟨(.t 43), .fa 0 (.t 42), none⟩,
                  ⟨(.t 44), .ld 1 false (.t 43), none⟩,
                  ⟨(.t 45), .mv (.v 7), none⟩,
                  ⟨(.t 46), .ia 5 (.t 44) (.t 45), none⟩,
                  ⟨(.t 47), .fa 2 (.t 46), none⟩,
                  ⟨(.t 48), .ld 1 false (.t 47), none⟩] none ⟨[], [], [], []⟩)
              (.cond (.t 48)
                (.seq (.reg 14 [] [
                    ⟨(.t 50), .mv (.v 3), none⟩,
                    ⟨(.t 51), .nilck (.t 50), none⟩,
                    ⟨(.t 52), .fa 0 (.t 51), none⟩,
                    ⟨(.t 53), .ld 1 false (.t 52), none⟩,
                    ⟨(.t 54), .mv (.v 7), none⟩,
                    ⟨(.t 55), .ia 5 (.t 53) (.t 54), none⟩,
                    ⟨(.t 56), .ld 5 true (.t 55), none⟩,
                    ⟨(.t 57), .mv (.v 7), none⟩,
                    ⟨(.t 58), .mv (.v 3), none⟩,
                    ⟨(.t 59), .nilck (.t 58), none⟩,
                    ⟨(.t 60), .fa 0 (.t 59), none⟩,
                    ⟨(.t 61), .ld 1 false (.t 60), none⟩,
                    ⟨(.t 62), .len (.t 61), none⟩,
                    ⟨(.t 63), .call 8 [(.t 56), (.t 57), (.t 62), (.c (.int .i64 1))], none⟩,
                    ⟨(.t 49), .mv (.t 63), none⟩,
                    ⟨(.t 64), .ext 49 0, none⟩,
                    ⟨(.t 65), .ext 49 1, none⟩,
                    ⟨(.t 66), .ext 49 2, none⟩,
                    ⟨(.t 10), .allo [(.bool false), (.bool false), (.bool false), (.int .i64 0), (.int .i64 0)], none⟩,
                    ⟨.none, .st 5 (.t 10) (.t 64), none⟩,
                    ⟨(.v 8), .asg (.t 65), none⟩,
                    ⟨(.v 9), .asg (.t 66), none⟩] (some [[], [0], [1], [2], [], [3, 4], [5], [], [], [8], [9], [10], [11], [6, 7, 12], [13], [14], [14], [14], [], [18, 15, 13, 0, 1, 2, 3, 4, 5, 6, 7, 8, 9, 10, 11, 12, 13, 14, 15, 18], [16, 19, 0, 1, 2, 3, 4, 5, 6, 7, 8, 9, 10, 11, 12, 13, 14, 15, 16, 18, 19], [17, 20, 0, 1, 2, 3, 4, 5, 6, 7, 8, 9, 10, 11, 12, 13, 14, 15, 16, 17, 18, 19, 20]]) ⟨[], [16, 17], [], []⟩)
                (.seq (.seq (.reg 15 [] [
                    ⟨(.t 67), .mv (.v 9), none⟩,
                    ⟨(.t 68), .bin .neq (.t 67) (.c (.int .i64 0)), none⟩] none ⟨[], [], [], []⟩)
                (.cond (.t 68)
                  (.seq (.reg 16 [] [
                      ⟨(.v 2), .asg (.c (.bool false)), none⟩] none ⟨[], [], [], []⟩)
                  .ret)
                  .skip))
                (.reg 17 [.lend (.cell 0 0) 75, .lend (.cell 0 1) 75, .lend (.cell 0 2) 75, .lend (.cell 0 3) 75, .lend (.cell 0 4) 75] [
                    ⟨(.t 69), .mv (.v 3), none⟩,
                    ⟨(.t 70), .nilck (.t 69), none⟩,
                    ⟨(.t 71), .fa 0 (.t 70), none⟩,
                    ⟨(.t 72), .ld 1 false (.t 71), none⟩,
                    ⟨(.t 73), .mv (.v 7), none⟩,
                    ⟨(.t 74), .mv (.v 3), none⟩,
                    ⟨(.t 75), .ld 5 true (.t 10), none⟩,
                    ⟨(.t 76), .mv (.v 3), none⟩,
                    ⟨(.t 77), .nilck (.t 76), none⟩,
                    ⟨(.t 78), .fa 1 (.t 77), none⟩,
                    ⟨(.t 79), .ld 1 false (.t 78), none⟩,
                    ⟨(.t 80), .mv (.v 8), none⟩,
                    ⟨(.t 81), .app 55 19 208 (.t 79) (.t 80), none⟩,
                    ⟨(.t 82), .ia 5 (.t 72) (.t 73), none⟩,
                    ⟨.none, .st 5 (.t 82) (.t 75), none⟩,
                    ⟨(.t 83), .nilck (.t 74), none⟩,
                    ⟨(.t 84), .fa 1 (.t 83), none⟩,
                    ⟨.none, .st 1 (.t 84) (.t 81), none⟩,
                    ⟨(.v 6), .asg (.c (.bool true)), none⟩] (some [[], [0], [1], [2], [], [], [], [], [7], [8], [9], [], [10, 11], [3, 4, 0, 1, 2, 3, 4, 6, 10, 12], [13, 6, 12, 0, 1, 2, 3, 4, 6, 10, 12], [5, 0, 1, 2, 3, 4, 5, 6, 7, 8, 9, 10, 11, 12, 13, 14], [15, 0, 1, 2, 3, 4, 5, 6, 7, 8, 9, 10, 11, 12, 13, 14], [16, 12, 14, 0, 1, 2, 3, 4, 5, 6, 7, 8, 9, 10, 11, 12, 13, 14], [17, 0, 1, 2, 3, 4, 5, 6, 7, 8, 9, 10, 11, 12, 13, 14, 15, 16, 17]]) ⟨[], [5], [], []⟩)))
                .skip))))
            (.reg 18 [] [
                ⟨(.t 85), .bin .add (.t 38) (.c (.int .i64 1)), none⟩,
                ⟨(.t 38), .mv (.t 85), none⟩] none ⟨[], [], [], []⟩)))))))
        (.seq (.seq (.reg 19 [] [
            ⟨(.t 86), .mv (.v 3), none⟩,
            ⟨(.t 87), .nilck (.t 86), none⟩,
            ⟨(.t 88), .fa 1 (.t 87), none⟩,
            ⟨(.t 89), .ld 1 false (.t 88), none⟩,
            ⟨(.t 90), .len (.t 89), none⟩,
            ⟨(.t 91), .bin .gtr (.t 90) (.c (.int .i64 0)), none⟩] none ⟨[], [], [], []⟩)
        (.cond (.t 91)
          (.seq (.seq (.reg 20 [] [
              ⟨(.t 92), .mv (.v 3), none⟩,
              ⟨(.t 93), .mv (.v 5), none⟩,
              ⟨(.t 94), .mv (.v 3), none⟩,
              ⟨(.t 95), .nilck (.t 94), none⟩,
              ⟨(.t 96), .fa 1 (.t 95), none⟩,
              ⟨(.t 97), .ld 1 false (.t 96), none⟩,
              ⟨(.t 98), .len (.t 97), none⟩,
              ⟨(.t 99), .bin .rem (.t 93) (.t 98), none⟩,
              ⟨(.t 100), .call 9 [(.t 92), (.t 99)], none⟩,
              ⟨(.t 101), .un .not (.t 100), none⟩,
              ⟨(.t 102), .mv (.t 101), none⟩,
              ⟨(.t 103), .mv (.v 3), some (102, false)⟩,
              ⟨(.t 104), .call 10 [(.t 103)], some (102, false)⟩,
              ⟨(.t 105), .un .not (.t 104), some (102, false)⟩,
              ⟨(.t 106), .pick (.t 102) (.c (.bool true)) (.t 105), none⟩] none ⟨[], [], [], []⟩)
          (.cond (.t 106)
            (.seq (.reg 21 [] [
                ⟨(.v 2), .asg (.c (.bool false)), none⟩] none ⟨[], [], [], []⟩)
            .ret)
            .skip))
          (.reg 22 [] [
              ⟨(.v 6), .asg (.c (.bool true)), none⟩] none ⟨[], [], [], []⟩))
          .skip))
        (.seq (.reg 23 [] [
            ⟨(.t 107), .mv (.v 6), none⟩,
            ⟨(.t 108), .un .not (.t 107), none⟩] none ⟨[], [], [], []⟩)
        (.cond (.t 108)
          (.exit 0)
          .skip))))))
      (.reg 8 [] [
          ⟨(.t 31), .mv (.v 5), none⟩,
          ⟨(.t 32), .bin .add (.t 31) (.c (.int .i64 1)), none⟩,
          ⟨(.v 5), .asg (.t 32), none⟩] none ⟨[], [], [], []⟩))))))
  (.seq (.seq (.reg 24 [] [
      ⟨(.t 109), .mv (.v 3), none⟩,
      ⟨(.t 110), .nilck (.t 109), none⟩,
      ⟨(.t 111), .fa 0 (.t 110), none⟩,
      ⟨(.t 112), .ld 1 false (.t 111), none⟩,
      ⟨(.t 113), .len (.t 112), none⟩,
      ⟨(.t 114), .mv (.c (.int .i64 0)), none⟩] none ⟨[], [], [], []⟩)
  (.block 4
    (.loop
      (.seq (.reg 25 [] [
          ⟨(.t 115), .bin .lss (.t 114) (.t 113), none⟩] none ⟨[], [], [], []⟩)
      (.seq (.cond (.t 115)
        .skip
        (.exit 4))
      (.seq (.block 5
        (.seq (.reg 26 [] [
            ⟨(.t 116), .mv (.t 114), none⟩,
            ⟨(.v 10), .asg (.t 116), none⟩] none ⟨[], [], [], []⟩)
        (.seq (.reg 27 [] [
            ⟨(.t 117), .mv (.v 3), none⟩,
            ⟨(.t 118), .nilck (.t 117), none⟩,
            ⟨(.t 119), .fa 0 (.t 118), none⟩,
            ⟨(.t 120), .ld 1 false (.t 119), none⟩,
            ⟨(.t 121), .mv (.v 10), none⟩,
            ⟨(.t 122), .ia 5 (.t 120) (.t 121), none⟩,
            ⟨(.t 123), .fa 1 (.t 122), none⟩,
            ⟨(.t 124), .ld 1 false (.t 123), none⟩,
            ⟨(.t 125), .mv (.t 124), none⟩,
            ⟨(.t 126), .mv (.v 3), some (125, false)⟩,
            ⟨(.t 127), .nilck (.t 126), some (125, false)⟩,
            ⟨(.t 128), .fa 0 (.t 127), some (125, false)⟩,
            ⟨(.t 129), .ld 1 false (.t 128), some (125, false)⟩,
            ⟨(.t 130), .mv (.v 10), some (125, false)⟩,
            ⟨(.t 131), .ia 5 (.t 129) (.t 130), some (125, false)⟩,
            ⟨(.t 132), .fa 2 (.t 131), some (125, false)⟩,
            ⟨(.t 133), .ld 1 false (.t 132), some (125, false)⟩,
            ⟨(.t 134), .pick (.t 125) (.c (.bool true)) (.t 133), none⟩] none ⟨[], [], [], []⟩)
        (.cond (.t 134)
          (.seq (.reg 28 [] [
              ⟨(.v 2), .asg (.c (.bool false)), none⟩] none ⟨[], [], [], []⟩)
          .ret)
          .skip))))
      (.reg 29 [] [
          ⟨(.t 135), .bin .add (.t 114) (.c (.int .i64 1)), none⟩,
          ⟨(.t 114), .mv (.t 135), none⟩] none ⟨[], [], [], []⟩)))))))
  (.seq (.reg 30 [] [
      ⟨(.t 136), .call 6 [], none⟩,
      ⟨(.t 137), .mv (.t 136), none⟩,
      ⟨(.t 138), .mv (.v 3), some (137, true)⟩,
      ⟨(.t 139), .nilck (.t 138), some (137, true)⟩,
      ⟨(.t 140), .fa 1 (.t 139), some (137, true)⟩,
      ⟨(.t 141), .ld 1 false (.t 140), some (137, true)⟩,
      ⟨(.t 142), .len (.t 141), some (137, true)⟩,
      ⟨(.t 143), .bin .eql (.t 142) (.c (.int .i64 0)), some (137, true)⟩,
      ⟨(.t 144), .pick (.t 137) (.t 143) (.c (.bool false)), none⟩,
      ⟨(.v 2), .asg (.t 144), none⟩] none ⟨[], [], [], []⟩)
  .ret)))))))
theorem c4 : compFn Try.prog 4 F4 = some (2, strip a4, [.v 2]) ∧ lexAll a4 = true := ⟨by kernel_rfl, by kernel_rfl⟩
/-- clusterlocks/clusterlocksplan.Light -/
def F5 : Fr := ⟨6, [0, 2]⟩
def a5 : ACode :=
  (.seq (.reg 0 [] [
      ⟨(.v 1), .asg (.c (.bool false)), none⟩] none ⟨[], [], [], []⟩)
  (.seq (.reg 1 [] [
      ⟨(.t 3), .mv (.v 0), none⟩,
      ⟨(.t 4), .len (.t 3), none⟩,
      ⟨(.t 5), .bin .leq (.t 4) (.c (.int .i64 400)), none⟩,
      ⟨(.v 1), .asg (.t 5), none⟩] none ⟨[], [], [], []⟩)
  .ret))
theorem c5 : compFn Try.prog 5 F5 = some (1, strip a5, [.v 1]) ∧ lexAll a5 = true := ⟨by kernel_rfl, by kernel_rfl⟩
/-- clusterlocks/clusterlockslaw27.awake -/
def F6 : Fr := ⟨101, [0, 2, 4, 5, 6, 7, 8]⟩
def a6 : ACode :=
  (.seq (.reg 0 [] [
      ⟨(.v 0), .asg (.c (.bool false)), none⟩] none ⟨[], [], [], []⟩)
  (.seq (.reg 1 [] [
      ⟨(.t 10), .call 11 [(.c (.int .i64 0)), (.c (.int .i64 3))], none⟩,
      ⟨(.t 9), .mv (.t 10), none⟩,
      ⟨(.t 11), .ext 9 0, none⟩,
      ⟨(.t 12), .ext 9 1, none⟩,
      ⟨(.t 1), .allo [(.bool false), (.bool false), (.bool false), (.int .i64 0), (.int .i64 0)], none⟩,
      ⟨.none, .st 5 (.t 1) (.t 11), none⟩,
      ⟨(.v 1), .asg (.t 12), none⟩] none ⟨[], [], [], []⟩)
  (.seq (.reg 2 [] [
      ⟨(.t 14), .call 11 [(.c (.int .i64 1)), (.c (.int .i64 3))], none⟩,
      ⟨(.t 13), .mv (.t 14), none⟩,
      ⟨(.t 15), .ext 13 0, none⟩,
      ⟨(.t 16), .ext 13 1, none⟩,
      ⟨(.t 3), .allo [(.bool false), (.bool false), (.bool false), (.int .i64 0), (.int .i64 0)], none⟩,
      ⟨.none, .st 5 (.t 3) (.t 15), none⟩,
      ⟨(.v 2), .asg (.t 16), none⟩] none ⟨[], [], [], []⟩)
  (.seq (.reg 3 [] [
      ⟨(.t 18), .ld 5 true (.t 3), none⟩,
      ⟨(.t 19), .call 12 [(.t 18), (.c (.int .i64 1)), (.c (.int .i64 3)), (.c (.int .i64 5))], none⟩,
      ⟨(.t 17), .mv (.t 19), none⟩,
      ⟨(.t 20), .ext 17 0, none⟩,
      ⟨(.t 21), .ext 17 1, none⟩,
      ⟨(.t 22), .ext 17 2, none⟩,
      ⟨.none, .st 5 (.t 3) (.t 20), none⟩,
      ⟨(.v 3), .asg (.t 21), none⟩,
      ⟨(.v 4), .asg (.t 22), none⟩] none ⟨[], [], [], []⟩)
  (.seq (.seq (.reg 4 [] [
      ⟨(.t 23), .mv (.v 1), none⟩,
      ⟨(.t 24), .bin .neq (.t 23) (.c (.int .i64 0)), none⟩,
      ⟨(.t 25), .mv (.t 24), none⟩,
      ⟨(.t 26), .mv (.v 2), some (25, false)⟩,
      ⟨(.t 27), .bin .neq (.t 26) (.c (.int .i64 0)), some (25, false)⟩,
      ⟨(.t 28), .pick (.t 25) (.c (.bool true)) (.t 27), none⟩,
      ⟨(.t 29), .mv (.t 28), none⟩,
      ⟨(.t 30), .mv (.v 4), some (29, false)⟩,
      ⟨(.t 31), .bin .neq (.t 30) (.c (.int .i64 0)), some (29, false)⟩,
      ⟨(.t 32), .pick (.t 29) (.c (.bool true)) (.t 31), none⟩,
      ⟨(.t 33), .mv (.t 32), none⟩,
      ⟨(.t 34), .mv (.v 3), some (33, false)⟩,
      ⟨(.t 35), .len (.t 34), some (33, false)⟩,
      ⟨(.t 36), .bin .neq (.t 35) (.c (.int .i64 1)), some (33, false)⟩,
      ⟨(.t 37), .pick (.t 33) (.c (.bool true)) (.t 36), none⟩,
      ⟨(.t 38), .mv (.t 37), none⟩,
      ⟨(.t 39), .mv (.v 3), some (38, false)⟩,
      ⟨(.t 40), .ia 19 (.t 39) (.c (.int .i64 0)), some (38, false)⟩,
      ⟨(.t 41), .fa 0 (.t 40), some (38, false)⟩,
      ⟨(.t 42), .ld 1 false (.t 41), some (38, false)⟩,
      ⟨(.t 43), .bin .neq (.t 42) (.c (.int .i64 0)), some (38, false)⟩,
      ⟨(.t 44), .pick (.t 38) (.c (.bool true)) (.t 43), none⟩,
      ⟨(.t 45), .mv (.t 44), none⟩,
      ⟨(.t 46), .fa 1 (.t 3), some (45, false)⟩,
      ⟨(.t 47), .ld 1 false (.t 46), some (45, false)⟩,
      ⟨(.t 48), .un .not (.t 47), some (45, false)⟩,
      ⟨(.t 49), .pick (.t 45) (.c (.bool true)) (.t 48), none⟩,
      ⟨(.t 50), .mv (.t 49), none⟩,
      ⟨(.t 51), .fa 3 (.t 3), some (50, false)⟩,
      ⟨(.t 52), .ld 1 false (.t 51), some (50, false)⟩,
      ⟨(.t 53), .bin .neq (.t 52) (.c (.int .i64 (-1))), some (50, false)⟩,
      ⟨(.t 54), .pick (.t 50) (.c (.bool true)) (.t 53), none⟩] none ⟨[], [], [], []⟩)
  (.cond (.t 54)
    (.seq (.reg 5 [] [
        ⟨(.v 0), .asg (.c (.bool false)), none⟩] none ⟨[], [], [], []⟩)
    .ret)
    .skip))
  (.seq (.reg 6 [] [
      ⟨(.t 56), .ld 5 true (.t 1), none⟩,
      ⟨(.t 57), .mv (.v 3), none⟩,
      ⟨(.t 58), .ia 19 (.t 57) (.c (.int .i64 0)), none⟩,
      ⟨(.t 59), .fa 1 (.t 58), none⟩,
      ⟨(.t 60), .ld 18 true (.t 59), none⟩,
      ⟨(.t 61), .call 13 [(.t 56), (.c (.int .i64 0)), (.c (.int .i64 3)), (.c (.int .i64 5)), (.t 60)], none⟩,
      ⟨(.t 55), .mv (.t 61), none⟩,
      ⟨(.t 62), .ext 55 0, none⟩,
      ⟨(.t 63), .ext 55 1, none⟩,
      ⟨(.t 64), .ext 55 2, none⟩,
      ⟨.none, .st 5 (.t 1) (.t 62), none⟩,
      ⟨(.v 5), .asg (.t 63), none⟩,
      ⟨(.v 6), .asg (.t 64), none⟩] (some [[], [], [1], [2], [3], [0, 4], [5], [6], [6], [6], [7, 5, 0, 1, 2, 3, 4, 5, 6, 7], [8, 10, 0, 1, 2, 3, 4, 5, 6, 7, 8, 10], [9, 11, 0, 1, 2, 3, 4, 5, 6, 7, 8, 9, 10, 11]]) ⟨[], [8, 9], [], []⟩)
  (.seq (.reg 7 [] [
      ⟨(.t 65), .mv (.v 6), none⟩,
      ⟨(.t 66), .bin .eql (.t 65) (.c (.int .i64 0)), none⟩,
      ⟨(.t 67), .mv (.t 66), none⟩,
      ⟨(.t 68), .mv (.v 5), some (67, true)⟩,
      ⟨(.t 69), .len (.t 68), some (67, true)⟩,
      ⟨(.t 70), .bin .eql (.t 69) (.c (.int .i64 1)), some (67, true)⟩,
      ⟨(.t 71), .pick (.t 67) (.t 70) (.c (.bool false)), none⟩,
      ⟨(.t 72), .mv (.t 71), none⟩,
      ⟨(.t 73), .mv (.v 5), some (72, true)⟩,
      ⟨(.t 74), .ia 19 (.t 73) (.c (.int .i64 0)), some (72, true)⟩,
      ⟨(.t 75), .fa 0 (.t 74), some (72, true)⟩,
      ⟨(.t 76), .ld 1 false (.t 75), some (72, true)⟩,
      ⟨(.t 77), .bin .eql (.t 76) (.c (.int .i64 1)), some (72, true)⟩,
      ⟨(.t 78), .pick (.t 72) (.t 77) (.c (.bool false)), none⟩,
      ⟨(.t 79), .mv (.t 78), none⟩,
      ⟨(.t 80), .mv (.v 5), some (79, true)⟩,
      ⟨(.t 81), .ia 19 (.t 80) (.c (.int .i64 0)), some (79, true)⟩,
      ⟨(.t 82), .fa 1 (.t 81), some (79, true)⟩,
      ⟨(.t 83), .fa 0 (.t 82), some (79, true)⟩,
      ⟨(.t 84), .ld 1 false (.t 83), some (79, true)⟩,
      ⟨(.t 85), .bin .eql (.t 84) (.c (.int .i64 13)), some (79, true)⟩,
      ⟨(.t 86), .pick (.t 79) (.t 85) (.c (.bool false)), none⟩,
      ⟨(.t 87), .mv (.t 86), none⟩,
      ⟨(.t 88), .fa 0 (.t 1), some (87, true)⟩,
      ⟨(.t 89), .ld 1 false (.t 88), some (87, true)⟩,
      ⟨(.t 90), .un .not (.t 89), some (87, true)⟩,
      ⟨(.t 91), .pick (.t 87) (.t 90) (.c (.bool false)), none⟩,
      ⟨(.t 92), .mv (.t 91), none⟩,
      ⟨(.t 93), .fa 3 (.t 1), some (92, true)⟩,
      ⟨(.t 94), .ld 1 false (.t 93), some (92, true)⟩,
      ⟨(.t 95), .bin .eql (.t 94) (.c (.int .i64 1)), some (92, true)⟩,
      ⟨(.t 96), .pick (.t 92) (.t 95) (.c (.bool false)), none⟩,
      ⟨(.t 97), .mv (.t 96), none⟩,
      ⟨(.t 98), .ld 5 true (.t 1), some (97, true)⟩,
      ⟨(.t 99), .call 14 [(.t 98), (.c (.int .i64 0)), (.c (.int .i64 3))], some (97, true)⟩,
      ⟨(.t 100), .pick (.t 97) (.t 99) (.c (.bool false)), none⟩,
      ⟨(.v 0), .asg (.t 100), none⟩] none ⟨[], [], [], []⟩)
  .ret)))))))
theorem c6 : compFn Try.prog 6 F6 = some (0, strip a6, [.v 0]) ∧ lexAll a6 = true := ⟨by kernel_rfl, by kernel_rfl⟩
/-- clusterlocks/clusterlockslaw27.play -/
def F7 : Fr := ⟨56, [0, 1, 4, 5, 6, 7, 9, 10]⟩
def a7 : ACode :=
  (.seq (.reg 0 [] [
      ⟨(.v 2), .asg (.c (.pointer none)), none⟩,
      ⟨(.v 3), .asg (.c (.bool false)), none⟩] none ⟨[], [], [], []⟩)
  (.seq (.reg 1 [] [
      ⟨(.t 11), .bld [(.slice none 0 0), (.slice none 0 0)] [], none⟩,
      ⟨(.t 12), .box 2 (.t 11), none⟩,
      ⟨(.v 4), .asg (.t 12), none⟩] none ⟨[], [], [], []⟩)
  (.seq (.seq (.reg 2 [] [
      ⟨(.v 5), .asg (.c (.int .i64 0)), none⟩] none ⟨[], [], [], []⟩)
  (.block 0
    (.loop
      (.seq (.seq (.reg 3 [] [
          ⟨(.t 13), .mv (.v 5), none⟩,
          ⟨(.t 14), .mv (.v 1), none⟩,
          ⟨(.t 15), .bin .lss (.t 13) (.t 14), none⟩] none ⟨[], [], [], []⟩)
      (.cond (.t 15)
        .skip
        (.exit 0)))
      (.seq (.block 1
        (.seq (.reg 5 [] [
            ⟨(.t 19), .mv (.v 5), none⟩,
            ⟨(.t 20), .mv (.v 1), none⟩,
            ⟨(.t 21), .call 11 [(.t 19), (.t 20)], none⟩,
            ⟨(.t 18), .mv (.t 21), none⟩,
            ⟨(.t 22), .ext 18 0, none⟩,
            ⟨(.t 23), .ext 18 1, none⟩,
            ⟨(.t 8), .allo [(.bool false), (.bool false), (.bool false), (.int .i64 0), (.int .i64 0)], none⟩,
            ⟨.none, .st 5 (.t 8) (.t 22), none⟩,
            ⟨(.v 6), .asg (.t 23), none⟩] none ⟨[], [], [], []⟩)
        (.seq (.seq (.reg 6 [] [
            ⟨(.t 24), .mv (.v 6), none⟩,
            ⟨(.t 25), .bin .neq (.t 24) (.c (.int .i64 0)), none⟩] none ⟨[], [], [], []⟩)
        (.cond (.t 25)
          (.seq (.reg 7 [] [
              ⟨(.t 26), .mv (.v 4), none⟩,
              ⟨(.v 2), .asg (.t 26), none⟩,
              ⟨(.v 3), .asg (.c (.bool false)), none⟩] none ⟨[], [], [], []⟩)
          .ret)
          .skip))
        (.reg 8 [] [
            ⟨(.t 27), .mv (.v 4), none⟩,
            ⟨(.t 28), .mv (.v 4), none⟩,
            ⟨(.t 29), .nilck (.t 28), none⟩,
            ⟨(.t 30), .fa 0 (.t 29), none⟩,
            ⟨(.t 31), .ld 1 false (.t 30), none⟩,
            ⟨(.t 32), .ld 5 true (.t 8), none⟩,
            ⟨(.t 33), .bls 34 5 (.agg #[(.bool false), (.bool false), (.bool false), (.int .i64 0), (.int .i64 0)]) 1 [(0, (.t 32))], none⟩,
            ⟨(.t 34), .app 34 5 24 (.t 31) (.t 33), none⟩,
            ⟨(.t 35), .nilck (.t 27), none⟩,
            ⟨(.t 36), .fa 0 (.t 35), none⟩,
            ⟨.none, .st 1 (.t 36) (.t 34), none⟩] (some [[], [], [1], [2], [3], [], [5], [4, 6], [0, 0, 1, 2, 3, 4, 5, 6, 7], [8, 0, 1, 2, 3, 4, 5, 6, 7], [9, 7, 7, 0, 1, 2, 3, 4, 5, 6, 7]]) ⟨[], [], [], []⟩))))
      (.reg 4 [] [
          ⟨(.t 16), .mv (.v 5), none⟩,
          ⟨(.t 17), .bin .add (.t 16) (.c (.int .i64 1)), none⟩,
          ⟨(.v 5), .asg (.t 17), none⟩] none ⟨[], [], [], []⟩))))))
  (.seq (.reg 9 [] [
      ⟨(.t 37), .mv (.v 0), none⟩,
      ⟨(.t 38), .bld [(.slice none 0 0), (.int .i64 0)] [(0, 1, (.t 37))], none⟩,
      ⟨(.t 39), .box 2 (.t 38), none⟩,
      ⟨(.v 7), .asg (.t 39), none⟩] none ⟨[], [], [], []⟩)
  (.seq (.block 2
    (.loop
      (.seq (.seq (.reg 10 [] [
          ⟨(.t 40), .mv (.v 7), none⟩,
          ⟨(.t 41), .call 15 [(.t 40)], none⟩] none ⟨[], [], [], []⟩)
      (.cond (.t 41)
        .skip
        (.exit 2)))
      (.block 3
        (.seq (.reg 11 [] [
            ⟨(.t 42), .mv (.v 4), none⟩,
            ⟨(.t 43), .mv (.v 7), none⟩,
            ⟨(.t 44), .call 17 [(.t 43), (.c (.int .i64 7))], none⟩,
            ⟨(.t 45), .mv (.v 7), none⟩,
            ⟨(.t 46), .call 17 [(.t 45), (.c (.int .i64 60))], none⟩,
            ⟨(.t 47), .call 16 [(.t 42), (.t 44), (.t 46)], none⟩,
            ⟨(.t 48), .un .not (.t 47), none⟩,
            ⟨(.t 49), .mv (.t 48), none⟩,
            ⟨(.t 50), .mv (.v 4), some (49, false)⟩,
            ⟨(.t 51), .call 10 [(.t 50)], some (49, false)⟩,
            ⟨(.t 52), .un .not (.t 51), some (49, false)⟩,
            ⟨(.t 53), .pick (.t 49) (.c (.bool true)) (.t 52), none⟩] none ⟨[], [], [], []⟩)
        (.cond (.t 53)
          (.seq (.reg 12 [] [
              ⟨(.t 54), .mv (.v 4), none⟩,
              ⟨(.v 2), .asg (.t 54), none⟩,
              ⟨(.v 3), .asg (.c (.bool false)), none⟩] none ⟨[], [], [], []⟩)
          .ret)
          .skip))))))
  (.seq (.reg 13 [] [
      ⟨(.t 55), .mv (.v 4), none⟩,
      ⟨(.v 2), .asg (.t 55), none⟩,
      ⟨(.v 3), .asg (.c (.bool true)), none⟩] none ⟨[], [], [], []⟩)
  .ret))))))
theorem c7 : compFn Try.prog 7 F7 = some (2, strip a7, [.v 2, .v 3]) ∧ lexAll a7 = true := ⟨by kernel_rfl, by kernel_rfl⟩
/-- (*clusterlocks/clusterlockslaw27.cluster).deliver -/
def F9 : Fr := ⟨88, [0, 1, 4, 7, 8]⟩
def a9 : ACode :=
  (.seq (.reg 0 [] [
      ⟨(.v 2), .asg (.c (.bool false)), none⟩] none ⟨[], [], [], []⟩)
  (.seq (.reg 1 [] [
      ⟨(.t 9), .mv (.v 0), none⟩,
      ⟨(.t 10), .nilck (.t 9), none⟩,
      ⟨(.t 11), .fa 1 (.t 10), none⟩,
      ⟨(.t 12), .ld 1 false (.t 11), none⟩,
      ⟨(.t 13), .mv (.v 1), none⟩,
      ⟨(.t 14), .ia 19 (.t 12) (.t 13), none⟩,
      ⟨(.t 15), .ld 19 true (.t 14), none⟩,
      ⟨(.t 5), .allo [(.int .i64 0), (.int .i64 0), (.int .i64 0), (.int .i64 0), (.int .i64 0), (.int .i64 0), (.string (ByteArray.mk #[])), (.int .i64 0), (.int .i64 0), (.int .i64 0), (.int .i64 0), (.int .i64 0), (.int .i64 0), (.int .i64 0), (.int .i64 0), (.bool false), (.slice none 0 0), (.slice none 0 0), (.slice none 0 0)], none⟩,
      ⟨.none, .st 19 (.t 5) (.t 15), none⟩] none ⟨[], [], [], []⟩)
  (.seq (.reg 2 [] [
      ⟨(.t 16), .mv (.v 0), none⟩,
      ⟨(.t 17), .mv (.v 0), none⟩,
      ⟨(.t 18), .nilck (.t 17), none⟩,
      ⟨(.t 19), .fa 1 (.t 18), none⟩,
      ⟨(.t 20), .ld 1 false (.t 19), none⟩,
      ⟨(.t 21), .mv (.v 1), none⟩,
      ⟨(.t 22), .sl 55 19 (.t 20) none (some (.t 21)) none, none⟩,
      ⟨(.t 23), .app 55 19 208 (.c (.slice none 0 0)) (.t 22), none⟩,
      ⟨(.t 24), .mv (.v 0), none⟩,
      ⟨(.t 25), .nilck (.t 24), none⟩,
      ⟨(.t 26), .fa 1 (.t 25), none⟩,
      ⟨(.t 27), .ld 1 false (.t 26), none⟩,
      ⟨(.t 28), .mv (.v 1), none⟩,
      ⟨(.t 29), .bin .add (.t 28) (.c (.int .i64 1)), none⟩,
      ⟨(.t 30), .sl 55 19 (.t 27) (some (.t 29)) none none, none⟩,
      ⟨(.t 31), .app 55 19 208 (.t 23) (.t 30), none⟩,
      ⟨(.t 32), .nilck (.t 16), none⟩,
      ⟨(.t 33), .fa 1 (.t 32), none⟩,
      ⟨.none, .st 1 (.t 33) (.t 31), none⟩] (some [[], [], [1], [2], [3], [], [4, 5], [6], [], [8], [9], [10], [], [12], [11, 13], [7, 14, 7], [0, 0, 1, 2, 3, 4, 5, 6, 7, 8, 9, 10, 11, 12, 13, 14, 15], [16, 0, 1, 2, 3, 4, 5, 6, 7, 8, 9, 10, 11, 12, 13, 14, 15], [17, 15, 15, 0, 1, 2, 3, 4, 5, 6, 7, 8, 9, 10, 11, 12, 13, 14, 15]]) ⟨[], [], [], []⟩)
  (.seq (.seq (.reg 3 [] [
      ⟨(.t 34), .fa 0 (.t 5), none⟩,
      ⟨(.t 35), .ld 1 false (.t 34), none⟩,
      ⟨(.t 36), .bin .lss (.t 35) (.c (.int .i64 0)), none⟩,
      ⟨(.t 37), .mv (.t 36), none⟩,
      ⟨(.t 38), .fa 0 (.t 5), some (37, false)⟩,
      ⟨(.t 39), .ld 1 false (.t 38), some (37, false)⟩,
      ⟨(.t 40), .mv (.v 0), some (37, false)⟩,
      ⟨(.t 41), .nilck (.t 40), some (37, false)⟩,
      ⟨(.t 42), .fa 0 (.t 41), some (37, false)⟩,
      ⟨(.t 43), .ld 1 false (.t 42), some (37, false)⟩,
      ⟨(.t 44), .len (.t 43), some (37, false)⟩,
      ⟨(.t 45), .bin .geq (.t 39) (.t 44), some (37, false)⟩,
      ⟨(.t 46), .pick (.t 37) (.c (.bool true)) (.t 45), none⟩] (some [[], [0], [1], [2], [3], [4, 3], [3], [6, 3], [7, 3], [8, 3], [9, 3], [5, 10, 3], [3, 11]]) ⟨[37], [], [], []⟩)
  (.cond (.t 46)
    (.seq (.reg 4 [] [
        ⟨(.v 2), .asg (.c (.bool false)), none⟩] none ⟨[], [], [], []⟩)
    .ret)
    .skip))
  (.seq (.reg 5 [] [
      ⟨(.t 48), .mv (.v 0), none⟩,
      ⟨(.t 49), .nilck (.t 48), none⟩,
      ⟨(.t 50), .fa 0 (.t 49), none⟩,
      ⟨(.t 51), .ld 1 false (.t 50), none⟩,
      ⟨(.t 52), .fa 0 (.t 5), none⟩,
      ⟨(.t 53), .ld 1 false (.t 52), none⟩,
      ⟨(.t 54), .ia 5 (.t 51) (.t 53), none⟩,
      ⟨(.t 55), .ld 5 true (.t 54), none⟩,
      ⟨(.t 56), .fa 0 (.t 5), none⟩,
      ⟨(.t 57), .ld 1 false (.t 56), none⟩,
      ⟨(.t 58), .mv (.v 0), none⟩,
      ⟨(.t 59), .nilck (.t 58), none⟩,
      ⟨(.t 60), .fa 0 (.t 59), none⟩,
      ⟨(.t 61), .ld 1 false (.t 60), none⟩,
      ⟨(.t 62), .len (.t 61), none⟩,
      ⟨(.t 63), .fa 1 (.t 5), none⟩,
      ⟨(.t 64), .ld 18 true (.t 63), none⟩,
      ⟨(.t 65), .call 13 [(.t 55), (.t 57), (.t 62), (.c (.int .i64 1)), (.t 64)], none⟩,
      ⟨(.t 47), .mv (.t 65), none⟩,
      ⟨(.t 66), .ext 47 0, none⟩,
      ⟨(.t 67), .ext 47 1, none⟩,
      ⟨(.t 68), .ext 47 2, none⟩,
      ⟨(.t 6), .allo [(.bool false), (.bool false), (.bool false), (.int .i64 0), (.int .i64 0)], none⟩,
      ⟨.none, .st 5 (.t 6) (.t 66), none⟩,
      ⟨(.v 3), .asg (.t 67), none⟩,
      ⟨(.v 4), .asg (.t 68), none⟩] (some [[], [0], [1], [2], [], [4], [3, 5], [6], [], [8], [], [10], [11], [12], [13], [], [15], [7, 9, 14, 16], [17], [18], [18], [18], [], [22, 19, 17, 0, 1, 2, 3, 4, 5, 6, 7, 8, 9, 10, 11, 12, 13, 14, 15, 16, 17, 18, 19, 22], [20, 23, 0, 1, 2, 3, 4, 5, 6, 7, 8, 9, 10, 11, 12, 13, 14, 15, 16, 17, 18, 19, 20, 22, 23], [21, 24, 0, 1, 2, 3, 4, 5, 6, 7, 8, 9, 10, 11, 12, 13, 14, 15, 16, 17, 18, 19, 20, 21, 22, 23, 24]]) ⟨[5], [20, 21], [], []⟩)
  (.seq (.reg 6 [.lend (.cell 2 0) 75, .lend (.cell 2 1) 75, .lend (.cell 2 2) 75, .lend (.cell 2 3) 75, .lend (.cell 2 4) 75] [
      ⟨(.t 69), .mv (.v 0), none⟩,
      ⟨(.t 70), .nilck (.t 69), none⟩,
      ⟨(.t 71), .fa 0 (.t 70), none⟩,
      ⟨(.t 72), .ld 1 false (.t 71), none⟩,
      ⟨(.t 73), .fa 0 (.t 5), none⟩,
      ⟨(.t 74), .ld 1 false (.t 73), none⟩,
      ⟨(.t 75), .ld 5 true (.t 6), none⟩,
      ⟨(.t 76), .ia 5 (.t 72) (.t 74), none⟩,
      ⟨.none, .st 5 (.t 76) (.t 75), none⟩] (some [[], [0], [1], [2], [], [4], [], [3, 5, 0, 1, 2, 3, 4, 5, 6], [7, 6, 0, 1, 2, 3, 4, 5, 6]]) ⟨[], [], [], []⟩)
  (.seq (.reg 7 [.lend (.cell 0 1) 83] [
      ⟨(.t 77), .mv (.v 0), none⟩,
      ⟨(.t 78), .mv (.v 0), none⟩,
      ⟨(.t 79), .nilck (.t 78), none⟩,
      ⟨(.t 80), .fa 1 (.t 79), none⟩,
      ⟨(.t 81), .ld 1 false (.t 80), none⟩,
      ⟨(.t 82), .mv (.v 3), none⟩,
      ⟨(.t 83), .app 55 19 208 (.t 81) (.t 82), none⟩,
      ⟨(.t 84), .nilck (.t 77), none⟩,
      ⟨(.t 85), .fa 1 (.t 84), none⟩,
      ⟨.none, .st 1 (.t 85) (.t 83), none⟩] none ⟨[], [], [], []⟩)
  (.seq (.reg 8 [] [
      ⟨(.t 86), .mv (.v 4), none⟩,
      ⟨(.t 87), .bin .eql (.t 86) (.c (.int .i64 0)), none⟩,
      ⟨(.v 2), .asg (.t 87), none⟩] none ⟨[], [], [], []⟩)
  .ret))))))))
theorem c9 : compFn Try.prog 9 F9 = some (2, strip a9, [.v 2]) ∧ lexAll a9 = true := ⟨by kernel_rfl, by kernel_rfl⟩
/-- (*clusterlocks/clusterlockslaw27.cluster).one -/
def F10 : Fr := ⟨59, [0, 2, 3, 4]⟩
def a10 : ACode :=
  (.seq (.reg 0 [] [
      ⟨(.v 1), .asg (.c (.bool false)), none⟩] none ⟨[], [], [], []⟩)
  (.seq (.reg 1 [] [
      ⟨(.v 2), .asg (.c (.int .i64 0)), none⟩] none ⟨[], [], [], []⟩)
  (.seq (.seq (.reg 2 [] [
      ⟨(.t 7), .mv (.v 0), none⟩,
      ⟨(.t 8), .nilck (.t 7), none⟩,
      ⟨(.t 9), .fa 0 (.t 8), none⟩,
      ⟨(.t 10), .ld 1 false (.t 9), none⟩,
      ⟨(.t 11), .len (.t 10), none⟩,
      ⟨(.t 12), .mv (.c (.int .i64 0)), none⟩] none ⟨[], [], [], []⟩)
  (.block 0
    (.loop
      (.seq (.reg 3 [] [
          ⟨(.t 13), .bin .lss (.t 12) (.t 11), none⟩] none ⟨[], [], [], []⟩)
      (.seq (.cond (.t 13)
        .skip
        (.exit 0))
      (.seq (.block 1
        (.seq (.reg 4 [] [
            ⟨(.t 14), .mv (.t 12), none⟩,
            ⟨(.v 3), .asg (.t 14), none⟩] none ⟨[], [], [], []⟩)
        (.seq (.seq (.reg 5 [] [
            ⟨(.t 15), .mv (.v 0), none⟩,
            ⟨(.t 16), .nilck (.t 15), none⟩,
            ⟨(.t 17), .fa 0 (.t 16), none⟩,
            ⟨(.t 18), .ld 1 false (.t 17), none⟩,
            ⟨(.t 19), .mv (.v 3), none⟩,
            ⟨(.t 20), .ia 5 (.t 18) (.t 19), none⟩,
            ⟨(.t 21), .ld 5 true (.t 20), none⟩,
            ⟨(.t 22), .mv (.v 3), none⟩,
            ⟨(.t 23), .mv (.v 0), none⟩,
            ⟨(.t 24), .nilck (.t 23), none⟩,
            ⟨(.t 25), .fa 0 (.t 24), none⟩,
            ⟨(.t 26), .ld 1 false (.t 25), none⟩,
            ⟨(.t 27), .len (.t 26), none⟩,
            ⟨(.t 28), .call 14 [(.t 21), (.t 22), (.t 27)], none⟩,
            ⟨(.t 29), .un .not (.t 28), none⟩] (some [[], [0], [1], [2], [], [3, 4], [5], [], [], [8], [9], [10], [11], [6, 7, 12], [13]]) ⟨[], [], [], []⟩)
        (.cond (.t 29)
          (.seq (.reg 6 [] [
              ⟨(.v 1), .asg (.c (.bool false)), none⟩] none ⟨[], [], [], []⟩)
          .ret)
          .skip))
        (.seq (.reg 7 [] [
            ⟨(.t 30), .mv (.v 0), none⟩,
            ⟨(.t 31), .nilck (.t 30), none⟩,
            ⟨(.t 32), .fa 0 (.t 31), none⟩,
            ⟨(.t 33), .ld 1 false (.t 32), none⟩,
            ⟨(.t 34), .mv (.v 3), none⟩,
            ⟨(.t 35), .ia 5 (.t 33) (.t 34), none⟩,
            ⟨(.t 36), .fa 0 (.t 35), none⟩,
            ⟨(.t 37), .ld 1 false (.t 36), none⟩] none ⟨[], [], [], []⟩)
        (.cond (.t 37)
          (.reg 8 [] [
              ⟨(.t 38), .mv (.v 2), none⟩,
              ⟨(.t 39), .bin .add (.t 38) (.c (.int .i64 1)), none⟩,
              ⟨(.v 2), .asg (.t 39), none⟩] none ⟨[], [], [], []⟩)
          .skip)))))
      (.reg 9 [] [
          ⟨(.t 40), .bin .add (.t 12) (.c (.int .i64 1)), none⟩,
          ⟨(.t 12), .mv (.t 40), none⟩] none ⟨[], [], [], []⟩)))))))
  (.seq (.seq (.reg 10 [] [
      ⟨(.t 41), .mv (.v 0), none⟩,
      ⟨(.t 42), .nilck (.t 41), none⟩,
      ⟨(.t 43), .fa 1 (.t 42), none⟩,
      ⟨(.t 44), .ld 1 false (.t 43), none⟩,
      ⟨(.t 45), .len (.t 44), none⟩,
      ⟨(.t 46), .mv (.c (.int .i64 0)), none⟩] none ⟨[], [], [], []⟩)
  (.block 2
    (.loop
      (.seq (.reg 11 [] [
          ⟨(.t 47), .bin .lss (.t 46) (.t 45), none⟩] none ⟨[], [], [], []⟩)
      (.seq (.cond (.t 47)
        .skip
        (.exit 2))
      (.seq (.block 3
        (.seq (.reg 12 [] [
            ⟨(.t 48), .ia 19 (.t 44) (.t 46), none⟩,
            ⟨(.t 49), .ld 19 true (.t 48), none⟩,
            ⟨(.t 6), .allo [(.int .i64 0), (.int .i64 0), (.int .i64 0), (.int .i64 0), (.int .i64 0), (.int .i64 0), (.string (ByteArray.mk #[])), (.int .i64 0), (.int .i64 0), (.int .i64 0), (.int .i64 0), (.int .i64 0), (.int .i64 0), (.int .i64 0), (.int .i64 0), (.bool false), (.slice none 0 0), (.slice none 0 0), (.slice none 0 0)], none⟩,
            ⟨.none, .st 19 (.t 6) (.t 49), none⟩] none ⟨[], [], [], []⟩)
        (.seq (.reg 13 [] [
            ⟨(.t 50), .fa 1 (.t 6), none⟩,
            ⟨(.t 51), .fa 0 (.t 50), none⟩,
            ⟨(.t 52), .ld 1 false (.t 51), none⟩,
            ⟨(.t 53), .bin .eql (.t 52) (.c (.int .i64 13)), none⟩] none ⟨[], [], [], []⟩)
        (.cond (.t 53)
          (.reg 14 [] [
              ⟨(.t 54), .mv (.v 2), none⟩,
              ⟨(.t 55), .bin .add (.t 54) (.c (.int .i64 1)), none⟩,
              ⟨(.v 2), .asg (.t 55), none⟩] none ⟨[], [], [], []⟩)
          .skip))))
      (.reg 15 [] [
          ⟨(.t 56), .bin .add (.t 46) (.c (.int .i64 1)), none⟩,
          ⟨(.t 46), .mv (.t 56), none⟩] none ⟨[], [], [], []⟩)))))))
  (.seq (.reg 16 [] [
      ⟨(.t 57), .mv (.v 2), none⟩,
      ⟨(.t 58), .bin .eql (.t 57) (.c (.int .i64 1)), none⟩,
      ⟨(.v 1), .asg (.t 58), none⟩] none ⟨[], [], [], []⟩)
  .ret)))))
theorem c10 : compFn Try.prog 10 F10 = some (1, strip a10, [.v 1]) ∧ lexAll a10 = true := ⟨by kernel_rfl, by kernel_rfl⟩
/-- clusterlocks/token.New -/
def F11 : Fr := ⟨15, [0, 1, 5]⟩
def a11 : ACode :=
  (.seq (.reg 0 [] [
      ⟨(.t 4), .allo [(.bool false), (.bool false), (.bool false), (.int .i64 0), (.int .i64 0)], none⟩,
      ⟨(.v 2), .asg (.c (.int .i64 0)), none⟩] none ⟨[], [], [], []⟩)
  (.seq (.seq (.reg 1 [] [
      ⟨(.t 6), .mv (.v 0), none⟩,
      ⟨(.t 7), .mv (.v 1), none⟩,
      ⟨(.t 8), .call 20 [(.t 6), (.t 7)], none⟩,
      ⟨(.t 9), .un .not (.t 8), none⟩] none ⟨[], [], [], []⟩)
  (.cond (.t 9)
    (.seq (.reg 2 [] [
        ⟨(.t 10), .bld [(.bool false), (.bool false), (.bool false), (.int .i64 0), (.int .i64 0)] [], none⟩,
        ⟨.none, .st 5 (.t 4) (.t 10), none⟩,
        ⟨(.v 2), .asg (.c (.int .i64 1)), none⟩] none ⟨[], [], [], []⟩)
    .ret)
    .skip))
  (.seq (.seq (.reg 3 [] [
      ⟨(.t 11), .mv (.v 0), none⟩,
      ⟨(.t 12), .bin .eql (.t 11) (.c (.int .i64 0)), none⟩] none ⟨[], [], [], []⟩)
  (.cond (.t 12)
    (.seq (.reg 4 [] [
        ⟨(.t 13), .bld [(.bool false), (.bool false), (.bool false), (.int .i64 0), (.int .i64 0)] [(0, 1, (.c (.bool true))), (3, 1, (.c (.int .i64 (-1)))), (4, 1, (.c (.int .i64 (-1))))], none⟩,
        ⟨.none, .st 5 (.t 4) (.t 13), none⟩,
        ⟨(.v 2), .asg (.c (.int .i64 0)), none⟩] none ⟨[], [], [], []⟩)
    .ret)
    .skip))
  (.seq (.reg 5 [] [
      ⟨(.t 14), .bld [(.bool false), (.bool false), (.bool false), (.int .i64 0), (.int .i64 0)] [(3, 1, (.c (.int .i64 0))), (4, 1, (.c (.int .i64 (-1))))], none⟩,
      ⟨.none, .st 5 (.t 4) (.t 14), none⟩,
      ⟨(.v 2), .asg (.c (.int .i64 0)), none⟩] none ⟨[], [], [], []⟩)
  .ret))))
theorem c11 : compFn Try.prog 11 F11 = some (2, strip a11, [.c 4 5 true, .v 2]) ∧ lexAll a11 = true := ⟨by kernel_rfl, by kernel_rfl⟩
/-- clusterlocks/token.Valid -/
def F14 : Fr := ⟨74, [0, 1, 2, 6]⟩
def a14 : ACode :=
  (.seq (.reg 0 [] [
      ⟨(.t 3), .box 5 (.v 0), none⟩,
      ⟨(.v 3), .asg (.c (.bool false)), none⟩] none ⟨[], [], [], []⟩)
  (.seq (.seq (.reg 1 [] [
      ⟨(.t 7), .mv (.v 1), none⟩,
      ⟨(.t 8), .mv (.v 2), none⟩,
      ⟨(.t 9), .call 20 [(.t 7), (.t 8)], none⟩,
      ⟨(.t 10), .un .not (.t 9), none⟩] none ⟨[], [], [], []⟩)
  (.cond (.t 10)
    (.seq (.reg 2 [] [
        ⟨(.v 3), .asg (.c (.bool false)), none⟩] none ⟨[], [], [], []⟩)
    .ret)
    .skip))
  (.seq (.seq (.reg 3 [] [
      ⟨(.t 11), .fa 3 (.t 3), none⟩,
      ⟨(.t 12), .ld 1 false (.t 11), none⟩,
      ⟨(.t 13), .bin .neq (.t 12) (.c (.int .i64 (-1))), none⟩,
      ⟨(.t 14), .mv (.t 13), none⟩,
      ⟨(.t 15), .fa 3 (.t 3), some (14, true)⟩,
      ⟨(.t 16), .ld 1 false (.t 15), some (14, true)⟩,
      ⟨(.t 17), .mv (.v 1), some (14, true)⟩,
      ⟨(.t 18), .mv (.v 2), some (14, true)⟩,
      ⟨(.t 19), .call 21 [(.t 16), (.t 17), (.t 18)], some (14, true)⟩,
      ⟨(.t 20), .un .not (.t 19), some (14, true)⟩,
      ⟨(.t 21), .pick (.t 14) (.t 20) (.c (.bool false)), none⟩,
      ⟨(.t 22), .mv (.t 21), none⟩,
      ⟨(.t 23), .fa 4 (.t 3), some (22, false)⟩,
      ⟨(.t 24), .ld 1 false (.t 23), some (22, false)⟩,
      ⟨(.t 25), .bin .neq (.t 24) (.c (.int .i64 (-1))), some (22, false)⟩,
      ⟨(.t 26), .mv (.t 25), some (22, false)⟩,
      ⟨(.t 27), .fa 4 (.t 3), some (26, true)⟩,
      ⟨(.t 28), .ld 1 false (.t 27), some (26, true)⟩,
      ⟨(.t 29), .mv (.v 1), some (26, true)⟩,
      ⟨(.t 30), .mv (.v 2), some (26, true)⟩,
      ⟨(.t 31), .call 21 [(.t 28), (.t 29), (.t 30)], some (26, true)⟩,
      ⟨(.t 32), .un .not (.t 31), some (26, true)⟩,
      ⟨(.t 33), .pick (.t 26) (.t 32) (.c (.bool false)), some (22, false)⟩,
      ⟨(.t 34), .pick (.t 22) (.c (.bool true)) (.t 33), none⟩] none ⟨[], [], [], []⟩)
  (.cond (.t 34)
    (.seq (.reg 4 [] [
        ⟨(.v 3), .asg (.c (.bool false)), none⟩] none ⟨[], [], [], []⟩)
    .ret)
    .skip))
  (.seq (.seq (.reg 5 [] [
      ⟨(.t 35), .fa 2 (.t 3), none⟩,
      ⟨(.t 36), .ld 1 false (.t 35), none⟩,
      ⟨(.t 37), .mv (.t 36), none⟩,
      ⟨(.t 38), .fa 0 (.t 3), some (37, true)⟩,
      ⟨(.t 39), .ld 1 false (.t 38), some (37, true)⟩,
      ⟨(.t 40), .un .not (.t 39), some (37, true)⟩,
      ⟨(.t 41), .pick (.t 37) (.t 40) (.c (.bool false)), none⟩,
      ⟨(.t 42), .mv (.t 41), none⟩,
      ⟨(.t 43), .fa 1 (.t 3), some (42, false)⟩,
      ⟨(.t 44), .ld 1 false (.t 43), some (42, false)⟩,
      ⟨(.t 45), .mv (.t 44), some (42, false)⟩,
      ⟨(.t 46), .fa 0 (.t 3), some (45, true)⟩,
      ⟨(.t 47), .ld 1 false (.t 46), some (45, true)⟩,
      ⟨(.t 48), .pick (.t 45) (.t 47) (.c (.bool false)), some (42, false)⟩,
      ⟨(.t 49), .pick (.t 42) (.c (.bool true)) (.t 48), none⟩] none ⟨[], [], [], []⟩)
  (.cond (.t 49)
    (.seq (.reg 6 [] [
        ⟨(.v 3), .asg (.c (.bool false)), none⟩] none ⟨[], [], [], []⟩)
    .ret)
    .skip))
  (.seq (.seq (.reg 7 [] [
      ⟨(.t 50), .fa 2 (.t 3), none⟩,
      ⟨(.t 51), .ld 1 false (.t 50), none⟩,
      ⟨(.t 52), .mv (.t 51), none⟩,
      ⟨(.t 53), .fa 1 (.t 3), some (52, false)⟩,
      ⟨(.t 54), .ld 1 false (.t 53), some (52, false)⟩,
      ⟨(.t 55), .pick (.t 52) (.c (.bool true)) (.t 54), none⟩] none ⟨[], [], [], []⟩)
  (.cond (.t 55)
    (.seq (.reg 8 [] [
        ⟨(.t 56), .fa 4 (.t 3), none⟩,
        ⟨(.t 57), .ld 1 false (.t 56), none⟩,
        ⟨(.t 58), .bin .eql (.t 57) (.c (.int .i64 (-1))), none⟩,
        ⟨(.t 59), .fa 3 (.t 3), none⟩,
        ⟨(.t 60), .ld 1 false (.t 59), none⟩,
        ⟨(.t 61), .bin .eql (.t 60) (.c (.int .i64 (-1))), none⟩,
        ⟨(.t 62), .bib .eql (.t 58) (.t 61), none⟩,
        ⟨(.v 3), .asg (.t 62), none⟩] none ⟨[], [], [], []⟩)
    .ret)
    .skip))
  (.seq (.reg 9 [] [
      ⟨(.t 63), .fa 4 (.t 3), none⟩,
      ⟨(.t 64), .ld 1 false (.t 63), none⟩,
      ⟨(.t 65), .bin .eql (.t 64) (.c (.int .i64 (-1))), none⟩,
      ⟨(.t 66), .mv (.t 65), none⟩,
      ⟨(.t 67), .fa 3 (.t 3), some (66, true)⟩,
      ⟨(.t 68), .ld 1 false (.t 67), some (66, true)⟩,
      ⟨(.t 69), .bin .eql (.t 68) (.c (.int .i64 (-1))), some (66, true)⟩,
      ⟨(.t 70), .fa 0 (.t 3), some (66, true)⟩,
      ⟨(.t 71), .ld 1 false (.t 70), some (66, true)⟩,
      ⟨(.t 72), .bib .eql (.t 69) (.t 71), some (66, true)⟩,
      ⟨(.t 73), .pick (.t 66) (.t 72) (.c (.bool false)), none⟩,
      ⟨(.v 3), .asg (.t 73), none⟩] none ⟨[], [], [], []⟩)
  .ret))))))
theorem c14 : compFn Try.prog 14 F14 = some (3, strip a14, [.v 3]) ∧ lexAll a14 = true := ⟨by kernel_rfl, by kernel_rfl⟩
/-- (*clusterlocks/clusterlocksmill.Tape).More -/
def F15 : Fr := ⟨13, [0, 2]⟩
def a15 : ACode :=
  (.seq (.reg 0 [] [
      ⟨(.v 1), .asg (.c (.bool false)), none⟩] none ⟨[], [], [], []⟩)
  (.seq (.reg 1 [] [
      ⟨(.t 3), .mv (.v 0), none⟩,
      ⟨(.t 4), .nilck (.t 3), none⟩,
      ⟨(.t 5), .fa 1 (.t 4), none⟩,
      ⟨(.t 6), .ld 1 false (.t 5), none⟩,
      ⟨(.t 7), .mv (.v 0), none⟩,
      ⟨(.t 8), .nilck (.t 7), none⟩,
      ⟨(.t 9), .fa 0 (.t 8), none⟩,
      ⟨(.t 10), .ld 1 false (.t 9), none⟩,
      ⟨(.t 11), .len (.t 10), none⟩,
      ⟨(.t 12), .bin .lss (.t 6) (.t 11), none⟩,
      ⟨(.v 1), .asg (.t 12), none⟩] (some [[], [0], [1], [2], [], [4], [5], [6], [7], [3, 8], [9, 0, 1, 2, 3, 4, 5, 6, 7, 8, 9]]) ⟨[], [], [], []⟩)
  .ret))
theorem c15 : compFn Try.prog 15 F15 = some (1, strip a15, [.v 1]) ∧ lexAll a15 = true := ⟨by kernel_rfl, by kernel_rfl⟩
/-- (*clusterlocks/clusterlockslaw27.cluster).step -/
def F16 : Fr := ⟨132, [0, 1, 2, 6, 7, 21, 41, 9, 10, 86, 12, 13]⟩
def a16 : ACode :=
  (.seq (.reg 0 [] [
      ⟨(.v 3), .asg (.c (.bool false)), none⟩] none ⟨[], [], [], []⟩)
  (.seq (.reg 1 [] [
      ⟨(.t 14), .mv (.v 2), none⟩,
      ⟨(.t 15), .mv (.v 0), none⟩,
      ⟨(.t 16), .nilck (.t 15), none⟩,
      ⟨(.t 17), .fa 0 (.t 16), none⟩,
      ⟨(.t 18), .ld 1 false (.t 17), none⟩,
      ⟨(.t 19), .len (.t 18), none⟩,
      ⟨(.t 20), .bin .rem (.t 14) (.t 19), none⟩,
      ⟨(.v 4), .asg (.t 20), none⟩] none ⟨[], [], [], []⟩)
  (.seq (.block 0
    (.seq (.reg 2 [] [
        ⟨(.t 22), .mv (.v 1), none⟩,
        ⟨(.t 23), .bin .lss (.t 22) (.c (.int .i64 4)), none⟩,
        ⟨(.t 24), .mv (.t 23), none⟩,
        ⟨(.t 25), .mv (.v 0), some (24, true)⟩,
        ⟨(.t 26), .nilck (.t 25), some (24, true)⟩,
        ⟨(.t 27), .fa 1 (.t 26), some (24, true)⟩,
        ⟨(.t 28), .ld 1 false (.t 27), some (24, true)⟩,
        ⟨(.t 29), .len (.t 28), some (24, true)⟩,
        ⟨(.t 30), .bin .gtr (.t 29) (.c (.int .i64 0)), some (24, true)⟩,
        ⟨(.t 31), .pick (.t 24) (.t 30) (.c (.bool false)), none⟩,
        ⟨(.v 5), .asg (.t 31), none⟩] none ⟨[], [], [], []⟩)
    (.cond (.v 5)
      (.seq (.reg 3 [] [
          ⟨(.t 32), .mv (.v 0), none⟩,
          ⟨(.t 33), .mv (.v 2), none⟩,
          ⟨(.t 34), .mv (.v 0), none⟩,
          ⟨(.t 35), .nilck (.t 34), none⟩,
          ⟨(.t 36), .fa 1 (.t 35), none⟩,
          ⟨(.t 37), .ld 1 false (.t 36), none⟩,
          ⟨(.t 38), .len (.t 37), none⟩,
          ⟨(.t 39), .bin .rem (.t 33) (.t 38), none⟩,
          ⟨(.t 40), .call 9 [(.t 32), (.t 39)], none⟩,
          ⟨(.v 3), .asg (.t 40), none⟩] none ⟨[], [], [], []⟩)
      .ret)
      (.seq (.reg 4 [] [
          ⟨(.t 42), .mv (.v 0), none⟩,
          ⟨(.t 43), .nilck (.t 42), none⟩,
          ⟨(.t 44), .fa 0 (.t 43), none⟩,
          ⟨(.t 45), .ld 1 false (.t 44), none⟩,
          ⟨(.t 46), .mv (.v 4), none⟩,
          ⟨(.t 47), .ia 5 (.t 45) (.t 46), none⟩,
          ⟨(.t 48), .fa 2 (.t 47), none⟩,
          ⟨(.t 49), .ld 1 false (.t 48), none⟩,
          ⟨(.v 6), .asg (.t 49), none⟩] none ⟨[], [], [], []⟩)
      (.cond (.v 6)
        (.seq (.reg 5 [] [
            ⟨(.t 51), .mv (.v 0), none⟩,
            ⟨(.t 52), .nilck (.t 51), none⟩,
            ⟨(.t 53), .fa 0 (.t 52), none⟩,
            ⟨(.t 54), .ld 1 false (.t 53), none⟩,
            ⟨(.t 55), .mv (.v 4), none⟩,
            ⟨(.t 56), .ia 5 (.t 54) (.t 55), none⟩,
            ⟨(.t 57), .ld 5 true (.t 56), none⟩,
            ⟨(.t 58), .mv (.v 4), none⟩,
            ⟨(.t 59), .mv (.v 0), none⟩,
            ⟨(.t 60), .nilck (.t 59), none⟩,
            ⟨(.t 61), .fa 0 (.t 60), none⟩,
            ⟨(.t 62), .ld 1 false (.t 61), none⟩,
            ⟨(.t 63), .len (.t 62), none⟩,
            ⟨(.t 64), .call 8 [(.t 57), (.t 58), (.t 63), (.c (.int .i64 1))], none⟩,
            ⟨(.t 50), .mv (.t 64), none⟩,
            ⟨(.t 65), .ext 50 0, none⟩,
            ⟨(.t 66), .ext 50 1, none⟩,
            ⟨(.t 67), .ext 50 2, none⟩,
            ⟨(.t 8), .allo [(.bool false), (.bool false), (.bool false), (.int .i64 0), (.int .i64 0)], none⟩,
            ⟨.none, .st 5 (.t 8) (.t 65), none⟩,
            ⟨(.v 7), .asg (.t 66), none⟩,
            ⟨(.v 8), .asg (.t 67), none⟩] (some [[], [0], [1], [2], [], [3, 4], [5], [], [], [8], [9], [10], [11], [6, 7, 12], [13], [14], [14], [14], [], [18, 15, 13, 0, 1, 2, 3, 4, 5, 6, 7, 8, 9, 10, 11, 12, 13, 14, 15, 18], [16, 19, 0, 1, 2, 3, 4, 5, 6, 7, 8, 9, 10, 11, 12, 13, 14, 15, 16, 18, 19], [17, 20, 0, 1, 2, 3, 4, 5, 6, 7, 8, 9, 10, 11, 12, 13, 14, 15, 16, 17, 18, 19, 20]]) ⟨[], [16, 17], [], []⟩)
        (.seq (.reg 6 [.lend (.cell 0 1) 80, .lend (.cell 1 0) 74, .lend (.cell 1 1) 74, .lend (.cell 1 2) 74, .lend (.cell 1 3) 74, .lend (.cell 1 4) 74] [
            ⟨(.t 68), .mv (.v 0), none⟩,
            ⟨(.t 69), .nilck (.t 68), none⟩,
            ⟨(.t 70), .fa 0 (.t 69), none⟩,
            ⟨(.t 71), .ld 1 false (.t 70), none⟩,
            ⟨(.t 72), .mv (.v 4), none⟩,
            ⟨(.t 73), .mv (.v 0), none⟩,
            ⟨(.t 74), .ld 5 true (.t 8), none⟩,
            ⟨(.t 75), .mv (.v 0), none⟩,
            ⟨(.t 76), .nilck (.t 75), none⟩,
            ⟨(.t 77), .fa 1 (.t 76), none⟩,
            ⟨(.t 78), .ld 1 false (.t 77), none⟩,
            ⟨(.t 79), .mv (.v 7), none⟩,
            ⟨(.t 80), .app 55 19 208 (.t 78) (.t 79), none⟩,
            ⟨(.t 81), .ia 5 (.t 71) (.t 72), none⟩,
            ⟨.none, .st 5 (.t 81) (.t 74), none⟩,
            ⟨(.t 82), .nilck (.t 73), none⟩,
            ⟨(.t 83), .fa 1 (.t 82), none⟩,
            ⟨.none, .st 1 (.t 83) (.t 80), none⟩] (some [[], [0], [1], [2], [], [], [], [], [7], [8], [9], [], [10, 11], [3, 4, 0, 1, 2, 3, 4, 6, 10, 12], [13, 6, 12, 0, 1, 2, 3, 4, 6, 10, 12], [5, 0, 1, 2, 3, 4, 5, 6, 7, 8, 9, 10, 11, 12, 13, 14], [15, 0, 1, 2, 3, 4, 5, 6, 7, 8, 9, 10, 11, 12, 13, 14], [16, 12, 14, 0, 1, 2, 3, 4, 5, 6, 7, 8, 9, 10, 11, 12, 13, 14]]) ⟨[], [5], [], []⟩)
        (.seq (.reg 7 [] [
            ⟨(.t 84), .mv (.v 8), none⟩,
            ⟨(.t 85), .bin .eql (.t 84) (.c (.int .i64 0)), none⟩,
            ⟨(.v 3), .asg (.t 85), none⟩] none ⟨[], [], [], []⟩)
        .ret)))
        (.seq (.reg 8 [] [
            ⟨(.t 87), .mv (.v 0), none⟩,
            ⟨(.t 88), .nilck (.t 87), none⟩,
            ⟨(.t 89), .fa 0 (.t 88), none⟩,
            ⟨(.t 90), .ld 1 false (.t 89), none⟩,
            ⟨(.t 91), .mv (.v 4), none⟩,
            ⟨(.t 92), .ia 5 (.t 90) (.t 91), none⟩,
            ⟨(.t 93), .fa 1 (.t 92), none⟩,
            ⟨(.t 94), .ld 1 false (.t 93), none⟩,
            ⟨(.t 95), .un .not (.t 94), none⟩,
            ⟨(.v 9), .asg (.t 95), none⟩] none ⟨[], [], [], []⟩)
        (.cond (.v 9)
          (.seq (.reg 9 [] [
              ⟨(.t 97), .mv (.v 0), none⟩,
              ⟨(.t 98), .nilck (.t 97), none⟩,
              ⟨(.t 99), .fa 0 (.t 98), none⟩,
              ⟨(.t 100), .ld 1 false (.t 99), none⟩,
              ⟨(.t 101), .mv (.v 4), none⟩,
              ⟨(.t 102), .ia 5 (.t 100) (.t 101), none⟩,
              ⟨(.t 103), .ld 5 true (.t 102), none⟩,
              ⟨(.t 104), .mv (.v 4), none⟩,
              ⟨(.t 105), .mv (.v 0), none⟩,
              ⟨(.t 106), .nilck (.t 105), none⟩,
              ⟨(.t 107), .fa 0 (.t 106), none⟩,
              ⟨(.t 108), .ld 1 false (.t 107), none⟩,
              ⟨(.t 109), .len (.t 108), none⟩,
              ⟨(.t 110), .call 12 [(.t 103), (.t 104), (.t 109), (.c (.int .i64 1))], none⟩,
              ⟨(.t 96), .mv (.t 110), none⟩,
              ⟨(.t 111), .ext 96 0, none⟩,
              ⟨(.t 112), .ext 96 1, none⟩,
              ⟨(.t 113), .ext 96 2, none⟩,
              ⟨(.t 11), .allo [(.bool false), (.bool false), (.bool false), (.int .i64 0), (.int .i64 0)], none⟩,
              ⟨.none, .st 5 (.t 11) (.t 111), none⟩,
              ⟨(.v 10), .asg (.t 112), none⟩,
              ⟨(.v 11), .asg (.t 113), none⟩] (some [[], [0], [1], [2], [], [3, 4], [5], [], [], [8], [9], [10], [11], [6, 7, 12], [13], [14], [14], [14], [], [18, 15, 13, 0, 1, 2, 3, 4, 5, 6, 7, 8, 9, 10, 11, 12, 13, 14, 15, 18], [16, 19, 0, 1, 2, 3, 4, 5, 6, 7, 8, 9, 10, 11, 12, 13, 14, 15, 16, 18, 19], [17, 20, 0, 1, 2, 3, 4, 5, 6, 7, 8, 9, 10, 11, 12, 13, 14, 15, 16, 17, 18, 19, 20]]) ⟨[], [16, 17], [], []⟩)
          (.seq (.reg 10 [.lend (.cell 0 1) 126, .lend (.cell 2 0) 120, .lend (.cell 2 1) 120, .lend (.cell 2 2) 120, .lend (.cell 2 3) 120, .lend (.cell 2 4) 120] [
              ⟨(.t 114), .mv (.v 0), none⟩,
              ⟨(.t 115), .nilck (.t 114), none⟩,
              ⟨(.t 116), .fa 0 (.t 115), none⟩,
              ⟨(.t 117), .ld 1 false (.t 116), none⟩,
              ⟨(.t 118), .mv (.v 4), none⟩,
              ⟨(.t 119), .mv (.v 0), none⟩,
              ⟨(.t 120), .ld 5 true (.t 11), none⟩,
              ⟨(.t 121), .mv (.v 0), none⟩,
              ⟨(.t 122), .nilck (.t 121), none⟩,
              ⟨(.t 123), .fa 1 (.t 122), none⟩,
              ⟨(.t 124), .ld 1 false (.t 123), none⟩,
              ⟨(.t 125), .mv (.v 10), none⟩,
              ⟨(.t 126), .app 55 19 208 (.t 124) (.t 125), none⟩,
              ⟨(.t 127), .ia 5 (.t 117) (.t 118), none⟩,
              ⟨.none, .st 5 (.t 127) (.t 120), none⟩,
              ⟨(.t 128), .nilck (.t 119), none⟩,
              ⟨(.t 129), .fa 1 (.t 128), none⟩,
              ⟨.none, .st 1 (.t 129) (.t 126), none⟩] (some [[], [0], [1], [2], [], [], [], [], [7], [8], [9], [], [10, 11], [3, 4, 0, 1, 2, 3, 4, 6, 10, 12], [13, 6, 12, 0, 1, 2, 3, 4, 6, 10, 12], [5, 0, 1, 2, 3, 4, 5, 6, 7, 8, 9, 10, 11, 12, 13, 14], [15, 0, 1, 2, 3, 4, 5, 6, 7, 8, 9, 10, 11, 12, 13, 14], [16, 12, 14, 0, 1, 2, 3, 4, 5, 6, 7, 8, 9, 10, 11, 12, 13, 14]]) ⟨[], [5], [], []⟩)
          (.seq (.reg 11 [] [
              ⟨(.t 130), .mv (.v 11), none⟩,
              ⟨(.t 131), .bin .eql (.t 130) (.c (.int .i64 0)), none⟩,
              ⟨(.v 3), .asg (.t 131), none⟩] none ⟨[], [], [], []⟩)
          .ret)))
          .skip)))))))
  (.seq (.reg 12 [] [
      ⟨(.v 3), .asg (.c (.bool true)), none⟩] none ⟨[], [], [], []⟩)
  .ret))))
theorem c16 : compFn Try.prog 16 F16 = some (3, strip a16, [.v 3]) ∧ lexAll a16 = true := ⟨by kernel_rfl, by kernel_rfl⟩
/-- (*clusterlocks/clusterlocksmill.Tape).Next -/
def F17 : Fr := ⟨35, [0, 1, 4]⟩
def a17 : ACode :=
  (.seq (.reg 0 [] [
      ⟨(.v 2), .asg (.c (.int .i64 0)), none⟩] none ⟨[], [], [], []⟩)
  (.seq (.seq (.reg 1 [] [
      ⟨(.t 5), .mv (.v 0), none⟩,
      ⟨(.t 6), .nilck (.t 5), none⟩,
      ⟨(.t 7), .fa 1 (.t 6), none⟩,
      ⟨(.t 8), .ld 1 false (.t 7), none⟩,
      ⟨(.t 9), .mv (.v 0), none⟩,
      ⟨(.t 10), .nilck (.t 9), none⟩,
      ⟨(.t 11), .fa 0 (.t 10), none⟩,
      ⟨(.t 12), .ld 1 false (.t 11), none⟩,
      ⟨(.t 13), .len (.t 12), none⟩,
      ⟨(.t 14), .bin .geq (.t 8) (.t 13), none⟩] (some [[], [0], [1], [2], [], [4], [5], [6], [7], [3, 8]]) ⟨[], [], [], []⟩)
  (.cond (.t 14)
    (.seq (.reg 2 [] [
        ⟨(.v 2), .asg (.c (.int .i64 0)), none⟩] none ⟨[], [], [], []⟩)
    .ret)
    .skip))
  (.seq (.reg 3 [] [
      ⟨(.t 15), .mv (.v 0), none⟩,
      ⟨(.t 16), .nilck (.t 15), none⟩,
      ⟨(.t 17), .fa 1 (.t 16), none⟩,
      ⟨(.t 18), .ld 1 false (.t 17), none⟩,
      ⟨(.t 19), .bin .add (.t 18) (.c (.int .i64 1)), none⟩,
      ⟨(.t 20), .nilck (.t 15), none⟩,
      ⟨(.t 21), .fa 1 (.t 20), none⟩,
      ⟨.none, .st 1 (.t 21) (.t 19), none⟩] none ⟨[], [], [], []⟩)
  (.seq (.reg 4 [] [
      ⟨(.t 22), .mv (.v 0), none⟩,
      ⟨(.t 23), .nilck (.t 22), none⟩,
      ⟨(.t 24), .fa 0 (.t 23), none⟩,
      ⟨(.t 25), .ld 1 false (.t 24), none⟩,
      ⟨(.t 26), .mv (.v 0), none⟩,
      ⟨(.t 27), .nilck (.t 26), none⟩,
      ⟨(.t 28), .fa 1 (.t 27), none⟩,
      ⟨(.t 29), .ld 1 false (.t 28), none⟩,
      ⟨(.t 30), .bin .sub (.t 29) (.c (.int .i64 1)), none⟩,
      ⟨(.t 31), .ia 1 (.t 25) (.t 30), none⟩,
      ⟨(.t 32), .ld 1 false (.t 31), none⟩,
      ⟨(.t 33), .mv (.v 1), none⟩,
      ⟨(.t 34), .call 22 [(.t 32), (.t 33)], none⟩,
      ⟨(.v 2), .asg (.t 34), none⟩] (some [[], [0], [1], [2], [], [4], [5], [6], [7], [3, 8], [9], [], [10, 11], [12, 12, 0, 1, 2, 3, 4, 5, 6, 7, 8, 9, 10, 11, 12]]) ⟨[], [], [], []⟩)
  .ret))))
theorem c17 : compFn Try.prog 17 F17 = some (2, strip a17, [.v 2]) ∧ lexAll a17 = true := ⟨by kernel_rfl, by kernel_rfl⟩
/-- clusterlocks/token.validEpoch -/
def F18 : Fr := ⟨9, [0, 2]⟩
def a18 : ACode :=
  (.seq (.reg 0 [] [
      ⟨(.v 1), .asg (.c (.bool false)), none⟩] none ⟨[], [], [], []⟩)
  (.seq (.reg 1 [] [
      ⟨(.t 3), .mv (.v 0), none⟩,
      ⟨(.t 4), .bin .geq (.t 3) (.c (.int .i64 0)), none⟩,
      ⟨(.t 5), .mv (.t 4), none⟩,
      ⟨(.t 6), .mv (.v 0), some (5, true)⟩,
      ⟨(.t 7), .bin .leq (.t 6) (.c (.int .i64 1073741824)), some (5, true)⟩,
      ⟨(.t 8), .pick (.t 5) (.t 7) (.c (.bool false)), none⟩,
      ⟨(.v 1), .asg (.t 8), none⟩] none ⟨[], [], [], []⟩)
  .ret))
theorem c18 : compFn Try.prog 18 F18 = some (1, strip a18, [.v 1]) ∧ lexAll a18 = true := ⟨by kernel_rfl, by kernel_rfl⟩
/-- clusterlocks/token.proper -/
def F20 : Fr := ⟨20, [0, 1, 4]⟩
def a20 : ACode :=
  (.seq (.reg 0 [] [
      ⟨(.v 2), .asg (.c (.bool false)), none⟩] none ⟨[], [], [], []⟩)
  (.seq (.reg 1 [] [
      ⟨(.t 5), .mv (.v 1), none⟩,
      ⟨(.t 6), .bin .geq (.t 5) (.c (.int .i64 1)), none⟩,
      ⟨(.t 7), .mv (.t 6), none⟩,
      ⟨(.t 8), .mv (.v 1), some (7, true)⟩,
      ⟨(.t 9), .bin .leq (.t 8) (.c (.int .i64 4)), some (7, true)⟩,
      ⟨(.t 10), .pick (.t 7) (.t 9) (.c (.bool false)), none⟩,
      ⟨(.t 11), .mv (.t 10), none⟩,
      ⟨(.t 12), .mv (.v 0), some (11, true)⟩,
      ⟨(.t 13), .bin .geq (.t 12) (.c (.int .i64 0)), some (11, true)⟩,
      ⟨(.t 14), .pick (.t 11) (.t 13) (.c (.bool false)), none⟩,
      ⟨(.t 15), .mv (.t 14), none⟩,
      ⟨(.t 16), .mv (.v 0), some (15, true)⟩,
      ⟨(.t 17), .mv (.v 1), some (15, true)⟩,
      ⟨(.t 18), .bin .lss (.t 16) (.t 17), some (15, true)⟩,
      ⟨(.t 19), .pick (.t 15) (.t 18) (.c (.bool false)), none⟩,
      ⟨(.v 2), .asg (.t 19), none⟩] none ⟨[], [], [], []⟩)
  .ret))
theorem c20 : compFn Try.prog 20 F20 = some (2, strip a20, [.v 2]) ∧ lexAll a20 = true := ⟨by kernel_rfl, by kernel_rfl⟩
/-- clusterlocks/token.other -/
def F21 : Fr := ⟨19, [0, 1, 2, 6]⟩
def a21 : ACode :=
  (.seq (.reg 0 [] [
      ⟨(.v 3), .asg (.c (.bool false)), none⟩] none ⟨[], [], [], []⟩)
  (.seq (.reg 1 [] [
      ⟨(.t 7), .mv (.v 0), none⟩,
      ⟨(.t 8), .bin .geq (.t 7) (.c (.int .i64 0)), none⟩,
      ⟨(.t 9), .mv (.t 8), none⟩,
      ⟨(.t 10), .mv (.v 0), some (9, true)⟩,
      ⟨(.t 11), .mv (.v 2), some (9, true)⟩,
      ⟨(.t 12), .bin .lss (.t 10) (.t 11), some (9, true)⟩,
      ⟨(.t 13), .pick (.t 9) (.t 12) (.c (.bool false)), none⟩,
      ⟨(.t 14), .mv (.t 13), none⟩,
      ⟨(.t 15), .mv (.v 0), some (14, true)⟩,
      ⟨(.t 16), .mv (.v 1), some (14, true)⟩,
      ⟨(.t 17), .bin .neq (.t 15) (.t 16), some (14, true)⟩,
      ⟨(.t 18), .pick (.t 14) (.t 17) (.c (.bool false)), none⟩,
      ⟨(.v 3), .asg (.t 18), none⟩] none ⟨[], [], [], []⟩)
  .ret))
theorem c21 : compFn Try.prog 21 F21 = some (3, strip a21, [.v 3]) ∧ lexAll a21 = true := ⟨by kernel_rfl, by kernel_rfl⟩
/-- clusterlocks/clusterlocksmill.Mod -/
def F22 : Fr := ⟨16, [0, 1, 4]⟩
def a22 : ACode :=
  (.seq (.reg 0 [] [
      ⟨(.v 2), .asg (.c (.int .i64 0)), none⟩] none ⟨[], [], [], []⟩)
  (.seq (.seq (.reg 1 [] [
      ⟨(.t 5), .mv (.v 1), none⟩,
      ⟨(.t 6), .bin .lss (.t 5) (.c (.int .i64 1)), none⟩] none ⟨[], [], [], []⟩)
  (.cond (.t 6)
    (.seq (.reg 2 [] [
        ⟨(.v 2), .asg (.c (.int .i64 0)), none⟩] none ⟨[], [], [], []⟩)
    .ret)
    .skip))
  (.seq (.reg 3 [] [
      ⟨(.t 7), .mv (.v 0), none⟩,
      ⟨(.t 8), .mv (.v 1), none⟩,
      ⟨(.t 9), .bin .rem (.t 7) (.t 8), none⟩,
      ⟨(.v 0), .asg (.t 9), none⟩] none ⟨[], [], [], []⟩)
  (.seq (.seq (.reg 4 [] [
      ⟨(.t 10), .mv (.v 0), none⟩,
      ⟨(.t 11), .bin .lss (.t 10) (.c (.int .i64 0)), none⟩] none ⟨[], [], [], []⟩)
  (.cond (.t 11)
    (.reg 5 [] [
        ⟨(.t 12), .mv (.v 0), none⟩,
        ⟨(.t 13), .mv (.v 1), none⟩,
        ⟨(.t 14), .bin .add (.t 12) (.t 13), none⟩,
        ⟨(.v 0), .asg (.t 14), none⟩] none ⟨[], [], [], []⟩)
    .skip))
  (.seq (.reg 6 [] [
      ⟨(.t 15), .mv (.v 0), none⟩,
      ⟨(.v 2), .asg (.t 15), none⟩] none ⟨[], [], [], []⟩)
  .ret)))))
theorem c22 : compFn Try.prog 22 F22 = some (2, strip a22, [.v 2]) ∧ lexAll a22 = true := ⟨by kernel_rfl, by kernel_rfl⟩
theorem mixed : Try.prog.follows .mixedOrders = true := by kernel_rfl
end Go.Proofs.Ytlnmbpaijodpjaa

namespace Go.Proofs.Ytlnmbpaijodpjaa
open Go.RowKit Go.Proofs
def a16b : ACode :=
  (.seq (.reg 0 [] [
      ⟨(.v 3), .asg (.c (.bool false)), none⟩] none ⟨[], [], [], []⟩)
  (.seq (.reg 1 [] [
      ⟨(.t 14), .mv (.v 2), none⟩,
      ⟨(.t 15), .mv (.v 0), none⟩,
      ⟨(.t 16), .nilck (.t 15), none⟩,
      ⟨(.t 17), .fa 0 (.t 16), none⟩,
      ⟨(.t 18), .ld 1 false (.t 17), none⟩,
      ⟨(.t 19), .len (.t 18), none⟩,
      ⟨(.t 20), .bin .rem (.t 14) (.t 19), none⟩,
      ⟨(.v 4), .asg (.t 20), none⟩] none ⟨[], [], [], []⟩)
  (.seq (.block 0
    (.seq (.reg 2 [] [
        ⟨(.t 22), .mv (.v 1), none⟩,
        ⟨(.t 23), .bin .lss (.t 22) (.c (.int .i64 4)), none⟩,
        ⟨(.t 24), .mv (.t 23), none⟩,
        ⟨(.t 25), .mv (.v 0), some (24, true)⟩,
        ⟨(.t 26), .nilck (.t 25), some (24, true)⟩,
        ⟨(.t 27), .fa 1 (.t 26), some (24, true)⟩,
        ⟨(.t 28), .ld 1 false (.t 27), some (24, true)⟩,
        ⟨(.t 29), .len (.t 28), some (24, true)⟩,
        ⟨(.t 30), .bin .gtr (.t 29) (.c (.int .i64 0)), some (24, true)⟩,
        ⟨(.t 31), .pick (.t 24) (.t 30) (.c (.bool false)), none⟩,
        ⟨(.v 5), .asg (.t 31), none⟩] none ⟨[], [], [], []⟩)
    (.cond (.v 5)
      (.seq (.reg 3 [] [
          ⟨(.t 32), .mv (.v 0), none⟩,
          ⟨(.t 33), .mv (.v 2), none⟩,
          ⟨(.t 34), .mv (.v 0), none⟩,
          ⟨(.t 35), .nilck (.t 34), none⟩,
          ⟨(.t 36), .fa 1 (.t 35), none⟩,
          ⟨(.t 37), .ld 1 false (.t 36), none⟩,
          ⟨(.t 38), .len (.t 37), none⟩,
          ⟨(.t 39), .bin .rem (.t 33) (.t 38), none⟩,
          ⟨(.t 40), .call 9 [(.t 32), (.t 39)], none⟩,
          ⟨(.v 3), .asg (.t 40), none⟩] none ⟨[], [], [], []⟩)
      .ret)
      (.seq (.reg 4 [] [
          ⟨(.t 42), .mv (.v 0), none⟩,
          ⟨(.t 43), .nilck (.t 42), none⟩,
          ⟨(.t 44), .fa 0 (.t 43), none⟩,
          ⟨(.t 45), .ld 1 false (.t 44), none⟩,
          ⟨(.t 46), .mv (.v 4), none⟩,
          ⟨(.t 47), .ia 5 (.t 45) (.t 46), none⟩,
          ⟨(.t 48), .fa 2 (.t 47), none⟩,
          ⟨(.t 49), .ld 1 false (.t 48), none⟩,
          ⟨(.v 6), .asg (.t 49), none⟩] none ⟨[], [], [], []⟩)
      (.cond (.v 6)
        (.seq (.reg 5 [] [
            ⟨(.t 51), .mv (.v 0), none⟩,
            ⟨(.t 52), .nilck (.t 51), none⟩,
            ⟨(.t 53), .fa 0 (.t 52), none⟩,
            ⟨(.t 54), .ld 1 false (.t 53), none⟩,
            ⟨(.t 55), .mv (.v 4), none⟩,
            ⟨(.t 56), .ia 5 (.t 54) (.t 55), none⟩,
            ⟨(.t 57), .ld 5 true (.t 56), none⟩,
            ⟨(.t 58), .mv (.v 4), none⟩,
            ⟨(.t 59), .mv (.v 0), none⟩,
            ⟨(.t 60), .nilck (.t 59), none⟩,
            ⟨(.t 61), .fa 0 (.t 60), none⟩,
            ⟨(.t 62), .ld 1 false (.t 61), none⟩,
            ⟨(.t 63), .len (.t 62), none⟩,
            ⟨(.t 64), .call 8 [(.t 57), (.t 58), (.t 63), (.c (.int .i64 1))], none⟩,
            ⟨(.t 50), .mv (.t 64), none⟩,
            ⟨(.t 65), .ext 50 0, none⟩,
            ⟨(.t 66), .ext 50 1, none⟩,
            ⟨(.t 67), .ext 50 2, none⟩,
            ⟨(.t 8), .allo [(.bool false), (.bool false), (.bool false), (.int .i64 0), (.int .i64 0)], none⟩,
            ⟨.none, .st 5 (.t 8) (.t 65), none⟩,
            ⟨(.v 7), .asg (.t 66), none⟩,
            ⟨(.v 8), .asg (.t 67), none⟩] (some [[], [0], [1], [2], [], [3, 4], [5], [], [], [8], [9], [10], [11], [6, 7, 12], [13], [14], [14], [14], [], [18, 15, 13, 0, 1, 2, 3, 4, 5, 6, 7, 8, 9, 10, 11, 12, 13, 14, 15, 18], [16, 19, 0, 1, 2, 3, 4, 5, 6, 7, 8, 9, 10, 11, 12, 13, 14, 15, 16, 18, 19], [17, 20, 0, 1, 2, 3, 4, 5, 6, 7, 8, 9, 10, 11, 12, 13, 14, 15, 16, 17, 18, 19, 20]]) ⟨[], [16, 17], [], []⟩)
        (.seq (.reg 6 [.lend (.cell 0 1) 80] [
            ⟨(.t 68), .mv (.v 0), none⟩,
            ⟨(.t 69), .nilck (.t 68), none⟩,
            ⟨(.t 70), .fa 0 (.t 69), none⟩,
            ⟨(.t 71), .ld 1 false (.t 70), none⟩,
            ⟨(.t 72), .mv (.v 4), none⟩,
            ⟨(.t 73), .mv (.v 0), none⟩,
            ⟨(.t 74), .ld 5 true (.t 8), none⟩,
            ⟨(.t 75), .mv (.v 0), none⟩,
            ⟨(.t 76), .nilck (.t 75), none⟩,
            ⟨(.t 77), .fa 1 (.t 76), none⟩,
            ⟨(.t 78), .ld 1 false (.t 77), none⟩,
            ⟨(.t 79), .mv (.v 7), none⟩,
            ⟨(.t 80), .app 55 19 208 (.t 78) (.t 79), none⟩,
            ⟨(.t 81), .ia 5 (.t 71) (.t 72), none⟩,
            ⟨.none, .st 5 (.t 81) (.t 74), none⟩,
            ⟨(.t 82), .nilck (.t 73), none⟩,
            ⟨(.t 83), .fa 1 (.t 82), none⟩,
            ⟨.none, .st 1 (.t 83) (.t 80), none⟩] (some [[], [0], [1], [2], [], [], [], [], [7], [8], [9], [], [10, 11], [3, 4, 0, 1, 2, 3, 4, 6, 10, 12], [13, 6, 12, 0, 1, 2, 3, 4, 6, 10, 12], [5, 0, 1, 2, 3, 4, 5, 6, 7, 8, 9, 10, 11, 12, 13, 14], [15, 0, 1, 2, 3, 4, 5, 6, 7, 8, 9, 10, 11, 12, 13, 14], [16, 12, 14, 0, 1, 2, 3, 4, 5, 6, 7, 8, 9, 10, 11, 12, 13, 14]]) ⟨[], [5], [], []⟩)
        (.seq (.reg 7 [] [
            ⟨(.t 84), .mv (.v 8), none⟩,
            ⟨(.t 85), .bin .eql (.t 84) (.c (.int .i64 0)), none⟩,
            ⟨(.v 3), .asg (.t 85), none⟩] none ⟨[], [], [], []⟩)
        .ret)))
        (.seq (.reg 8 [] [
            ⟨(.t 87), .mv (.v 0), none⟩,
            ⟨(.t 88), .nilck (.t 87), none⟩,
            ⟨(.t 89), .fa 0 (.t 88), none⟩,
            ⟨(.t 90), .ld 1 false (.t 89), none⟩,
            ⟨(.t 91), .mv (.v 4), none⟩,
            ⟨(.t 92), .ia 5 (.t 90) (.t 91), none⟩,
            ⟨(.t 93), .fa 1 (.t 92), none⟩,
            ⟨(.t 94), .ld 1 false (.t 93), none⟩,
            ⟨(.t 95), .un .not (.t 94), none⟩,
            ⟨(.v 9), .asg (.t 95), none⟩] none ⟨[], [], [], []⟩)
        (.cond (.v 9)
          (.seq (.reg 9 [] [
              ⟨(.t 97), .mv (.v 0), none⟩,
              ⟨(.t 98), .nilck (.t 97), none⟩,
              ⟨(.t 99), .fa 0 (.t 98), none⟩,
              ⟨(.t 100), .ld 1 false (.t 99), none⟩,
              ⟨(.t 101), .mv (.v 4), none⟩,
              ⟨(.t 102), .ia 5 (.t 100) (.t 101), none⟩,
              ⟨(.t 103), .ld 5 true (.t 102), none⟩,
              ⟨(.t 104), .mv (.v 4), none⟩,
              ⟨(.t 105), .mv (.v 0), none⟩,
              ⟨(.t 106), .nilck (.t 105), none⟩,
              ⟨(.t 107), .fa 0 (.t 106), none⟩,
              ⟨(.t 108), .ld 1 false (.t 107), none⟩,
              ⟨(.t 109), .len (.t 108), none⟩,
              ⟨(.t 110), .call 12 [(.t 103), (.t 104), (.t 109), (.c (.int .i64 1))], none⟩,
              ⟨(.t 96), .mv (.t 110), none⟩,
              ⟨(.t 111), .ext 96 0, none⟩,
              ⟨(.t 112), .ext 96 1, none⟩,
              ⟨(.t 113), .ext 96 2, none⟩,
              ⟨(.t 11), .allo [(.bool false), (.bool false), (.bool false), (.int .i64 0), (.int .i64 0)], none⟩,
              ⟨.none, .st 5 (.t 11) (.t 111), none⟩,
              ⟨(.v 10), .asg (.t 112), none⟩,
              ⟨(.v 11), .asg (.t 113), none⟩] (some [[], [0], [1], [2], [], [3, 4], [5], [], [], [8], [9], [10], [11], [6, 7, 12], [13], [14], [14], [14], [], [18, 15, 13, 0, 1, 2, 3, 4, 5, 6, 7, 8, 9, 10, 11, 12, 13, 14, 15, 18], [16, 19, 0, 1, 2, 3, 4, 5, 6, 7, 8, 9, 10, 11, 12, 13, 14, 15, 16, 18, 19], [17, 20, 0, 1, 2, 3, 4, 5, 6, 7, 8, 9, 10, 11, 12, 13, 14, 15, 16, 17, 18, 19, 20]]) ⟨[], [16, 17], [], []⟩)
          (.seq (.reg 10 [.lend (.cell 0 1) 126] [
              ⟨(.t 114), .mv (.v 0), none⟩,
              ⟨(.t 115), .nilck (.t 114), none⟩,
              ⟨(.t 116), .fa 0 (.t 115), none⟩,
              ⟨(.t 117), .ld 1 false (.t 116), none⟩,
              ⟨(.t 118), .mv (.v 4), none⟩,
              ⟨(.t 119), .mv (.v 0), none⟩,
              ⟨(.t 120), .ld 5 true (.t 11), none⟩,
              ⟨(.t 121), .mv (.v 0), none⟩,
              ⟨(.t 122), .nilck (.t 121), none⟩,
              ⟨(.t 123), .fa 1 (.t 122), none⟩,
              ⟨(.t 124), .ld 1 false (.t 123), none⟩,
              ⟨(.t 125), .mv (.v 10), none⟩,
              ⟨(.t 126), .app 55 19 208 (.t 124) (.t 125), none⟩,
              ⟨(.t 127), .ia 5 (.t 117) (.t 118), none⟩,
              ⟨.none, .st 5 (.t 127) (.t 120), none⟩,
              ⟨(.t 128), .nilck (.t 119), none⟩,
              ⟨(.t 129), .fa 1 (.t 128), none⟩,
              ⟨.none, .st 1 (.t 129) (.t 126), none⟩] (some [[], [0], [1], [2], [], [], [], [], [7], [8], [9], [], [10, 11], [3, 4, 0, 1, 2, 3, 4, 6, 10, 12], [13, 6, 12, 0, 1, 2, 3, 4, 6, 10, 12], [5, 0, 1, 2, 3, 4, 5, 6, 7, 8, 9, 10, 11, 12, 13, 14], [15, 0, 1, 2, 3, 4, 5, 6, 7, 8, 9, 10, 11, 12, 13, 14], [16, 12, 14, 0, 1, 2, 3, 4, 5, 6, 7, 8, 9, 10, 11, 12, 13, 14]]) ⟨[], [5], [], []⟩)
          (.seq (.reg 11 [] [
              ⟨(.t 130), .mv (.v 11), none⟩,
              ⟨(.t 131), .bin .eql (.t 130) (.c (.int .i64 0)), none⟩,
              ⟨(.v 3), .asg (.t 131), none⟩] none ⟨[], [], [], []⟩)
          .ret)))
          .skip)))))))
  (.seq (.reg 12 [] [
      ⟨(.v 3), .asg (.c (.bool true)), none⟩] none ⟨[], [], [], []⟩)
  .ret))))
theorem c16b : compFn Try.prog 16 F16 = some (3, strip a16b, [.v 3]) ∧ lexAll a16b = true := ⟨by kernel_rfl, by kernel_rfl⟩
def a4b : ACode :=
  (.seq (.reg 0 [] [
      ⟨(.v 2), .asg (.c (.bool false)), none⟩] none ⟨[], [], [], []⟩)
  (.seq (.seq (.reg 1 [] [
      ⟨(.t 14), .mv (.v 0), none⟩,
      ⟨(.t 15), .call 5 [(.t 14)], none⟩,
      ⟨(.t 16), .un .not (.t 15), none⟩] none ⟨[], [], [], []⟩)
  (.cond (.t 16)
    (.seq (.reg 2 [] [
        ⟨(.t 17), .call 6 [], none⟩,
        ⟨(.v 2), .asg (.t 17), none⟩] none ⟨[], [], [], []⟩)
    .ret)
    .skip))
  (.seq (.reg 3 [] [
      ⟨(.t 19), .mv (.v 0), none⟩,
      ⟨(.t 20), .mv (.v 1), none⟩,
      ⟨(.t 21), .conv .i64 (.t 20), none⟩,
      ⟨(.t 22), .bin .rem (.t 21) (.c (.int .i64 4)), none⟩,
      ⟨(.t 23), .bin .add (.c (.int .i64 1)) (.t 22), none⟩,
      ⟨(.t 24), .call 7 [(.t 19), (.t 23)], none⟩,
      ⟨(.t 18), .mv (.t 24), none⟩,
      ⟨(.t 25), .ext 18 0, none⟩,
      ⟨(.t 26), .ext 18 1, none⟩,
      ⟨(.v 3), .asg (.t 25), none⟩,
      ⟨(.v 4), .asg (.t 26), none⟩] none ⟨[], [], [], []⟩)
  (.seq (.seq (.reg 4 [] [
      ⟨(.t 27), .mv (.v 4), none⟩,
      ⟨(.t 28), .un .not (.t 27), none⟩] none ⟨[], [], [], []⟩)
  (.cond (.t 28)
    (.seq (.reg 5 [] [
        ⟨(.v 2), .asg (.c (.bool false)), none⟩] none ⟨[], [], [], []⟩)
    .ret)
    .skip))
  (.seq (.seq (.reg 6 [] [
      ⟨(.v 5), .asg (.c (.int .i64 0)), none⟩] none ⟨[], [], [], []⟩)
  (.block 0
    (.loop
      (.seq (.seq (.reg 7 [] [
          ⟨(.t 29), .mv (.v 5), none⟩,
          ⟨(.t 30), .bin .lss (.t 29) (.c (.int .i64 1000)), none⟩] none ⟨[], [], [], []⟩)
      (.cond (.t 30)
        .skip
        (.exit 0)))
      (.seq (.block 1
        (.seq (.reg 9 [] [
            ⟨(.v 6), .asg (.c (.bool false)), none⟩] none ⟨[], [], [], []⟩)
        (.seq (.seq (.reg 10 [] [
            ⟨(.t 33), .mv (.v 3), none⟩,
            ⟨(.t 34), .nilck (.t 33), none⟩,
            ⟨(.t 35), .fa 0 (.t 34), none⟩,
            ⟨(.t 36), .ld 1 false (.t 35), none⟩,
            ⟨(.t 37), .len (.t 36), none⟩,
            ⟨(.t 38), .mv (.c (.int .i64 0)), none⟩] none ⟨[], [], [], []⟩)
        (.block 2
          (.loop
            (.seq (.reg 11 [] [
                ⟨(.t 39), .bin .lss (.t 38) (.t 37), none⟩] none ⟨[], [], [], []⟩)
            (.seq (.cond (.t 39)
              .skip
              (.exit 2))
            (.seq (.block 3
              (.seq (.reg 12 [] [
                  ⟨(.t 40), .mv (.t 38), none⟩,
                  ⟨(.v 7), .asg (.t 40), none⟩] none ⟨[], [], [], []⟩)
              (.seq (.reg 13 [] [
                  ⟨(.t 41), .mv (.v 3), none⟩,
                  ⟨(.t 42), .nilck (.t 41), none⟩,
                  ⟨(.t 43), .fa 0 (.t 42), none⟩,
                  ⟨(.t 44), .ld 1 false (.t 43), none⟩,
                  ⟨(.t 45), .mv (.v 7), none⟩,
                  ⟨(.t 46), .ia 5 (.t 44) (.t 45), none⟩,
                  ⟨(.t 47), .fa 2 (.t 46), none⟩,
                  ⟨(.t 48), .ld 1 false (.t 47), none⟩] none ⟨[], [], [], []⟩)
              (.cond (.t 48)
                (.seq (.reg 14 [] [
                    ⟨(.t 50), .mv (.v 3), none⟩,
                    ⟨(.t 51), .nilck (.t 50), none⟩,
                    ⟨(.t 52), .fa 0 (.t 51), none⟩,
                    ⟨(.t 53), .ld 1 false (.t 52), none⟩,
                    ⟨(.t 54), .mv (.v 7), none⟩,
                    ⟨(.t 55), .ia 5 (.t 53) (.t 54), none⟩,
                    ⟨(.t 56), .ld 5 true (.t 55), none⟩,
                    ⟨(.t 57), .mv (.v 7), none⟩,
                    ⟨(.t 58), .mv (.v 3), none⟩,
                    ⟨(.t 59), .nilck (.t 58), none⟩,
                    ⟨(.t 60), .fa 0 (.t 59), none⟩,
                    ⟨(.t 61), .ld 1 false (.t 60), none⟩,
                    ⟨(.t 62), .len (.t 61), none⟩,
                    ⟨(.t 63), .call 8 [(.t 56), (.t 57), (.t 62), (.c (.int .i64 1))], none⟩,
                    ⟨(.t 49), .mv (.t 63), none⟩,
                    ⟨(.t 64), .ext 49 0, none⟩,
                    ⟨(.t 65), .ext 49 1, none⟩,
                    ⟨(.t 66), .ext 49 2, none⟩,
                    ⟨(.t 10), .allo [(.bool false), (.bool false), (.bool false), (.int .i64 0), (.int .i64 0)], none⟩,
                    ⟨.none, .st 5 (.t 10) (.t 64), none⟩,
                    ⟨(.v 8), .asg (.t 65), none⟩,
                    ⟨(.v 9), .asg (.t 66), none⟩] (some [[], [0], [1], [2], [], [3, 4], [5], [], [], [8], [9], [10], [11], [6, 7, 12], [13], [14], [14], [14], [], [18, 15, 13, 0, 1, 2, 3, 4, 5, 6, 7, 8, 9, 10, 11, 12, 13, 14, 15, 18], [16, 19, 0, 1, 2, 3, 4, 5, 6, 7, 8, 9, 10, 11, 12, 13, 14, 15, 16, 18, 19], [17, 20, 0, 1, 2, 3, 4, 5, 6, 7, 8, 9, 10, 11, 12, 13, 14, 15, 16, 17, 18, 19, 20]]) ⟨[], [16, 17], [], []⟩)
                (.seq (.seq (.reg 15 [] [
                    ⟨(.t 67), .mv (.v 9), none⟩,
                    ⟨(.t 68), .bin .neq (.t 67) (.c (.int .i64 0)), none⟩] none ⟨[], [], [], []⟩)
                (.cond (.t 68)
                  (.seq (.reg 16 [] [
                      ⟨(.v 2), .asg (.c (.bool false)), none⟩] none ⟨[], [], [], []⟩)
                  .ret)
                  .skip))
                (.reg 17 [.lend (.cell 0 1) 81] [
                    ⟨(.t 69), .mv (.v 3), none⟩,
                    ⟨(.t 70), .nilck (.t 69), none⟩,
                    ⟨(.t 71), .fa 0 (.t 70), none⟩,
                    ⟨(.t 72), .ld 1 false (.t 71), none⟩,
                    ⟨(.t 73), .mv (.v 7), none⟩,
                    ⟨(.t 74), .mv (.v 3), none⟩,
                    ⟨(.t 75), .ld 5 true (.t 10), none⟩,
                    ⟨(.t 76), .mv (.v 3), none⟩,
                    ⟨(.t 77), .nilck (.t 76), none⟩,
                    ⟨(.t 78), .fa 1 (.t 77), none⟩,
                    ⟨(.t 79), .ld 1 false (.t 78), none⟩,
                    ⟨(.t 80), .mv (.v 8), none⟩,
                    ⟨(.t 81), .app 55 19 208 (.t 79) (.t 80), none⟩,
                    ⟨(.t 82), .ia 5 (.t 72) (.t 73), none⟩,
                    ⟨.none, .st 5 (.t 82) (.t 75), none⟩,
                    ⟨(.t 83), .nilck (.t 74), none⟩,
                    ⟨(.t 84), .fa 1 (.t 83), none⟩,
                    ⟨.none, .st 1 (.t 84) (.t 81), none⟩,
                    ⟨(.v 6), .asg (.c (.bool true)), none⟩] (some [[], [0], [1], [2], [], [], [], [], [7], [8], [9], [], [10, 11], [3, 4, 0, 1, 2, 3, 4, 6, 10, 12], [13, 6, 12, 0, 1, 2, 3, 4, 6, 10, 12], [5, 0, 1, 2, 3, 4, 5, 6, 7, 8, 9, 10, 11, 12, 13, 14], [15, 0, 1, 2, 3, 4, 5, 6, 7, 8, 9, 10, 11, 12, 13, 14], [16, 12, 14, 0, 1, 2, 3, 4, 5, 6, 7, 8, 9, 10, 11, 12, 13, 14], [17, 0, 1, 2, 3, 4, 5, 6, 7, 8, 9, 10, 11, 12, 13, 14, 15, 16, 17]]) ⟨[], [5], [], []⟩)))
                .skip))))
            (.reg 18 [] [
                ⟨(.t 85), .bin .add (.t 38) (.c (.int .i64 1)), none⟩,
                ⟨(.t 38), .mv (.t 85), none⟩] none ⟨[], [], [], []⟩)))))))
        (.seq (.seq (.reg 19 [] [
            ⟨(.t 86), .mv (.v 3), none⟩,
            ⟨(.t 87), .nilck (.t 86), none⟩,
            ⟨(.t 88), .fa 1 (.t 87), none⟩,
            ⟨(.t 89), .ld 1 false (.t 88), none⟩,
            ⟨(.t 90), .len (.t 89), none⟩,
            ⟨(.t 91), .bin .gtr (.t 90) (.c (.int .i64 0)), none⟩] none ⟨[], [], [], []⟩)
        (.cond (.t 91)
          (.seq (.seq (.reg 20 [] [
              ⟨(.t 92), .mv (.v 3), none⟩,
              ⟨(.t 93), .mv (.v 5), none⟩,
              ⟨(.t 94), .mv (.v 3), none⟩,
              ⟨(.t 95), .nilck (.t 94), none⟩,
              ⟨(.t 96), .fa 1 (.t 95), none⟩,
              ⟨(.t 97), .ld 1 false (.t 96), none⟩,
              ⟨(.t 98), .len (.t 97), none⟩,
              ⟨(.t 99), .bin .rem (.t 93) (.t 98), none⟩,
              ⟨(.t 100), .call 9 [(.t 92), (.t 99)], none⟩,
              ⟨(.t 101), .un .not (.t 100), none⟩,
              ⟨(.t 102), .mv (.t 101), none⟩,
              ⟨(.t 103), .mv (.v 3), some (102, false)⟩,
              ⟨(.t 104), .call 10 [(.t 103)], some (102, false)⟩,
              ⟨(.t 105), .un .not (.t 104), some (102, false)⟩,
              ⟨(.t 106), .pick (.t 102) (.c (.bool true)) (.t 105), none⟩] none ⟨[], [], [], []⟩)
          (.cond (.t 106)
            (.seq (.reg 21 [] [
                ⟨(.v 2), .asg (.c (.bool false)), none⟩] none ⟨[], [], [], []⟩)
            .ret)
            .skip))
          (.reg 22 [] [
              ⟨(.v 6), .asg (.c (.bool true)), none⟩] none ⟨[], [], [], []⟩))
          .skip))
        (.seq (.reg 23 [] [
            ⟨(.t 107), .mv (.v 6), none⟩,
            ⟨(.t 108), .un .not (.t 107), none⟩] none ⟨[], [], [], []⟩)
        (.cond (.t 108)
          (.exit 0)
          .skip))))))
      (.reg 8 [] [
          ⟨(.t 31), .mv (.v 5), none⟩,
          ⟨(.t 32), .bin .add (.t 31) (.c (.int .i64 1)), none⟩,
          ⟨(.v 5), .asg (.t 32), none⟩] none ⟨[], [], [], []⟩))))))
  (.seq (.seq (.reg 24 [] [
      ⟨(.t 109), .mv (.v 3), none⟩,
      ⟨(.t 110), .nilck (.t 109), none⟩,
      ⟨(.t 111), .fa 0 (.t 110), none⟩,
      ⟨(.t 112), .ld 1 false (.t 111), none⟩,
      ⟨(.t 113), .len (.t 112), none⟩,
      ⟨(.t 114), .mv (.c (.int .i64 0)), none⟩] none ⟨[], [], [], []⟩)
  (.block 4
    (.loop
      (.seq (.reg 25 [] [
          ⟨(.t 115), .bin .lss (.t 114) (.t 113), none⟩] none ⟨[], [], [], []⟩)
      (.seq (.cond (.t 115)
        .skip
        (.exit 4))
      (.seq (.block 5
        (.seq (.reg 26 [] [
            ⟨(.t 116), .mv (.t 114), none⟩,
            ⟨(.v 10), .asg (.t 116), none⟩] none ⟨[], [], [], []⟩)
        (.seq (.reg 27 [] [
            ⟨(.t 117), .mv (.v 3), none⟩,
            ⟨(.t 118), .nilck (.t 117), none⟩,
            ⟨(.t 119), .fa 0 (.t 118), none⟩,
            ⟨(.t 120), .ld 1 false (.t 119), none⟩,
            ⟨(.t 121), .mv (.v 10), none⟩,
            ⟨(.t 122), .ia 5 (.t 120) (.t 121), none⟩,
            ⟨(.t 123), .fa 1 (.t 122), none⟩,
            ⟨(.t 124), .ld 1 false (.t 123), none⟩,
            ⟨(.t 125), .mv (.t 124), none⟩,
            ⟨(.t 126), .mv (.v 3), some (125, false)⟩,
            ⟨(.t 127), .nilck (.t 126), some (125, false)⟩,
            ⟨(.t 128), .fa 0 (.t 127), some (125, false)⟩,
            ⟨(.t 129), .ld 1 false (.t 128), some (125, false)⟩,
            ⟨(.t 130), .mv (.v 10), some (125, false)⟩,
            ⟨(.t 131), .ia 5 (.t 129) (.t 130), some (125, false)⟩,
            ⟨(.t 132), .fa 2 (.t 131), some (125, false)⟩,
            ⟨(.t 133), .ld 1 false (.t 132), some (125, false)⟩,
            ⟨(.t 134), .pick (.t 125) (.c (.bool true)) (.t 133), none⟩] none ⟨[], [], [], []⟩)
        (.cond (.t 134)
          (.seq (.reg 28 [] [
              ⟨(.v 2), .asg (.c (.bool false)), none⟩] none ⟨[], [], [], []⟩)
          .ret)
          .skip))))
      (.reg 29 [] [
          ⟨(.t 135), .bin .add (.t 114) (.c (.int .i64 1)), none⟩,
          ⟨(.t 114), .mv (.t 135), none⟩] none ⟨[], [], [], []⟩)))))))
  (.seq (.reg 30 [] [
      ⟨(.t 136), .call 6 [], none⟩,
      ⟨(.t 137), .mv (.t 136), none⟩,
      ⟨(.t 138), .mv (.v 3), some (137, true)⟩,
      ⟨(.t 139), .nilck (.t 138), some (137, true)⟩,
      ⟨(.t 140), .fa 1 (.t 139), some (137, true)⟩,
      ⟨(.t 141), .ld 1 false (.t 140), some (137, true)⟩,
      ⟨(.t 142), .len (.t 141), some (137, true)⟩,
      ⟨(.t 143), .bin .eql (.t 142) (.c (.int .i64 0)), some (137, true)⟩,
      ⟨(.t 144), .pick (.t 137) (.t 143) (.c (.bool false)), none⟩,
      ⟨(.v 2), .asg (.t 144), none⟩] none ⟨[], [], [], []⟩)
  .ret)))))))
theorem c4b : compFn Try.prog 4 F4 = some (2, strip a4b, [.v 2]) ∧ lexAll a4b = true := ⟨by kernel_rfl, by kernel_rfl⟩
def a7b : ACode :=
  (.seq (.reg 0 [] [
      ⟨(.v 2), .asg (.c (.pointer none)), none⟩,
      ⟨(.v 3), .asg (.c (.bool false)), none⟩] none ⟨[], [], [], []⟩)
  (.seq (.reg 1 [] [
      ⟨(.t 11), .bld [(.slice none 0 0), (.slice none 0 0)] [], none⟩,
      ⟨(.t 12), .box 2 (.t 11), none⟩,
      ⟨(.v 4), .asg (.t 12), none⟩] none ⟨[], [], [], []⟩)
  (.seq (.seq (.reg 2 [.own (.cell 0 0) 34 5, .own (.cell 0 1) 55 19] [
      ⟨(.v 5), .asg (.c (.int .i64 0)), none⟩] none ⟨[], [], [], []⟩)
  (.block 0
    (.loop
      (.seq (.seq (.reg 3 [] [
          ⟨(.t 13), .mv (.v 5), none⟩,
          ⟨(.t 14), .mv (.v 1), none⟩,
          ⟨(.t 15), .bin .lss (.t 13) (.t 14), none⟩] none ⟨[], [], [], []⟩)
      (.cond (.t 15)
        .skip
        (.exit 0)))
      (.seq (.block 1
        (.seq (.reg 5 [] [
            ⟨(.t 19), .mv (.v 5), none⟩,
            ⟨(.t 20), .mv (.v 1), none⟩,
            ⟨(.t 21), .call 11 [(.t 19), (.t 20)], none⟩,
            ⟨(.t 18), .mv (.t 21), none⟩,
            ⟨(.t 22), .ext 18 0, none⟩,
            ⟨(.t 23), .ext 18 1, none⟩,
            ⟨(.t 8), .allo [(.bool false), (.bool false), (.bool false), (.int .i64 0), (.int .i64 0)], none⟩,
            ⟨.none, .st 5 (.t 8) (.t 22), none⟩,
            ⟨(.v 6), .asg (.t 23), none⟩] none ⟨[], [], [], []⟩)
        (.seq (.seq (.reg 6 [] [
            ⟨(.t 24), .mv (.v 6), none⟩,
            ⟨(.t 25), .bin .neq (.t 24) (.c (.int .i64 0)), none⟩] none ⟨[], [], [], []⟩)
        (.cond (.t 25)
          (.seq (.reg 7 [] [
              ⟨(.t 26), .mv (.v 4), none⟩,
              ⟨(.v 2), .asg (.t 26), none⟩,
              ⟨(.v 3), .asg (.c (.bool false)), none⟩] none ⟨[], [], [], []⟩)
          .ret)
          .skip))
        (.reg 8 [.lend (.cell 0 0) 34] [
            ⟨(.t 27), .mv (.v 4), none⟩,
            ⟨(.t 28), .mv (.v 4), none⟩,
            ⟨(.t 29), .nilck (.t 28), none⟩,
            ⟨(.t 30), .fa 0 (.t 29), none⟩,
            ⟨(.t 31), .ld 1 false (.t 30), none⟩,
            ⟨(.t 32), .ld 5 true (.t 8), none⟩,
            ⟨(.t 33), .bls 34 5 (.agg #[(.bool false), (.bool false), (.bool false), (.int .i64 0), (.int .i64 0)]) 1 [(0, (.t 32))], none⟩,
            ⟨(.t 34), .app 34 5 24 (.t 31) (.t 33), none⟩,
            ⟨(.t 35), .nilck (.t 27), none⟩,
            ⟨(.t 36), .fa 0 (.t 35), none⟩,
            ⟨.none, .st 1 (.t 36) (.t 34), none⟩] (some [[], [], [1], [2], [3], [], [5], [4, 6], [0, 0, 1, 2, 3, 4, 5, 6, 7], [8, 0, 1, 2, 3, 4, 5, 6, 7], [9, 7, 7, 0, 1, 2, 3, 4, 5, 6, 7]]) ⟨[], [], [], []⟩))))
      (.reg 4 [] [
          ⟨(.t 16), .mv (.v 5), none⟩,
          ⟨(.t 17), .bin .add (.t 16) (.c (.int .i64 1)), none⟩,
          ⟨(.v 5), .asg (.t 17), none⟩] none ⟨[], [], [], []⟩))))))
  (.seq (.reg 9 [] [
      ⟨(.t 37), .mv (.v 0), none⟩,
      ⟨(.t 38), .bld [(.slice none 0 0), (.int .i64 0)] [(0, 1, (.t 37))], none⟩,
      ⟨(.t 39), .box 2 (.t 38), none⟩,
      ⟨(.v 7), .asg (.t 39), none⟩] none ⟨[], [], [], []⟩)
  (.seq (.block 2
    (.loop
      (.seq (.seq (.reg 10 [] [
          ⟨(.t 40), .mv (.v 7), none⟩,
          ⟨(.t 41), .call 15 [(.t 40)], none⟩] none ⟨[], [], [], []⟩)
      (.cond (.t 41)
        .skip
        (.exit 2)))
      (.block 3
        (.seq (.reg 11 [] [
            ⟨(.t 42), .mv (.v 4), none⟩,
            ⟨(.t 43), .mv (.v 7), none⟩,
            ⟨(.t 44), .call 17 [(.t 43), (.c (.int .i64 7))], none⟩,
            ⟨(.t 45), .mv (.v 7), none⟩,
            ⟨(.t 46), .call 17 [(.t 45), (.c (.int .i64 60))], none⟩,
            ⟨(.t 47), .call 16 [(.t 42), (.t 44), (.t 46)], none⟩,
            ⟨(.t 48), .un .not (.t 47), none⟩,
            ⟨(.t 49), .mv (.t 48), none⟩,
            ⟨(.t 50), .mv (.v 4), some (49, false)⟩,
            ⟨(.t 51), .call 10 [(.t 50)], some (49, false)⟩,
            ⟨(.t 52), .un .not (.t 51), some (49, false)⟩,
            ⟨(.t 53), .pick (.t 49) (.c (.bool true)) (.t 52), none⟩] none ⟨[], [], [], []⟩)
        (.cond (.t 53)
          (.seq (.reg 12 [] [
              ⟨(.t 54), .mv (.v 4), none⟩,
              ⟨(.v 2), .asg (.t 54), none⟩,
              ⟨(.v 3), .asg (.c (.bool false)), none⟩] none ⟨[], [], [], []⟩)
          .ret)
          .skip))))))
  (.seq (.reg 13 [] [
      ⟨(.t 55), .mv (.v 4), none⟩,
      ⟨(.v 2), .asg (.t 55), none⟩,
      ⟨(.v 3), .asg (.c (.bool true)), none⟩] none ⟨[], [], [], []⟩)
  .ret))))))
theorem c7b : compFn Try.prog 7 F7 = some (2, strip a7b, [.v 2, .v 3]) ∧ lexAll a7b = true := ⟨by kernel_rfl, by kernel_rfl⟩
end Go.Proofs.Ytlnmbpaijodpjaa
