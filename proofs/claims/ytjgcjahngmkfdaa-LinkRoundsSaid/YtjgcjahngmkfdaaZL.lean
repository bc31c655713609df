/- Texts put behind one another: L0, LB. -/
import Derived.Test.YtjgcjahngmkfdaaZC
import Derived.Tactics
import Derived.IntWalk
import Derived.Test.YtjgcjahngmkfdaaProg
set_option linter.unusedVariables false
set_option linter.unusedSimpArgs false
namespace Go.Proofs.Ytjgcjahngmkfdaa
open Go.RowKit Go.Proofs
/-- clusterlocks/clusterlockslaw25.LinkActs -/
def F3 : Fr := ⟨157, [0, 1, 2, 6, 7, 11, 13, 15, 16, 17, 19, 20, 21, 22, 23, 24]⟩
def a3 : ACode :=
  (.seq (.reg 0 [] [
      ⟨(.t 3), .box 3 (.v 0), none⟩,
      ⟨(.t 5), .box 3 (.v 2), none⟩,
      ⟨(.v 3), .asg (.c (.bool false)), none⟩] none ⟨[], [], [], []⟩)
  (.seq (.seq (.reg 1 [] [
      ⟨(.t 25), .ld 3 true (.t 3), none⟩,
      ⟨(.t 26), .call 7 [(.t 25)], none⟩,
      ⟨(.t 27), .un .not (.t 26), none⟩,
      ⟨(.t 28), .mv (.t 27), none⟩,
      ⟨(.t 29), .mv (.v 1), some (28, false)⟩,
      ⟨(.t 30), .len (.t 29), some (28, false)⟩,
      ⟨(.t 31), .bin .gtr (.t 30) (.c (.int .i64 5000)), some (28, false)⟩,
      ⟨(.t 32), .pick (.t 28) (.c (.bool true)) (.t 31), none⟩,
      ⟨(.t 33), .mv (.t 32), none⟩,
      ⟨(.t 34), .fa 2 (.t 5), some (33, false)⟩,
      ⟨(.t 35), .ld 1 false (.t 34), some (33, false)⟩,
      ⟨(.t 36), .len (.t 35), some (33, false)⟩,
      ⟨(.t 37), .bin .gtr (.t 36) (.c (.int .i64 5000)), some (33, false)⟩,
      ⟨(.t 38), .pick (.t 33) (.c (.bool true)) (.t 37), none⟩] none ⟨[], [], [], []⟩)
  (.cond (.t 38)
    (.seq (.reg 2 [] [
        ⟨(.t 39), .call 8 [], none⟩,
        ⟨(.v 3), .asg (.t 39), none⟩] none ⟨[], [], [], []⟩)
    .ret)
    .skip))
  (.seq (.reg 3 [] [
      ⟨(.t 40), .ld 3 true (.t 3), none⟩,
      ⟨(.t 41), .bls 5 1 (.int .u8 0) 1 [(0, (.c (.int .u8 1)))], none⟩,
      ⟨(.t 42), .bls 5 1 (.int .u8 0) 1 [(0, (.c (.int .u8 2)))], none⟩,
      ⟨(.t 43), .bls 5 1 (.int .u8 0) 1 [(0, (.c (.int .u8 3)))], none⟩,
      ⟨(.t 44), .bls 5 1 (.int .u8 0) 1 [(0, (.c (.int .u8 4)))], none⟩,
      ⟨(.t 45), .bls 5 1 (.int .u8 0) 1 [(0, (.c (.int .u8 5)))], none⟩,
      ⟨(.t 46), .bls 5 1 (.int .u8 0) 1 [(0, (.c (.int .u8 6)))], none⟩,
      ⟨(.t 47), .bls 25 1 (.slice none 0 0) 6 [(0, (.t 41)), (1, (.t 42)), (2, (.t 43)), (3, (.t 44)), (4, (.t 45)), (5, (.t 46))], none⟩,
      ⟨(.t 48), .bld [(.int .i64 0), (.slice none 0 0), (.int .i64 0)] [(0, 1, (.c (.int .i64 3))), (1, 1, (.t 47)), (2, 1, (.c (.int .i64 2)))], none⟩,
      ⟨(.t 49), .bls 24 3 (.agg #[(.int .i64 0), (.slice none 0 0), (.int .i64 0)]) 2 [(0, (.t 40)), (1, (.t 48))], none⟩,
      ⟨(.v 4), .asg (.t 49), none⟩] none ⟨[], [], [], []⟩)
  (.seq (.seq (.reg 4 [.freeze (.var 4)] [
      ⟨(.t 50), .mv (.v 4), none⟩,
      ⟨(.t 51), .len (.t 50), none⟩,
      ⟨(.t 52), .mv (.c (.int .i64 0)), none⟩] none ⟨[], [], [], []⟩)
  (.block 0
    (.loop
      (.seq (.reg 5 [] [
          ⟨(.t 53), .bin .lss (.t 52) (.t 51), none⟩] none ⟨[], [], [], []⟩)
      (.seq (.cond (.t 53)
        .skip
        (.exit 0))
      (.seq (.block 1
        (.seq (.reg 6 [] [
            ⟨(.t 54), .ia 3 (.t 50) (.t 52), none⟩,
            ⟨(.t 55), .ld 3 true (.t 54), none⟩,
            ⟨(.t 9), .allo [(.int .i64 0), (.slice none 0 0), (.int .i64 0)], none⟩,
            ⟨.none, .st 3 (.t 9) (.t 55), none⟩] none ⟨[], [], [], []⟩)
        (.seq (.reg 7 [] [
            ⟨(.t 57), .ld 3 true (.t 9), none⟩,
            ⟨(.t 58), .mv (.v 1), none⟩,
            ⟨(.t 59), .call 9 [(.t 57), (.t 58)], none⟩,
            ⟨(.t 56), .mv (.t 59), none⟩,
            ⟨(.t 60), .ext 56 0, none⟩,
            ⟨(.t 61), .ext 56 1, none⟩,
            ⟨(.t 10), .allo [(.int .i64 0), (.slice none 0 0), (.int .i64 0)], none⟩,
            ⟨.none, .st 3 (.t 10) (.t 60), none⟩,
            ⟨(.v 5), .asg (.t 61), none⟩] none ⟨[], [], [], []⟩)
        (.seq (.reg 8 [] [
            ⟨(.t 63), .ld 3 true (.t 9), none⟩,
            ⟨(.t 64), .mv (.v 1), none⟩,
            ⟨(.t 65), .call 10 [(.t 63), (.t 64)], none⟩,
            ⟨(.t 62), .mv (.t 65), none⟩,
            ⟨(.t 66), .ext 62 0, none⟩,
            ⟨(.t 67), .ext 62 1, none⟩,
            ⟨(.t 12), .allo [(.int .i64 0), (.slice none 0 0), (.int .i64 0)], none⟩,
            ⟨.none, .st 3 (.t 12) (.t 66), none⟩,
            ⟨(.v 6), .asg (.t 67), none⟩] none ⟨[], [], [], []⟩)
        (.seq (.reg 9 [] [
            ⟨(.t 69), .ld 3 true (.t 9), none⟩,
            ⟨(.t 70), .ld 3 true (.t 5), none⟩,
            ⟨(.t 71), .call 11 [(.t 69), (.t 70)], none⟩,
            ⟨(.t 68), .mv (.t 71), none⟩,
            ⟨(.t 72), .ext 68 0, none⟩,
            ⟨(.t 73), .ext 68 1, none⟩,
            ⟨(.t 74), .ext 68 2, none⟩,
            ⟨(.t 75), .ext 68 3, none⟩,
            ⟨(.t 14), .allo [(.int .i64 0), (.slice none 0 0), (.int .i64 0)], none⟩,
            ⟨.none, .st 3 (.t 14) (.t 72), none⟩,
            ⟨(.v 7), .asg (.t 73), none⟩,
            ⟨(.v 8), .asg (.t 74), none⟩,
            ⟨(.v 9), .asg (.t 75), none⟩] none ⟨[], [], [], []⟩)
        (.seq (.reg 10 [] [
            ⟨(.t 77), .ld 3 true (.t 9), none⟩,
            ⟨(.t 78), .ld 3 true (.t 5), none⟩,
            ⟨(.t 79), .call 12 [(.t 77), (.t 78)], none⟩,
            ⟨(.t 76), .mv (.t 79), none⟩,
            ⟨(.t 80), .ext 76 0, none⟩,
            ⟨(.t 81), .ext 76 1, none⟩,
            ⟨(.t 82), .ext 76 2, none⟩,
            ⟨(.t 83), .ext 76 3, none⟩,
            ⟨(.t 18), .allo [(.int .i64 0), (.slice none 0 0), (.int .i64 0)], none⟩,
            ⟨.none, .st 3 (.t 18) (.t 80), none⟩,
            ⟨(.v 10), .asg (.t 81), none⟩,
            ⟨(.v 11), .asg (.t 82), none⟩,
            ⟨(.v 12), .asg (.t 83), none⟩] none ⟨[], [], [], []⟩)
        (.seq (.reg 11 [] [
            ⟨(.t 84), .ld 3 true (.t 9), none⟩,
            ⟨(.t 85), .call 13 [(.t 84)], none⟩,
            ⟨(.t 86), .ld 3 true (.t 9), none⟩,
            ⟨(.t 87), .call 14 [(.t 86)], none⟩,
            ⟨(.v 13), .asg (.t 85), none⟩,
            ⟨(.v 14), .asg (.t 87), none⟩] (some [[], [0], [], [2, 1], [1, 3, 0, 1], [3, 4, 0, 1, 2, 3, 4]]) ⟨[9], [], [], []⟩)
        (.seq (.seq (.reg 12 [] [
            ⟨(.t 88), .mv (.v 5), none⟩,
            ⟨(.t 89), .mv (.v 6), none⟩,
            ⟨(.t 90), .bin .neq (.t 88) (.t 89), none⟩,
            ⟨(.t 91), .mv (.t 90), none⟩,
            ⟨(.t 92), .mv (.v 9), some (91, false)⟩,
            ⟨(.t 93), .mv (.v 12), some (91, false)⟩,
            ⟨(.t 94), .bin .neq (.t 92) (.t 93), some (91, false)⟩,
            ⟨(.t 95), .pick (.t 91) (.c (.bool true)) (.t 94), none⟩,
            ⟨(.t 96), .mv (.t 95), none⟩,
            ⟨(.t 97), .mv (.v 8), some (96, false)⟩,
            ⟨(.t 98), .mv (.v 11), some (96, false)⟩,
            ⟨(.t 99), .bib .neq (.t 97) (.t 98), some (96, false)⟩,
            ⟨(.t 100), .pick (.t 96) (.c (.bool true)) (.t 99), none⟩,
            ⟨(.t 101), .mv (.t 100), none⟩,
            ⟨(.t 102), .ld 3 true (.t 10), some (101, false)⟩,
            ⟨(.t 103), .ld 3 true (.t 12), some (101, false)⟩,
            ⟨(.t 104), .call 15 [(.t 102), (.t 103)], some (101, false)⟩,
            ⟨(.t 105), .un .not (.t 104), some (101, false)⟩,
            ⟨(.t 106), .pick (.t 101) (.c (.bool true)) (.t 105), none⟩,
            ⟨(.t 107), .mv (.t 106), none⟩,
            ⟨(.t 108), .ld 3 true (.t 14), some (107, false)⟩,
            ⟨(.t 109), .ld 3 true (.t 18), some (107, false)⟩,
            ⟨(.t 110), .call 15 [(.t 108), (.t 109)], some (107, false)⟩,
            ⟨(.t 111), .un .not (.t 110), some (107, false)⟩,
            ⟨(.t 112), .pick (.t 107) (.c (.bool true)) (.t 111), none⟩,
            ⟨(.t 113), .mv (.t 112), none⟩,
            ⟨(.t 114), .mv (.v 7), some (113, false)⟩,
            ⟨(.t 115), .b2s (.t 114), some (113, false)⟩,
            ⟨(.t 116), .mv (.v 10), some (113, false)⟩,
            ⟨(.t 117), .b2s (.t 116), some (113, false)⟩,
            ⟨(.t 118), .bin .neq (.t 115) (.t 117), some (113, false)⟩,
            ⟨(.t 119), .pick (.t 113) (.c (.bool true)) (.t 118), none⟩,
            ⟨(.t 120), .mv (.t 119), none⟩,
            ⟨(.t 121), .mv (.v 13), some (120, false)⟩,
            ⟨(.t 122), .len (.t 121), some (120, false)⟩,
            ⟨(.t 123), .mv (.v 14), some (120, false)⟩,
            ⟨(.t 124), .len (.t 123), some (120, false)⟩,
            ⟨(.t 125), .bin .neq (.t 122) (.t 124), some (120, false)⟩,
            ⟨(.t 126), .pick (.t 120) (.c (.bool true)) (.t 125), none⟩,
            ⟨(.t 127), .mv (.t 126), none⟩,
            ⟨(.t 128), .ld 3 true (.t 9), some (127, false)⟩,
            ⟨(.t 129), .call 16 [(.t 128)], some (127, false)⟩,
            ⟨(.t 130), .ld 3 true (.t 9), some (127, false)⟩,
            ⟨(.t 131), .call 17 [(.t 130)], some (127, false)⟩,
            ⟨(.t 132), .bib .neq (.t 129) (.t 131), some (127, false)⟩,
            ⟨(.t 133), .pick (.t 127) (.c (.bool true)) (.t 132), none⟩] (some [[], [], [0, 1], [2], [3], [3], [4, 5, 3], [3, 6], [7, 3], [8], [8], [9, 10, 8], [8, 11], [12, 8], [13], [13], [14, 15, 13, 13], [16, 13], [13, 17], [18, 16], [19], [19], [20, 21, 19, 19], [22, 19], [19, 23], [24, 22], [25], [26, 25], [25], [28, 25], [27, 29, 25], [25, 30], [31, 25], [32], [33, 32], [32], [35, 32], [34, 36, 32], [32, 37], [38, 32], [39], [40, 39, 39], [39], [42, 41, 39], [41, 43, 39], [39, 44]]) ⟨[91, 96, 101, 107, 113, 120, 9, 127], [], [], []⟩)
        (.cond (.t 133)
          (.seq (.reg 13 [] [
              ⟨(.v 3), .asg (.c (.bool false)), none⟩] none ⟨[], [], [], []⟩)
          .ret)
          .skip))
        (.seq (.reg 14 [] [
            ⟨(.v 15), .asg (.c (.int .i64 0)), none⟩] none ⟨[], [], [], []⟩)
        (.block 2
          (.loop
            (.seq (.seq (.reg 15 [] [
                ⟨(.t 134), .mv (.v 15), none⟩,
                ⟨(.t 135), .mv (.v 14), none⟩,
                ⟨(.t 136), .len (.t 135), none⟩,
                ⟨(.t 137), .bin .lss (.t 134) (.t 136), none⟩] none ⟨[], [], [], []⟩)
            (.cond (.t 137)
              .skip
              (.exit 2)))
            (.seq (.block 3
              (.seq (.reg 17 [] [
                  ⟨(.t 140), .mv (.v 13), none⟩,
                  ⟨(.t 141), .mv (.v 15), none⟩,
                  ⟨(.t 142), .ia 3 (.t 140) (.t 141), none⟩,
                  ⟨(.t 143), .ld 3 true (.t 142), none⟩,
                  ⟨(.t 144), .mv (.v 14), none⟩,
                  ⟨(.t 145), .mv (.v 15), none⟩,
                  ⟨(.t 146), .ia 3 (.t 144) (.t 145), none⟩,
                  ⟨(.t 147), .ld 3 true (.t 146), none⟩,
                  ⟨(.t 148), .call 18 [(.t 143), (.t 147)], none⟩,
                  ⟨(.t 149), .un .not (.t 148), none⟩] (some [[], [], [0, 1], [2], [], [], [4, 5], [6], [3, 7], [8]]) ⟨[], [], [], []⟩)
              (.cond (.t 149)
                (.seq (.reg 18 [] [
                    ⟨(.v 3), .asg (.c (.bool false)), none⟩] none ⟨[], [], [], []⟩)
                .ret)
                .skip)))
            (.reg 16 [] [
                ⟨(.t 138), .mv (.v 15), none⟩,
                ⟨(.t 139), .bin .add (.t 138) (.c (.int .i64 1)), none⟩,
                ⟨(.v 15), .asg (.t 139), none⟩] none ⟨[], [], [], []⟩))))))))))))))
      (.reg 19 [] [
          ⟨(.t 150), .bin .add (.t 52) (.c (.int .i64 1)), none⟩,
          ⟨(.t 52), .mv (.t 150), none⟩] none ⟨[], [], [], []⟩)))))))
  (.seq (.reg 20 [] [
      ⟨(.t 151), .call 8 [], none⟩,
      ⟨(.t 152), .mv (.t 151), none⟩,
      ⟨(.t 153), .call 19 [], some (152, true)⟩,
      ⟨(.t 154), .call 20 [], some (152, true)⟩,
      ⟨(.t 155), .call 15 [(.t 153), (.t 154)], some (152, true)⟩,
      ⟨(.t 156), .pick (.t 152) (.t 155) (.c (.bool false)), none⟩,
      ⟨(.v 3), .asg (.t 156), none⟩] none ⟨[], [], [], []⟩)
  .ret)))))
theorem c3 : compFn Try.prog 3 F3 = some (3, strip a3, [.v 3]) ∧ lexAll a3 = true := ⟨by kernel_rfl, by kernel_rfl⟩
/-- clusterlocks/clusterlockslaw25.LinkCodes -/
def F4 : Fr := ⟨110, [0, 1, 4, 5, 8, 9, 10, 11, 13, 15, 17]⟩
def a4 : ACode :=
  (.seq (.reg 0 [] [
      ⟨(.t 2), .box 3 (.v 0), none⟩,
      ⟨(.v 2), .asg (.c (.bool false)), none⟩] none ⟨[], [], [], []⟩)
  (.seq (.seq (.reg 1 [] [
      ⟨(.t 18), .fa 2 (.t 2), none⟩,
      ⟨(.t 19), .ld 1 false (.t 18), none⟩,
      ⟨(.t 20), .len (.t 19), none⟩,
      ⟨(.t 21), .bin .gtr (.t 20) (.c (.int .i64 5000)), none⟩,
      ⟨(.t 22), .mv (.t 21), none⟩,
      ⟨(.t 23), .mv (.v 1), some (22, false)⟩,
      ⟨(.t 24), .len (.t 23), some (22, false)⟩,
      ⟨(.t 25), .bin .gtr (.t 24) (.c (.int .i64 5000)), some (22, false)⟩,
      ⟨(.t 26), .pick (.t 22) (.c (.bool true)) (.t 25), none⟩] none ⟨[], [], [], []⟩)
  (.cond (.t 26)
    (.seq (.reg 2 [] [
        ⟨(.t 27), .call 8 [], none⟩,
        ⟨(.v 2), .asg (.t 27), none⟩] none ⟨[], [], [], []⟩)
    .ret)
    .skip))
  (.seq (.reg 3 [] [
      ⟨(.t 28), .ld 3 true (.t 2), none⟩,
      ⟨(.t 29), .fa 0 (.t 2), none⟩,
      ⟨(.t 30), .ld 1 false (.t 29), none⟩,
      ⟨(.t 31), .call 21 [(.t 30), (.c (.int .i64 9))], none⟩,
      ⟨(.t 32), .bin .add (.t 31) (.c (.int .i64 1)), none⟩,
      ⟨(.t 33), .fa 1 (.t 2), none⟩,
      ⟨(.t 34), .ld 1 false (.t 33), none⟩,
      ⟨(.t 35), .call 21 [(.t 34), (.c (.int .i64 300))], none⟩,
      ⟨(.t 36), .bls 5 1 (.int .u8 0) 1 [(0, (.c (.int .u8 1)))], none⟩,
      ⟨(.t 37), .mv (.v 1), none⟩,
      ⟨(.t 38), .mv (.v 1), none⟩,
      ⟨(.t 39), .len (.t 38), none⟩,
      ⟨(.t 40), .bin .quo (.t 39) (.c (.int .i64 2)), none⟩,
      ⟨(.t 41), .sl 5 1 (.t 37) none (some (.t 40)) none, none⟩,
      ⟨(.t 42), .app 5 1 1 (.t 36) (.t 41), none⟩,
      ⟨(.t 43), .bld [(.int .i64 0), (.int .i64 0), (.slice none 0 0)] [(0, 1, (.t 32)), (1, 1, (.t 35)), (2, 1, (.t 42))], none⟩,
      ⟨(.t 44), .bls 27 3 (.agg #[(.int .i64 0), (.int .i64 0), (.slice none 0 0)]) 2 [(0, (.t 28)), (1, (.t 43))], none⟩,
      ⟨(.v 3), .asg (.t 44), none⟩] (some [[], [], [1], [2], [3], [], [5], [6, 3], [], [], [], [10], [11], [9, 12], [8, 13, 7], [4, 7, 14], [0, 15], [16, 14, 0, 1, 2, 3, 4, 5, 6, 7, 8, 9, 10, 11, 12, 13, 14, 15, 16]]) ⟨[2], [], [], []⟩)
  (.seq (.seq (.reg 4 [.freeze (.var 3)] [
      ⟨(.t 45), .mv (.v 3), none⟩,
      ⟨(.t 46), .len (.t 45), none⟩,
      ⟨(.t 47), .mv (.c (.int .i64 0)), none⟩] none ⟨[], [], [], []⟩)
  (.block 0
    (.loop
      (.seq (.reg 5 [] [
          ⟨(.t 48), .bin .lss (.t 47) (.t 46), none⟩] none ⟨[], [], [], []⟩)
      (.seq (.cond (.t 48)
        .skip
        (.exit 0))
      (.seq (.block 1
        (.seq (.reg 6 [] [
            ⟨(.t 49), .ia 3 (.t 45) (.t 47), none⟩,
            ⟨(.t 50), .ld 3 true (.t 49), none⟩,
            ⟨(.t 7), .allo [(.int .i64 0), (.int .i64 0), (.slice none 0 0)], none⟩,
            ⟨.none, .st 3 (.t 7) (.t 50), none⟩] none ⟨[], [], [], []⟩)
        (.seq (.reg 7 [] [
            ⟨(.t 52), .ld 3 true (.t 7), none⟩,
            ⟨(.t 53), .call 22 [(.t 52)], none⟩,
            ⟨(.t 51), .mv (.t 53), none⟩,
            ⟨(.t 54), .ext 51 0, none⟩,
            ⟨(.t 55), .ext 51 1, none⟩,
            ⟨(.v 4), .asg (.t 54), none⟩,
            ⟨(.v 5), .asg (.t 55), none⟩] none ⟨[], [], [], []⟩)
        (.seq (.reg 8 [] [
            ⟨(.t 57), .ld 3 true (.t 7), none⟩,
            ⟨(.t 58), .call 23 [(.t 57)], none⟩,
            ⟨(.t 56), .mv (.t 58), none⟩,
            ⟨(.t 59), .ext 56 0, none⟩,
            ⟨(.t 60), .ext 56 1, none⟩,
            ⟨(.v 6), .asg (.t 59), none⟩,
            ⟨(.v 7), .asg (.t 60), none⟩] none ⟨[], [], [], []⟩)
        (.seq (.seq (.reg 9 [] [
            ⟨(.t 61), .mv (.v 5), none⟩,
            ⟨(.t 62), .mv (.v 7), none⟩,
            ⟨(.t 63), .bin .neq (.t 61) (.t 62), none⟩,
            ⟨(.t 64), .mv (.t 63), none⟩,
            ⟨(.t 65), .mv (.v 4), some (64, false)⟩,
            ⟨(.t 66), .b2s (.t 65), some (64, false)⟩,
            ⟨(.t 67), .mv (.v 6), some (64, false)⟩,
            ⟨(.t 68), .b2s (.t 67), some (64, false)⟩,
            ⟨(.t 69), .bin .neq (.t 66) (.t 68), some (64, false)⟩,
            ⟨(.t 70), .pick (.t 64) (.c (.bool true)) (.t 69), none⟩] none ⟨[], [], [], []⟩)
        (.cond (.t 70)
          (.seq (.reg 10 [] [
              ⟨(.v 2), .asg (.c (.bool false)), none⟩] none ⟨[], [], [], []⟩)
          .ret)
          .skip))
        (.seq (.reg 11 [.freeze (.var 6)] [
            ⟨(.t 72), .mv (.v 6), none⟩,
            ⟨(.t 73), .call 24 [(.t 72)], none⟩,
            ⟨(.t 71), .mv (.t 73), none⟩,
            ⟨(.t 74), .ext 71 0, none⟩,
            ⟨(.t 75), .ext 71 1, none⟩,
            ⟨(.t 12), .allo [(.int .i64 0), (.int .i64 0), (.slice none 0 0)], none⟩,
            ⟨.none, .st 3 (.t 12) (.t 74), none⟩,
            ⟨(.v 8), .asg (.t 75), none⟩] none ⟨[], [], [], []⟩)
        (.seq (.reg 12 [] [
            ⟨(.t 76), .mv (.v 7), none⟩,
            ⟨(.t 77), .bin .eql (.t 76) (.c (.int .i64 0)), none⟩,
            ⟨(.t 78), .mv (.t 77), none⟩,
            ⟨(.t 79), .mv (.v 8), some (78, true)⟩,
            ⟨(.t 80), .bin .neq (.t 79) (.c (.int .i64 0)), some (78, true)⟩,
            ⟨(.t 81), .mv (.t 80), some (78, true)⟩,
            ⟨(.t 82), .ld 3 true (.t 7), some (81, false)⟩,
            ⟨(.t 83), .ld 3 true (.t 12), some (81, false)⟩,
            ⟨(.t 84), .call 18 [(.t 82), (.t 83)], some (81, false)⟩,
            ⟨(.t 85), .un .not (.t 84), some (81, false)⟩,
            ⟨(.t 86), .pick (.t 81) (.c (.bool true)) (.t 85), some (78, true)⟩,
            ⟨(.t 87), .pick (.t 78) (.t 86) (.c (.bool false)), none⟩] none ⟨[], [], [], []⟩)
        (.cond (.t 87)
          (.seq (.reg 13 [] [
              ⟨(.v 2), .asg (.c (.bool false)), none⟩] none ⟨[], [], [], []⟩)
          .ret)
          .skip))))))))
      (.reg 14 [] [
          ⟨(.t 88), .bin .add (.t 47) (.c (.int .i64 1)), none⟩,
          ⟨(.t 47), .mv (.t 88), none⟩] none ⟨[], [], [], []⟩)))))))
  (.seq (.reg 15 [] [
      ⟨(.t 90), .mv (.v 1), none⟩,
      ⟨(.t 91), .call 24 [(.t 90)], none⟩,
      ⟨(.t 89), .mv (.t 91), none⟩,
      ⟨(.t 92), .ext 89 0, none⟩,
      ⟨(.t 93), .ext 89 1, none⟩,
      ⟨(.t 14), .allo [(.int .i64 0), (.int .i64 0), (.slice none 0 0)], none⟩,
      ⟨.none, .st 3 (.t 14) (.t 92), none⟩,
      ⟨(.v 9), .asg (.t 93), none⟩] none ⟨[], [], [], []⟩)
  (.seq (.reg 16 [] [
      ⟨(.t 95), .mv (.v 1), none⟩,
      ⟨(.t 96), .call 25 [(.t 95)], none⟩,
      ⟨(.t 94), .mv (.t 96), none⟩,
      ⟨(.t 97), .ext 94 0, none⟩,
      ⟨(.t 98), .ext 94 1, none⟩,
      ⟨(.t 16), .allo [(.int .i64 0), (.int .i64 0), (.slice none 0 0)], none⟩,
      ⟨.none, .st 3 (.t 16) (.t 97), none⟩,
      ⟨(.v 10), .asg (.t 98), none⟩] none ⟨[], [], [], []⟩)
  (.seq (.reg 17 [] [
      ⟨(.t 99), .call 8 [], none⟩,
      ⟨(.t 100), .mv (.t 99), none⟩,
      ⟨(.t 101), .mv (.v 9), some (100, true)⟩,
      ⟨(.t 102), .mv (.v 10), some (100, true)⟩,
      ⟨(.t 103), .bin .eql (.t 101) (.t 102), some (100, true)⟩,
      ⟨(.t 104), .pick (.t 100) (.t 103) (.c (.bool false)), none⟩,
      ⟨(.t 105), .mv (.t 104), none⟩,
      ⟨(.t 106), .ld 3 true (.t 14), some (105, true)⟩,
      ⟨(.t 107), .ld 3 true (.t 16), some (105, true)⟩,
      ⟨(.t 108), .call 18 [(.t 106), (.t 107)], some (105, true)⟩,
      ⟨(.t 109), .pick (.t 105) (.t 108) (.c (.bool false)), none⟩,
      ⟨(.v 2), .asg (.t 109), none⟩] none ⟨[], [], [], []⟩)
  .ret)))))))
theorem c4 : compFn Try.prog 4 F4 = some (2, strip a4, [.v 2]) ∧ lexAll a4 = true := ⟨by kernel_rfl, by kernel_rfl⟩
/-- clusterlocks/clusterlockslaw25.LinkOnce -/
def F5 : Fr := ⟨34, [0, 2, 3, 4]⟩
def a5 : ACode :=
  (.seq (.reg 0 [] [
      ⟨(.v 1), .asg (.c (.bool false)), none⟩] none ⟨[], [], [], []⟩)
  (.seq (.seq (.reg 1 [] [
      ⟨(.t 5), .mv (.v 0), none⟩,
      ⟨(.t 6), .call 26 [(.t 5)], none⟩,
      ⟨(.t 7), .un .not (.t 6), none⟩] none ⟨[], [], [], []⟩)
  (.cond (.t 7)
    (.seq (.reg 2 [] [
        ⟨(.t 8), .call 8 [], none⟩,
        ⟨(.v 1), .asg (.t 8), none⟩] none ⟨[], [], [], []⟩)
    .ret)
    .skip))
  (.seq (.reg 3 [] [
      ⟨(.t 10), .mv (.v 0), none⟩,
      ⟨(.t 11), .call 27 [(.t 10)], none⟩,
      ⟨(.t 9), .mv (.t 11), none⟩,
      ⟨(.t 12), .ext 9 0, none⟩,
      ⟨(.t 13), .ext 9 1, none⟩,
      ⟨(.v 2), .asg (.t 12), none⟩,
      ⟨(.v 3), .asg (.t 13), none⟩] none ⟨[], [], [], []⟩)
  (.seq (.reg 4 [] [
      ⟨(.t 14), .call 8 [], none⟩,
      ⟨(.t 15), .mv (.t 14), none⟩,
      ⟨(.t 16), .mv (.v 3), some (15, true)⟩,
      ⟨(.t 17), .pick (.t 15) (.t 16) (.c (.bool false)), none⟩,
      ⟨(.t 18), .mv (.t 17), none⟩,
      ⟨(.t 19), .mv (.v 2), some (18, true)⟩,
      ⟨(.t 20), .nilck (.t 19), some (18, true)⟩,
      ⟨(.t 21), .fa 0 (.t 20), some (18, true)⟩,
      ⟨(.t 22), .iaa 3 2 (.t 21) (.c (.int .i64 0)), some (18, true)⟩,
      ⟨(.t 23), .ld 3 true (.t 22), some (18, true)⟩,
      ⟨(.t 24), .call 16 [(.t 23)], some (18, true)⟩,
      ⟨(.t 25), .pick (.t 18) (.t 24) (.c (.bool false)), none⟩,
      ⟨(.t 26), .mv (.t 25), none⟩,
      ⟨(.t 27), .mv (.v 2), some (26, true)⟩,
      ⟨(.t 28), .nilck (.t 27), some (26, true)⟩,
      ⟨(.t 29), .fa 0 (.t 28), some (26, true)⟩,
      ⟨(.t 30), .iaa 3 2 (.t 29) (.c (.int .i64 1)), some (26, true)⟩,
      ⟨(.t 31), .ld 3 true (.t 30), some (26, true)⟩,
      ⟨(.t 32), .call 16 [(.t 31)], some (26, true)⟩,
      ⟨(.t 33), .pick (.t 26) (.t 32) (.c (.bool false)), none⟩,
      ⟨(.v 1), .asg (.t 33), none⟩] none ⟨[], [], [], []⟩)
  .ret))))
theorem c5 : compFn Try.prog 5 F5 = some (1, strip a5, [.v 1]) ∧ lexAll a5 = true := ⟨by kernel_rfl, by kernel_rfl⟩
/-- clusterlocks/clusterlockslaw25.LinkRounds -/
def F6 : Fr := ⟨122, [0, 2, 3, 4, 5, 6, 7]⟩
def a6 : ACode :=
  (.seq (.reg 0 [] [
      ⟨(.v 1), .asg (.c (.bool false)), none⟩] none ⟨[], [], [], []⟩)
  (.seq (.seq (.reg 1 [] [
      ⟨(.t 8), .mv (.v 0), none⟩,
      ⟨(.t 9), .call 26 [(.t 8)], none⟩,
      ⟨(.t 10), .un .not (.t 9), none⟩] none ⟨[], [], [], []⟩)
  (.cond (.t 10)
    (.seq (.reg 2 [] [
        ⟨(.t 11), .call 8 [], none⟩,
        ⟨(.v 1), .asg (.t 11), none⟩] none ⟨[], [], [], []⟩)
    .ret)
    .skip))
  (.seq (.reg 3 [] [
      ⟨(.t 13), .mv (.v 0), none⟩,
      ⟨(.t 14), .call 27 [(.t 13)], none⟩,
      ⟨(.t 12), .mv (.t 14), none⟩,
      ⟨(.t 15), .ext 12 0, none⟩,
      ⟨(.t 16), .ext 12 1, none⟩,
      ⟨(.v 2), .asg (.t 15), none⟩,
      ⟨(.v 3), .asg (.t 16), none⟩] none ⟨[], [], [], []⟩)
  (.seq (.seq (.reg 4 [] [
      ⟨(.t 17), .mv (.v 3), none⟩,
      ⟨(.t 18), .un .not (.t 17), none⟩] none ⟨[], [], [], []⟩)
  (.cond (.t 18)
    (.seq (.reg 5 [] [
        ⟨(.v 1), .asg (.c (.bool false)), none⟩] none ⟨[], [], [], []⟩)
    .ret)
    .skip))
  (.seq (.seq (.reg 6 [] [
      ⟨(.t 19), .mv (.v 2), none⟩,
      ⟨(.t 20), .nilck (.t 19), none⟩,
      ⟨(.t 21), .fa 8 (.t 20), none⟩,
      ⟨(.t 22), .iaa 1 2 (.t 21) (.c (.int .i64 0)), none⟩,
      ⟨(.t 23), .ld 1 false (.t 22), none⟩,
      ⟨(.t 24), .len (.t 23), none⟩,
      ⟨(.t 25), .mv (.v 2), none⟩,
      ⟨(.t 26), .nilck (.t 25), none⟩,
      ⟨(.t 27), .fa 8 (.t 26), none⟩,
      ⟨(.t 28), .iaa 1 2 (.t 27) (.c (.int .i64 1)), none⟩,
      ⟨(.t 29), .ld 1 false (.t 28), none⟩,
      ⟨(.t 30), .len (.t 29), none⟩,
      ⟨(.t 31), .bin .add (.t 24) (.t 30), none⟩,
      ⟨(.t 32), .bin .add (.t 31) (.c (.int .i64 1)), none⟩,
      ⟨(.v 4), .asg (.t 32), none⟩] (some [[], [0], [1], [2], [3], [4], [], [6], [7], [8], [9], [10], [5, 11], [12], [13, 0, 1, 2, 3, 4, 5, 6, 7, 8, 9, 10, 11, 12, 13]]) ⟨[], [], [], []⟩)
  (.block 0
    (.loop
      (.seq (.seq (.reg 7 [] [
          ⟨(.t 33), .mv (.v 4), none⟩,
          ⟨(.t 34), .bin .gtr (.t 33) (.c (.int .i64 0)), none⟩] none ⟨[], [], [], []⟩)
      (.cond (.t 34)
        .skip
        (.exit 0)))
      (.seq (.block 1
        (.seq (.reg 9 [] [
            ⟨(.v 5), .asg (.c (.int .i64 0)), none⟩] none ⟨[], [], [], []⟩)
        (.block 2
          (.loop
            (.seq (.seq (.reg 10 [] [
                ⟨(.t 37), .mv (.v 5), none⟩,
                ⟨(.t 38), .bin .lss (.t 37) (.c (.int .i64 2)), none⟩] none ⟨[], [], [], []⟩)
            (.cond (.t 38)
              .skip
              (.exit 2)))
            (.seq (.block 3
              (.seq (.block 4
                (.loop
                  (.seq (.seq (.reg 12 [] [
                      ⟨(.t 41), .mv (.v 2), none⟩,
                      ⟨(.t 42), .mv (.v 5), none⟩,
                      ⟨(.t 43), .nilck (.t 41), none⟩,
                      ⟨(.t 44), .fa 6 (.t 43), none⟩,
                      ⟨(.t 45), .iaa 1 2 (.t 44) (.t 42), none⟩,
                      ⟨(.t 46), .ld 1 false (.t 45), none⟩,
                      ⟨(.t 47), .len (.t 46), none⟩,
                      ⟨(.t 48), .bin .gtr (.t 47) (.c (.int .i64 0)), none⟩] none ⟨[], [], [], []⟩)
                  (.cond (.t 48)
                    .skip
                    (.exit 4)))
                  (.block 5
                    (.seq (.reg 13 [] [
                        ⟨(.t 49), .mv (.v 2), none⟩,
                        ⟨(.t 50), .mv (.v 5), none⟩,
                        ⟨(.t 51), .call 28 [(.t 49), (.t 50), (.c (.int .i64 0))], none⟩,
                        ⟨(.t 52), .un .not (.t 51), none⟩] none ⟨[], [], [], []⟩)
                    (.cond (.t 52)
                      (.seq (.reg 14 [] [
                          ⟨(.v 1), .asg (.c (.bool false)), none⟩] none ⟨[], [], [], []⟩)
                      .ret)
                      .skip))))))
              (.seq (.seq (.reg 15 [] [
                  ⟨(.t 53), .mv (.v 2), none⟩,
                  ⟨(.t 54), .mv (.v 5), none⟩,
                  ⟨(.t 55), .call 29 [(.t 53), (.t 54)], none⟩,
                  ⟨(.t 56), .un .not (.t 55), none⟩] none ⟨[], [], [], []⟩)
              (.cond (.t 56)
                (.seq (.reg 16 [] [
                    ⟨(.v 1), .asg (.c (.bool false)), none⟩] none ⟨[], [], [], []⟩)
                .ret)
                .skip))
              (.block 6
                (.loop
                  (.seq (.seq (.reg 17 [] [
                      ⟨(.t 57), .mv (.v 2), none⟩,
                      ⟨(.t 58), .mv (.v 5), none⟩,
                      ⟨(.t 59), .nilck (.t 57), none⟩,
                      ⟨(.t 60), .fa 6 (.t 59), none⟩,
                      ⟨(.t 61), .iaa 1 2 (.t 60) (.t 58), none⟩,
                      ⟨(.t 62), .ld 1 false (.t 61), none⟩,
                      ⟨(.t 63), .len (.t 62), none⟩,
                      ⟨(.t 64), .bin .gtr (.t 63) (.c (.int .i64 0)), none⟩] none ⟨[], [], [], []⟩)
                  (.cond (.t 64)
                    .skip
                    (.exit 6)))
                  (.block 7
                    (.seq (.reg 18 [] [
                        ⟨(.t 65), .mv (.v 2), none⟩,
                        ⟨(.t 66), .mv (.v 5), none⟩,
                        ⟨(.t 67), .call 28 [(.t 65), (.t 66), (.c (.int .i64 0))], none⟩,
                        ⟨(.t 68), .un .not (.t 67), none⟩] none ⟨[], [], [], []⟩)
                    (.cond (.t 68)
                      (.seq (.reg 19 [] [
                          ⟨(.v 1), .asg (.c (.bool false)), none⟩] none ⟨[], [], [], []⟩)
                      .ret)
                      .skip)))))))))
            (.reg 11 [] [
                ⟨(.t 39), .mv (.v 5), none⟩,
                ⟨(.t 40), .bin .add (.t 39) (.c (.int .i64 1)), none⟩,
                ⟨(.v 5), .asg (.t 40), none⟩] none ⟨[], [], [], []⟩)))))))
      (.reg 8 [] [
          ⟨(.t 35), .mv (.v 4), none⟩,
          ⟨(.t 36), .bin .sub (.t 35) (.c (.int .i64 1)), none⟩,
          ⟨(.v 4), .asg (.t 36), none⟩] none ⟨[], [], [], []⟩))))))
  (.seq (.seq (.reg 20 [] [
      ⟨(.v 6), .asg (.c (.int .i64 0)), none⟩] none ⟨[], [], [], []⟩)
  (.block 8
    (.loop
      (.seq (.seq (.reg 21 [] [
          ⟨(.t 69), .mv (.v 6), none⟩,
          ⟨(.t 70), .bin .lss (.t 69) (.c (.int .i64 2)), none⟩] none ⟨[], [], [], []⟩)
      (.cond (.t 70)
        .skip
        (.exit 8)))
      (.seq (.block 9
        (.seq (.reg 23 [] [
            ⟨(.t 73), .mv (.v 2), none⟩,
            ⟨(.t 74), .mv (.v 6), none⟩,
            ⟨(.t 75), .nilck (.t 73), none⟩,
            ⟨(.t 76), .fa 10 (.t 75), none⟩,
            ⟨(.t 77), .iaa 1 2 (.t 76) (.t 74), none⟩,
            ⟨(.t 78), .ld 1 false (.t 77), none⟩,
            ⟨(.t 79), .b2s (.t 78), none⟩,
            ⟨(.t 80), .mv (.v 2), none⟩,
            ⟨(.t 81), .mv (.v 6), none⟩,
            ⟨(.t 82), .nilck (.t 80), none⟩,
            ⟨(.t 83), .fa 8 (.t 82), none⟩,
            ⟨(.t 84), .iaa 1 2 (.t 83) (.t 81), none⟩,
            ⟨(.t 85), .ld 1 false (.t 84), none⟩,
            ⟨(.t 86), .b2s (.t 85), none⟩,
            ⟨(.t 87), .bin .neq (.t 79) (.t 86), none⟩,
            ⟨(.t 88), .mv (.t 87), none⟩,
            ⟨(.t 89), .mv (.v 2), some (88, false)⟩,
            ⟨(.t 90), .mv (.v 6), some (88, false)⟩,
            ⟨(.t 91), .nilck (.t 89), some (88, false)⟩,
            ⟨(.t 92), .fa 0 (.t 91), some (88, false)⟩,
            ⟨(.t 93), .iaa 3 2 (.t 92) (.t 90), some (88, false)⟩,
            ⟨(.t 94), .fa 1 (.t 93), some (88, false)⟩,
            ⟨(.t 95), .ld 1 false (.t 94), some (88, false)⟩,
            ⟨(.t 96), .len (.t 95), some (88, false)⟩,
            ⟨(.t 97), .bin .neq (.t 96) (.c (.int .i64 0)), some (88, false)⟩,
            ⟨(.t 98), .pick (.t 88) (.c (.bool true)) (.t 97), none⟩,
            ⟨(.t 99), .mv (.t 98), none⟩,
            ⟨(.t 100), .mv (.v 2), some (99, false)⟩,
            ⟨(.t 101), .mv (.v 6), some (99, false)⟩,
            ⟨(.t 102), .nilck (.t 100), some (99, false)⟩,
            ⟨(.t 103), .fa 0 (.t 102), some (99, false)⟩,
            ⟨(.t 104), .iaa 3 2 (.t 103) (.t 101), some (99, false)⟩,
            ⟨(.t 105), .fa 0 (.t 104), some (99, false)⟩,
            ⟨(.t 106), .ld 1 false (.t 105), some (99, false)⟩,
            ⟨(.t 107), .mv (.v 2), some (99, false)⟩,
            ⟨(.t 108), .mv (.v 6), some (99, false)⟩,
            ⟨(.t 109), .nilck (.t 107), some (99, false)⟩,
            ⟨(.t 110), .fa 8 (.t 109), some (99, false)⟩,
            ⟨(.t 111), .iaa 1 2 (.t 110) (.t 108), some (99, false)⟩,
            ⟨(.t 112), .ld 1 false (.t 111), some (99, false)⟩,
            ⟨(.t 113), .len (.t 112), some (99, false)⟩,
            ⟨(.t 114), .bin .add (.t 113) (.c (.int .i64 1)), some (99, false)⟩,
            ⟨(.t 115), .bin .neq (.t 106) (.t 114), some (99, false)⟩,
            ⟨(.t 116), .pick (.t 99) (.c (.bool true)) (.t 115), none⟩] (some [[], [], [0], [2], [3, 1], [4], [5], [], [], [7], [9], [10, 8], [11], [12], [6, 13], [14], [15], [15], [16, 15], [18, 15], [19, 17, 15], [20, 15], [21, 15], [22, 15], [23, 15], [15, 24], [25, 15], [26], [26], [27, 26], [29, 26], [30, 28, 26], [31, 26], [32, 26], [26], [26], [34, 26], [36, 26], [37, 35, 26], [38, 26], [39, 26], [40, 26], [33, 41, 26], [26, 42]]) ⟨[88, 99], [], [], []⟩)
        (.cond (.t 116)
          (.seq (.reg 24 [] [
              ⟨(.v 1), .asg (.c (.bool false)), none⟩] none ⟨[], [], [], []⟩)
          .ret)
          .skip)))
      (.reg 22 [] [
          ⟨(.t 71), .mv (.v 6), none⟩,
          ⟨(.t 72), .bin .add (.t 71) (.c (.int .i64 1)), none⟩,
          ⟨(.v 6), .asg (.t 72), none⟩] none ⟨[], [], [], []⟩))))))
  (.seq (.reg 25 [] [
      ⟨(.t 117), .call 8 [], none⟩,
      ⟨(.t 118), .mv (.t 117), none⟩,
      ⟨(.t 119), .mv (.v 2), some (118, true)⟩,
      ⟨(.t 120), .call 30 [(.t 119)], some (118, true)⟩,
      ⟨(.t 121), .pick (.t 118) (.t 120) (.c (.bool false)), none⟩,
      ⟨(.v 1), .asg (.t 121), none⟩] none ⟨[], [], [], []⟩)
  .ret)))))))
theorem c6 : compFn Try.prog 6 F6 = some (1, strip a6, [.v 1]) ∧ lexAll a6 = true := ⟨by kernel_rfl, by kernel_rfl⟩
/-- clusterlocks/clusterlockslaw25.short -/
def F7 : Fr := ⟨20, [0, 2, 4]⟩
def a7 : ACode :=
  (.seq (.reg 0 [] [
      ⟨(.t 1), .box 3 (.v 0), none⟩,
      ⟨(.v 1), .asg (.c (.bool false)), none⟩] none ⟨[], [], [], []⟩)
  (.seq (.seq (.reg 1 [] [
      ⟨(.t 5), .fa 1 (.t 1), none⟩,
      ⟨(.t 6), .ld 1 false (.t 5), none⟩,
      ⟨(.t 7), .len (.t 6), none⟩,
      ⟨(.t 8), .bin .gtr (.t 7) (.c (.int .i64 20)), none⟩] none ⟨[], [], [], []⟩)
  (.cond (.t 8)
    (.seq (.reg 2 [] [
        ⟨(.v 1), .asg (.c (.bool false)), none⟩] none ⟨[], [], [], []⟩)
    .ret)
    .skip))
  (.seq (.seq (.reg 3 [] [
      ⟨(.t 9), .fa 1 (.t 1), none⟩,
      ⟨(.t 10), .ld 1 false (.t 9), none⟩,
      ⟨(.t 11), .len (.t 10), none⟩,
      ⟨(.t 12), .mv (.c (.int .i64 0)), none⟩] none ⟨[], [], [], []⟩)
  (.block 0
    (.loop
      (.seq (.reg 4 [] [
          ⟨(.t 13), .bin .lss (.t 12) (.t 11), none⟩] none ⟨[], [], [], []⟩)
      (.seq (.cond (.t 13)
        .skip
        (.exit 0))
      (.seq (.block 1
        (.seq (.reg 5 [] [
            ⟨(.t 14), .ia 1 (.t 10) (.t 12), none⟩,
            ⟨(.t 15), .ld 1 false (.t 14), none⟩,
            ⟨(.v 2), .asg (.t 15), none⟩] none ⟨[], [], [], []⟩)
        (.seq (.reg 6 [] [
            ⟨(.t 16), .mv (.v 2), none⟩,
            ⟨(.t 17), .len (.t 16), none⟩,
            ⟨(.t 18), .bin .gtr (.t 17) (.c (.int .i64 5000)), none⟩] none ⟨[], [], [], []⟩)
        (.cond (.t 18)
          (.seq (.reg 7 [] [
              ⟨(.v 1), .asg (.c (.bool false)), none⟩] none ⟨[], [], [], []⟩)
          .ret)
          .skip))))
      (.reg 8 [] [
          ⟨(.t 19), .bin .add (.t 12) (.c (.int .i64 1)), none⟩,
          ⟨(.t 12), .mv (.t 19), none⟩] none ⟨[], [], [], []⟩)))))))
  (.seq (.reg 9 [] [
      ⟨(.v 1), .asg (.c (.bool true)), none⟩] none ⟨[], [], [], []⟩)
  .ret))))
theorem c7 : compFn Try.prog 7 F7 = some (1, strip a7, [.v 1]) ∧ lexAll a7 = true := ⟨by kernel_rfl, by kernel_rfl⟩
/-- clusterlocks/clusterlockslaw25.awake -/
def F8 : Fr := ⟨88, [0, 2, 3, 5, 6, 7, 9, 10, 11]⟩
def a8 : ACode :=
  (.seq (.reg 0 [] [
      ⟨(.v 0), .asg (.c (.bool false)), none⟩] none ⟨[], [], [], []⟩)
  (.seq (.reg 1 [] [
      ⟨(.t 13), .call 19 [], none⟩,
      ⟨(.t 14), .bls 5 1 (.int .u8 0) 1 [(0, (.c (.int .u8 109)))], none⟩,
      ⟨(.t 15), .cvb (.t 14), none⟩,
      ⟨(.t 16), .call 9 [(.t 13), (.t 15)], none⟩,
      ⟨(.t 12), .mv (.t 16), none⟩,
      ⟨(.t 17), .ext 12 0, none⟩,
      ⟨(.t 18), .ext 12 1, none⟩,
      ⟨(.t 1), .allo [(.int .i64 0), (.slice none 0 0), (.int .i64 0)], none⟩,
      ⟨.none, .st 3 (.t 1) (.t 17), none⟩,
      ⟨(.v 1), .asg (.t 18), none⟩] none ⟨[], [], [], []⟩)
  (.seq (.reg 2 [.freeze (.cell 0 1)] [
      ⟨(.t 19), .ld 3 true (.t 1), none⟩,
      ⟨(.t 20), .call 13 [(.t 19)], none⟩,
      ⟨(.v 2), .asg (.t 20), none⟩] none ⟨[], [], [], []⟩)
  (.seq (.seq (.reg 3 [] [
      ⟨(.t 21), .mv (.v 1), none⟩,
      ⟨(.t 22), .bin .neq (.t 21) (.c (.int .i64 0)), none⟩,
      ⟨(.t 23), .mv (.t 22), none⟩,
      ⟨(.t 24), .mv (.v 2), some (23, false)⟩,
      ⟨(.t 25), .len (.t 24), some (23, false)⟩,
      ⟨(.t 26), .bin .neq (.t 25) (.c (.int .i64 1)), some (23, false)⟩,
      ⟨(.t 27), .pick (.t 23) (.c (.bool true)) (.t 26), none⟩,
      ⟨(.t 28), .mv (.t 27), none⟩,
      ⟨(.t 29), .mv (.v 2), some (28, false)⟩,
      ⟨(.t 30), .ia 3 (.t 29) (.c (.int .i64 0)), some (28, false)⟩,
      ⟨(.t 31), .fa 0 (.t 30), some (28, false)⟩,
      ⟨(.t 32), .ld 1 false (.t 31), some (28, false)⟩,
      ⟨(.t 33), .bin .neq (.t 32) (.c (.int .i64 1)), some (28, false)⟩,
      ⟨(.t 34), .pick (.t 28) (.c (.bool true)) (.t 33), none⟩,
      ⟨(.t 35), .mv (.t 34), none⟩,
      ⟨(.t 36), .call 19 [], some (35, false)⟩,
      ⟨(.t 37), .call 13 [(.t 36)], some (35, false)⟩,
      ⟨(.t 38), .len (.t 37), some (35, false)⟩,
      ⟨(.t 39), .bin .neq (.t 38) (.c (.int .i64 1)), some (35, false)⟩,
      ⟨(.t 40), .pick (.t 35) (.c (.bool true)) (.t 39), none⟩] none ⟨[], [], [], []⟩)
  (.cond (.t 40)
    (.seq (.reg 4 [] [
        ⟨(.v 0), .asg (.c (.bool false)), none⟩] none ⟨[], [], [], []⟩)
    .ret)
    .skip))
  (.seq (.reg 5 [] [
      ⟨(.t 42), .call 19 [], none⟩,
      ⟨(.t 43), .mv (.v 2), none⟩,
      ⟨(.t 44), .ia 3 (.t 43) (.c (.int .i64 0)), none⟩,
      ⟨(.t 45), .ld 3 true (.t 44), none⟩,
      ⟨(.t 46), .call 11 [(.t 42), (.t 45)], none⟩,
      ⟨(.t 41), .mv (.t 46), none⟩,
      ⟨(.t 47), .ext 41 0, none⟩,
      ⟨(.t 48), .ext 41 1, none⟩,
      ⟨(.t 49), .ext 41 2, none⟩,
      ⟨(.t 50), .ext 41 3, none⟩,
      ⟨(.t 4), .allo [(.int .i64 0), (.slice none 0 0), (.int .i64 0)], none⟩,
      ⟨.none, .st 3 (.t 4) (.t 47), none⟩,
      ⟨(.v 3), .asg (.t 48), none⟩,
      ⟨(.v 4), .asg (.t 49), none⟩,
      ⟨(.v 5), .asg (.t 50), none⟩] (some [[], [], [1], [2], [0, 3, 0], [4], [5], [5], [5], [5], [], [10, 6, 4, 0, 1, 2, 3, 4, 5, 6, 10], [7, 11, 0, 1, 2, 3, 4, 5, 6, 7, 10, 11], [8, 12, 0, 1, 2, 3, 4, 5, 6, 7, 8, 10, 11, 12], [9, 13, 0, 1, 2, 3, 4, 5, 6, 7, 8, 9, 10, 11, 12, 13]]) ⟨[], [7, 8, 9], [], []⟩)
  (.seq (.reg 6 [.freeze (.cell 1 1)] [
      ⟨(.t 52), .ld 3 true (.t 4), none⟩,
      ⟨(.t 53), .mv (.v 2), none⟩,
      ⟨(.t 54), .ia 3 (.t 53) (.c (.int .i64 0)), none⟩,
      ⟨(.t 55), .ld 3 true (.t 54), none⟩,
      ⟨(.t 56), .call 11 [(.t 52), (.t 55)], none⟩,
      ⟨(.t 51), .mv (.t 56), none⟩,
      ⟨(.t 57), .ext 51 0, none⟩,
      ⟨(.t 58), .ext 51 1, none⟩,
      ⟨(.t 59), .ext 51 2, none⟩,
      ⟨(.t 60), .ext 51 3, none⟩,
      ⟨(.t 8), .allo [(.int .i64 0), (.slice none 0 0), (.int .i64 0)], none⟩,
      ⟨.none, .st 3 (.t 8) (.t 57), none⟩,
      ⟨(.v 6), .asg (.t 58), none⟩,
      ⟨(.v 7), .asg (.t 59), none⟩,
      ⟨(.v 8), .asg (.t 60), none⟩] (some [[], [], [1], [2], [0, 3], [4], [5], [5], [5], [5], [], [10, 6, 4, 0, 1, 2, 3, 4, 5, 6, 10], [7, 11, 0, 1, 2, 3, 4, 5, 6, 7, 10, 11], [8, 12, 0, 1, 2, 3, 4, 5, 6, 7, 8, 10, 11, 12], [9, 13, 0, 1, 2, 3, 4, 5, 6, 7, 8, 9, 10, 11, 12, 13]]) ⟨[], [7, 8, 9], [], []⟩)
  (.seq (.reg 7 [] [
      ⟨(.t 61), .mv (.v 5), none⟩,
      ⟨(.t 62), .bin .eql (.t 61) (.c (.int .i64 0)), none⟩,
      ⟨(.t 63), .mv (.t 62), none⟩,
      ⟨(.t 64), .mv (.v 8), some (63, true)⟩,
      ⟨(.t 65), .bin .eql (.t 64) (.c (.int .i64 0)), some (63, true)⟩,
      ⟨(.t 66), .pick (.t 63) (.t 65) (.c (.bool false)), none⟩,
      ⟨(.t 67), .mv (.t 66), none⟩,
      ⟨(.t 68), .mv (.v 3), some (67, true)⟩,
      ⟨(.t 69), .b2s (.t 68), some (67, true)⟩,
      ⟨(.t 70), .bin .eql (.t 69) (.c (.string (ByteArray.mk #[109]))), some (67, true)⟩,
      ⟨(.t 71), .pick (.t 67) (.t 70) (.c (.bool false)), none⟩,
      ⟨(.t 72), .mv (.t 71), none⟩,
      ⟨(.t 73), .mv (.v 4), some (72, true)⟩,
      ⟨(.t 74), .pick (.t 72) (.t 73) (.c (.bool false)), none⟩,
      ⟨(.t 75), .mv (.t 74), none⟩,
      ⟨(.t 76), .mv (.v 7), some (75, true)⟩,
      ⟨(.t 77), .un .not (.t 76), some (75, true)⟩,
      ⟨(.t 78), .pick (.t 75) (.t 77) (.c (.bool false)), none⟩,
      ⟨(.t 79), .mv (.t 78), none⟩,
      ⟨(.t 80), .fa 2 (.t 4), some (79, true)⟩,
      ⟨(.t 81), .ld 1 false (.t 80), some (79, true)⟩,
      ⟨(.t 82), .bin .eql (.t 81) (.c (.int .i64 1)), some (79, true)⟩,
      ⟨(.t 83), .pick (.t 79) (.t 82) (.c (.bool false)), none⟩,
      ⟨(.t 84), .mv (.t 83), none⟩,
      ⟨(.t 85), .ld 3 true (.t 4), some (84, true)⟩,
      ⟨(.t 86), .call 16 [(.t 85)], some (84, true)⟩,
      ⟨(.t 87), .pick (.t 84) (.t 86) (.c (.bool false)), none⟩,
      ⟨(.v 0), .asg (.t 87), none⟩] none ⟨[], [], [], []⟩)
  .ret)))))))
theorem c8 : compFn Try.prog 8 F8 = some (0, strip a8, [.v 0]) ∧ lexAll a8 = true := ⟨by kernel_rfl, by kernel_rfl⟩
/-- clusterlocks/link.Offer -/
def F9 : Fr := ⟨34, [0, 1, 5]⟩
def a9 : ACode :=
  (.seq (.reg 0 [] [
      ⟨(.t 2), .box 3 (.v 0), none⟩,
      ⟨(.t 4), .allo [(.int .i64 0), (.slice none 0 0), (.int .i64 0)], none⟩,
      ⟨(.v 2), .asg (.c (.int .i64 0)), none⟩] none ⟨[], [], [], []⟩)
  (.seq (.seq (.reg 1 [] [
      ⟨(.t 6), .ld 3 true (.t 2), none⟩,
      ⟨(.t 7), .call 16 [(.t 6)], none⟩,
      ⟨(.t 8), .un .not (.t 7), none⟩] none ⟨[], [], [], []⟩)
  (.cond (.t 8)
    (.seq (.reg 2 [] [
        ⟨(.t 9), .bld [(.int .i64 0), (.slice none 0 0), (.int .i64 0)] [], none⟩,
        ⟨.none, .st 3 (.t 4) (.t 9), none⟩,
        ⟨(.v 2), .asg (.c (.int .i64 2)), none⟩] none ⟨[], [], [], []⟩)
    .ret)
    .skip))
  (.seq (.seq (.reg 3 [] [
      ⟨(.t 10), .mv (.v 1), none⟩,
      ⟨(.t 11), .call 31 [(.t 10)], none⟩,
      ⟨(.t 12), .un .not (.t 11), none⟩] none ⟨[], [], [], []⟩)
  (.cond (.t 12)
    (.seq (.reg 4 [] [
        ⟨(.t 13), .bld [(.int .i64 0), (.slice none 0 0), (.int .i64 0)] [], none⟩,
        ⟨.none, .st 3 (.t 4) (.t 13), none⟩,
        ⟨(.v 2), .asg (.c (.int .i64 1)), none⟩] none ⟨[], [], [], []⟩)
    .ret)
    .skip))
  (.seq (.seq (.reg 5 [] [
      ⟨(.t 14), .fa 0 (.t 2), none⟩,
      ⟨(.t 15), .ld 1 false (.t 14), none⟩,
      ⟨(.t 16), .fa 1 (.t 2), none⟩,
      ⟨(.t 17), .ld 1 false (.t 16), none⟩,
      ⟨(.t 18), .len (.t 17), none⟩,
      ⟨(.t 19), .bin .add (.t 15) (.t 18), none⟩,
      ⟨(.t 20), .bin .geq (.t 19) (.c (.int .i64 1073741824)), none⟩] none ⟨[], [], [], []⟩)
  (.cond (.t 20)
    (.seq (.reg 6 [] [
        ⟨(.t 21), .bld [(.int .i64 0), (.slice none 0 0), (.int .i64 0)] [], none⟩,
        ⟨.none, .st 3 (.t 4) (.t 21), none⟩,
        ⟨(.v 2), .asg (.c (.int .i64 16)), none⟩] none ⟨[], [], [], []⟩)
    .ret)
    .skip))
  (.seq (.reg 7 [] [
      ⟨(.t 22), .fa 0 (.t 2), none⟩,
      ⟨(.t 23), .ld 1 false (.t 22), none⟩,
      ⟨(.t 24), .fa 1 (.t 2), none⟩,
      ⟨(.t 25), .ld 1 false (.t 24), none⟩,
      ⟨(.t 26), .call 32 [(.t 25)], none⟩,
      ⟨(.t 27), .mv (.v 1), none⟩,
      ⟨(.t 28), .call 33 [(.t 27)], none⟩,
      ⟨(.t 29), .bls 25 1 (.slice none 0 0) 1 [(0, (.t 28))], none⟩,
      ⟨(.t 30), .app 25 1 24 (.t 26) (.t 29), none⟩,
      ⟨(.t 31), .fa 2 (.t 2), none⟩,
      ⟨(.t 32), .ld 1 false (.t 31), none⟩,
      ⟨(.t 33), .bld [(.int .i64 0), (.slice none 0 0), (.int .i64 0)] [(0, 1, (.t 23)), (1, 1, (.t 30)), (2, 1, (.t 32))], none⟩,
      ⟨.none, .st 3 (.t 4) (.t 33), none⟩,
      ⟨(.v 2), .asg (.c (.int .i64 0)), none⟩] (some [[], [0], [], [2], [3], [], [5, 4], [6], [4, 7, 6], [], [9], [1, 8, 10], [11, 8, 0, 1, 2, 3, 4, 5, 6, 7, 8, 9, 10, 11], [12, 0, 1, 2, 3, 4, 5, 6, 7, 8, 9, 10, 11, 12]]) ⟨[2], [], [], []⟩)
  .ret)))))
theorem c9 : compFn Try.prog 9 F9 = some (2, strip a9, [.c 4 3 true, .v 2]) ∧ lexAll a9 = true := ⟨by kernel_rfl, by kernel_rfl⟩
/-- clusterlocks/clusterlocksref25.Offer -/
def F10 : Fr := ⟨36, [0, 1, 5, 6, 11, 16]⟩
def a10 : ACode :=
  (.seq (.reg 0 [] [
      ⟨(.t 2), .box 3 (.v 0), none⟩,
      ⟨(.t 4), .allo [(.int .i64 0), (.slice none 0 0), (.int .i64 0)], none⟩,
      ⟨(.v 2), .asg (.c (.int .i64 0)), none⟩] none ⟨[], [], [], []⟩)
  (.seq (.block 0
    (.seq (.reg 1 [] [
        ⟨(.t 7), .ld 3 true (.t 2), none⟩,
        ⟨(.t 8), .call 17 [(.t 7)], none⟩,
        ⟨(.t 9), .un .not (.t 8), none⟩,
        ⟨(.v 3), .asg (.t 9), none⟩] none ⟨[], [], [], []⟩)
    (.cond (.v 3)
      (.seq (.reg 2 [] [
          ⟨(.t 10), .bld [(.int .i64 0), (.slice none 0 0), (.int .i64 0)] [], none⟩,
          ⟨.none, .st 3 (.t 4) (.t 10), none⟩,
          ⟨(.v 2), .asg (.c (.int .i64 2)), none⟩] none ⟨[], [], [], []⟩)
      .ret)
      (.seq (.reg 3 [] [
          ⟨(.t 12), .mv (.v 1), none⟩,
          ⟨(.t 13), .call 34 [(.t 12)], none⟩,
          ⟨(.t 14), .un .not (.t 13), none⟩,
          ⟨(.v 4), .asg (.t 14), none⟩] none ⟨[], [], [], []⟩)
      (.cond (.v 4)
        (.seq (.reg 4 [] [
            ⟨(.t 15), .bld [(.int .i64 0), (.slice none 0 0), (.int .i64 0)] [], none⟩,
            ⟨.none, .st 3 (.t 4) (.t 15), none⟩,
            ⟨(.v 2), .asg (.c (.int .i64 1)), none⟩] none ⟨[], [], [], []⟩)
        .ret)
        (.seq (.reg 5 [] [
            ⟨(.t 17), .fa 0 (.t 2), none⟩,
            ⟨(.t 18), .ld 1 false (.t 17), none⟩,
            ⟨(.t 19), .fa 1 (.t 2), none⟩,
            ⟨(.t 20), .ld 1 false (.t 19), none⟩,
            ⟨(.t 21), .len (.t 20), none⟩,
            ⟨(.t 22), .bin .add (.t 18) (.t 21), none⟩,
            ⟨(.t 23), .bin .add (.t 22) (.c (.int .i64 1)), none⟩,
            ⟨(.t 24), .bin .gtr (.t 23) (.c (.int .i64 1073741824)), none⟩,
            ⟨(.v 5), .asg (.t 24), none⟩] none ⟨[], [], [], []⟩)
        (.cond (.v 5)
          (.seq (.reg 6 [] [
              ⟨(.t 25), .bld [(.int .i64 0), (.slice none 0 0), (.int .i64 0)] [], none⟩,
              ⟨.none, .st 3 (.t 4) (.t 25), none⟩,
              ⟨(.v 2), .asg (.c (.int .i64 16)), none⟩] none ⟨[], [], [], []⟩)
          .ret)
          .skip)))))))
  (.seq (.reg 7 [] [
      ⟨(.t 26), .ld 3 true (.t 2), none⟩,
      ⟨(.t 27), .call 35 [(.t 26)], none⟩,
      ⟨.none, .st 3 (.t 2) (.t 27), none⟩] none ⟨[], [], [], []⟩)
  (.seq (.reg 8 [.lend (.cell 0 1) 33] [
      ⟨(.t 28), .fa 1 (.t 2), none⟩,
      ⟨(.t 29), .ld 1 false (.t 28), none⟩,
      ⟨(.t 30), .mv (.v 1), none⟩,
      ⟨(.t 31), .app 5 1 1 (.c (.slice none 0 0)) (.t 30), none⟩,
      ⟨(.t 32), .bls 25 1 (.slice none 0 0) 1 [(0, (.t 31))], none⟩,
      ⟨(.t 33), .app 25 1 24 (.t 29) (.t 32), none⟩,
      ⟨(.t 34), .fa 1 (.t 2), none⟩,
      ⟨.none, .st 1 (.t 34) (.t 33), none⟩] (some [[], [0], [], [2], [3], [1, 4, 3], [0, 1, 2, 3, 4, 5], [6, 5, 5, 0, 1, 2, 3, 4, 5]]) ⟨[], [], [], []⟩)
  (.seq (.reg 9 [.lend (.cell 0 0) 35, .lend (.cell 0 1) 35, .lend (.cell 0 2) 35] [
      ⟨(.t 35), .ld 3 true (.t 2), none⟩,
      ⟨.none, .st 3 (.t 4) (.t 35), none⟩,
      ⟨(.v 2), .asg (.c (.int .i64 0)), none⟩] none ⟨[], [], [], []⟩)
  .ret)))))
theorem c10 : compFn Try.prog 10 F10 = some (2, strip a10, [.c 4 3 true, .v 2]) ∧ lexAll a10 = true := ⟨by kernel_rfl, by kernel_rfl⟩
/-- clusterlocks/link.Hear -/
def F11 : Fr := ⟨71, [0, 1, 5, 6, 7, 8, 10, 11]⟩
def a11 : ACode :=
  (.seq (.reg 0 [] [
      ⟨(.t 2), .box 3 (.v 0), none⟩,
      ⟨(.t 3), .box 3 (.v 1), none⟩,
      ⟨(.t 4), .allo [(.int .i64 0), (.slice none 0 0), (.int .i64 0)], none⟩,
      ⟨(.v 2), .asg (.c (.slice none 0 0)), none⟩,
      ⟨(.v 3), .asg (.c (.bool false)), none⟩,
      ⟨(.v 4), .asg (.c (.int .i64 0)), none⟩] none ⟨[], [], [], []⟩)
  (.scope 0 (.seq (.seq (.reg 1 [] [
      ⟨(.t 12), .ld 3 true (.t 2), none⟩,
      ⟨(.t 13), .call 16 [(.t 12)], none⟩,
      ⟨(.t 14), .un .not (.t 13), none⟩] none ⟨[], [], [], []⟩)
  (.cond (.t 14)
    (.seq (.reg 2 [] [
        ⟨(.t 15), .bld [(.int .i64 0), (.slice none 0 0), (.int .i64 0)] [], none⟩,
        ⟨.none, .st 3 (.t 4) (.t 15), none⟩,
        ⟨(.v 2), .asg (.c (.slice none 0 0)), none⟩,
        ⟨(.v 3), .asg (.c (.bool false)), none⟩,
        ⟨(.v 4), .asg (.c (.int .i64 2)), none⟩] none ⟨[], [], [], []⟩)
    .ret)
    .skip))
  (.seq (.seq (.reg 3 [] [
      ⟨(.t 16), .ld 3 true (.t 3), none⟩,
      ⟨(.t 17), .call 36 [(.t 16)], none⟩,
      ⟨(.t 18), .un .not (.t 17), none⟩] none ⟨[], [], [], []⟩)
  (.cond (.t 18)
    (.seq (.reg 4 [] [
        ⟨(.t 19), .bld [(.int .i64 0), (.slice none 0 0), (.int .i64 0)] [], none⟩,
        ⟨.none, .st 3 (.t 4) (.t 19), none⟩,
        ⟨(.v 2), .asg (.c (.slice none 0 0)), none⟩,
        ⟨(.v 3), .asg (.c (.bool false)), none⟩,
        ⟨(.v 4), .asg (.c (.int .i64 1)), none⟩] none ⟨[], [], [], []⟩)
    .ret)
    .skip))
  (.seq (.seq (.reg 5 [] [
      ⟨(.t 20), .fa 1 (.t 3), none⟩,
      ⟨(.t 21), .ld 1 false (.t 20), none⟩,
      ⟨(.t 22), .fa 0 (.t 2), none⟩,
      ⟨(.t 23), .ld 1 false (.t 22), none⟩,
      ⟨(.t 24), .fa 1 (.t 2), none⟩,
      ⟨(.t 25), .ld 1 false (.t 24), none⟩,
      ⟨(.t 26), .len (.t 25), none⟩,
      ⟨(.t 27), .bin .add (.t 23) (.t 26), none⟩,
      ⟨(.t 28), .bin .geq (.t 21) (.t 27), none⟩] none ⟨[], [], [], []⟩)
  (.cond (.t 28)
    (.seq (.reg 6 [] [
        ⟨(.t 29), .bld [(.int .i64 0), (.slice none 0 0), (.int .i64 0)] [], none⟩,
        ⟨.none, .st 3 (.t 4) (.t 29), none⟩,
        ⟨(.v 2), .asg (.c (.slice none 0 0)), none⟩,
        ⟨(.v 3), .asg (.c (.bool false)), none⟩,
        ⟨(.v 4), .asg (.c (.int .i64 18)), none⟩] none ⟨[], [], [], []⟩)
    .ret)
    .skip))
  (.seq (.reg 7 [] [
      ⟨(.t 30), .fa 1 (.t 3), none⟩,
      ⟨(.t 31), .ld 1 false (.t 30), none⟩,
      ⟨(.t 32), .fa 0 (.t 2), none⟩,
      ⟨(.t 33), .ld 1 false (.t 32), none⟩,
      ⟨(.t 34), .bin .sub (.t 31) (.t 33), none⟩,
      ⟨(.t 35), .bin .add (.t 34) (.c (.int .i64 1)), none⟩,
      ⟨(.t 36), .mnx true (.c (.int .i64 0)) (.t 35), none⟩,
      ⟨(.v 5), .asg (.t 36), none⟩] none ⟨[], [], [], []⟩)
  (.seq (.reg 8 [] [
      ⟨(.t 37), .fa 0 (.t 2), none⟩,
      ⟨(.t 38), .ld 1 false (.t 37), none⟩,
      ⟨(.t 39), .mv (.v 5), none⟩,
      ⟨(.t 40), .bin .add (.t 38) (.t 39), none⟩,
      ⟨(.t 41), .fa 1 (.t 2), none⟩,
      ⟨(.t 42), .ld 1 false (.t 41), none⟩,
      ⟨(.t 43), .mv (.v 5), none⟩,
      ⟨(.t 44), .fa 1 (.t 2), none⟩,
      ⟨(.t 45), .ld 1 false (.t 44), none⟩,
      ⟨(.t 46), .len (.t 45), none⟩,
      ⟨(.t 47), .fa 1 (.t 2), none⟩,
      ⟨(.t 48), .ld 1 false (.t 47), none⟩,
      ⟨(.t 49), .len (.t 48), none⟩,
      ⟨(.t 50), .sl 25 1 (.t 42) (some (.t 43)) (some (.t 46)) (some (.t 49)), none⟩,
      ⟨(.t 51), .call 32 [(.t 50)], none⟩,
      ⟨(.t 52), .fa 2 (.t 2), none⟩,
      ⟨(.t 53), .ld 1 false (.t 52), none⟩,
      ⟨(.t 54), .bld [(.int .i64 0), (.slice none 0 0), (.int .i64 0)] [(0, 1, (.t 40)), (1, 1, (.t 51)), (2, 1, (.t 53))], none⟩,
      ⟨(.t 9), .allo [(.int .i64 0), (.slice none 0 0), (.int .i64 0)], none⟩,
      ⟨.none, .st 3 (.t 9) (.t 54), none⟩] (some [[], [0], [], [1, 2], [], [4], [], [], [7], [8], [], [10], [11], [5, 6, 9, 12], [13], [], [15], [3, 14, 16], [], [18, 17, 14, 0, 1, 2, 3, 4, 5, 6, 7, 8, 9, 10, 11, 12, 13, 14, 15, 16, 17, 18]]) ⟨[2], [], [], []⟩)
  (.seq (.reg 9 [] [
      ⟨(.v 6), .asg (.c (.slice none 0 0)), none⟩] none ⟨[], [], [], []⟩)
  (.seq (.reg 10 [] [
      ⟨(.v 7), .asg (.c (.bool false)), none⟩] none ⟨[], [], [], []⟩)
  (.seq (.seq (.reg 11 [] [
      ⟨(.t 55), .fa 0 (.t 3), none⟩,
      ⟨(.t 56), .ld 1 false (.t 55), none⟩,
      ⟨(.t 57), .fa 2 (.t 2), none⟩,
      ⟨(.t 58), .ld 1 false (.t 57), none⟩,
      ⟨(.t 59), .bin .add (.t 58) (.c (.int .i64 1)), none⟩,
      ⟨(.t 60), .bin .neq (.t 56) (.t 59), none⟩] none ⟨[], [], [], []⟩)
  (.cond (.t 60)
    (.goto 0)
    .skip))
  (.seq (.reg 12 [] [
      ⟨(.t 61), .fa 2 (.t 9), none⟩,
      ⟨(.t 62), .ld 1 false (.t 61), none⟩,
      ⟨(.t 63), .bin .add (.t 62) (.c (.int .i64 1)), none⟩,
      ⟨(.t 64), .fa 2 (.t 9), none⟩,
      ⟨.none, .st 1 (.t 64) (.t 63), none⟩] none ⟨[], [], [], []⟩)
  (.seq (.reg 13 [] [
      ⟨(.t 65), .fa 2 (.t 3), none⟩,
      ⟨(.t 66), .ld 1 false (.t 65), none⟩,
      ⟨(.t 67), .call 33 [(.t 66)], none⟩,
      ⟨(.v 6), .asg (.t 67), none⟩] none ⟨[], [], [], []⟩)
  (.seq (.reg 14 [] [
      ⟨(.v 7), .asg (.c (.bool true)), none⟩] none ⟨[], [], [], []⟩)
  (.seq (.label 0)
  (.seq (.reg 15 [.freeze (.var 6), .lend (.cell 3 1) 68] [
      ⟨(.t 68), .ld 3 true (.t 9), none⟩,
      ⟨(.t 69), .mv (.v 6), none⟩,
      ⟨(.t 70), .mv (.v 7), none⟩,
      ⟨.none, .st 3 (.t 4) (.t 68), none⟩,
      ⟨(.v 2), .asg (.t 69), none⟩,
      ⟨(.v 3), .asg (.t 70), none⟩,
      ⟨(.v 4), .asg (.c (.int .i64 0)), none⟩] none ⟨[], [], [], []⟩)
  .ret)))))))))))))
  (.seq .skip
  (.seq (.reg 15 [.freeze (.var 6), .lend (.cell 3 1) 68] [
      ⟨(.t 68), .ld 3 true (.t 9), none⟩,
      ⟨(.t 69), .mv (.v 6), none⟩,
      ⟨(.t 70), .mv (.v 7), none⟩,
      ⟨.none, .st 3 (.t 4) (.t 68), none⟩,
      ⟨(.v 2), .asg (.t 69), none⟩,
      ⟨(.v 3), .asg (.t 70), none⟩,
      ⟨(.v 4), .asg (.c (.int .i64 0)), none⟩] none ⟨[], [], [], []⟩)
  .ret))))
theorem c11 : compFn Try.prog 11 F11 = some (2, strip a11, [.c 4 3 true, .v 2, .v 3, .v 4]) ∧ lexAll a11 = true := ⟨by kernel_rfl, by kernel_rfl⟩
/-- clusterlocks/clusterlocksref25.Hear -/
def F12 : Fr := ⟨59, [0, 1, 5, 6, 7, 8, 13, 18]⟩
def a12 : ACode :=
  (.seq (.reg 0 [] [
      ⟨(.t 2), .box 3 (.v 0), none⟩,
      ⟨(.t 3), .box 3 (.v 1), none⟩,
      ⟨(.t 4), .allo [(.int .i64 0), (.slice none 0 0), (.int .i64 0)], none⟩,
      ⟨(.v 2), .asg (.c (.slice none 0 0)), none⟩,
      ⟨(.v 3), .asg (.c (.bool false)), none⟩,
      ⟨(.v 4), .asg (.c (.int .i64 0)), none⟩] none ⟨[], [], [], []⟩)
  (.seq (.block 0
    (.seq (.reg 1 [] [
        ⟨(.t 9), .ld 3 true (.t 2), none⟩,
        ⟨(.t 10), .call 17 [(.t 9)], none⟩,
        ⟨(.t 11), .un .not (.t 10), none⟩,
        ⟨(.v 5), .asg (.t 11), none⟩] none ⟨[], [], [], []⟩)
    (.cond (.v 5)
      (.seq (.reg 2 [] [
          ⟨(.t 12), .bld [(.int .i64 0), (.slice none 0 0), (.int .i64 0)] [], none⟩,
          ⟨.none, .st 3 (.t 4) (.t 12), none⟩,
          ⟨(.v 2), .asg (.c (.slice none 0 0)), none⟩,
          ⟨(.v 3), .asg (.c (.bool false)), none⟩,
          ⟨(.v 4), .asg (.c (.int .i64 2)), none⟩] none ⟨[], [], [], []⟩)
      .ret)
      (.seq (.reg 3 [] [
          ⟨(.t 14), .ld 3 true (.t 3), none⟩,
          ⟨(.t 15), .call 37 [(.t 14)], none⟩,
          ⟨(.t 16), .un .not (.t 15), none⟩,
          ⟨(.v 6), .asg (.t 16), none⟩] none ⟨[], [], [], []⟩)
      (.cond (.v 6)
        (.seq (.reg 4 [] [
            ⟨(.t 17), .bld [(.int .i64 0), (.slice none 0 0), (.int .i64 0)] [], none⟩,
            ⟨.none, .st 3 (.t 4) (.t 17), none⟩,
            ⟨(.v 2), .asg (.c (.slice none 0 0)), none⟩,
            ⟨(.v 3), .asg (.c (.bool false)), none⟩,
            ⟨(.v 4), .asg (.c (.int .i64 1)), none⟩] none ⟨[], [], [], []⟩)
        .ret)
        (.seq (.reg 5 [] [
            ⟨(.t 19), .fa 1 (.t 3), none⟩,
            ⟨(.t 20), .ld 1 false (.t 19), none⟩,
            ⟨(.t 21), .fa 0 (.t 2), none⟩,
            ⟨(.t 22), .ld 1 false (.t 21), none⟩,
            ⟨(.t 23), .fa 1 (.t 2), none⟩,
            ⟨(.t 24), .ld 1 false (.t 23), none⟩,
            ⟨(.t 25), .len (.t 24), none⟩,
            ⟨(.t 26), .bin .add (.t 22) (.t 25), none⟩,
            ⟨(.t 27), .bin .geq (.t 20) (.t 26), none⟩,
            ⟨(.v 7), .asg (.t 27), none⟩] none ⟨[], [], [], []⟩)
        (.cond (.v 7)
          (.seq (.reg 6 [] [
              ⟨(.t 28), .bld [(.int .i64 0), (.slice none 0 0), (.int .i64 0)] [], none⟩,
              ⟨.none, .st 3 (.t 4) (.t 28), none⟩,
              ⟨(.v 2), .asg (.c (.slice none 0 0)), none⟩,
              ⟨(.v 3), .asg (.c (.bool false)), none⟩,
              ⟨(.v 4), .asg (.c (.int .i64 18)), none⟩] none ⟨[], [], [], []⟩)
          .ret)
          .skip)))))))
  (.seq (.reg 7 [] [
      ⟨(.t 29), .ld 3 true (.t 2), none⟩,
      ⟨(.t 30), .call 35 [(.t 29)], none⟩,
      ⟨.none, .st 3 (.t 2) (.t 30), none⟩] none ⟨[], [], [], []⟩)
  (.seq (.block 1
    (.loop
      (.seq (.seq (.reg 8 [.freeze (.cell 0 1)] [
          ⟨(.t 31), .fa 1 (.t 3), none⟩,
          ⟨(.t 32), .ld 1 false (.t 31), none⟩,
          ⟨(.t 33), .fa 0 (.t 2), none⟩,
          ⟨(.t 34), .ld 1 false (.t 33), none⟩,
          ⟨(.t 35), .bin .geq (.t 32) (.t 34), none⟩] none ⟨[], [], [], []⟩)
      (.cond (.t 35)
        .skip
        (.exit 1)))
      (.block 2
        (.seq (.reg 9 [] [
            ⟨(.t 36), .fa 1 (.t 2), none⟩,
            ⟨(.t 37), .ld 1 false (.t 36), none⟩,
            ⟨(.t 38), .sl 25 1 (.t 37) (some (.c (.int .i64 1))) none none, none⟩,
            ⟨(.t 39), .fa 1 (.t 2), none⟩,
            ⟨.none, .st 1 (.t 39) (.t 38), none⟩] none ⟨[], [], [], []⟩)
        (.reg 10 [] [
            ⟨(.t 40), .fa 0 (.t 2), none⟩,
            ⟨(.t 41), .ld 1 false (.t 40), none⟩,
            ⟨(.t 42), .bin .add (.t 41) (.c (.int .i64 1)), none⟩,
            ⟨(.t 43), .fa 0 (.t 2), none⟩,
            ⟨.none, .st 1 (.t 43) (.t 42), none⟩] none ⟨[], [], [], []⟩))))))
  (.seq (.seq (.reg 11 [] [
      ⟨(.t 44), .fa 0 (.t 3), none⟩,
      ⟨(.t 45), .ld 1 false (.t 44), none⟩,
      ⟨(.t 46), .fa 2 (.t 2), none⟩,
      ⟨(.t 47), .ld 1 false (.t 46), none⟩,
      ⟨(.t 48), .bin .add (.t 47) (.c (.int .i64 1)), none⟩,
      ⟨(.t 49), .bin .neq (.t 45) (.t 48), none⟩] none ⟨[], [], [], []⟩)
  (.cond (.t 49)
    (.seq (.reg 12 [] [
        ⟨(.t 50), .ld 3 true (.t 2), none⟩,
        ⟨.none, .st 3 (.t 4) (.t 50), none⟩,
        ⟨(.v 2), .asg (.c (.slice none 0 0)), none⟩,
        ⟨(.v 3), .asg (.c (.bool false)), none⟩,
        ⟨(.v 4), .asg (.c (.int .i64 0)), none⟩] none ⟨[], [], [], []⟩)
    .ret)
    .skip))
  (.seq (.reg 13 [] [
      ⟨(.t 51), .fa 2 (.t 2), none⟩,
      ⟨(.t 52), .ld 1 false (.t 51), none⟩,
      ⟨(.t 53), .bin .add (.t 52) (.c (.int .i64 1)), none⟩,
      ⟨(.t 54), .fa 2 (.t 2), none⟩,
      ⟨.none, .st 1 (.t 54) (.t 53), none⟩] none ⟨[], [], [], []⟩)
  (.seq (.reg 14 [] [
      ⟨(.t 55), .ld 3 true (.t 2), none⟩,
      ⟨(.t 56), .fa 2 (.t 3), none⟩,
      ⟨(.t 57), .ld 1 false (.t 56), none⟩,
      ⟨(.t 58), .app 5 1 1 (.c (.slice none 0 0)) (.t 57), none⟩,
      ⟨.none, .st 3 (.t 4) (.t 55), none⟩,
      ⟨(.v 2), .asg (.t 58), none⟩,
      ⟨(.v 3), .asg (.c (.bool true)), none⟩,
      ⟨(.v 4), .asg (.c (.int .i64 0)), none⟩] (some [[], [], [1], [2], [0, 3, 0], [3, 4, 0, 1, 2, 3, 4], [5, 0, 1, 2, 3, 4, 5], [6, 0, 1, 2, 3, 4, 5, 6]]) ⟨[], [], [], []⟩)
  .ret)))))))
theorem c12 : compFn Try.prog 12 F12 = some (2, strip a12, [.c 4 3 true, .v 2, .v 3, .v 4]) ∧ lexAll a12 = true := ⟨by kernel_rfl, by kernel_rfl⟩
/-- clusterlocks/link.Packets -/
def F13 : Fr := ⟨41, [0, 2, 3, 4]⟩
def a13 : ACode :=
  (.seq (.reg 0 [] [
      ⟨(.t 1), .box 3 (.v 0), none⟩,
      ⟨(.v 1), .asg (.c (.slice none 0 0)), none⟩] none ⟨[], [], [], []⟩)
  (.seq (.seq (.reg 1 [] [
      ⟨(.t 5), .ld 3 true (.t 1), none⟩,
      ⟨(.t 6), .call 16 [(.t 5)], none⟩,
      ⟨(.t 7), .un .not (.t 6), none⟩] none ⟨[], [], [], []⟩)
  (.cond (.t 7)
    (.seq (.reg 2 [] [
        ⟨(.v 1), .asg (.c (.slice none 0 0)), none⟩] none ⟨[], [], [], []⟩)
    .ret)
    .skip))
  (.seq (.seq (.reg 3 [] [
      ⟨(.t 8), .fa 1 (.t 1), none⟩,
      ⟨(.t 9), .ld 1 false (.t 8), none⟩,
      ⟨(.t 10), .len (.t 9), none⟩,
      ⟨(.t 11), .bin .eql (.t 10) (.c (.int .i64 0)), none⟩] none ⟨[], [], [], []⟩)
  (.cond (.t 11)
    (.seq (.reg 4 [] [
        ⟨(.t 12), .fa 2 (.t 1), none⟩,
        ⟨(.t 13), .ld 1 false (.t 12), none⟩,
        ⟨(.t 14), .bld [(.int .i64 0), (.int .i64 0), (.slice none 0 0)] [(1, 1, (.t 13))], none⟩,
        ⟨(.t 15), .bls 27 3 (.agg #[(.int .i64 0), (.int .i64 0), (.slice none 0 0)]) 1 [(0, (.t 14))], none⟩,
        ⟨(.v 1), .asg (.t 15), none⟩] none ⟨[], [], [], []⟩)
    .ret)
    .skip))
  (.seq (.reg 5 [] [
      ⟨(.v 2), .asg (.c (.slice none 0 0)), none⟩] none ⟨[], [], [], []⟩)
  (.seq (.seq (.reg 6 [.own (.var 2) 27 3] [
      ⟨(.t 16), .fa 1 (.t 1), none⟩,
      ⟨(.t 17), .ld 1 false (.t 16), none⟩,
      ⟨(.t 18), .len (.t 17), none⟩,
      ⟨(.t 19), .mnx false (.t 18) (.c (.int .i64 4)), none⟩,
      ⟨(.t 20), .mv (.c (.int .i64 0)), none⟩] none ⟨[], [], [], []⟩)
  (.block 0
    (.loop
      (.seq (.reg 7 [] [
          ⟨(.t 21), .bin .lss (.t 20) (.t 19), none⟩] none ⟨[], [], [], []⟩)
      (.seq (.cond (.t 21)
        .skip
        (.exit 0))
      (.seq (.block 1
        (.seq (.reg 8 [] [
            ⟨(.t 22), .mv (.t 20), none⟩,
            ⟨(.v 3), .asg (.t 22), none⟩] none ⟨[], [], [], []⟩)
        (.reg 9 [.lend (.var 2) 38] [
            ⟨(.t 23), .mv (.v 2), none⟩,
            ⟨(.t 24), .fa 0 (.t 1), none⟩,
            ⟨(.t 25), .ld 1 false (.t 24), none⟩,
            ⟨(.t 26), .mv (.v 3), none⟩,
            ⟨(.t 27), .bin .add (.t 25) (.t 26), none⟩,
            ⟨(.t 28), .fa 2 (.t 1), none⟩,
            ⟨(.t 29), .ld 1 false (.t 28), none⟩,
            ⟨(.t 30), .fa 1 (.t 1), none⟩,
            ⟨(.t 31), .ld 1 false (.t 30), none⟩,
            ⟨(.t 32), .mv (.v 3), none⟩,
            ⟨(.t 33), .ia 1 (.t 31) (.t 32), none⟩,
            ⟨(.t 34), .ld 1 false (.t 33), none⟩,
            ⟨(.t 35), .call 33 [(.t 34)], none⟩,
            ⟨(.t 36), .bld [(.int .i64 0), (.int .i64 0), (.slice none 0 0)] [(0, 1, (.t 27)), (1, 1, (.t 29)), (2, 1, (.t 35))], none⟩,
            ⟨(.t 37), .bls 27 3 (.agg #[(.int .i64 0), (.int .i64 0), (.slice none 0 0)]) 1 [(0, (.t 36))], none⟩,
            ⟨(.t 38), .app 27 3 40 (.t 23) (.t 37), none⟩,
            ⟨(.v 2), .asg (.t 38), none⟩] (some [[], [], [1], [], [2, 3], [], [5], [], [7], [], [8, 9], [10], [11], [4, 6, 12], [13], [0, 14, 12], [15, 15, 0, 1, 2, 3, 4, 5, 6, 7, 8, 9, 10, 11, 12, 13, 14, 15]]) ⟨[1], [], [], []⟩)))
      (.reg 10 [] [
          ⟨(.t 39), .bin .add (.t 20) (.c (.int .i64 1)), none⟩,
          ⟨(.t 20), .mv (.t 39), none⟩] none ⟨[], [], [], []⟩)))))))
  (.seq (.reg 11 [.lend (.var 2) 40] [
      ⟨(.t 40), .mv (.v 2), none⟩,
      ⟨(.v 1), .asg (.t 40), none⟩] none ⟨[], [], [], []⟩)
  .ret))))))
theorem c13 : compFn Try.prog 13 F13 = some (1, strip a13, [.v 1]) ∧ lexAll a13 = true := ⟨by kernel_rfl, by kernel_rfl⟩
/-- clusterlocks/clusterlocksref25.Packets -/
def F14 : Fr := ⟨44, [0, 2, 3, 4]⟩
def a14 : ACode :=
  (.seq (.reg 0 [] [
      ⟨(.t 1), .box 3 (.v 0), none⟩,
      ⟨(.v 1), .asg (.c (.slice none 0 0)), none⟩] none ⟨[], [], [], []⟩)
  (.seq (.seq (.reg 1 [] [
      ⟨(.t 5), .ld 3 true (.t 1), none⟩,
      ⟨(.t 6), .call 17 [(.t 5)], none⟩,
      ⟨(.t 7), .un .not (.t 6), none⟩] none ⟨[], [], [], []⟩)
  (.cond (.t 7)
    (.seq (.reg 2 [] [
        ⟨(.v 1), .asg (.c (.slice none 0 0)), none⟩] none ⟨[], [], [], []⟩)
    .ret)
    .skip))
  (.seq (.seq (.reg 3 [] [
      ⟨(.t 8), .fa 1 (.t 1), none⟩,
      ⟨(.t 9), .ld 1 false (.t 8), none⟩,
      ⟨(.t 10), .len (.t 9), none⟩,
      ⟨(.t 11), .bin .eql (.t 10) (.c (.int .i64 0)), none⟩] none ⟨[], [], [], []⟩)
  (.cond (.t 11)
    (.seq (.reg 4 [] [
        ⟨(.t 12), .fa 2 (.t 1), none⟩,
        ⟨(.t 13), .ld 1 false (.t 12), none⟩,
        ⟨(.t 14), .bld [(.int .i64 0), (.int .i64 0), (.slice none 0 0)] [(1, 1, (.t 13))], none⟩,
        ⟨(.t 15), .bls 27 3 (.agg #[(.int .i64 0), (.int .i64 0), (.slice none 0 0)]) 1 [(0, (.t 14))], none⟩,
        ⟨(.v 1), .asg (.t 15), none⟩] none ⟨[], [], [], []⟩)
    .ret)
    .skip))
  (.seq (.reg 5 [] [
      ⟨(.v 2), .asg (.c (.slice none 0 0)), none⟩] none ⟨[], [], [], []⟩)
  (.seq (.seq (.reg 6 [.own (.var 2) 27 3] [
      ⟨(.v 3), .asg (.c (.int .i64 0)), none⟩] none ⟨[], [], [], []⟩)
  (.block 0
    (.loop
      (.seq (.seq (.reg 7 [] [
          ⟨(.t 16), .mv (.v 3), none⟩,
          ⟨(.t 17), .fa 1 (.t 1), none⟩,
          ⟨(.t 18), .ld 1 false (.t 17), none⟩,
          ⟨(.t 19), .len (.t 18), none⟩,
          ⟨(.t 20), .bin .lss (.t 16) (.t 19), none⟩,
          ⟨(.t 21), .mv (.t 20), none⟩,
          ⟨(.t 22), .mv (.v 3), some (21, true)⟩,
          ⟨(.t 23), .bin .lss (.t 22) (.c (.int .i64 4)), some (21, true)⟩,
          ⟨(.t 24), .pick (.t 21) (.t 23) (.c (.bool false)), none⟩] none ⟨[], [], [], []⟩)
      (.cond (.t 24)
        .skip
        (.exit 0)))
      (.seq (.block 1
        (.reg 9 [.lend (.var 2) 42] [
            ⟨(.t 27), .mv (.v 2), none⟩,
            ⟨(.t 28), .fa 0 (.t 1), none⟩,
            ⟨(.t 29), .ld 1 false (.t 28), none⟩,
            ⟨(.t 30), .mv (.v 3), none⟩,
            ⟨(.t 31), .bin .add (.t 29) (.t 30), none⟩,
            ⟨(.t 32), .fa 2 (.t 1), none⟩,
            ⟨(.t 33), .ld 1 false (.t 32), none⟩,
            ⟨(.t 34), .fa 1 (.t 1), none⟩,
            ⟨(.t 35), .ld 1 false (.t 34), none⟩,
            ⟨(.t 36), .mv (.v 3), none⟩,
            ⟨(.t 37), .ia 1 (.t 35) (.t 36), none⟩,
            ⟨(.t 38), .ld 1 false (.t 37), none⟩,
            ⟨(.t 39), .app 5 1 1 (.c (.slice none 0 0)) (.t 38), none⟩,
            ⟨(.t 40), .bld [(.int .i64 0), (.int .i64 0), (.slice none 0 0)] [(0, 1, (.t 31)), (1, 1, (.t 33)), (2, 1, (.t 39))], none⟩,
            ⟨(.t 41), .bls 27 3 (.agg #[(.int .i64 0), (.int .i64 0), (.slice none 0 0)]) 1 [(0, (.t 40))], none⟩,
            ⟨(.t 42), .app 27 3 40 (.t 27) (.t 41), none⟩,
            ⟨(.v 2), .asg (.t 42), none⟩] (some [[], [], [1], [], [2, 3], [], [5], [], [7], [], [8, 9], [10], [11], [4, 6, 12], [13], [0, 14, 12], [15, 15, 0, 1, 2, 3, 4, 5, 6, 7, 8, 9, 10, 11, 12, 13, 14, 15]]) ⟨[1], [], [], []⟩))
      (.reg 8 [] [
          ⟨(.t 25), .mv (.v 3), none⟩,
          ⟨(.t 26), .bin .add (.t 25) (.c (.int .i64 1)), none⟩,
          ⟨(.v 3), .asg (.t 26), none⟩] none ⟨[], [], [], []⟩))))))
  (.seq (.reg 10 [.lend (.var 2) 43] [
      ⟨(.t 43), .mv (.v 2), none⟩,
      ⟨(.v 1), .asg (.t 43), none⟩] none ⟨[], [], [], []⟩)
  .ret))))))
theorem c14 : compFn Try.prog 14 F14 = some (1, strip a14, [.v 1]) ∧ lexAll a14 = true := ⟨by kernel_rfl, by kernel_rfl⟩
/-- clusterlocks/clusterlocksref25.Same -/
def F15 : Fr := ⟨24, [0, 1, 4]⟩
def a15 : ACode :=
  (.seq (.reg 0 [] [
      ⟨(.t 2), .box 3 (.v 0), none⟩,
      ⟨(.t 3), .box 3 (.v 1), none⟩,
      ⟨(.v 2), .asg (.c (.bool false)), none⟩] none ⟨[], [], [], []⟩)
  (.seq (.reg 1 [] [
      ⟨(.t 5), .fa 0 (.t 2), none⟩,
      ⟨(.t 6), .ld 1 false (.t 5), none⟩,
      ⟨(.t 7), .fa 0 (.t 3), none⟩,
      ⟨(.t 8), .ld 1 false (.t 7), none⟩,
      ⟨(.t 9), .bin .eql (.t 6) (.t 8), none⟩,
      ⟨(.t 10), .mv (.t 9), none⟩,
      ⟨(.t 11), .fa 2 (.t 2), some (10, true)⟩,
      ⟨(.t 12), .ld 1 false (.t 11), some (10, true)⟩,
      ⟨(.t 13), .fa 2 (.t 3), some (10, true)⟩,
      ⟨(.t 14), .ld 1 false (.t 13), some (10, true)⟩,
      ⟨(.t 15), .bin .eql (.t 12) (.t 14), some (10, true)⟩,
      ⟨(.t 16), .pick (.t 10) (.t 15) (.c (.bool false)), none⟩,
      ⟨(.t 17), .mv (.t 16), none⟩,
      ⟨(.t 18), .fa 1 (.t 2), some (17, true)⟩,
      ⟨(.t 19), .ld 1 false (.t 18), some (17, true)⟩,
      ⟨(.t 20), .fa 1 (.t 3), some (17, true)⟩,
      ⟨(.t 21), .ld 1 false (.t 20), some (17, true)⟩,
      ⟨(.t 22), .call 38 [(.t 19), (.t 21)], some (17, true)⟩,
      ⟨(.t 23), .pick (.t 17) (.t 22) (.c (.bool false)), none⟩,
      ⟨(.v 2), .asg (.t 23), none⟩] none ⟨[], [], [], []⟩)
  .ret))
theorem c15 : compFn Try.prog 15 F15 = some (2, strip a15, [.v 2]) ∧ lexAll a15 = true := ⟨by kernel_rfl, by kernel_rfl⟩
/-- clusterlocks/link.Valid -/
def F16 : Fr := ⟨41, [0, 2, 4]⟩
def a16 : ACode :=
  (.seq (.reg 0 [] [
      ⟨(.t 1), .box 3 (.v 0), none⟩,
      ⟨(.v 1), .asg (.c (.bool false)), none⟩] none ⟨[], [], [], []⟩)
  (.seq (.seq (.reg 1 [] [
      ⟨(.t 5), .fa 0 (.t 1), none⟩,
      ⟨(.t 6), .ld 1 false (.t 5), none⟩,
      ⟨(.t 7), .bin .lss (.t 6) (.c (.int .i64 1)), none⟩,
      ⟨(.t 8), .mv (.t 7), none⟩,
      ⟨(.t 9), .fa 0 (.t 1), some (8, false)⟩,
      ⟨(.t 10), .ld 1 false (.t 9), some (8, false)⟩,
      ⟨(.t 11), .bin .gtr (.t 10) (.c (.int .i64 1073741824)), some (8, false)⟩,
      ⟨(.t 12), .pick (.t 8) (.c (.bool true)) (.t 11), none⟩,
      ⟨(.t 13), .mv (.t 12), none⟩,
      ⟨(.t 14), .fa 1 (.t 1), some (13, false)⟩,
      ⟨(.t 15), .ld 1 false (.t 14), some (13, false)⟩,
      ⟨(.t 16), .len (.t 15), some (13, false)⟩,
      ⟨(.t 17), .fa 0 (.t 1), some (13, false)⟩,
      ⟨(.t 18), .ld 1 false (.t 17), some (13, false)⟩,
      ⟨(.t 19), .bin .sub (.c (.int .i64 1073741824)) (.t 18), some (13, false)⟩,
      ⟨(.t 20), .bin .gtr (.t 16) (.t 19), some (13, false)⟩,
      ⟨(.t 21), .pick (.t 13) (.c (.bool true)) (.t 20), none⟩] none ⟨[], [], [], []⟩)
  (.cond (.t 21)
    (.seq (.reg 2 [] [
        ⟨(.v 1), .asg (.c (.bool false)), none⟩] none ⟨[], [], [], []⟩)
    .ret)
    .skip))
  (.seq (.seq (.reg 3 [] [
      ⟨(.t 22), .fa 1 (.t 1), none⟩,
      ⟨(.t 23), .ld 1 false (.t 22), none⟩,
      ⟨(.t 24), .len (.t 23), none⟩,
      ⟨(.t 25), .mv (.c (.int .i64 0)), none⟩] none ⟨[], [], [], []⟩)
  (.block 0
    (.loop
      (.seq (.reg 4 [] [
          ⟨(.t 26), .bin .lss (.t 25) (.t 24), none⟩] none ⟨[], [], [], []⟩)
      (.seq (.cond (.t 26)
        .skip
        (.exit 0))
      (.seq (.block 1
        (.seq (.reg 5 [] [
            ⟨(.t 27), .ia 1 (.t 23) (.t 25), none⟩,
            ⟨(.t 28), .ld 1 false (.t 27), none⟩,
            ⟨(.v 2), .asg (.t 28), none⟩] none ⟨[], [], [], []⟩)
        (.seq (.reg 6 [] [
            ⟨(.t 29), .mv (.v 2), none⟩,
            ⟨(.t 30), .call 31 [(.t 29)], none⟩,
            ⟨(.t 31), .un .not (.t 30), none⟩] none ⟨[], [], [], []⟩)
        (.cond (.t 31)
          (.seq (.reg 7 [] [
              ⟨(.v 1), .asg (.c (.bool false)), none⟩] none ⟨[], [], [], []⟩)
          .ret)
          .skip))))
      (.reg 8 [] [
          ⟨(.t 32), .bin .add (.t 25) (.c (.int .i64 1)), none⟩,
          ⟨(.t 25), .mv (.t 32), none⟩] none ⟨[], [], [], []⟩)))))))
  (.seq (.reg 9 [] [
      ⟨(.t 33), .fa 2 (.t 1), none⟩,
      ⟨(.t 34), .ld 1 false (.t 33), none⟩,
      ⟨(.t 35), .bin .geq (.t 34) (.c (.int .i64 0)), none⟩,
      ⟨(.t 36), .mv (.t 35), none⟩,
      ⟨(.t 37), .fa 2 (.t 1), some (36, true)⟩,
      ⟨(.t 38), .ld 1 false (.t 37), some (36, true)⟩,
      ⟨(.t 39), .bin .leq (.t 38) (.c (.int .i64 1073741824)), some (36, true)⟩,
      ⟨(.t 40), .pick (.t 36) (.t 39) (.c (.bool false)), none⟩,
      ⟨(.v 1), .asg (.t 40), none⟩] none ⟨[], [], [], []⟩)
  .ret))))
theorem c16 : compFn Try.prog 16 F16 = some (1, strip a16, [.v 1]) ∧ lexAll a16 = true := ⟨by kernel_rfl, by kernel_rfl⟩
/-- clusterlocks/clusterlocksref25.Valid -/
def F17 : Fr := ⟨43, [0, 2, 4]⟩
def a17 : ACode :=
  (.seq (.reg 0 [] [
      ⟨(.t 1), .box 3 (.v 0), none⟩,
      ⟨(.v 1), .asg (.c (.bool false)), none⟩] none ⟨[], [], [], []⟩)
  (.seq (.seq (.reg 1 [] [
      ⟨(.t 5), .fa 0 (.t 1), none⟩,
      ⟨(.t 6), .ld 1 false (.t 5), none⟩,
      ⟨(.t 7), .bin .lss (.t 6) (.c (.int .i64 1)), none⟩,
      ⟨(.t 8), .mv (.t 7), none⟩,
      ⟨(.t 9), .fa 0 (.t 1), some (8, false)⟩,
      ⟨(.t 10), .ld 1 false (.t 9), some (8, false)⟩,
      ⟨(.t 11), .bin .gtr (.t 10) (.c (.int .i64 1073741824)), some (8, false)⟩,
      ⟨(.t 12), .pick (.t 8) (.c (.bool true)) (.t 11), none⟩,
      ⟨(.t 13), .mv (.t 12), none⟩,
      ⟨(.t 14), .fa 0 (.t 1), some (13, false)⟩,
      ⟨(.t 15), .ld 1 false (.t 14), some (13, false)⟩,
      ⟨(.t 16), .fa 1 (.t 1), some (13, false)⟩,
      ⟨(.t 17), .ld 1 false (.t 16), some (13, false)⟩,
      ⟨(.t 18), .len (.t 17), some (13, false)⟩,
      ⟨(.t 19), .bin .add (.t 15) (.t 18), some (13, false)⟩,
      ⟨(.t 20), .bin .gtr (.t 19) (.c (.int .i64 1073741824)), some (13, false)⟩,
      ⟨(.t 21), .pick (.t 13) (.c (.bool true)) (.t 20), none⟩,
      ⟨(.t 22), .mv (.t 21), none⟩,
      ⟨(.t 23), .fa 2 (.t 1), some (22, false)⟩,
      ⟨(.t 24), .ld 1 false (.t 23), some (22, false)⟩,
      ⟨(.t 25), .bin .lss (.t 24) (.c (.int .i64 0)), some (22, false)⟩,
      ⟨(.t 26), .pick (.t 22) (.c (.bool true)) (.t 25), none⟩,
      ⟨(.t 27), .mv (.t 26), none⟩,
      ⟨(.t 28), .fa 2 (.t 1), some (27, false)⟩,
      ⟨(.t 29), .ld 1 false (.t 28), some (27, false)⟩,
      ⟨(.t 30), .bin .gtr (.t 29) (.c (.int .i64 1073741824)), some (27, false)⟩,
      ⟨(.t 31), .pick (.t 27) (.c (.bool true)) (.t 30), none⟩] none ⟨[], [], [], []⟩)
  (.cond (.t 31)
    (.seq (.reg 2 [] [
        ⟨(.v 1), .asg (.c (.bool false)), none⟩] none ⟨[], [], [], []⟩)
    .ret)
    .skip))
  (.seq (.seq (.reg 3 [] [
      ⟨(.t 32), .fa 1 (.t 1), none⟩,
      ⟨(.t 33), .ld 1 false (.t 32), none⟩,
      ⟨(.t 34), .len (.t 33), none⟩,
      ⟨(.t 35), .mv (.c (.int .i64 0)), none⟩] none ⟨[], [], [], []⟩)
  (.block 0
    (.loop
      (.seq (.reg 4 [] [
          ⟨(.t 36), .bin .lss (.t 35) (.t 34), none⟩] none ⟨[], [], [], []⟩)
      (.seq (.cond (.t 36)
        .skip
        (.exit 0))
      (.seq (.block 1
        (.seq (.reg 5 [] [
            ⟨(.t 37), .ia 1 (.t 33) (.t 35), none⟩,
            ⟨(.t 38), .ld 1 false (.t 37), none⟩,
            ⟨(.v 2), .asg (.t 38), none⟩] none ⟨[], [], [], []⟩)
        (.seq (.reg 6 [] [
            ⟨(.t 39), .mv (.v 2), none⟩,
            ⟨(.t 40), .call 34 [(.t 39)], none⟩,
            ⟨(.t 41), .un .not (.t 40), none⟩] none ⟨[], [], [], []⟩)
        (.cond (.t 41)
          (.seq (.reg 7 [] [
              ⟨(.v 1), .asg (.c (.bool false)), none⟩] none ⟨[], [], [], []⟩)
          .ret)
          .skip))))
      (.reg 8 [] [
          ⟨(.t 42), .bin .add (.t 35) (.c (.int .i64 1)), none⟩,
          ⟨(.t 35), .mv (.t 42), none⟩] none ⟨[], [], [], []⟩)))))))
  (.seq (.reg 9 [] [
      ⟨(.v 1), .asg (.c (.bool true)), none⟩] none ⟨[], [], [], []⟩)
  .ret))))
theorem c17 : compFn Try.prog 17 F17 = some (1, strip a17, [.v 1]) ∧ lexAll a17 = true := ⟨by kernel_rfl, by kernel_rfl⟩
/-- clusterlocks/clusterlocksref25.SamePacket -/
def F18 : Fr := ⟨26, [0, 1, 4]⟩
def a18 : ACode :=
  (.seq (.reg 0 [] [
      ⟨(.t 2), .box 3 (.v 0), none⟩,
      ⟨(.t 3), .box 3 (.v 1), none⟩,
      ⟨(.v 2), .asg (.c (.bool false)), none⟩] none ⟨[], [], [], []⟩)
  (.seq (.reg 1 [] [
      ⟨(.t 5), .fa 0 (.t 2), none⟩,
      ⟨(.t 6), .ld 1 false (.t 5), none⟩,
      ⟨(.t 7), .fa 0 (.t 3), none⟩,
      ⟨(.t 8), .ld 1 false (.t 7), none⟩,
      ⟨(.t 9), .bin .eql (.t 6) (.t 8), none⟩,
      ⟨(.t 10), .mv (.t 9), none⟩,
      ⟨(.t 11), .fa 1 (.t 2), some (10, true)⟩,
      ⟨(.t 12), .ld 1 false (.t 11), some (10, true)⟩,
      ⟨(.t 13), .fa 1 (.t 3), some (10, true)⟩,
      ⟨(.t 14), .ld 1 false (.t 13), some (10, true)⟩,
      ⟨(.t 15), .bin .eql (.t 12) (.t 14), some (10, true)⟩,
      ⟨(.t 16), .pick (.t 10) (.t 15) (.c (.bool false)), none⟩,
      ⟨(.t 17), .mv (.t 16), none⟩,
      ⟨(.t 18), .fa 2 (.t 2), some (17, true)⟩,
      ⟨(.t 19), .ld 1 false (.t 18), some (17, true)⟩,
      ⟨(.t 20), .b2s (.t 19), some (17, true)⟩,
      ⟨(.t 21), .fa 2 (.t 3), some (17, true)⟩,
      ⟨(.t 22), .ld 1 false (.t 21), some (17, true)⟩,
      ⟨(.t 23), .b2s (.t 22), some (17, true)⟩,
      ⟨(.t 24), .bin .eql (.t 20) (.t 23), some (17, true)⟩,
      ⟨(.t 25), .pick (.t 17) (.t 24) (.c (.bool false)), none⟩,
      ⟨(.v 2), .asg (.t 25), none⟩] none ⟨[], [], [], []⟩)
  .ret))
theorem c18 : compFn Try.prog 18 F18 = some (2, strip a18, [.v 2]) ∧ lexAll a18 = true := ⟨by kernel_rfl, by kernel_rfl⟩
/-- clusterlocks/link.New -/
def F19 : Fr := ⟨2, []⟩
def a19 : ACode :=
  (.seq (.reg 0 [] [
      ⟨(.t 0), .allo [(.int .i64 0), (.slice none 0 0), (.int .i64 0)], none⟩] none ⟨[], [], [], []⟩)
  (.seq (.reg 1 [] [
      ⟨(.t 1), .bld [(.int .i64 0), (.slice none 0 0), (.int .i64 0)] [(0, 1, (.c (.int .i64 1)))], none⟩,
      ⟨.none, .st 3 (.t 0) (.t 1), none⟩] none ⟨[], [], [], []⟩)
  .ret))
theorem c19 : compFn Try.prog 19 F19 = some (0, strip a19, [.c 0 3 true]) ∧ lexAll a19 = true := ⟨by kernel_rfl, by kernel_rfl⟩
/-- clusterlocks/clusterlocksref25.New -/
def F20 : Fr := ⟨2, []⟩
def a20 : ACode :=
  (.seq (.reg 0 [] [
      ⟨(.t 0), .allo [(.int .i64 0), (.slice none 0 0), (.int .i64 0)], none⟩] none ⟨[], [], [], []⟩)
  (.seq (.reg 1 [] [
      ⟨(.t 1), .bld [(.int .i64 0), (.slice none 0 0), (.int .i64 0)] [(0, 1, (.c (.int .i64 1)))], none⟩,
      ⟨.none, .st 3 (.t 0) (.t 1), none⟩] none ⟨[], [], [], []⟩)
  .ret))
theorem c20 : compFn Try.prog 20 F20 = some (0, strip a20, [.c 0 3 true]) ∧ lexAll a20 = true := ⟨by kernel_rfl, by kernel_rfl⟩
/-- clusterlocks/clusterlocksmill.Mod -/
def F21 : Fr := ⟨16, [0, 1, 4]⟩
def a21 : ACode :=
  (.seq (.reg 0 [] [
      ⟨(.v 2), .asg (.c (.int .i64 0)), none⟩] none ⟨[], [], [], []⟩)
  (.seq (.seq (.reg 1 [] [
      ⟨(.t 5), .mv (.v 1), none⟩,
      ⟨(.t 6), .bin .lss (.t 5) (.c (.int .i64 1)), none⟩] none ⟨[], [], [], []⟩)
  (.cond (.t 6)
    (.seq (.reg 2 [] [
        ⟨(.v 2), .asg (.c (.int .i64 0)), none⟩] none ⟨[], [], [], []⟩)
    .ret)
    .skip))
  (.seq (.reg 3 [] [
      ⟨(.t 7), .mv (.v 0), none⟩,
      ⟨(.t 8), .mv (.v 1), none⟩,
      ⟨(.t 9), .bin .rem (.t 7) (.t 8), none⟩,
      ⟨(.v 0), .asg (.t 9), none⟩] none ⟨[], [], [], []⟩)
  (.seq (.seq (.reg 4 [] [
      ⟨(.t 10), .mv (.v 0), none⟩,
      ⟨(.t 11), .bin .lss (.t 10) (.c (.int .i64 0)), none⟩] none ⟨[], [], [], []⟩)
  (.cond (.t 11)
    (.reg 5 [] [
        ⟨(.t 12), .mv (.v 0), none⟩,
        ⟨(.t 13), .mv (.v 1), none⟩,
        ⟨(.t 14), .bin .add (.t 12) (.t 13), none⟩,
        ⟨(.v 0), .asg (.t 14), none⟩] none ⟨[], [], [], []⟩)
    .skip))
  (.seq (.reg 6 [] [
      ⟨(.t 15), .mv (.v 0), none⟩,
      ⟨(.v 2), .asg (.t 15), none⟩] none ⟨[], [], [], []⟩)
  .ret)))))
theorem c21 : compFn Try.prog 21 F21 = some (2, strip a21, [.v 2]) ∧ lexAll a21 = true := ⟨by kernel_rfl, by kernel_rfl⟩
/-- clusterlocks/link.Encode -/
def F22 : Fr := ⟨24, [0, 2, 3, 4]⟩
def a22 : ACode :=
  (.seq (.reg 0 [] [
      ⟨(.t 1), .box 3 (.v 0), none⟩,
      ⟨(.v 1), .asg (.c (.slice none 0 0)), none⟩,
      ⟨(.v 2), .asg (.c (.int .i64 0)), none⟩] none ⟨[], [], [], []⟩)
  (.seq (.seq (.reg 1 [] [
      ⟨(.t 5), .ld 3 true (.t 1), none⟩,
      ⟨(.t 6), .call 36 [(.t 5)], none⟩,
      ⟨(.t 7), .un .not (.t 6), none⟩] none ⟨[], [], [], []⟩)
  (.cond (.t 7)
    (.seq (.reg 2 [] [
        ⟨(.v 1), .asg (.c (.slice none 0 0)), none⟩,
        ⟨(.v 2), .asg (.c (.int .i64 2)), none⟩] none ⟨[], [], [], []⟩)
    .ret)
    .skip))
  (.seq (.reg 3 [] [
      ⟨(.t 8), .fa 0 (.t 1), none⟩,
      ⟨(.t 9), .ld 1 false (.t 8), none⟩,
      ⟨(.t 10), .conv .u64 (.t 9), none⟩,
      ⟨(.t 11), .call 39 [(.c (.slice none 0 0)), (.t 10)], none⟩,
      ⟨(.v 3), .asg (.t 11), none⟩] none ⟨[], [], [], []⟩)
  (.seq (.reg 4 [.freeze (.var 3)] [
      ⟨(.t 12), .mv (.v 3), none⟩,
      ⟨(.t 13), .fa 1 (.t 1), none⟩,
      ⟨(.t 14), .ld 1 false (.t 13), none⟩,
      ⟨(.t 15), .conv .u64 (.t 14), none⟩,
      ⟨(.t 16), .call 39 [(.t 12), (.t 15)], none⟩,
      ⟨(.v 3), .asg (.t 16), none⟩] none ⟨[], [], [], []⟩)
  (.seq (.reg 5 [.lend (.var 3) 20] [
      ⟨(.t 17), .mv (.v 3), none⟩,
      ⟨(.t 18), .fa 2 (.t 1), none⟩,
      ⟨(.t 19), .ld 1 false (.t 18), none⟩,
      ⟨(.t 20), .app 5 1 1 (.t 17) (.t 19), none⟩,
      ⟨(.t 21), .call 40 [(.t 20)], none⟩,
      ⟨(.t 22), .ext 21 0, none⟩,
      ⟨(.t 23), .ext 21 1, none⟩,
      ⟨(.v 1), .asg (.t 22), none⟩,
      ⟨(.v 2), .asg (.t 23), none⟩] none ⟨[], [], [], []⟩)
  .ret)))))
theorem c22 : compFn Try.prog 22 F22 = some (1, strip a22, [.v 1, .v 2]) ∧ lexAll a22 = true := ⟨by kernel_rfl, by kernel_rfl⟩
/-- clusterlocks/clusterlocksref25.Encode -/
def F23 : Fr := ⟨23, [0, 2, 3, 4]⟩
def a23 : ACode :=
  (.seq (.reg 0 [] [
      ⟨(.t 1), .box 3 (.v 0), none⟩,
      ⟨(.v 1), .asg (.c (.slice none 0 0)), none⟩,
      ⟨(.v 2), .asg (.c (.int .i64 0)), none⟩] none ⟨[], [], [], []⟩)
  (.seq (.seq (.reg 1 [] [
      ⟨(.t 5), .ld 3 true (.t 1), none⟩,
      ⟨(.t 6), .call 37 [(.t 5)], none⟩,
      ⟨(.t 7), .un .not (.t 6), none⟩] none ⟨[], [], [], []⟩)
  (.cond (.t 7)
    (.seq (.reg 2 [] [
        ⟨(.v 1), .asg (.c (.slice none 0 0)), none⟩,
        ⟨(.v 2), .asg (.c (.int .i64 2)), none⟩] none ⟨[], [], [], []⟩)
    .ret)
    .skip))
  (.seq (.reg 3 [] [
      ⟨(.t 8), .fa 0 (.t 1), none⟩,
      ⟨(.t 9), .ld 1 false (.t 8), none⟩,
      ⟨(.t 10), .conv .u64 (.t 9), none⟩,
      ⟨(.t 11), .call 41 [(.c (.slice none 0 0)), (.t 10)], none⟩,
      ⟨(.t 12), .fa 1 (.t 1), none⟩,
      ⟨(.t 13), .ld 1 false (.t 12), none⟩,
      ⟨(.t 14), .conv .u64 (.t 13), none⟩,
      ⟨(.t 15), .call 41 [(.t 11), (.t 14)], none⟩,
      ⟨(.v 3), .asg (.t 15), none⟩] (some [[], [0], [1], [2], [], [4], [5], [3, 6, 3], [7, 7, 0, 1, 2, 3, 4, 5, 6, 7]]) ⟨[1], [], [], []⟩)
  (.seq (.reg 4 [.lend (.var 3) 19] [
      ⟨(.t 16), .mv (.v 3), none⟩,
      ⟨(.t 17), .fa 2 (.t 1), none⟩,
      ⟨(.t 18), .ld 1 false (.t 17), none⟩,
      ⟨(.t 19), .app 5 1 1 (.t 16) (.t 18), none⟩,
      ⟨(.t 20), .call 42 [(.t 19)], none⟩,
      ⟨(.t 21), .ext 20 0, none⟩,
      ⟨(.t 22), .ext 20 1, none⟩,
      ⟨(.v 1), .asg (.t 21), none⟩,
      ⟨(.v 2), .asg (.t 22), none⟩] none ⟨[], [], [], []⟩)
  .ret))))
theorem c23 : compFn Try.prog 23 F23 = some (1, strip a23, [.v 1, .v 2]) ∧ lexAll a23 = true := ⟨by kernel_rfl, by kernel_rfl⟩
/-- clusterlocks/link.Decode -/
def F24 : Fr := ⟨69, [0, 3, 4, 5, 6, 7, 8]⟩
def a24 : ACode :=
  (.seq (.reg 0 [] [
      ⟨(.t 2), .allo [(.int .i64 0), (.int .i64 0), (.slice none 0 0)], none⟩,
      ⟨(.v 1), .asg (.c (.int .i64 0)), none⟩] none ⟨[], [], [], []⟩)
  (.seq (.reg 1 [] [
      ⟨(.t 11), .mv (.v 0), none⟩,
      ⟨(.t 12), .call 43 [(.t 11)], none⟩,
      ⟨(.t 10), .mv (.t 12), none⟩,
      ⟨(.t 13), .ext 10 0, none⟩,
      ⟨(.t 14), .ext 10 1, none⟩,
      ⟨(.t 15), .ext 10 2, none⟩,
      ⟨(.v 2), .asg (.t 13), none⟩,
      ⟨(.v 3), .asg (.t 14), none⟩,
      ⟨(.v 4), .asg (.t 15), none⟩] none ⟨[], [], [], []⟩)
  (.seq (.seq (.reg 2 [] [
      ⟨(.t 16), .mv (.v 4), none⟩,
      ⟨(.t 17), .bin .neq (.t 16) (.c (.int .i64 0)), none⟩] none ⟨[], [], [], []⟩)
  (.cond (.t 17)
    (.seq (.reg 3 [] [
        ⟨(.t 18), .bld [(.int .i64 0), (.int .i64 0), (.slice none 0 0)] [], none⟩,
        ⟨(.t 19), .mv (.v 4), none⟩,
        ⟨.none, .st 3 (.t 2) (.t 18), none⟩,
        ⟨(.v 1), .asg (.t 19), none⟩] none ⟨[], [], [], []⟩)
    .ret)
    .skip))
  (.seq (.seq (.reg 4 [] [
      ⟨(.t 20), .mv (.v 3), none⟩,
      ⟨(.t 21), .mv (.v 0), none⟩,
      ⟨(.t 22), .len (.t 21), none⟩,
      ⟨(.t 23), .bin .neq (.t 20) (.t 22), none⟩] none ⟨[], [], [], []⟩)
  (.cond (.t 23)
    (.seq (.reg 5 [] [
        ⟨(.t 24), .bld [(.int .i64 0), (.int .i64 0), (.slice none 0 0)] [], none⟩,
        ⟨.none, .st 3 (.t 2) (.t 24), none⟩,
        ⟨(.v 1), .asg (.c (.int .i64 6)), none⟩] none ⟨[], [], [], []⟩)
    .ret)
    .skip))
  (.seq (.reg 6 [.freeze (.var 2)] [
      ⟨(.t 26), .mv (.v 2), none⟩,
      ⟨(.t 27), .call 44 [(.t 26)], none⟩,
      ⟨(.t 25), .mv (.t 27), none⟩,
      ⟨(.t 28), .ext 25 0, none⟩,
      ⟨(.t 29), .ext 25 1, none⟩,
      ⟨(.t 30), .ext 25 2, none⟩,
      ⟨(.v 5), .asg (.t 28), none⟩,
      ⟨(.v 3), .asg (.t 29), none⟩,
      ⟨(.v 4), .asg (.t 30), none⟩] none ⟨[], [], [], []⟩)
  (.seq (.seq (.reg 7 [] [
      ⟨(.t 31), .mv (.v 4), none⟩,
      ⟨(.t 32), .bin .neq (.t 31) (.c (.int .i64 0)), none⟩] none ⟨[], [], [], []⟩)
  (.cond (.t 32)
    (.seq (.reg 8 [] [
        ⟨(.t 33), .bld [(.int .i64 0), (.int .i64 0), (.slice none 0 0)] [], none⟩,
        ⟨(.t 34), .mv (.v 4), none⟩,
        ⟨.none, .st 3 (.t 2) (.t 33), none⟩,
        ⟨(.v 1), .asg (.t 34), none⟩] none ⟨[], [], [], []⟩)
    .ret)
    .skip))
  (.seq (.reg 9 [] [
      ⟨(.t 35), .mv (.v 2), none⟩,
      ⟨(.t 36), .mv (.v 3), none⟩,
      ⟨(.t 37), .sl 5 1 (.t 35) (some (.t 36)) none none, none⟩,
      ⟨(.v 2), .asg (.t 37), none⟩] none ⟨[], [], [], []⟩)
  (.seq (.reg 10 [] [
      ⟨(.t 39), .mv (.v 2), none⟩,
      ⟨(.t 40), .call 44 [(.t 39)], none⟩,
      ⟨(.t 38), .mv (.t 40), none⟩,
      ⟨(.t 41), .ext 38 0, none⟩,
      ⟨(.t 42), .ext 38 1, none⟩,
      ⟨(.t 43), .ext 38 2, none⟩,
      ⟨(.v 6), .asg (.t 41), none⟩,
      ⟨(.v 3), .asg (.t 42), none⟩,
      ⟨(.v 4), .asg (.t 43), none⟩] none ⟨[], [], [], []⟩)
  (.seq (.seq (.reg 11 [] [
      ⟨(.t 44), .mv (.v 4), none⟩,
      ⟨(.t 45), .bin .neq (.t 44) (.c (.int .i64 0)), none⟩] none ⟨[], [], [], []⟩)
  (.cond (.t 45)
    (.seq (.reg 12 [] [
        ⟨(.t 46), .bld [(.int .i64 0), (.int .i64 0), (.slice none 0 0)] [], none⟩,
        ⟨(.t 47), .mv (.v 4), none⟩,
        ⟨.none, .st 3 (.t 2) (.t 46), none⟩,
        ⟨(.v 1), .asg (.t 47), none⟩] none ⟨[], [], [], []⟩)
    .ret)
    .skip))
  (.seq (.seq (.reg 13 [] [
      ⟨(.t 48), .mv (.v 5), none⟩,
      ⟨(.t 49), .bin .gtr (.t 48) (.c (.int .u64 1073741824)), none⟩,
      ⟨(.t 50), .mv (.t 49), none⟩,
      ⟨(.t 51), .mv (.v 6), some (50, false)⟩,
      ⟨(.t 52), .bin .gtr (.t 51) (.c (.int .u64 1073741824)), some (50, false)⟩,
      ⟨(.t 53), .pick (.t 50) (.c (.bool true)) (.t 52), none⟩] none ⟨[], [], [], []⟩)
  (.cond (.t 53)
    (.seq (.reg 14 [] [
        ⟨(.t 54), .bld [(.int .i64 0), (.int .i64 0), (.slice none 0 0)] [], none⟩,
        ⟨.none, .st 3 (.t 2) (.t 54), none⟩,
        ⟨(.v 1), .asg (.c (.int .i64 2)), none⟩] none ⟨[], [], [], []⟩)
    .ret)
    .skip))
  (.seq (.reg 15 [] [
      ⟨(.t 55), .mv (.v 5), none⟩,
      ⟨(.t 56), .conv .i64 (.t 55), none⟩,
      ⟨(.t 57), .mv (.v 6), none⟩,
      ⟨(.t 58), .conv .i64 (.t 57), none⟩,
      ⟨(.t 59), .mv (.v 2), none⟩,
      ⟨(.t 60), .mv (.v 3), none⟩,
      ⟨(.t 61), .sl 5 1 (.t 59) (some (.t 60)) none none, none⟩,
      ⟨(.t 62), .call 33 [(.t 61)], none⟩,
      ⟨(.t 63), .bld [(.int .i64 0), (.int .i64 0), (.slice none 0 0)] [(0, 1, (.t 56)), (1, 1, (.t 58)), (2, 1, (.t 62))], none⟩,
      ⟨(.t 9), .allo [(.int .i64 0), (.int .i64 0), (.slice none 0 0)], none⟩,
      ⟨.none, .st 3 (.t 9) (.t 63), none⟩] none ⟨[], [], [], []⟩)
  (.seq (.seq (.reg 16 [] [
      ⟨(.t 64), .ld 3 true (.t 9), none⟩,
      ⟨(.t 65), .call 36 [(.t 64)], none⟩,
      ⟨(.t 66), .un .not (.t 65), none⟩] none ⟨[], [], [], []⟩)
  (.cond (.t 66)
    (.seq (.reg 17 [] [
        ⟨(.t 67), .bld [(.int .i64 0), (.int .i64 0), (.slice none 0 0)] [], none⟩,
        ⟨.none, .st 3 (.t 2) (.t 67), none⟩,
        ⟨(.v 1), .asg (.c (.int .i64 2)), none⟩] none ⟨[], [], [], []⟩)
    .ret)
    .skip))
  (.seq (.reg 18 [.lend (.cell 1 0) 68, .lend (.cell 1 1) 68, .lend (.cell 1 2) 68] [
      ⟨(.t 68), .ld 3 true (.t 9), none⟩,
      ⟨.none, .st 3 (.t 2) (.t 68), none⟩,
      ⟨(.v 1), .asg (.c (.int .i64 0)), none⟩] none ⟨[], [], [], []⟩)
  .ret)))))))))))))
theorem c24 : compFn Try.prog 24 F24 = some (1, strip a24, [.c 2 3 true, .v 1]) ∧ lexAll a24 = true := ⟨by kernel_rfl, by kernel_rfl⟩
/-- clusterlocks/clusterlocksref25.Decode -/
def F25 : Fr := ⟨74, [0, 3, 4, 5, 6, 18, 23, 7, 8, 9, 10]⟩
def a25 : ACode :=
  (.seq (.reg 0 [] [
      ⟨(.t 2), .allo [(.int .i64 0), (.int .i64 0), (.slice none 0 0)], none⟩,
      ⟨(.v 1), .asg (.c (.int .i64 0)), none⟩] none ⟨[], [], [], []⟩)
  (.seq (.reg 1 [] [
      ⟨(.t 13), .mv (.v 0), none⟩,
      ⟨(.t 14), .call 45 [(.t 13)], none⟩,
      ⟨(.t 12), .mv (.t 14), none⟩,
      ⟨(.t 15), .ext 12 0, none⟩,
      ⟨(.t 16), .ext 12 1, none⟩,
      ⟨(.t 17), .ext 12 2, none⟩,
      ⟨(.v 2), .asg (.t 15), none⟩,
      ⟨(.v 3), .asg (.t 16), none⟩,
      ⟨(.v 4), .asg (.t 17), none⟩] none ⟨[], [], [], []⟩)
  (.seq (.block 0
    (.seq (.reg 2 [] [
        ⟨(.t 19), .mv (.v 4), none⟩,
        ⟨(.t 20), .bin .neq (.t 19) (.c (.int .i64 0)), none⟩,
        ⟨(.v 5), .asg (.t 20), none⟩] none ⟨[], [], [], []⟩)
    (.cond (.v 5)
      (.seq (.reg 3 [] [
          ⟨(.t 21), .bld [(.int .i64 0), (.int .i64 0), (.slice none 0 0)] [], none⟩,
          ⟨(.t 22), .mv (.v 4), none⟩,
          ⟨.none, .st 3 (.t 2) (.t 21), none⟩,
          ⟨(.v 1), .asg (.t 22), none⟩] none ⟨[], [], [], []⟩)
      .ret)
      (.seq (.reg 4 [] [
          ⟨(.t 24), .mv (.v 3), none⟩,
          ⟨(.t 25), .mv (.v 0), none⟩,
          ⟨(.t 26), .len (.t 25), none⟩,
          ⟨(.t 27), .bin .neq (.t 24) (.t 26), none⟩,
          ⟨(.v 6), .asg (.t 27), none⟩] none ⟨[], [], [], []⟩)
      (.cond (.v 6)
        (.seq (.reg 5 [] [
            ⟨(.t 28), .bld [(.int .i64 0), (.int .i64 0), (.slice none 0 0)] [], none⟩,
            ⟨.none, .st 3 (.t 2) (.t 28), none⟩,
            ⟨(.v 1), .asg (.c (.int .i64 6)), none⟩] none ⟨[], [], [], []⟩)
        .ret)
        .skip)))))
  (.seq (.reg 6 [.freeze (.var 2)] [
      ⟨(.t 30), .mv (.v 2), none⟩,
      ⟨(.t 31), .call 46 [(.t 30)], none⟩,
      ⟨(.t 29), .mv (.t 31), none⟩,
      ⟨(.t 32), .ext 29 0, none⟩,
      ⟨(.t 33), .ext 29 1, none⟩,
      ⟨(.t 34), .ext 29 2, none⟩,
      ⟨(.v 7), .asg (.t 32), none⟩,
      ⟨(.v 8), .asg (.t 33), none⟩,
      ⟨(.v 4), .asg (.t 34), none⟩] none ⟨[], [], [], []⟩)
  (.seq (.seq (.reg 7 [] [
      ⟨(.t 35), .mv (.v 4), none⟩,
      ⟨(.t 36), .bin .neq (.t 35) (.c (.int .i64 0)), none⟩] none ⟨[], [], [], []⟩)
  (.cond (.t 36)
    (.seq (.reg 8 [] [
        ⟨(.t 37), .bld [(.int .i64 0), (.int .i64 0), (.slice none 0 0)] [], none⟩,
        ⟨(.t 38), .mv (.v 4), none⟩,
        ⟨.none, .st 3 (.t 2) (.t 37), none⟩,
        ⟨(.v 1), .asg (.t 38), none⟩] none ⟨[], [], [], []⟩)
    .ret)
    .skip))
  (.seq (.reg 9 [] [
      ⟨(.t 40), .mv (.v 2), none⟩,
      ⟨(.t 41), .mv (.v 8), none⟩,
      ⟨(.t 42), .sl 5 1 (.t 40) (some (.t 41)) none none, none⟩,
      ⟨(.t 43), .call 46 [(.t 42)], none⟩,
      ⟨(.t 39), .mv (.t 43), none⟩,
      ⟨(.t 44), .ext 39 0, none⟩,
      ⟨(.t 45), .ext 39 1, none⟩,
      ⟨(.t 46), .ext 39 2, none⟩,
      ⟨(.v 9), .asg (.t 44), none⟩,
      ⟨(.v 10), .asg (.t 45), none⟩,
      ⟨(.v 4), .asg (.t 46), none⟩] none ⟨[], [], [], []⟩)
  (.seq (.seq (.reg 10 [] [
      ⟨(.t 47), .mv (.v 4), none⟩,
      ⟨(.t 48), .bin .neq (.t 47) (.c (.int .i64 0)), none⟩] none ⟨[], [], [], []⟩)
  (.cond (.t 48)
    (.seq (.reg 11 [] [
        ⟨(.t 49), .bld [(.int .i64 0), (.int .i64 0), (.slice none 0 0)] [], none⟩,
        ⟨(.t 50), .mv (.v 4), none⟩,
        ⟨.none, .st 3 (.t 2) (.t 49), none⟩,
        ⟨(.v 1), .asg (.t 50), none⟩] none ⟨[], [], [], []⟩)
    .ret)
    .skip))
  (.seq (.seq (.reg 12 [] [
      ⟨(.t 51), .mv (.v 7), none⟩,
      ⟨(.t 52), .bin .gtr (.t 51) (.c (.int .u64 1073741824)), none⟩,
      ⟨(.t 53), .mv (.t 52), none⟩,
      ⟨(.t 54), .mv (.v 9), some (53, false)⟩,
      ⟨(.t 55), .bin .gtr (.t 54) (.c (.int .u64 1073741824)), some (53, false)⟩,
      ⟨(.t 56), .pick (.t 53) (.c (.bool true)) (.t 55), none⟩] none ⟨[], [], [], []⟩)
  (.cond (.t 56)
    (.seq (.reg 13 [] [
        ⟨(.t 57), .bld [(.int .i64 0), (.int .i64 0), (.slice none 0 0)] [], none⟩,
        ⟨.none, .st 3 (.t 2) (.t 57), none⟩,
        ⟨(.v 1), .asg (.c (.int .i64 2)), none⟩] none ⟨[], [], [], []⟩)
    .ret)
    .skip))
  (.seq (.reg 14 [] [
      ⟨(.t 58), .mv (.v 7), none⟩,
      ⟨(.t 59), .conv .i64 (.t 58), none⟩,
      ⟨(.t 60), .mv (.v 9), none⟩,
      ⟨(.t 61), .conv .i64 (.t 60), none⟩,
      ⟨(.t 62), .mv (.v 2), none⟩,
      ⟨(.t 63), .mv (.v 8), none⟩,
      ⟨(.t 64), .mv (.v 10), none⟩,
      ⟨(.t 65), .bin .add (.t 63) (.t 64), none⟩,
      ⟨(.t 66), .sl 5 1 (.t 62) (some (.t 65)) none none, none⟩,
      ⟨(.t 67), .app 5 1 1 (.c (.slice none 0 0)) (.t 66), none⟩,
      ⟨(.t 68), .bld [(.int .i64 0), (.int .i64 0), (.slice none 0 0)] [(0, 1, (.t 59)), (1, 1, (.t 61)), (2, 1, (.t 67))], none⟩,
      ⟨(.t 11), .allo [(.int .i64 0), (.int .i64 0), (.slice none 0 0)], none⟩,
      ⟨.none, .st 3 (.t 11) (.t 68), none⟩] none ⟨[], [], [], []⟩)
  (.seq (.seq (.reg 15 [] [
      ⟨(.t 69), .ld 3 true (.t 11), none⟩,
      ⟨(.t 70), .call 37 [(.t 69)], none⟩,
      ⟨(.t 71), .un .not (.t 70), none⟩] none ⟨[], [], [], []⟩)
  (.cond (.t 71)
    (.seq (.reg 16 [] [
        ⟨(.t 72), .bld [(.int .i64 0), (.int .i64 0), (.slice none 0 0)] [], none⟩,
        ⟨.none, .st 3 (.t 2) (.t 72), none⟩,
        ⟨(.v 1), .asg (.c (.int .i64 2)), none⟩] none ⟨[], [], [], []⟩)
    .ret)
    .skip))
  (.seq (.reg 17 [.lend (.cell 1 0) 73, .lend (.cell 1 1) 73, .lend (.cell 1 2) 73] [
      ⟨(.t 73), .ld 3 true (.t 11), none⟩,
      ⟨.none, .st 3 (.t 2) (.t 73), none⟩,
      ⟨(.v 1), .asg (.c (.int .i64 0)), none⟩] none ⟨[], [], [], []⟩)
  .ret)))))))))))
theorem c25 : compFn Try.prog 25 F25 = some (1, strip a25, [.c 2 3 true, .v 1]) ∧ lexAll a25 = true := ⟨by kernel_rfl, by kernel_rfl⟩
/-- clusterlocks/clusterlocksplan.Light -/
def F26 : Fr := ⟨6, [0, 2]⟩
def a26 : ACode :=
  (.seq (.reg 0 [] [
      ⟨(.v 1), .asg (.c (.bool false)), none⟩] none ⟨[], [], [], []⟩)
  (.seq (.reg 1 [] [
      ⟨(.t 3), .mv (.v 0), none⟩,
      ⟨(.t 4), .len (.t 3), none⟩,
      ⟨(.t 5), .bin .leq (.t 4) (.c (.int .i64 400)), none⟩,
      ⟨(.v 1), .asg (.t 5), none⟩] none ⟨[], [], [], []⟩)
  .ret))
theorem c26 : compFn Try.prog 26 F26 = some (1, strip a26, [.v 1]) ∧ lexAll a26 = true := ⟨by kernel_rfl, by kernel_rfl⟩
/-- clusterlocks/clusterlockslaw25.play -/
def F27 : Fr := ⟨143, [0, 2, 3, 4, 5, 6, 7, 8, 9, 10, 36, 11, 13, 82, 88, 93, 100, 117]⟩
def a27 : ACode :=
  (.seq (.reg 0 [] [
      ⟨(.v 1), .asg (.c (.pointer none)), none⟩,
      ⟨(.v 2), .asg (.c (.bool false)), none⟩] none ⟨[], [], [], []⟩)
  (.seq (.reg 1 [] [
      ⟨(.t 14), .call 19 [], none⟩,
      ⟨(.t 15), .call 19 [], none⟩,
      ⟨(.t 16), .bld [(.int .i64 0), (.slice none 0 0), (.int .i64 0), (.int .i64 0), (.slice none 0 0), (.int .i64 0)] [(0, 3, (.t 14)), (3, 3, (.t 15))], none⟩,
      ⟨(.t 17), .bld [(.int .i64 0), (.slice none 0 0), (.int .i64 0), (.int .i64 0), (.slice none 0 0), (.int .i64 0), (.slice none 0 0), (.slice none 0 0), (.slice none 0 0), (.slice none 0 0), (.slice none 0 0), (.slice none 0 0)] [(0, 6, (.t 16))], none⟩,
      ⟨(.t 18), .box 12 (.t 17), none⟩,
      ⟨(.v 3), .asg (.t 18), none⟩] none ⟨[], [], [], []⟩)
  (.seq (.reg 2 [.own (.cell 0 6) 25 1, .own (.cell 0 7) 25 1, .freeze (.cell 0 6), .freeze (.cell 0 7), .own (.cell 0 1) 25 1, .own (.cell 0 4) 25 1, .freeze (.cell 0 1), .freeze (.cell 0 4), .own (.cell 0 8) 5 1, .own (.cell 0 9) 5 1, .own (.cell 0 10) 5 1, .own (.cell 0 11) 5 1] [
      ⟨(.t 19), .mv (.v 0), none⟩,
      ⟨(.t 20), .bld [(.slice none 0 0), (.int .i64 0)] [(0, 1, (.t 19))], none⟩,
      ⟨(.t 21), .box 2 (.t 20), none⟩,
      ⟨(.v 4), .asg (.t 21), none⟩] none ⟨[], [], [], []⟩)
  (.seq (.block 0
    (.loop
      (.seq (.seq (.reg 3 [] [
          ⟨(.t 22), .mv (.v 4), none⟩,
          ⟨(.t 23), .call 47 [(.t 22)], none⟩] none ⟨[], [], [], []⟩)
      (.cond (.t 23)
        .skip
        (.exit 0)))
      (.block 1
        (.seq (.reg 4 [] [
            ⟨(.t 24), .mv (.v 4), none⟩,
            ⟨(.t 25), .call 48 [(.t 24), (.c (.int .i64 2))], none⟩,
            ⟨(.t 26), .mv (.v 4), none⟩,
            ⟨(.t 27), .call 48 [(.t 26), (.c (.int .i64 10))], none⟩,
            ⟨(.t 28), .mv (.v 4), none⟩,
            ⟨(.t 29), .call 48 [(.t 28), (.c (.int .i64 3))], none⟩,
            ⟨(.v 5), .asg (.t 25), none⟩,
            ⟨(.v 6), .asg (.t 27), none⟩,
            ⟨(.v 7), .asg (.t 29), none⟩] none ⟨[], [], [], []⟩)
        (.seq (.reg 5 [] [
            ⟨(.t 30), .mv (.v 3), none⟩,
            ⟨(.t 31), .mv (.v 5), none⟩,
            ⟨(.t 32), .nilck (.t 30), none⟩,
            ⟨(.t 33), .fa 6 (.t 32), none⟩,
            ⟨(.t 34), .iaa 1 2 (.t 33) (.t 31), none⟩,
            ⟨(.t 35), .ld 1 false (.t 34), none⟩,
            ⟨(.v 8), .asg (.t 35), none⟩] none ⟨[], [], [], []⟩)
        (.seq (.reg 6 [] [
            ⟨(.v 9), .asg (.c (.bool true)), none⟩] none ⟨[], [], [], []⟩)
        (.seq (.block 2
          (.seq (.reg 7 [] [
              ⟨(.t 37), .mv (.v 6), none⟩,
              ⟨(.t 38), .bin .lss (.t 37) (.c (.int .i64 3)), none⟩,
              ⟨(.v 10), .asg (.t 38), none⟩] none ⟨[], [], [], []⟩)
          (.cond (.v 10)
            (.seq (.reg 8 [] [
                ⟨(.t 39), .mv (.v 3), none⟩,
                ⟨(.t 40), .mv (.v 5), none⟩,
                ⟨(.t 41), .nilck (.t 39), none⟩,
                ⟨(.t 42), .fa 8 (.t 41), none⟩,
                ⟨(.t 43), .iaa 1 2 (.t 42) (.t 40), none⟩,
                ⟨(.t 44), .ld 1 false (.t 43), none⟩,
                ⟨(.t 45), .len (.t 44), none⟩,
                ⟨(.t 46), .bin .add (.t 45) (.c (.int .i64 1)), none⟩,
                ⟨(.t 47), .conv .u8 (.t 46), none⟩,
                ⟨(.v 11), .asg (.t 47), none⟩] none ⟨[], [], [], []⟩)
            (.seq (.reg 9 [] [
                ⟨(.t 49), .mv (.v 3), none⟩,
                ⟨(.t 50), .mv (.v 5), none⟩,
                ⟨(.t 51), .nilck (.t 49), none⟩,
                ⟨(.t 52), .fa 0 (.t 51), none⟩,
                ⟨(.t 53), .iaa 3 2 (.t 52) (.t 50), none⟩,
                ⟨(.t 54), .ld 3 true (.t 53), none⟩,
                ⟨(.t 55), .mv (.v 11), none⟩,
                ⟨(.t 56), .bls 5 1 (.int .u8 0) 1 [(0, (.t 55))], none⟩,
                ⟨(.t 57), .call 9 [(.t 54), (.t 56)], none⟩,
                ⟨(.t 48), .mv (.t 57), none⟩,
                ⟨(.t 58), .ext 48 0, none⟩,
                ⟨(.t 59), .ext 48 1, none⟩,
                ⟨(.t 12), .allo [(.int .i64 0), (.slice none 0 0), (.int .i64 0)], none⟩,
                ⟨.none, .st 3 (.t 12) (.t 58), none⟩,
                ⟨(.v 12), .asg (.t 59), none⟩] none ⟨[], [], [], []⟩)
            (.seq (.reg 10 [] [
                ⟨(.t 60), .mv (.v 12), none⟩,
                ⟨(.t 61), .bin .eql (.t 60) (.c (.int .i64 0)), none⟩,
                ⟨(.v 9), .asg (.t 61), none⟩] none ⟨[], [], [], []⟩)
            (.reg 11 [.lendv 5 0 8 72] [
                ⟨(.t 62), .mv (.v 3), none⟩,
                ⟨(.t 63), .mv (.v 5), none⟩,
                ⟨(.t 64), .mv (.v 3), none⟩,
                ⟨(.t 65), .mv (.v 5), none⟩,
                ⟨(.t 66), .ld 3 true (.t 12), none⟩,
                ⟨(.t 67), .mv (.v 3), none⟩,
                ⟨(.t 68), .mv (.v 5), none⟩,
                ⟨(.t 69), .nilck (.t 67), none⟩,
                ⟨(.t 70), .fa 8 (.t 69), none⟩,
                ⟨(.t 71), .iaa 1 2 (.t 70) (.t 68), none⟩,
                ⟨(.t 72), .ld 1 false (.t 71), none⟩,
                ⟨(.t 73), .mv (.v 11), none⟩,
                ⟨(.t 74), .bls 5 1 (.int .u8 0) 1 [(0, (.t 73))], none⟩,
                ⟨(.t 75), .app 5 1 1 (.t 72) (.t 74), none⟩,
                ⟨(.t 76), .nilck (.t 62), none⟩,
                ⟨(.t 77), .fa 0 (.t 76), none⟩,
                ⟨(.t 78), .iaa 3 2 (.t 77) (.t 63), none⟩,
                ⟨.none, .st 3 (.t 78) (.t 66), none⟩,
                ⟨(.t 79), .nilck (.t 64), none⟩,
                ⟨(.t 80), .fa 8 (.t 79), none⟩,
                ⟨(.t 81), .iaa 1 2 (.t 80) (.t 65), none⟩,
                ⟨.none, .st 1 (.t 81) (.t 75), none⟩] (some [[], [], [], [], [], [], [], [5], [7], [8, 6], [9], [], [11], [10, 12], [0], [14], [15, 1, 0, 1, 4, 10, 13], [16, 4, 13, 0, 1, 4, 10, 13], [2], [18], [19, 3, 0, 1, 2, 3, 4, 5, 6, 7, 8, 9, 10, 11, 12, 13, 14, 15, 16, 17], [20, 13, 17, 0, 1, 2, 3, 4, 5, 6, 7, 8, 9, 10, 11, 12, 13, 14, 15, 16, 17]]) ⟨[], [2, 3, 18, 19], [], []⟩))))
            (.seq (.reg 12 [] [
                ⟨(.t 83), .mv (.v 6), none⟩,
                ⟨(.t 84), .bin .lss (.t 83) (.c (.int .i64 5)), none⟩,
                ⟨(.v 13), .asg (.t 84), none⟩] none ⟨[], [], [], []⟩)
            (.cond (.v 13)
              (.reg 13 [] [
                  ⟨(.t 85), .mv (.v 3), none⟩,
                  ⟨(.t 86), .mv (.v 5), none⟩,
                  ⟨(.t 87), .call 29 [(.t 85), (.t 86)], none⟩,
                  ⟨(.v 9), .asg (.t 87), none⟩] none ⟨[], [], [], []⟩)
              (.seq (.reg 14 [] [
                  ⟨(.t 89), .mv (.v 7), none⟩,
                  ⟨(.t 90), .mv (.v 8), none⟩,
                  ⟨(.t 91), .len (.t 90), none⟩,
                  ⟨(.t 92), .bin .geq (.t 89) (.t 91), none⟩,
                  ⟨(.v 14), .asg (.t 92), none⟩] none ⟨[], [], [], []⟩)
              (.cond (.v 14)
                .skip
                (.seq (.reg 15 [] [
                    ⟨(.t 94), .mv (.v 6), none⟩,
                    ⟨(.t 95), .bin .lss (.t 94) (.c (.int .i64 8)), none⟩,
                    ⟨(.v 15), .asg (.t 95), none⟩] none ⟨[], [], [], []⟩)
                (.cond (.v 15)
                  (.reg 16 [] [
                      ⟨(.t 96), .mv (.v 3), none⟩,
                      ⟨(.t 97), .mv (.v 5), none⟩,
                      ⟨(.t 98), .mv (.v 7), none⟩,
                      ⟨(.t 99), .call 28 [(.t 96), (.t 97), (.t 98)], none⟩,
                      ⟨(.v 9), .asg (.t 99), none⟩] none ⟨[], [], [], []⟩)
                  (.seq (.reg 17 [] [
                      ⟨(.t 101), .mv (.v 6), none⟩,
                      ⟨(.t 102), .bin .eql (.t 101) (.c (.int .i64 8)), none⟩,
                      ⟨(.v 16), .asg (.t 102), none⟩] none ⟨[], [], [], []⟩)
                  (.cond (.v 16)
                    (.reg 18 [] [
                        ⟨(.t 103), .mv (.v 3), none⟩,
                        ⟨(.t 104), .mv (.v 5), none⟩,
                        ⟨(.t 105), .mv (.v 8), none⟩,
                        ⟨(.t 106), .mv (.v 7), none⟩,
                        ⟨(.t 107), .sl 25 1 (.t 105) none (some (.t 106)) none, none⟩,
                        ⟨(.t 108), .app 25 1 24 (.c (.slice none 0 0)) (.t 107), none⟩,
                        ⟨(.t 109), .mv (.v 8), none⟩,
                        ⟨(.t 110), .mv (.v 7), none⟩,
                        ⟨(.t 111), .bin .add (.t 110) (.c (.int .i64 1)), none⟩,
                        ⟨(.t 112), .sl 25 1 (.t 109) (some (.t 111)) none none, none⟩,
                        ⟨(.t 113), .app 25 1 24 (.t 108) (.t 112), none⟩,
                        ⟨(.t 114), .nilck (.t 103), none⟩,
                        ⟨(.t 115), .fa 6 (.t 114), none⟩,
                        ⟨(.t 116), .iaa 1 2 (.t 115) (.t 104), none⟩,
                        ⟨.none, .st 1 (.t 116) (.t 113), none⟩] (some [[], [], [], [], [2, 3], [4], [], [], [7], [6, 8], [5, 9, 5], [0], [11], [12, 1, 0, 1, 2, 3, 4, 5, 6, 7, 8, 9, 10], [13, 10, 10, 0, 1, 2, 3, 4, 5, 6, 7, 8, 9, 10]]) ⟨[], [], [], []⟩)
                    (.seq (.reg 19 [] [
                        ⟨(.t 118), .mv (.v 8), none⟩,
                        ⟨(.t 119), .len (.t 118), none⟩,
                        ⟨(.t 120), .bin .lss (.t 119) (.c (.int .i64 8)), none⟩,
                        ⟨(.v 17), .asg (.t 120), none⟩] none ⟨[], [], [], []⟩)
                    (.cond (.v 17)
                      (.reg 20 [] [
                          ⟨(.t 121), .mv (.v 3), none⟩,
                          ⟨(.t 122), .mv (.v 5), none⟩,
                          ⟨(.t 123), .mv (.v 8), none⟩,
                          ⟨(.t 124), .app 25 1 24 (.c (.slice none 0 0)) (.t 123), none⟩,
                          ⟨(.t 125), .mv (.v 8), none⟩,
                          ⟨(.t 126), .mv (.v 7), none⟩,
                          ⟨(.t 127), .ia 1 (.t 125) (.t 126), none⟩,
                          ⟨(.t 128), .ld 1 false (.t 127), none⟩,
                          ⟨(.t 129), .bls 25 1 (.slice none 0 0) 1 [(0, (.t 128))], none⟩,
                          ⟨(.t 130), .app 25 1 24 (.t 124) (.t 129), none⟩,
                          ⟨(.t 131), .nilck (.t 121), none⟩,
                          ⟨(.t 132), .fa 6 (.t 131), none⟩,
                          ⟨(.t 133), .iaa 1 2 (.t 132) (.t 122), none⟩,
                          ⟨.none, .st 1 (.t 133) (.t 130), none⟩] (some [[], [], [], [2], [], [], [4, 5], [6], [7], [3, 8, 3], [0], [10], [11, 1, 0, 1, 2, 3, 4, 5, 6, 7, 8, 9], [12, 9, 9, 0, 1, 2, 3, 4, 5, 6, 7, 8, 9]]) ⟨[], [], [], []⟩)
                      .skip)))))))))))))
        (.seq (.reg 21 [.freeze (.cell 0 6), .freeze (.cell 0 7)] [
            ⟨(.t 134), .mv (.v 9), none⟩,
            ⟨(.t 135), .un .not (.t 134), none⟩,
            ⟨(.t 136), .mv (.t 135), none⟩,
            ⟨(.t 137), .mv (.v 3), some (136, false)⟩,
            ⟨(.t 138), .call 30 [(.t 137)], some (136, false)⟩,
            ⟨(.t 139), .un .not (.t 138), some (136, false)⟩,
            ⟨(.t 140), .pick (.t 136) (.c (.bool true)) (.t 139), none⟩] none ⟨[], [], [], []⟩)
        (.cond (.t 140)
          (.seq (.reg 22 [] [
              ⟨(.t 141), .mv (.v 3), none⟩,
              ⟨(.v 1), .asg (.t 141), none⟩,
              ⟨(.v 2), .asg (.c (.bool false)), none⟩] none ⟨[], [], [], []⟩)
          .ret)
          .skip))))))))))
  (.seq (.reg 23 [] [
      ⟨(.t 142), .mv (.v 3), none⟩,
      ⟨(.v 1), .asg (.t 142), none⟩,
      ⟨(.v 2), .asg (.c (.bool true)), none⟩] none ⟨[], [], [], []⟩)
  .ret)))))
theorem c27 : compFn Try.prog 27 F27 = some (1, strip a27, [.v 1, .v 2]) ∧ lexAll a27 = true := ⟨by kernel_rfl, by kernel_rfl⟩
/-- (*clusterlocks/clusterlockslaw25.ends).deliver -/
def F28 : Fr := ⟨102, [0, 1, 2, 6, 7, 9, 11, 12]⟩
def a28 : ACode :=
  (.seq (.reg 0 [] [
      ⟨(.v 3), .asg (.c (.bool false)), none⟩] none ⟨[], [], [], []⟩)
  (.seq (.reg 1 [] [
      ⟨(.t 13), .mv (.v 0), none⟩,
      ⟨(.t 14), .mv (.v 1), none⟩,
      ⟨(.t 15), .nilck (.t 13), none⟩,
      ⟨(.t 16), .fa 6 (.t 15), none⟩,
      ⟨(.t 17), .iaa 1 2 (.t 16) (.t 14), none⟩,
      ⟨(.t 18), .ld 1 false (.t 17), none⟩,
      ⟨(.t 19), .mv (.v 2), none⟩,
      ⟨(.t 20), .ia 1 (.t 18) (.t 19), none⟩,
      ⟨(.t 21), .ld 1 false (.t 20), none⟩,
      ⟨(.v 4), .asg (.t 21), none⟩] none ⟨[], [], [], []⟩)
  (.seq (.reg 2 [] [
      ⟨(.t 22), .mv (.v 0), none⟩,
      ⟨(.t 23), .mv (.v 1), none⟩,
      ⟨(.t 24), .mv (.v 0), none⟩,
      ⟨(.t 25), .mv (.v 1), none⟩,
      ⟨(.t 26), .nilck (.t 24), none⟩,
      ⟨(.t 27), .fa 6 (.t 26), none⟩,
      ⟨(.t 28), .iaa 1 2 (.t 27) (.t 25), none⟩,
      ⟨(.t 29), .ld 1 false (.t 28), none⟩,
      ⟨(.t 30), .mv (.v 2), none⟩,
      ⟨(.t 31), .sl 25 1 (.t 29) none (some (.t 30)) none, none⟩,
      ⟨(.t 32), .app 25 1 24 (.c (.slice none 0 0)) (.t 31), none⟩,
      ⟨(.t 33), .mv (.v 0), none⟩,
      ⟨(.t 34), .mv (.v 1), none⟩,
      ⟨(.t 35), .nilck (.t 33), none⟩,
      ⟨(.t 36), .fa 6 (.t 35), none⟩,
      ⟨(.t 37), .iaa 1 2 (.t 36) (.t 34), none⟩,
      ⟨(.t 38), .ld 1 false (.t 37), none⟩,
      ⟨(.t 39), .mv (.v 2), none⟩,
      ⟨(.t 40), .bin .add (.t 39) (.c (.int .i64 1)), none⟩,
      ⟨(.t 41), .sl 25 1 (.t 38) (some (.t 40)) none none, none⟩,
      ⟨(.t 42), .app 25 1 24 (.t 32) (.t 41), none⟩,
      ⟨(.t 43), .nilck (.t 22), none⟩,
      ⟨(.t 44), .fa 6 (.t 43), none⟩,
      ⟨(.t 45), .iaa 1 2 (.t 44) (.t 23), none⟩,
      ⟨.none, .st 1 (.t 45) (.t 42), none⟩] (some [[], [], [], [], [2], [4], [5, 3], [6], [], [7, 8], [9], [], [], [11], [13], [14, 12], [15], [], [17], [16, 18], [10, 19, 10], [0], [21], [22, 1, 0, 1, 2, 3, 4, 5, 6, 7, 8, 9, 10, 11, 12, 13, 14, 15, 16, 17, 18, 19, 20], [23, 20, 20, 0, 1, 2, 3, 4, 5, 6, 7, 8, 9, 10, 11, 12, 13, 14, 15, 16, 17, 18, 19, 20]]) ⟨[], [], [], []⟩)
  (.seq (.reg 3 [.freeze (.cell 0 6), .freeze (.cell 0 7)] [
      ⟨(.t 47), .mv (.v 4), none⟩,
      ⟨(.t 48), .call 24 [(.t 47)], none⟩,
      ⟨(.t 46), .mv (.t 48), none⟩,
      ⟨(.t 49), .ext 46 0, none⟩,
      ⟨(.t 50), .ext 46 1, none⟩,
      ⟨(.t 8), .allo [(.int .i64 0), (.int .i64 0), (.slice none 0 0)], none⟩,
      ⟨.none, .st 3 (.t 8) (.t 49), none⟩,
      ⟨(.v 5), .asg (.t 50), none⟩] none ⟨[], [], [], []⟩)
  (.seq (.seq (.reg 4 [] [
      ⟨(.t 51), .mv (.v 5), none⟩,
      ⟨(.t 52), .bin .neq (.t 51) (.c (.int .i64 0)), none⟩] none ⟨[], [], [], []⟩)
  (.cond (.t 52)
    (.seq (.reg 5 [] [
        ⟨(.v 3), .asg (.c (.bool true)), none⟩] none ⟨[], [], [], []⟩)
    .ret)
    .skip))
  (.seq (.reg 6 [] [
      ⟨(.t 54), .mv (.v 0), none⟩,
      ⟨(.t 55), .mv (.v 1), none⟩,
      ⟨(.t 56), .bin .sub (.c (.int .i64 1)) (.t 55), none⟩,
      ⟨(.t 57), .nilck (.t 54), none⟩,
      ⟨(.t 58), .fa 0 (.t 57), none⟩,
      ⟨(.t 59), .iaa 3 2 (.t 58) (.t 56), none⟩,
      ⟨(.t 60), .ld 3 true (.t 59), none⟩,
      ⟨(.t 61), .ld 3 true (.t 8), none⟩,
      ⟨(.t 62), .call 11 [(.t 60), (.t 61)], none⟩,
      ⟨(.t 53), .mv (.t 62), none⟩,
      ⟨(.t 63), .ext 53 0, none⟩,
      ⟨(.t 64), .ext 53 1, none⟩,
      ⟨(.t 65), .ext 53 2, none⟩,
      ⟨(.t 66), .ext 53 3, none⟩,
      ⟨(.t 10), .allo [(.int .i64 0), (.slice none 0 0), (.int .i64 0)], none⟩,
      ⟨.none, .st 3 (.t 10) (.t 63), none⟩,
      ⟨(.v 6), .asg (.t 64), none⟩,
      ⟨(.v 7), .asg (.t 65), none⟩,
      ⟨(.v 5), .asg (.t 66), none⟩] (some [[], [], [1], [0], [3], [4, 2], [5], [], [6, 7], [8], [9], [9], [9], [9], [], [14, 10, 8, 0, 1, 2, 3, 4, 5, 6, 7, 8, 9, 10, 14], [11, 15, 0, 1, 2, 3, 4, 5, 6, 7, 8, 9, 10, 11, 14, 15], [12, 16, 0, 1, 2, 3, 4, 5, 6, 7, 8, 9, 10, 11, 12, 14, 15, 16], [13, 17, 0, 1, 2, 3, 4, 5, 6, 7, 8, 9, 10, 11, 12, 13, 14, 15, 16, 17]]) ⟨[], [11, 12, 13], [], []⟩)
  (.seq (.seq (.reg 7 [] [
      ⟨(.t 67), .mv (.v 5), none⟩,
      ⟨(.t 68), .bin .neq (.t 67) (.c (.int .i64 0)), none⟩] none ⟨[], [], [], []⟩)
  (.cond (.t 68)
    (.seq (.reg 8 [] [
        ⟨(.v 3), .asg (.c (.bool false)), none⟩] none ⟨[], [], [], []⟩)
    .ret)
    .skip))
  (.seq (.reg 9 [] [
      ⟨(.t 69), .mv (.v 0), none⟩,
      ⟨(.t 70), .mv (.v 1), none⟩,
      ⟨(.t 71), .bin .sub (.c (.int .i64 1)) (.t 70), none⟩,
      ⟨(.t 72), .ld 3 true (.t 10), none⟩,
      ⟨(.t 73), .nilck (.t 69), none⟩,
      ⟨(.t 74), .fa 0 (.t 73), none⟩,
      ⟨(.t 75), .iaa 3 2 (.t 74) (.t 71), none⟩,
      ⟨.none, .st 3 (.t 75) (.t 72), none⟩] (some [[], [], [1], [], [0], [4], [5, 2, 0, 1, 2, 3], [6, 3, 0, 1, 2, 3]]) ⟨[], [], [], []⟩)
  (.seq (.seq (.reg 10 [] [
      ⟨(.t 76), .mv (.v 7), none⟩,
      ⟨(.t 77), .mv (.v 6), none⟩,
      ⟨(.t 78), .len (.t 77), none⟩,
      ⟨(.t 79), .bin .gtr (.t 78) (.c (.int .i64 0)), none⟩,
      ⟨(.t 80), .bib .neq (.t 76) (.t 79), none⟩,
      ⟨(.t 81), .mv (.t 80), none⟩,
      ⟨(.t 82), .mv (.v 7), some (81, false)⟩,
      ⟨(.t 83), .mv (.t 82), some (81, false)⟩,
      ⟨(.t 84), .mv (.v 6), some (83, true)⟩,
      ⟨(.t 85), .len (.t 84), some (83, true)⟩,
      ⟨(.t 86), .bin .neq (.t 85) (.c (.int .i64 1)), some (83, true)⟩,
      ⟨(.t 87), .pick (.t 83) (.t 86) (.c (.bool false)), some (81, false)⟩,
      ⟨(.t 88), .pick (.t 81) (.c (.bool true)) (.t 87), none⟩] none ⟨[], [], [], []⟩)
  (.cond (.t 88)
    (.seq (.reg 11 [] [
        ⟨(.v 3), .asg (.c (.bool false)), none⟩] none ⟨[], [], [], []⟩)
    .ret)
    .skip))
  (.seq (.reg 12 [.lendv 1 0 10 96] [
      ⟨(.t 89), .mv (.v 0), none⟩,
      ⟨(.t 90), .mv (.v 1), none⟩,
      ⟨(.t 91), .mv (.v 0), none⟩,
      ⟨(.t 92), .mv (.v 1), none⟩,
      ⟨(.t 93), .nilck (.t 91), none⟩,
      ⟨(.t 94), .fa 10 (.t 93), none⟩,
      ⟨(.t 95), .iaa 1 2 (.t 94) (.t 92), none⟩,
      ⟨(.t 96), .ld 1 false (.t 95), none⟩,
      ⟨(.t 97), .mv (.v 6), none⟩,
      ⟨(.t 98), .app 5 1 1 (.t 96) (.t 97), none⟩,
      ⟨(.t 99), .nilck (.t 89), none⟩,
      ⟨(.t 100), .fa 10 (.t 99), none⟩,
      ⟨(.t 101), .iaa 1 2 (.t 100) (.t 90), none⟩,
      ⟨.none, .st 1 (.t 101) (.t 98), none⟩] (some [[], [], [], [], [2], [4], [5, 3], [6], [], [7, 8], [0], [10], [11, 1, 0, 1, 2, 3, 4, 5, 6, 7, 8, 9], [12, 9, 9, 0, 1, 2, 3, 4, 5, 6, 7, 8, 9]]) ⟨[], [], [], []⟩)
  (.seq (.reg 13 [] [
      ⟨(.v 3), .asg (.c (.bool true)), none⟩] none ⟨[], [], [], []⟩)
  .ret)))))))))))
theorem c28 : compFn Try.prog 28 F28 = some (3, strip a28, [.v 3]) ∧ lexAll a28 = true := ⟨by kernel_rfl, by kernel_rfl⟩
/-- (*clusterlocks/clusterlockslaw25.ends).send -/
def F29 : Fr := ⟨52, [0, 1, 4, 7, 8]⟩
def a29 : ACode :=
  (.seq (.reg 0 [] [
      ⟨(.v 2), .asg (.c (.bool false)), none⟩] none ⟨[], [], [], []⟩)
  (.seq (.seq (.reg 1 [] [
      ⟨(.t 9), .mv (.v 0), none⟩,
      ⟨(.t 10), .mv (.v 1), none⟩,
      ⟨(.t 11), .nilck (.t 9), none⟩,
      ⟨(.t 12), .fa 0 (.t 11), none⟩,
      ⟨(.t 13), .iaa 3 2 (.t 12) (.t 10), none⟩,
      ⟨(.t 14), .ld 3 true (.t 13), none⟩,
      ⟨(.t 15), .call 13 [(.t 14)], none⟩,
      ⟨(.t 16), .len (.t 15), none⟩,
      ⟨(.t 17), .mv (.c (.int .i64 0)), none⟩] none ⟨[], [], [], []⟩)
  (.block 0
    (.loop
      (.seq (.reg 2 [] [
          ⟨(.t 18), .bin .lss (.t 17) (.t 16), none⟩] none ⟨[], [], [], []⟩)
      (.seq (.cond (.t 18)
        .skip
        (.exit 0))
      (.seq (.block 1
        (.seq (.reg 3 [] [
            ⟨(.t 19), .ia 3 (.t 15) (.t 17), none⟩,
            ⟨(.t 20), .ld 3 true (.t 19), none⟩,
            ⟨(.t 6), .allo [(.int .i64 0), (.int .i64 0), (.slice none 0 0)], none⟩,
            ⟨.none, .st 3 (.t 6) (.t 20), none⟩] none ⟨[], [], [], []⟩)
        (.seq (.reg 4 [] [
            ⟨(.t 22), .ld 3 true (.t 6), none⟩,
            ⟨(.t 23), .call 22 [(.t 22)], none⟩,
            ⟨(.t 21), .mv (.t 23), none⟩,
            ⟨(.t 24), .ext 21 0, none⟩,
            ⟨(.t 25), .ext 21 1, none⟩,
            ⟨(.v 3), .asg (.t 24), none⟩,
            ⟨(.v 4), .asg (.t 25), none⟩] none ⟨[], [], [], []⟩)
        (.seq (.seq (.reg 5 [] [
            ⟨(.t 26), .mv (.v 4), none⟩,
            ⟨(.t 27), .bin .neq (.t 26) (.c (.int .i64 0)), none⟩] none ⟨[], [], [], []⟩)
        (.cond (.t 27)
          (.seq (.reg 6 [] [
              ⟨(.v 2), .asg (.c (.bool false)), none⟩] none ⟨[], [], [], []⟩)
          .ret)
          .skip))
        (.seq (.reg 7 [] [
            ⟨(.t 28), .mv (.v 0), none⟩,
            ⟨(.t 29), .mv (.v 1), none⟩,
            ⟨(.t 30), .nilck (.t 28), none⟩,
            ⟨(.t 31), .fa 6 (.t 30), none⟩,
            ⟨(.t 32), .iaa 1 2 (.t 31) (.t 29), none⟩,
            ⟨(.t 33), .ld 1 false (.t 32), none⟩,
            ⟨(.t 34), .len (.t 33), none⟩,
            ⟨(.t 35), .bin .lss (.t 34) (.c (.int .i64 8)), none⟩] none ⟨[], [], [], []⟩)
        (.cond (.t 35)
          (.reg 8 [] [
              ⟨(.t 36), .mv (.v 0), none⟩,
              ⟨(.t 37), .mv (.v 1), none⟩,
              ⟨(.t 38), .mv (.v 0), none⟩,
              ⟨(.t 39), .mv (.v 1), none⟩,
              ⟨(.t 40), .nilck (.t 38), none⟩,
              ⟨(.t 41), .fa 6 (.t 40), none⟩,
              ⟨(.t 42), .iaa 1 2 (.t 41) (.t 39), none⟩,
              ⟨(.t 43), .ld 1 false (.t 42), none⟩,
              ⟨(.t 44), .app 25 1 24 (.c (.slice none 0 0)) (.t 43), none⟩,
              ⟨(.t 45), .mv (.v 3), none⟩,
              ⟨(.t 46), .bls 25 1 (.slice none 0 0) 1 [(0, (.t 45))], none⟩,
              ⟨(.t 47), .app 25 1 24 (.t 44) (.t 46), none⟩,
              ⟨(.t 48), .nilck (.t 36), none⟩,
              ⟨(.t 49), .fa 6 (.t 48), none⟩,
              ⟨(.t 50), .iaa 1 2 (.t 49) (.t 37), none⟩,
              ⟨.none, .st 1 (.t 50) (.t 47), none⟩] (some [[], [], [], [], [2], [4], [5, 3], [6], [7], [], [9], [8, 10, 8], [0], [12], [13, 1, 0, 1, 2, 3, 4, 5, 6, 7, 8, 9, 10, 11], [14, 11, 11, 0, 1, 2, 3, 4, 5, 6, 7, 8, 9, 10, 11]]) ⟨[], [], [], []⟩)
          .skip))))))
      (.reg 9 [.freeze (.cell 0 6), .freeze (.cell 0 7)] [
          ⟨(.t 51), .bin .add (.t 17) (.c (.int .i64 1)), none⟩,
          ⟨(.t 17), .mv (.t 51), none⟩] none ⟨[], [], [], []⟩)))))))
  (.seq (.reg 10 [] [
      ⟨(.v 2), .asg (.c (.bool true)), none⟩] none ⟨[], [], [], []⟩)
  .ret)))
theorem c29 : compFn Try.prog 29 F29 = some (2, strip a29, [.v 2]) ∧ lexAll a29 = true := ⟨by kernel_rfl, by kernel_rfl⟩
/-- (*clusterlocks/clusterlockslaw25.ends).begin -/
def F30 : Fr := ⟨48, [0, 2, 3]⟩
def a30 : ACode :=
  (.seq (.reg 0 [] [
      ⟨(.v 1), .asg (.c (.bool false)), none⟩] none ⟨[], [], [], []⟩)
  (.seq (.seq (.reg 1 [] [
      ⟨(.v 2), .asg (.c (.int .i64 0)), none⟩] none ⟨[], [], [], []⟩)
  (.block 0
    (.loop
      (.seq (.seq (.reg 2 [] [
          ⟨(.t 4), .mv (.v 2), none⟩,
          ⟨(.t 5), .bin .lss (.t 4) (.c (.int .i64 2)), none⟩] none ⟨[], [], [], []⟩)
      (.cond (.t 5)
        .skip
        (.exit 0)))
      (.seq (.block 1
        (.seq (.reg 4 [] [
            ⟨(.t 8), .mv (.v 0), none⟩,
            ⟨(.t 9), .mv (.v 2), none⟩,
            ⟨(.t 10), .nilck (.t 8), none⟩,
            ⟨(.t 11), .fa 10 (.t 10), none⟩,
            ⟨(.t 12), .iaa 1 2 (.t 11) (.t 9), none⟩,
            ⟨(.t 13), .ld 1 false (.t 12), none⟩,
            ⟨(.t 14), .len (.t 13), none⟩,
            ⟨(.t 15), .mv (.v 0), none⟩,
            ⟨(.t 16), .mv (.v 2), none⟩,
            ⟨(.t 17), .nilck (.t 15), none⟩,
            ⟨(.t 18), .fa 8 (.t 17), none⟩,
            ⟨(.t 19), .iaa 1 2 (.t 18) (.t 16), none⟩,
            ⟨(.t 20), .ld 1 false (.t 19), none⟩,
            ⟨(.t 21), .len (.t 20), none⟩,
            ⟨(.t 22), .bin .gtr (.t 14) (.t 21), none⟩,
            ⟨(.t 23), .mv (.t 22), none⟩,
            ⟨(.t 24), .mv (.v 0), some (23, false)⟩,
            ⟨(.t 25), .mv (.v 2), some (23, false)⟩,
            ⟨(.t 26), .nilck (.t 24), some (23, false)⟩,
            ⟨(.t 27), .fa 10 (.t 26), some (23, false)⟩,
            ⟨(.t 28), .iaa 1 2 (.t 27) (.t 25), some (23, false)⟩,
            ⟨(.t 29), .ld 1 false (.t 28), some (23, false)⟩,
            ⟨(.t 30), .b2s (.t 29), some (23, false)⟩,
            ⟨(.t 31), .mv (.v 0), some (23, false)⟩,
            ⟨(.t 32), .mv (.v 2), some (23, false)⟩,
            ⟨(.t 33), .nilck (.t 31), some (23, false)⟩,
            ⟨(.t 34), .fa 8 (.t 33), some (23, false)⟩,
            ⟨(.t 35), .iaa 1 2 (.t 34) (.t 32), some (23, false)⟩,
            ⟨(.t 36), .ld 1 false (.t 35), some (23, false)⟩,
            ⟨(.t 37), .mv (.v 0), some (23, false)⟩,
            ⟨(.t 38), .mv (.v 2), some (23, false)⟩,
            ⟨(.t 39), .nilck (.t 37), some (23, false)⟩,
            ⟨(.t 40), .fa 10 (.t 39), some (23, false)⟩,
            ⟨(.t 41), .iaa 1 2 (.t 40) (.t 38), some (23, false)⟩,
            ⟨(.t 42), .ld 1 false (.t 41), some (23, false)⟩,
            ⟨(.t 43), .len (.t 42), some (23, false)⟩,
            ⟨(.t 44), .sl 5 1 (.t 36) none (some (.t 43)) none, some (23, false)⟩,
            ⟨(.t 45), .b2s (.t 44), some (23, false)⟩,
            ⟨(.t 46), .bin .neq (.t 30) (.t 45), some (23, false)⟩,
            ⟨(.t 47), .pick (.t 23) (.c (.bool true)) (.t 46), none⟩] (some [[], [], [0], [2], [3, 1], [4], [5], [], [], [7], [9], [10, 8], [11], [12], [6, 13], [14], [15], [15], [16, 15], [18, 15], [19, 17, 15], [20, 15], [21, 15], [15], [15], [23, 15], [25, 15], [26, 24, 15], [27, 15], [15], [15], [29, 15], [31, 15], [32, 30, 15], [33, 15], [34, 15], [28, 35, 15], [36, 15], [22, 37, 15], [15, 38]]) ⟨[23], [], [], []⟩)
        (.cond (.t 47)
          (.seq (.reg 5 [] [
              ⟨(.v 1), .asg (.c (.bool false)), none⟩] none ⟨[], [], [], []⟩)
          .ret)
          .skip)))
      (.reg 3 [] [
          ⟨(.t 6), .mv (.v 2), none⟩,
          ⟨(.t 7), .bin .add (.t 6) (.c (.int .i64 1)), none⟩,
          ⟨(.v 2), .asg (.t 7), none⟩] none ⟨[], [], [], []⟩))))))
  (.seq (.reg 6 [] [
      ⟨(.v 1), .asg (.c (.bool true)), none⟩] none ⟨[], [], [], []⟩)
  .ret)))
theorem c30 : compFn Try.prog 30 F30 = some (1, strip a30, [.v 1]) ∧ lexAll a30 = true := ⟨by kernel_rfl, by kernel_rfl⟩
/-- clusterlocks/link.isBody -/
def F31 : Fr := ⟨11, [0, 2]⟩
def a31 : ACode :=
  (.seq (.reg 0 [] [
      ⟨(.v 1), .asg (.c (.bool false)), none⟩] none ⟨[], [], [], []⟩)
  (.seq (.reg 1 [] [
      ⟨(.t 3), .mv (.v 0), none⟩,
      ⟨(.t 4), .len (.t 3), none⟩,
      ⟨(.t 5), .bin .geq (.t 4) (.c (.int .i64 1)), none⟩,
      ⟨(.t 6), .mv (.t 5), none⟩,
      ⟨(.t 7), .mv (.v 0), some (6, true)⟩,
      ⟨(.t 8), .len (.t 7), some (6, true)⟩,
      ⟨(.t 9), .bin .leq (.t 8) (.c (.int .i64 4064)), some (6, true)⟩,
      ⟨(.t 10), .pick (.t 6) (.t 9) (.c (.bool false)), none⟩,
      ⟨(.v 1), .asg (.t 10), none⟩] none ⟨[], [], [], []⟩)
  .ret))
theorem c31 : compFn Try.prog 31 F31 = some (1, strip a31, [.v 1]) ∧ lexAll a31 = true := ⟨by kernel_rfl, by kernel_rfl⟩
/-- clusterlocks/link.clones -/
def F32 : Fr := ⟨19, [0, 2, 3, 5]⟩
def a32 : ACode :=
  (.seq (.reg 0 [] [
      ⟨(.v 1), .asg (.c (.slice none 0 0)), none⟩] none ⟨[], [], [], []⟩)
  (.seq (.reg 1 [] [
      ⟨(.v 2), .asg (.c (.slice none 0 0)), none⟩] none ⟨[], [], [], []⟩)
  (.seq (.seq (.reg 2 [.own (.var 2) 25 1] [
      ⟨(.t 6), .mv (.v 0), none⟩,
      ⟨(.t 7), .len (.t 6), none⟩,
      ⟨(.t 8), .mv (.c (.int .i64 0)), none⟩] none ⟨[], [], [], []⟩)
  (.block 0
    (.loop
      (.seq (.reg 3 [] [
          ⟨(.t 9), .bin .lss (.t 8) (.t 7), none⟩] none ⟨[], [], [], []⟩)
      (.seq (.cond (.t 9)
        .skip
        (.exit 0))
      (.seq (.block 1
        (.seq (.reg 4 [] [
            ⟨(.t 10), .ia 1 (.t 6) (.t 8), none⟩,
            ⟨(.t 11), .ld 1 false (.t 10), none⟩,
            ⟨(.v 3), .asg (.t 11), none⟩] none ⟨[], [], [], []⟩)
        (.reg 5 [.lend (.var 2) 16] [
            ⟨(.t 12), .mv (.v 2), none⟩,
            ⟨(.t 13), .mv (.v 3), none⟩,
            ⟨(.t 14), .call 33 [(.t 13)], none⟩,
            ⟨(.t 15), .bls 25 1 (.slice none 0 0) 1 [(0, (.t 14))], none⟩,
            ⟨(.t 16), .app 25 1 24 (.t 12) (.t 15), none⟩,
            ⟨(.v 2), .asg (.t 16), none⟩] none ⟨[], [], [], []⟩)))
      (.reg 6 [] [
          ⟨(.t 17), .bin .add (.t 8) (.c (.int .i64 1)), none⟩,
          ⟨(.t 8), .mv (.t 17), none⟩] none ⟨[], [], [], []⟩)))))))
  (.seq (.reg 7 [.lend (.var 2) 18] [
      ⟨(.t 18), .mv (.v 2), none⟩,
      ⟨(.v 1), .asg (.t 18), none⟩] none ⟨[], [], [], []⟩)
  .ret))))
theorem c32 : compFn Try.prog 32 F32 = some (1, strip a32, [.v 1]) ∧ lexAll a32 = true := ⟨by kernel_rfl, by kernel_rfl⟩
/-- clusterlocks/link.clone -/
def F33 : Fr := ⟨5, [0, 2]⟩
def a33 : ACode :=
  (.seq (.reg 0 [] [
      ⟨(.v 1), .asg (.c (.slice none 0 0)), none⟩] none ⟨[], [], [], []⟩)
  (.seq (.reg 1 [] [
      ⟨(.t 3), .mv (.v 0), none⟩,
      ⟨(.t 4), .app 5 1 1 (.c (.slice none 0 0)) (.t 3), none⟩,
      ⟨(.v 1), .asg (.t 4), none⟩] none ⟨[], [], [], []⟩)
  .ret))
theorem c33 : compFn Try.prog 33 F33 = some (1, strip a33, [.v 1]) ∧ lexAll a33 = true := ⟨by kernel_rfl, by kernel_rfl⟩
/-- clusterlocks/clusterlocksref25.body -/
def F34 : Fr := ⟨11, [0, 2]⟩
def a34 : ACode :=
  (.seq (.reg 0 [] [
      ⟨(.v 1), .asg (.c (.bool false)), none⟩] none ⟨[], [], [], []⟩)
  (.seq (.reg 1 [] [
      ⟨(.t 3), .mv (.v 0), none⟩,
      ⟨(.t 4), .len (.t 3), none⟩,
      ⟨(.t 5), .bin .geq (.t 4) (.c (.int .i64 1)), none⟩,
      ⟨(.t 6), .mv (.t 5), none⟩,
      ⟨(.t 7), .mv (.v 0), some (6, true)⟩,
      ⟨(.t 8), .len (.t 7), some (6, true)⟩,
      ⟨(.t 9), .bin .leq (.t 8) (.c (.int .i64 4064)), some (6, true)⟩,
      ⟨(.t 10), .pick (.t 6) (.t 9) (.c (.bool false)), none⟩,
      ⟨(.v 1), .asg (.t 10), none⟩] none ⟨[], [], [], []⟩)
  .ret))
theorem c34 : compFn Try.prog 34 F34 = some (1, strip a34, [.v 1]) ∧ lexAll a34 = true := ⟨by kernel_rfl, by kernel_rfl⟩
/-- clusterlocks/clusterlocksref25.Copy -/
def F35 : Fr := ⟨8, [0]⟩
def a35 : ACode :=
  (.seq (.reg 0 [] [
      ⟨(.t 1), .box 3 (.v 0), none⟩,
      ⟨(.t 2), .allo [(.int .i64 0), (.slice none 0 0), (.int .i64 0)], none⟩] none ⟨[], [], [], []⟩)
  (.seq (.reg 1 [] [
      ⟨(.t 3), .fa 1 (.t 1), none⟩,
      ⟨(.t 4), .ld 1 false (.t 3), none⟩,
      ⟨(.t 5), .call 49 [(.t 4)], none⟩,
      ⟨(.t 6), .fa 1 (.t 1), none⟩,
      ⟨.none, .st 1 (.t 6) (.t 5), none⟩] none ⟨[], [], [], []⟩)
  (.seq (.reg 2 [.lend (.cell 0 0) 7, .lend (.cell 0 1) 7, .lend (.cell 0 2) 7] [
      ⟨(.t 7), .ld 3 true (.t 1), none⟩,
      ⟨.none, .st 3 (.t 2) (.t 7), none⟩] none ⟨[], [], [], []⟩)
  .ret)))
theorem c35 : compFn Try.prog 35 F35 = some (1, strip a35, [.c 2 3 true]) ∧ lexAll a35 = true := ⟨by kernel_rfl, by kernel_rfl⟩
/-- clusterlocks/link.validPacket -/
def F36 : Fr := ⟨31, [0, 2]⟩
def a36 : ACode :=
  (.seq (.reg 0 [] [
      ⟨(.t 1), .box 3 (.v 0), none⟩,
      ⟨(.v 1), .asg (.c (.bool false)), none⟩] none ⟨[], [], [], []⟩)
  (.seq (.seq (.reg 1 [] [
      ⟨(.t 3), .fa 0 (.t 1), none⟩,
      ⟨(.t 4), .ld 1 false (.t 3), none⟩,
      ⟨(.t 5), .bin .lss (.t 4) (.c (.int .i64 0)), none⟩,
      ⟨(.t 6), .mv (.t 5), none⟩,
      ⟨(.t 7), .fa 0 (.t 1), some (6, false)⟩,
      ⟨(.t 8), .ld 1 false (.t 7), some (6, false)⟩,
      ⟨(.t 9), .bin .gtr (.t 8) (.c (.int .i64 1073741824)), some (6, false)⟩,
      ⟨(.t 10), .pick (.t 6) (.c (.bool true)) (.t 9), none⟩,
      ⟨(.t 11), .mv (.t 10), none⟩,
      ⟨(.t 12), .fa 1 (.t 1), some (11, false)⟩,
      ⟨(.t 13), .ld 1 false (.t 12), some (11, false)⟩,
      ⟨(.t 14), .bin .lss (.t 13) (.c (.int .i64 0)), some (11, false)⟩,
      ⟨(.t 15), .pick (.t 11) (.c (.bool true)) (.t 14), none⟩,
      ⟨(.t 16), .mv (.t 15), none⟩,
      ⟨(.t 17), .fa 1 (.t 1), some (16, false)⟩,
      ⟨(.t 18), .ld 1 false (.t 17), some (16, false)⟩,
      ⟨(.t 19), .bin .gtr (.t 18) (.c (.int .i64 1073741824)), some (16, false)⟩,
      ⟨(.t 20), .pick (.t 16) (.c (.bool true)) (.t 19), none⟩] none ⟨[], [], [], []⟩)
  (.cond (.t 20)
    (.seq (.reg 2 [] [
        ⟨(.v 1), .asg (.c (.bool false)), none⟩] none ⟨[], [], [], []⟩)
    .ret)
    .skip))
  (.seq (.seq (.reg 3 [] [
      ⟨(.t 21), .fa 0 (.t 1), none⟩,
      ⟨(.t 22), .ld 1 false (.t 21), none⟩,
      ⟨(.t 23), .bin .eql (.t 22) (.c (.int .i64 0)), none⟩] none ⟨[], [], [], []⟩)
  (.cond (.t 23)
    (.seq (.reg 4 [] [
        ⟨(.t 24), .fa 2 (.t 1), none⟩,
        ⟨(.t 25), .ld 1 false (.t 24), none⟩,
        ⟨(.t 26), .len (.t 25), none⟩,
        ⟨(.t 27), .bin .eql (.t 26) (.c (.int .i64 0)), none⟩,
        ⟨(.v 1), .asg (.t 27), none⟩] none ⟨[], [], [], []⟩)
    .ret)
    .skip))
  (.seq (.reg 5 [] [
      ⟨(.t 28), .fa 2 (.t 1), none⟩,
      ⟨(.t 29), .ld 1 false (.t 28), none⟩,
      ⟨(.t 30), .call 31 [(.t 29)], none⟩,
      ⟨(.v 1), .asg (.t 30), none⟩] none ⟨[], [], [], []⟩)
  .ret))))
theorem c36 : compFn Try.prog 36 F36 = some (1, strip a36, [.v 1]) ∧ lexAll a36 = true := ⟨by kernel_rfl, by kernel_rfl⟩
/-- clusterlocks/clusterlocksref25.ValidPacket -/
def F37 : Fr := ⟨31, [0, 2]⟩
def a37 : ACode :=
  (.seq (.reg 0 [] [
      ⟨(.t 1), .box 3 (.v 0), none⟩,
      ⟨(.v 1), .asg (.c (.bool false)), none⟩] none ⟨[], [], [], []⟩)
  (.seq (.seq (.reg 1 [] [
      ⟨(.t 3), .fa 0 (.t 1), none⟩,
      ⟨(.t 4), .ld 1 false (.t 3), none⟩,
      ⟨(.t 5), .bin .lss (.t 4) (.c (.int .i64 0)), none⟩,
      ⟨(.t 6), .mv (.t 5), none⟩,
      ⟨(.t 7), .fa 0 (.t 1), some (6, false)⟩,
      ⟨(.t 8), .ld 1 false (.t 7), some (6, false)⟩,
      ⟨(.t 9), .bin .gtr (.t 8) (.c (.int .i64 1073741824)), some (6, false)⟩,
      ⟨(.t 10), .pick (.t 6) (.c (.bool true)) (.t 9), none⟩,
      ⟨(.t 11), .mv (.t 10), none⟩,
      ⟨(.t 12), .fa 1 (.t 1), some (11, false)⟩,
      ⟨(.t 13), .ld 1 false (.t 12), some (11, false)⟩,
      ⟨(.t 14), .bin .lss (.t 13) (.c (.int .i64 0)), some (11, false)⟩,
      ⟨(.t 15), .pick (.t 11) (.c (.bool true)) (.t 14), none⟩,
      ⟨(.t 16), .mv (.t 15), none⟩,
      ⟨(.t 17), .fa 1 (.t 1), some (16, false)⟩,
      ⟨(.t 18), .ld 1 false (.t 17), some (16, false)⟩,
      ⟨(.t 19), .bin .gtr (.t 18) (.c (.int .i64 1073741824)), some (16, false)⟩,
      ⟨(.t 20), .pick (.t 16) (.c (.bool true)) (.t 19), none⟩] none ⟨[], [], [], []⟩)
  (.cond (.t 20)
    (.seq (.reg 2 [] [
        ⟨(.v 1), .asg (.c (.bool false)), none⟩] none ⟨[], [], [], []⟩)
    .ret)
    .skip))
  (.seq (.seq (.reg 3 [] [
      ⟨(.t 21), .fa 0 (.t 1), none⟩,
      ⟨(.t 22), .ld 1 false (.t 21), none⟩,
      ⟨(.t 23), .bin .eql (.t 22) (.c (.int .i64 0)), none⟩] none ⟨[], [], [], []⟩)
  (.cond (.t 23)
    (.seq (.reg 4 [] [
        ⟨(.t 24), .fa 2 (.t 1), none⟩,
        ⟨(.t 25), .ld 1 false (.t 24), none⟩,
        ⟨(.t 26), .len (.t 25), none⟩,
        ⟨(.t 27), .bin .eql (.t 26) (.c (.int .i64 0)), none⟩,
        ⟨(.v 1), .asg (.t 27), none⟩] none ⟨[], [], [], []⟩)
    .ret)
    .skip))
  (.seq (.reg 5 [] [
      ⟨(.t 28), .fa 2 (.t 1), none⟩,
      ⟨(.t 29), .ld 1 false (.t 28), none⟩,
      ⟨(.t 30), .call 34 [(.t 29)], none⟩,
      ⟨(.v 1), .asg (.t 30), none⟩] none ⟨[], [], [], []⟩)
  .ret))))
theorem c37 : compFn Try.prog 37 F37 = some (1, strip a37, [.v 1]) ∧ lexAll a37 = true := ⟨by kernel_rfl, by kernel_rfl⟩
/-- clusterlocks/clusterlocksref23.Same -/
def F38 : Fr := ⟨27, [0, 1, 4, 5]⟩
def a38 : ACode :=
  (.seq (.reg 0 [] [
      ⟨(.v 2), .asg (.c (.bool false)), none⟩] none ⟨[], [], [], []⟩)
  (.seq (.seq (.reg 1 [] [
      ⟨(.t 6), .mv (.v 0), none⟩,
      ⟨(.t 7), .len (.t 6), none⟩,
      ⟨(.t 8), .mv (.v 1), none⟩,
      ⟨(.t 9), .len (.t 8), none⟩,
      ⟨(.t 10), .bin .neq (.t 7) (.t 9), none⟩] none ⟨[], [], [], []⟩)
  (.cond (.t 10)
    (.seq (.reg 2 [] [
        ⟨(.v 2), .asg (.c (.bool false)), none⟩] none ⟨[], [], [], []⟩)
    .ret)
    .skip))
  (.seq (.seq (.reg 3 [] [
      ⟨(.v 3), .asg (.c (.int .i64 0)), none⟩] none ⟨[], [], [], []⟩)
  (.block 0
    (.loop
      (.seq (.seq (.reg 4 [] [
          ⟨(.t 11), .mv (.v 3), none⟩,
          ⟨(.t 12), .mv (.v 0), none⟩,
          ⟨(.t 13), .len (.t 12), none⟩,
          ⟨(.t 14), .bin .lss (.t 11) (.t 13), none⟩] none ⟨[], [], [], []⟩)
      (.cond (.t 14)
        .skip
        (.exit 0)))
      (.seq (.block 1
        (.seq (.reg 6 [] [
            ⟨(.t 17), .mv (.v 0), none⟩,
            ⟨(.t 18), .mv (.v 3), none⟩,
            ⟨(.t 19), .ia 1 (.t 17) (.t 18), none⟩,
            ⟨(.t 20), .ld 1 false (.t 19), none⟩,
            ⟨(.t 21), .mv (.v 1), none⟩,
            ⟨(.t 22), .mv (.v 3), none⟩,
            ⟨(.t 23), .ia 1 (.t 21) (.t 22), none⟩,
            ⟨(.t 24), .ld 1 false (.t 23), none⟩,
            ⟨(.t 25), .call 50 [(.t 20), (.t 24)], none⟩,
            ⟨(.t 26), .un .not (.t 25), none⟩] (some [[], [], [0, 1], [2], [], [], [4, 5], [6], [3, 7], [8]]) ⟨[], [], [], []⟩)
        (.cond (.t 26)
          (.seq (.reg 7 [] [
              ⟨(.v 2), .asg (.c (.bool false)), none⟩] none ⟨[], [], [], []⟩)
          .ret)
          .skip)))
      (.reg 5 [] [
          ⟨(.t 15), .mv (.v 3), none⟩,
          ⟨(.t 16), .bin .add (.t 15) (.c (.int .i64 1)), none⟩,
          ⟨(.v 3), .asg (.t 16), none⟩] none ⟨[], [], [], []⟩))))))
  (.seq (.reg 8 [] [
      ⟨(.v 2), .asg (.c (.bool true)), none⟩] none ⟨[], [], [], []⟩)
  .ret))))
theorem c38 : compFn Try.prog 38 F38 = some (2, strip a38, [.v 2]) ∧ lexAll a38 = true := ⟨by kernel_rfl, by kernel_rfl⟩
/-- clusterlocks/codec.PutUint -/
def F39 : Fr := ⟨28, [0, 1, 4, 5]⟩
def a39 : ACode :=
  (.seq (.reg 0 [] [
      ⟨(.v 2), .asg (.c (.slice none 0 0)), none⟩] none ⟨[], [], [], []⟩)
  (.seq (.reg 1 [] [
      ⟨(.t 6), .mv (.v 0), none⟩,
      ⟨(.t 7), .mv (.v 0), none⟩,
      ⟨(.t 8), .len (.t 7), none⟩,
      ⟨(.t 9), .mv (.v 0), none⟩,
      ⟨(.t 10), .len (.t 9), none⟩,
      ⟨(.t 11), .sl 5 1 (.t 6) none (some (.t 8)) (some (.t 10)), none⟩,
      ⟨(.v 3), .asg (.t 11), none⟩] none ⟨[], [], [], []⟩)
  (.seq (.block 0
    (.loop
      (.seq (.seq (.reg 2 [] [
          ⟨(.t 12), .mv (.v 1), none⟩,
          ⟨(.t 13), .bin .gtr (.t 12) (.c (.int .u64 127)), none⟩] none ⟨[], [], [], []⟩)
      (.cond (.t 13)
        .skip
        (.exit 0)))
      (.block 1
        (.seq (.reg 3 [.lend (.var 3) 20] [
            ⟨(.t 14), .mv (.v 3), none⟩,
            ⟨(.t 15), .mv (.v 1), none⟩,
            ⟨(.t 16), .bin .and (.t 15) (.c (.int .u64 127)), none⟩,
            ⟨(.t 17), .conv .u8 (.t 16), none⟩,
            ⟨(.t 18), .bin .or (.t 17) (.c (.int .u8 128)), none⟩,
            ⟨(.t 19), .bls 5 1 (.int .u8 0) 1 [(0, (.t 18))], none⟩,
            ⟨(.t 20), .app 5 1 1 (.t 14) (.t 19), none⟩,
            ⟨(.v 3), .asg (.t 20), none⟩] none ⟨[], [], [], []⟩)
        (.reg 4 [] [
            ⟨(.t 21), .mv (.v 1), none⟩,
            ⟨(.t 22), .bin .shr (.t 21) (.c (.int .u64 7)), none⟩,
            ⟨(.v 1), .asg (.t 22), none⟩] none ⟨[], [], [], []⟩))))))
  (.seq (.reg 5 [.lend (.var 3) 27] [
      ⟨(.t 23), .mv (.v 3), none⟩,
      ⟨(.t 24), .mv (.v 1), none⟩,
      ⟨(.t 25), .conv .u8 (.t 24), none⟩,
      ⟨(.t 26), .bls 5 1 (.int .u8 0) 1 [(0, (.t 25))], none⟩,
      ⟨(.t 27), .app 5 1 1 (.t 23) (.t 26), none⟩,
      ⟨(.v 2), .asg (.t 27), none⟩] none ⟨[], [], [], []⟩)
  .ret))))
theorem c39 : compFn Try.prog 39 F39 = some (2, strip a39, [.v 2]) ∧ lexAll a39 = true := ⟨by kernel_rfl, by kernel_rfl⟩
/-- clusterlocks/codec.Frame -/
def F40 : Fr := ⟨31, [0, 2, 3, 4, 5]⟩
def a40 : ACode :=
  (.seq (.reg 0 [] [
      ⟨(.v 1), .asg (.c (.slice none 0 0)), none⟩,
      ⟨(.v 2), .asg (.c (.int .i64 0)), none⟩] none ⟨[], [], [], []⟩)
  (.seq (.seq (.reg 1 [] [
      ⟨(.t 6), .mv (.v 0), none⟩,
      ⟨(.t 7), .len (.t 6), none⟩,
      ⟨(.t 8), .bin .gtr (.t 7) (.c (.int .i64 4096)), none⟩] none ⟨[], [], [], []⟩)
  (.cond (.t 8)
    (.seq (.reg 2 [] [
        ⟨(.v 1), .asg (.c (.slice none 0 0)), none⟩,
        ⟨(.v 2), .asg (.c (.int .i64 3)), none⟩] none ⟨[], [], [], []⟩)
    .ret)
    .skip))
  (.seq (.reg 3 [] [
      ⟨(.t 9), .mv (.v 0), none⟩,
      ⟨(.t 10), .call 51 [(.t 9)], none⟩,
      ⟨(.v 3), .asg (.t 10), none⟩] none ⟨[], [], [], []⟩)
  (.seq (.reg 4 [] [
      ⟨(.t 11), .mv (.v 0), none⟩,
      ⟨(.t 12), .len (.t 11), none⟩,
      ⟨(.t 13), .conv .u64 (.t 12), none⟩,
      ⟨(.t 14), .call 39 [(.c (.slice none 0 0)), (.t 13)], none⟩,
      ⟨(.t 15), .mv (.v 0), none⟩,
      ⟨(.t 16), .app 5 1 1 (.t 14) (.t 15), none⟩,
      ⟨(.v 4), .asg (.t 16), none⟩] none ⟨[], [], [], []⟩)
  (.seq (.reg 5 [.lend (.var 4) 30] [
      ⟨(.t 17), .mv (.v 4), none⟩,
      ⟨(.t 18), .mv (.v 3), none⟩,
      ⟨(.t 19), .bin .shr (.t 18) (.c (.int .u64 24)), none⟩,
      ⟨(.t 20), .conv .u8 (.t 19), none⟩,
      ⟨(.t 21), .mv (.v 3), none⟩,
      ⟨(.t 22), .bin .shr (.t 21) (.c (.int .u64 16)), none⟩,
      ⟨(.t 23), .conv .u8 (.t 22), none⟩,
      ⟨(.t 24), .mv (.v 3), none⟩,
      ⟨(.t 25), .bin .shr (.t 24) (.c (.int .u64 8)), none⟩,
      ⟨(.t 26), .conv .u8 (.t 25), none⟩,
      ⟨(.t 27), .mv (.v 3), none⟩,
      ⟨(.t 28), .conv .u8 (.t 27), none⟩,
      ⟨(.t 29), .bls 5 1 (.int .u8 0) 4 [(0, (.t 20)), (1, (.t 23)), (2, (.t 26)), (3, (.t 28))], none⟩,
      ⟨(.t 30), .app 5 1 1 (.t 17) (.t 29), none⟩,
      ⟨(.v 1), .asg (.t 30), none⟩,
      ⟨(.v 2), .asg (.c (.int .i64 0)), none⟩] none ⟨[], [], [], []⟩)
  .ret)))))
theorem c40 : compFn Try.prog 40 F40 = some (1, strip a40, [.v 1, .v 2]) ∧ lexAll a40 = true := ⟨by kernel_rfl, by kernel_rfl⟩
/-- clusterlocks/clusterlocksref01.PutUint -/
def F41 : Fr := ⟨25, [0, 1, 4, 5]⟩
def a41 : ACode :=
  (.seq (.reg 0 [] [
      ⟨(.v 2), .asg (.c (.slice none 0 0)), none⟩] none ⟨[], [], [], []⟩)
  (.seq (.reg 1 [] [
      ⟨(.t 6), .bls 5 1 (.int .u8 0) 0 [], none⟩,
      ⟨(.t 7), .mv (.v 0), none⟩,
      ⟨(.t 8), .app 5 1 1 (.t 6) (.t 7), none⟩,
      ⟨(.v 3), .asg (.t 8), none⟩] none ⟨[], [], [], []⟩)
  (.seq (.block 0
    (.loop
      (.seq (.seq (.reg 2 [] [
          ⟨(.t 9), .mv (.v 1), none⟩,
          ⟨(.t 10), .bin .geq (.t 9) (.c (.int .u64 128)), none⟩] none ⟨[], [], [], []⟩)
      (.cond (.t 10)
        .skip
        (.exit 0)))
      (.block 1
        (.seq (.reg 3 [.lend (.var 3) 17] [
            ⟨(.t 11), .mv (.v 3), none⟩,
            ⟨(.t 12), .mv (.v 1), none⟩,
            ⟨(.t 13), .bin .and (.t 12) (.c (.int .u64 127)), none⟩,
            ⟨(.t 14), .conv .u8 (.t 13), none⟩,
            ⟨(.t 15), .bin .or (.t 14) (.c (.int .u8 128)), none⟩,
            ⟨(.t 16), .bls 5 1 (.int .u8 0) 1 [(0, (.t 15))], none⟩,
            ⟨(.t 17), .app 5 1 1 (.t 11) (.t 16), none⟩,
            ⟨(.v 3), .asg (.t 17), none⟩] none ⟨[], [], [], []⟩)
        (.reg 4 [] [
            ⟨(.t 18), .mv (.v 1), none⟩,
            ⟨(.t 19), .bin .shr (.t 18) (.c (.int .u64 7)), none⟩,
            ⟨(.v 1), .asg (.t 19), none⟩] none ⟨[], [], [], []⟩))))))
  (.seq (.reg 5 [.lend (.var 3) 24] [
      ⟨(.t 20), .mv (.v 3), none⟩,
      ⟨(.t 21), .mv (.v 1), none⟩,
      ⟨(.t 22), .conv .u8 (.t 21), none⟩,
      ⟨(.t 23), .bls 5 1 (.int .u8 0) 1 [(0, (.t 22))], none⟩,
      ⟨(.t 24), .app 5 1 1 (.t 20) (.t 23), none⟩,
      ⟨(.v 2), .asg (.t 24), none⟩] none ⟨[], [], [], []⟩)
  .ret))))
theorem c41 : compFn Try.prog 41 F41 = some (2, strip a41, [.v 2]) ∧ lexAll a41 = true := ⟨by kernel_rfl, by kernel_rfl⟩
/-- clusterlocks/clusterlocksref01.Frame -/
def F42 : Fr := ⟨31, [0, 2, 3, 4, 5]⟩
def a42 : ACode :=
  (.seq (.reg 0 [] [
      ⟨(.v 1), .asg (.c (.slice none 0 0)), none⟩,
      ⟨(.v 2), .asg (.c (.int .i64 0)), none⟩] none ⟨[], [], [], []⟩)
  (.seq (.seq (.reg 1 [] [
      ⟨(.t 6), .mv (.v 0), none⟩,
      ⟨(.t 7), .len (.t 6), none⟩,
      ⟨(.t 8), .bin .gtr (.t 7) (.c (.int .i64 4096)), none⟩] none ⟨[], [], [], []⟩)
  (.cond (.t 8)
    (.seq (.reg 2 [] [
        ⟨(.v 1), .asg (.c (.slice none 0 0)), none⟩,
        ⟨(.v 2), .asg (.c (.int .i64 3)), none⟩] none ⟨[], [], [], []⟩)
    .ret)
    .skip))
  (.seq (.reg 3 [] [
      ⟨(.t 9), .mv (.v 0), none⟩,
      ⟨(.t 10), .len (.t 9), none⟩,
      ⟨(.t 11), .conv .u64 (.t 10), none⟩,
      ⟨(.t 12), .call 41 [(.c (.slice none 0 0)), (.t 11)], none⟩,
      ⟨(.t 13), .mv (.v 0), none⟩,
      ⟨(.t 14), .app 5 1 1 (.t 12) (.t 13), none⟩,
      ⟨(.v 3), .asg (.t 14), none⟩] none ⟨[], [], [], []⟩)
  (.seq (.reg 4 [] [
      ⟨(.t 15), .mv (.v 0), none⟩,
      ⟨(.t 16), .call 52 [(.t 15)], none⟩,
      ⟨(.v 4), .asg (.t 16), none⟩] none ⟨[], [], [], []⟩)
  (.seq (.reg 5 [.lend (.var 3) 30] [
      ⟨(.t 17), .mv (.v 3), none⟩,
      ⟨(.t 18), .mv (.v 4), none⟩,
      ⟨(.t 19), .bin .shr (.t 18) (.c (.int .u64 24)), none⟩,
      ⟨(.t 20), .conv .u8 (.t 19), none⟩,
      ⟨(.t 21), .mv (.v 4), none⟩,
      ⟨(.t 22), .bin .shr (.t 21) (.c (.int .u64 16)), none⟩,
      ⟨(.t 23), .conv .u8 (.t 22), none⟩,
      ⟨(.t 24), .mv (.v 4), none⟩,
      ⟨(.t 25), .bin .shr (.t 24) (.c (.int .u64 8)), none⟩,
      ⟨(.t 26), .conv .u8 (.t 25), none⟩,
      ⟨(.t 27), .mv (.v 4), none⟩,
      ⟨(.t 28), .conv .u8 (.t 27), none⟩,
      ⟨(.t 29), .bls 5 1 (.int .u8 0) 4 [(0, (.t 20)), (1, (.t 23)), (2, (.t 26)), (3, (.t 28))], none⟩,
      ⟨(.t 30), .app 5 1 1 (.t 17) (.t 29), none⟩,
      ⟨(.v 1), .asg (.t 30), none⟩,
      ⟨(.v 2), .asg (.c (.int .i64 0)), none⟩] none ⟨[], [], [], []⟩)
  .ret)))))
theorem c42 : compFn Try.prog 42 F42 = some (1, strip a42, [.v 1, .v 2]) ∧ lexAll a42 = true := ⟨by kernel_rfl, by kernel_rfl⟩
/-- clusterlocks/codec.Unframe -/
def F43 : Fr := ⟨68, [0, 2, 3, 4, 5, 6, 7, 18, 22, 25, 8, 9, 11]⟩
def a43 : ACode :=
  (.seq (.reg 0 [] [
      ⟨(.v 1), .asg (.c (.slice none 0 0)), none⟩,
      ⟨(.v 2), .asg (.c (.int .i64 0)), none⟩,
      ⟨(.v 3), .asg (.c (.int .i64 0)), none⟩] none ⟨[], [], [], []⟩)
  (.seq (.reg 1 [] [
      ⟨(.t 13), .mv (.v 0), none⟩,
      ⟨(.t 14), .call 44 [(.t 13)], none⟩,
      ⟨(.t 12), .mv (.t 14), none⟩,
      ⟨(.t 15), .ext 12 0, none⟩,
      ⟨(.t 16), .ext 12 1, none⟩,
      ⟨(.t 17), .ext 12 2, none⟩,
      ⟨(.v 4), .asg (.t 15), none⟩,
      ⟨(.v 5), .asg (.t 16), none⟩,
      ⟨(.v 6), .asg (.t 17), none⟩] none ⟨[], [], [], []⟩)
  (.seq (.block 0
    (.seq (.reg 2 [] [
        ⟨(.t 19), .mv (.v 6), none⟩,
        ⟨(.t 20), .bin .neq (.t 19) (.c (.int .i64 0)), none⟩,
        ⟨(.v 7), .asg (.t 20), none⟩] none ⟨[], [], [], []⟩)
    (.cond (.v 7)
      (.seq (.reg 3 [] [
          ⟨(.t 21), .mv (.v 6), none⟩,
          ⟨(.v 1), .asg (.c (.slice none 0 0)), none⟩,
          ⟨(.v 2), .asg (.c (.int .i64 0)), none⟩,
          ⟨(.v 3), .asg (.t 21), none⟩] none ⟨[], [], [], []⟩)
      .ret)
      (.seq (.reg 4 [] [
          ⟨(.t 23), .mv (.v 4), none⟩,
          ⟨(.t 24), .bin .gtr (.t 23) (.c (.int .u64 4096)), none⟩,
          ⟨(.v 8), .asg (.t 24), none⟩] none ⟨[], [], [], []⟩)
      (.cond (.v 8)
        (.seq (.reg 5 [] [
            ⟨(.v 1), .asg (.c (.slice none 0 0)), none⟩,
            ⟨(.v 2), .asg (.c (.int .i64 0)), none⟩,
            ⟨(.v 3), .asg (.c (.int .i64 3)), none⟩] none ⟨[], [], [], []⟩)
        .ret)
        (.seq (.reg 6 [] [
            ⟨(.t 26), .mv (.v 0), none⟩,
            ⟨(.t 27), .len (.t 26), none⟩,
            ⟨(.t 28), .mv (.v 5), none⟩,
            ⟨(.t 29), .bin .sub (.t 27) (.t 28), none⟩,
            ⟨(.t 30), .mv (.v 4), none⟩,
            ⟨(.t 31), .conv .i64 (.t 30), none⟩,
            ⟨(.t 32), .bin .add (.t 31) (.c (.int .i64 4)), none⟩,
            ⟨(.t 33), .bin .lss (.t 29) (.t 32), none⟩,
            ⟨(.v 9), .asg (.t 33), none⟩] none ⟨[], [], [], []⟩)
        (.cond (.v 9)
          (.seq (.reg 7 [] [
              ⟨(.v 1), .asg (.c (.slice none 0 0)), none⟩,
              ⟨(.v 2), .asg (.c (.int .i64 0)), none⟩,
              ⟨(.v 3), .asg (.c (.int .i64 5)), none⟩] none ⟨[], [], [], []⟩)
          .ret)
          .skip)))))))
  (.seq (.reg 8 [] [
      ⟨(.t 34), .mv (.v 5), none⟩,
      ⟨(.t 35), .mv (.v 4), none⟩,
      ⟨(.t 36), .conv .i64 (.t 35), none⟩,
      ⟨(.t 37), .bin .add (.t 34) (.t 36), none⟩,
      ⟨(.v 10), .asg (.t 37), none⟩] none ⟨[], [], [], []⟩)
  (.seq (.reg 9 [] [
      ⟨(.v 11), .asg (.c (.int .u32 0)), none⟩] none ⟨[], [], [], []⟩)
  (.seq (.seq (.reg 10 [] [
      ⟨(.t 38), .mv (.v 0), none⟩,
      ⟨(.t 39), .mv (.v 10), none⟩,
      ⟨(.t 40), .mv (.v 10), none⟩,
      ⟨(.t 41), .bin .add (.t 40) (.c (.int .i64 4)), none⟩,
      ⟨(.t 42), .sl 5 1 (.t 38) (some (.t 39)) (some (.t 41)) none, none⟩,
      ⟨(.t 43), .len (.t 42), none⟩,
      ⟨(.t 44), .mv (.c (.int .i64 0)), none⟩] none ⟨[], [], [], []⟩)
  (.block 1
    (.loop
      (.seq (.reg 11 [] [
          ⟨(.t 45), .bin .lss (.t 44) (.t 43), none⟩] none ⟨[], [], [], []⟩)
      (.seq (.cond (.t 45)
        .skip
        (.exit 1))
      (.seq (.block 2
        (.seq (.reg 12 [] [
            ⟨(.t 46), .ia 1 (.t 42) (.t 44), none⟩,
            ⟨(.t 47), .ld 1 false (.t 46), none⟩,
            ⟨(.v 12), .asg (.t 47), none⟩] none ⟨[], [], [], []⟩)
        (.reg 13 [] [
            ⟨(.t 48), .mv (.v 11), none⟩,
            ⟨(.t 49), .bin .shl (.t 48) (.c (.int .u64 8)), none⟩,
            ⟨(.t 50), .mv (.v 12), none⟩,
            ⟨(.t 51), .conv .u32 (.t 50), none⟩,
            ⟨(.t 52), .bin .or (.t 49) (.t 51), none⟩,
            ⟨(.v 11), .asg (.t 52), none⟩] none ⟨[], [], [], []⟩)))
      (.reg 14 [] [
          ⟨(.t 53), .bin .add (.t 44) (.c (.int .i64 1)), none⟩,
          ⟨(.t 44), .mv (.t 53), none⟩] none ⟨[], [], [], []⟩)))))))
  (.seq (.seq (.reg 15 [] [
      ⟨(.t 54), .mv (.v 11), none⟩,
      ⟨(.t 55), .mv (.v 0), none⟩,
      ⟨(.t 56), .mv (.v 5), none⟩,
      ⟨(.t 57), .mv (.v 10), none⟩,
      ⟨(.t 58), .sl 5 1 (.t 55) (some (.t 56)) (some (.t 57)) none, none⟩,
      ⟨(.t 59), .call 51 [(.t 58)], none⟩,
      ⟨(.t 60), .bin .neq (.t 54) (.t 59), none⟩] none ⟨[], [], [], []⟩)
  (.cond (.t 60)
    (.seq (.reg 16 [] [
        ⟨(.v 1), .asg (.c (.slice none 0 0)), none⟩,
        ⟨(.v 2), .asg (.c (.int .i64 0)), none⟩,
        ⟨(.v 3), .asg (.c (.int .i64 7)), none⟩] none ⟨[], [], [], []⟩)
    .ret)
    .skip))
  (.seq (.reg 17 [] [
      ⟨(.t 61), .mv (.v 0), none⟩,
      ⟨(.t 62), .mv (.v 5), none⟩,
      ⟨(.t 63), .mv (.v 10), none⟩,
      ⟨(.t 64), .sl 5 1 (.t 61) (some (.t 62)) (some (.t 63)) none, none⟩,
      ⟨(.t 65), .app 5 1 1 (.c (.slice none 0 0)) (.t 64), none⟩,
      ⟨(.t 66), .mv (.v 10), none⟩,
      ⟨(.t 67), .bin .add (.t 66) (.c (.int .i64 4)), none⟩,
      ⟨(.v 1), .asg (.t 65), none⟩,
      ⟨(.v 2), .asg (.t 67), none⟩,
      ⟨(.v 3), .asg (.c (.int .i64 0)), none⟩] none ⟨[], [], [], []⟩)
  .ret))))))))
theorem c43 : compFn Try.prog 43 F43 = some (1, strip a43, [.v 1, .v 2, .v 3]) ∧ lexAll a43 = true := ⟨by kernel_rfl, by kernel_rfl⟩
/-- clusterlocks/codec.Uint -/
def F44 : Fr := ⟨46, [0, 2, 3, 4, 5, 6, 7]⟩
def a44 : ACode :=
  (.seq (.reg 0 [] [
      ⟨(.v 1), .asg (.c (.int .u64 0)), none⟩,
      ⟨(.v 2), .asg (.c (.int .i64 0)), none⟩,
      ⟨(.v 3), .asg (.c (.int .i64 0)), none⟩] none ⟨[], [], [], []⟩)
  (.seq (.reg 1 [] [
      ⟨(.v 4), .asg (.c (.int .u64 0)), none⟩] none ⟨[], [], [], []⟩)
  (.seq (.seq (.reg 2 [] [
      ⟨(.t 8), .mv (.c (.int .i64 0)), none⟩] none ⟨[], [], [], []⟩)
  (.block 0
    (.loop
      (.seq (.reg 3 [] [
          ⟨(.t 9), .bin .lss (.t 8) (.c (.int .i64 10)), none⟩] none ⟨[], [], [], []⟩)
      (.seq (.cond (.t 9)
        .skip
        (.exit 0))
      (.seq (.block 1
        (.seq (.reg 4 [] [
            ⟨(.t 10), .mv (.t 8), none⟩,
            ⟨(.v 5), .asg (.t 10), none⟩] none ⟨[], [], [], []⟩)
        (.seq (.seq (.reg 5 [] [
            ⟨(.t 11), .mv (.v 5), none⟩,
            ⟨(.t 12), .mv (.v 0), none⟩,
            ⟨(.t 13), .len (.t 12), none⟩,
            ⟨(.t 14), .bin .geq (.t 11) (.t 13), none⟩] none ⟨[], [], [], []⟩)
        (.cond (.t 14)
          (.seq (.reg 6 [] [
              ⟨(.v 1), .asg (.c (.int .u64 0)), none⟩,
              ⟨(.v 2), .asg (.c (.int .i64 0)), none⟩,
              ⟨(.v 3), .asg (.c (.int .i64 5)), none⟩] none ⟨[], [], [], []⟩)
          .ret)
          .skip))
        (.seq (.reg 7 [] [
            ⟨(.t 15), .mv (.v 0), none⟩,
            ⟨(.t 16), .mv (.v 5), none⟩,
            ⟨(.t 17), .ia 1 (.t 15) (.t 16), none⟩,
            ⟨(.t 18), .ld 1 false (.t 17), none⟩,
            ⟨(.v 6), .asg (.t 18), none⟩] none ⟨[], [], [], []⟩)
        (.seq (.seq (.reg 8 [] [
            ⟨(.t 19), .mv (.v 5), none⟩,
            ⟨(.t 20), .bin .eql (.t 19) (.c (.int .i64 9)), none⟩,
            ⟨(.t 21), .mv (.t 20), none⟩,
            ⟨(.t 22), .mv (.v 6), some (21, true)⟩,
            ⟨(.t 23), .bin .gtr (.t 22) (.c (.int .u8 1)), some (21, true)⟩,
            ⟨(.t 24), .pick (.t 21) (.t 23) (.c (.bool false)), none⟩] none ⟨[], [], [], []⟩)
        (.cond (.t 24)
          (.seq (.reg 9 [] [
              ⟨(.v 1), .asg (.c (.int .u64 0)), none⟩,
              ⟨(.v 2), .asg (.c (.int .i64 0)), none⟩,
              ⟨(.v 3), .asg (.c (.int .i64 6)), none⟩] none ⟨[], [], [], []⟩)
          .ret)
          .skip))
        (.seq (.reg 10 [] [
            ⟨(.t 25), .mv (.v 4), none⟩,
            ⟨(.t 26), .mv (.v 6), none⟩,
            ⟨(.t 27), .bin .and (.t 26) (.c (.int .u8 127)), none⟩,
            ⟨(.t 28), .conv .u64 (.t 27), none⟩,
            ⟨(.t 29), .mv (.v 5), none⟩,
            ⟨(.t 30), .bin .mul (.c (.int .i64 7)) (.t 29), none⟩,
            ⟨(.t 31), .bin .shl (.t 28) (.t 30), none⟩,
            ⟨(.t 32), .bin .or (.t 25) (.t 31), none⟩,
            ⟨(.v 4), .asg (.t 32), none⟩] none ⟨[], [], [], []⟩)
        (.seq (.seq (.reg 11 [] [
            ⟨(.t 33), .mv (.v 6), none⟩,
            ⟨(.t 34), .bin .and (.t 33) (.c (.int .u8 128)), none⟩,
            ⟨(.t 35), .bin .neq (.t 34) (.c (.int .u8 0)), none⟩] none ⟨[], [], [], []⟩)
        (.cond (.t 35)
          (.exit 1)
          .skip))
        (.seq (.seq (.reg 12 [] [
            ⟨(.t 36), .mv (.v 6), none⟩,
            ⟨(.t 37), .bin .eql (.t 36) (.c (.int .u8 0)), none⟩,
            ⟨(.t 38), .mv (.t 37), none⟩,
            ⟨(.t 39), .mv (.v 5), some (38, true)⟩,
            ⟨(.t 40), .bin .gtr (.t 39) (.c (.int .i64 0)), some (38, true)⟩,
            ⟨(.t 41), .pick (.t 38) (.t 40) (.c (.bool false)), none⟩] none ⟨[], [], [], []⟩)
        (.cond (.t 41)
          (.seq (.reg 13 [] [
              ⟨(.v 1), .asg (.c (.int .u64 0)), none⟩,
              ⟨(.v 2), .asg (.c (.int .i64 0)), none⟩,
              ⟨(.v 3), .asg (.c (.int .i64 6)), none⟩] none ⟨[], [], [], []⟩)
          .ret)
          .skip))
        (.seq (.reg 14 [] [
            ⟨(.t 42), .mv (.v 4), none⟩,
            ⟨(.t 43), .mv (.v 5), none⟩,
            ⟨(.t 44), .bin .add (.t 43) (.c (.int .i64 1)), none⟩,
            ⟨(.v 1), .asg (.t 42), none⟩,
            ⟨(.v 2), .asg (.t 44), none⟩,
            ⟨(.v 3), .asg (.c (.int .i64 0)), none⟩] none ⟨[], [], [], []⟩)
        .ret)))))))))
      (.reg 15 [] [
          ⟨(.t 45), .bin .add (.t 8) (.c (.int .i64 1)), none⟩,
          ⟨(.t 8), .mv (.t 45), none⟩] none ⟨[], [], [], []⟩)))))))
  (.seq (.reg 16 [] [
      ⟨(.v 1), .asg (.c (.int .u64 0)), none⟩,
      ⟨(.v 2), .asg (.c (.int .i64 0)), none⟩,
      ⟨(.v 3), .asg (.c (.int .i64 6)), none⟩] none ⟨[], [], [], []⟩)
  .ret))))
theorem c44 : compFn Try.prog 44 F44 = some (1, strip a44, [.v 1, .v 2, .v 3]) ∧ lexAll a44 = true := ⟨by kernel_rfl, by kernel_rfl⟩
/-- clusterlocks/clusterlocksref01.Unframe -/
def F45 : Fr := ⟨75, [0, 2, 3, 4, 5, 6, 7, 8, 9]⟩
def a45 : ACode :=
  (.seq (.reg 0 [] [
      ⟨(.v 1), .asg (.c (.slice none 0 0)), none⟩,
      ⟨(.v 2), .asg (.c (.int .i64 0)), none⟩,
      ⟨(.v 3), .asg (.c (.int .i64 0)), none⟩] none ⟨[], [], [], []⟩)
  (.seq (.reg 1 [] [
      ⟨(.t 11), .mv (.v 0), none⟩,
      ⟨(.t 12), .call 46 [(.t 11)], none⟩,
      ⟨(.t 10), .mv (.t 12), none⟩,
      ⟨(.t 13), .ext 10 0, none⟩,
      ⟨(.t 14), .ext 10 1, none⟩,
      ⟨(.t 15), .ext 10 2, none⟩,
      ⟨(.v 4), .asg (.t 13), none⟩,
      ⟨(.v 5), .asg (.t 14), none⟩,
      ⟨(.v 6), .asg (.t 15), none⟩] none ⟨[], [], [], []⟩)
  (.seq (.seq (.reg 2 [] [
      ⟨(.t 16), .mv (.v 6), none⟩,
      ⟨(.t 17), .bin .neq (.t 16) (.c (.int .i64 0)), none⟩] none ⟨[], [], [], []⟩)
  (.cond (.t 17)
    (.seq (.reg 3 [] [
        ⟨(.t 18), .mv (.v 6), none⟩,
        ⟨(.v 1), .asg (.c (.slice none 0 0)), none⟩,
        ⟨(.v 2), .asg (.c (.int .i64 0)), none⟩,
        ⟨(.v 3), .asg (.t 18), none⟩] none ⟨[], [], [], []⟩)
    .ret)
    .skip))
  (.seq (.seq (.reg 4 [] [
      ⟨(.t 19), .mv (.v 4), none⟩,
      ⟨(.t 20), .bin .gtr (.t 19) (.c (.int .u64 4096)), none⟩] none ⟨[], [], [], []⟩)
  (.cond (.t 20)
    (.seq (.reg 5 [] [
        ⟨(.v 1), .asg (.c (.slice none 0 0)), none⟩,
        ⟨(.v 2), .asg (.c (.int .i64 0)), none⟩,
        ⟨(.v 3), .asg (.c (.int .i64 3)), none⟩] none ⟨[], [], [], []⟩)
    .ret)
    .skip))
  (.seq (.seq (.reg 6 [] [
      ⟨(.t 21), .mv (.v 0), none⟩,
      ⟨(.t 22), .len (.t 21), none⟩,
      ⟨(.t 23), .mv (.v 5), none⟩,
      ⟨(.t 24), .bin .sub (.t 22) (.t 23), none⟩,
      ⟨(.t 25), .mv (.v 4), none⟩,
      ⟨(.t 26), .conv .i64 (.t 25), none⟩,
      ⟨(.t 27), .bin .add (.t 26) (.c (.int .i64 4)), none⟩,
      ⟨(.t 28), .bin .lss (.t 24) (.t 27), none⟩] none ⟨[], [], [], []⟩)
  (.cond (.t 28)
    (.seq (.reg 7 [] [
        ⟨(.v 1), .asg (.c (.slice none 0 0)), none⟩,
        ⟨(.v 2), .asg (.c (.int .i64 0)), none⟩,
        ⟨(.v 3), .asg (.c (.int .i64 5)), none⟩] none ⟨[], [], [], []⟩)
    .ret)
    .skip))
  (.seq (.reg 8 [] [
      ⟨(.t 29), .bls 5 1 (.int .u8 0) 0 [], none⟩,
      ⟨(.t 30), .mv (.v 0), none⟩,
      ⟨(.t 31), .mv (.v 5), none⟩,
      ⟨(.t 32), .mv (.v 5), none⟩,
      ⟨(.t 33), .mv (.v 4), none⟩,
      ⟨(.t 34), .conv .i64 (.t 33), none⟩,
      ⟨(.t 35), .bin .add (.t 32) (.t 34), none⟩,
      ⟨(.t 36), .sl 5 1 (.t 30) (some (.t 31)) (some (.t 35)) none, none⟩,
      ⟨(.t 37), .app 5 1 1 (.t 29) (.t 36), none⟩,
      ⟨(.v 7), .asg (.t 37), none⟩] none ⟨[], [], [], []⟩)
  (.seq (.reg 9 [] [
      ⟨(.t 38), .mv (.v 0), none⟩,
      ⟨(.t 39), .mv (.v 5), none⟩,
      ⟨(.t 40), .mv (.v 4), none⟩,
      ⟨(.t 41), .conv .i64 (.t 40), none⟩,
      ⟨(.t 42), .bin .add (.t 39) (.t 41), none⟩,
      ⟨(.t 43), .sl 5 1 (.t 38) (some (.t 42)) none none, none⟩,
      ⟨(.v 8), .asg (.t 43), none⟩] none ⟨[], [], [], []⟩)
  (.seq (.seq (.reg 10 [] [
      ⟨(.t 44), .mv (.v 7), none⟩,
      ⟨(.t 45), .call 52 [(.t 44)], none⟩,
      ⟨(.t 46), .mv (.v 8), none⟩,
      ⟨(.t 47), .ia 1 (.t 46) (.c (.int .i64 0)), none⟩,
      ⟨(.t 48), .ld 1 false (.t 47), none⟩,
      ⟨(.t 49), .conv .u32 (.t 48), none⟩,
      ⟨(.t 50), .bin .shl (.t 49) (.c (.int .u64 24)), none⟩,
      ⟨(.t 51), .mv (.v 8), none⟩,
      ⟨(.t 52), .ia 1 (.t 51) (.c (.int .i64 1)), none⟩,
      ⟨(.t 53), .ld 1 false (.t 52), none⟩,
      ⟨(.t 54), .conv .u32 (.t 53), none⟩,
      ⟨(.t 55), .bin .shl (.t 54) (.c (.int .u64 16)), none⟩,
      ⟨(.t 56), .bin .or (.t 50) (.t 55), none⟩,
      ⟨(.t 57), .mv (.v 8), none⟩,
      ⟨(.t 58), .ia 1 (.t 57) (.c (.int .i64 2)), none⟩,
      ⟨(.t 59), .ld 1 false (.t 58), none⟩,
      ⟨(.t 60), .conv .u32 (.t 59), none⟩,
      ⟨(.t 61), .bin .shl (.t 60) (.c (.int .u64 8)), none⟩,
      ⟨(.t 62), .bin .or (.t 56) (.t 61), none⟩,
      ⟨(.t 63), .mv (.v 8), none⟩,
      ⟨(.t 64), .ia 1 (.t 63) (.c (.int .i64 3)), none⟩,
      ⟨(.t 65), .ld 1 false (.t 64), none⟩,
      ⟨(.t 66), .conv .u32 (.t 65), none⟩,
      ⟨(.t 67), .bin .or (.t 62) (.t 66), none⟩,
      ⟨(.t 68), .bin .neq (.t 45) (.t 67), none⟩] (some [[], [0], [], [2], [3], [4], [5], [], [7], [8], [9], [10], [6, 11], [], [13], [14], [15], [16], [12, 17], [], [19], [20], [21], [18, 22], [1, 23]]) ⟨[], [], [], []⟩)
  (.cond (.t 68)
    (.seq (.reg 11 [] [
        ⟨(.v 1), .asg (.c (.slice none 0 0)), none⟩,
        ⟨(.v 2), .asg (.c (.int .i64 0)), none⟩,
        ⟨(.v 3), .asg (.c (.int .i64 7)), none⟩] none ⟨[], [], [], []⟩)
    .ret)
    .skip))
  (.seq (.reg 12 [.lend (.var 7) 69] [
      ⟨(.t 69), .mv (.v 7), none⟩,
      ⟨(.t 70), .mv (.v 5), none⟩,
      ⟨(.t 71), .mv (.v 4), none⟩,
      ⟨(.t 72), .conv .i64 (.t 71), none⟩,
      ⟨(.t 73), .bin .add (.t 70) (.t 72), none⟩,
      ⟨(.t 74), .bin .add (.t 73) (.c (.int .i64 4)), none⟩,
      ⟨(.v 1), .asg (.t 69), none⟩,
      ⟨(.v 2), .asg (.t 74), none⟩,
      ⟨(.v 3), .asg (.c (.int .i64 0)), none⟩] none ⟨[], [], [], []⟩)
  .ret)))))))))
theorem c45 : compFn Try.prog 45 F45 = some (1, strip a45, [.v 1, .v 2, .v 3]) ∧ lexAll a45 = true := ⟨by kernel_rfl, by kernel_rfl⟩
/-- clusterlocks/clusterlocksref01.Uint -/
def F46 : Fr := ⟨48, [0, 2, 3, 4, 5, 6, 7]⟩
def a46 : ACode :=
  (.seq (.reg 0 [] [
      ⟨(.v 1), .asg (.c (.int .u64 0)), none⟩,
      ⟨(.v 2), .asg (.c (.int .i64 0)), none⟩,
      ⟨(.v 3), .asg (.c (.int .i64 0)), none⟩] none ⟨[], [], [], []⟩)
  (.seq (.reg 1 [] [
      ⟨(.v 4), .asg (.c (.int .u64 0)), none⟩] none ⟨[], [], [], []⟩)
  (.seq (.seq (.reg 2 [] [
      ⟨(.v 5), .asg (.c (.int .i64 0)), none⟩] none ⟨[], [], [], []⟩)
  (.block 0
    (.loop
      (.seq (.seq (.reg 3 [] [
          ⟨(.t 8), .mv (.v 5), none⟩,
          ⟨(.t 9), .bin .lss (.t 8) (.c (.int .i64 10)), none⟩] none ⟨[], [], [], []⟩)
      (.cond (.t 9)
        .skip
        (.exit 0)))
      (.seq (.block 1
        (.seq (.seq (.reg 5 [] [
            ⟨(.t 12), .mv (.v 5), none⟩,
            ⟨(.t 13), .mv (.v 0), none⟩,
            ⟨(.t 14), .len (.t 13), none⟩,
            ⟨(.t 15), .bin .geq (.t 12) (.t 14), none⟩] none ⟨[], [], [], []⟩)
        (.cond (.t 15)
          (.seq (.reg 6 [] [
              ⟨(.v 1), .asg (.c (.int .u64 0)), none⟩,
              ⟨(.v 2), .asg (.c (.int .i64 0)), none⟩,
              ⟨(.v 3), .asg (.c (.int .i64 5)), none⟩] none ⟨[], [], [], []⟩)
          .ret)
          .skip))
        (.seq (.reg 7 [] [
            ⟨(.t 16), .mv (.v 0), none⟩,
            ⟨(.t 17), .mv (.v 5), none⟩,
            ⟨(.t 18), .ia 1 (.t 16) (.t 17), none⟩,
            ⟨(.t 19), .ld 1 false (.t 18), none⟩,
            ⟨(.v 6), .asg (.t 19), none⟩] none ⟨[], [], [], []⟩)
        (.seq (.seq (.reg 8 [] [
            ⟨(.t 20), .mv (.v 5), none⟩,
            ⟨(.t 21), .bin .eql (.t 20) (.c (.int .i64 9)), none⟩,
            ⟨(.t 22), .mv (.t 21), none⟩,
            ⟨(.t 23), .mv (.v 6), some (22, true)⟩,
            ⟨(.t 24), .bin .gtr (.t 23) (.c (.int .u8 1)), some (22, true)⟩,
            ⟨(.t 25), .pick (.t 22) (.t 24) (.c (.bool false)), none⟩,
            ⟨(.t 26), .mv (.t 25), none⟩,
            ⟨(.t 27), .mv (.v 6), some (26, false)⟩,
            ⟨(.t 28), .bin .eql (.t 27) (.c (.int .u8 0)), some (26, false)⟩,
            ⟨(.t 29), .mv (.t 28), some (26, false)⟩,
            ⟨(.t 30), .mv (.v 5), some (29, true)⟩,
            ⟨(.t 31), .bin .gtr (.t 30) (.c (.int .i64 0)), some (29, true)⟩,
            ⟨(.t 32), .pick (.t 29) (.t 31) (.c (.bool false)), some (26, false)⟩,
            ⟨(.t 33), .pick (.t 26) (.c (.bool true)) (.t 32), none⟩] none ⟨[], [], [], []⟩)
        (.cond (.t 33)
          (.seq (.reg 9 [] [
              ⟨(.v 1), .asg (.c (.int .u64 0)), none⟩,
              ⟨(.v 2), .asg (.c (.int .i64 0)), none⟩,
              ⟨(.v 3), .asg (.c (.int .i64 6)), none⟩] none ⟨[], [], [], []⟩)
          .ret)
          .skip))
        (.seq (.reg 10 [] [
            ⟨(.t 34), .mv (.v 4), none⟩,
            ⟨(.t 35), .mv (.v 6), none⟩,
            ⟨(.t 36), .bin .and (.t 35) (.c (.int .u8 127)), none⟩,
            ⟨(.t 37), .conv .u64 (.t 36), none⟩,
            ⟨(.t 38), .mv (.v 5), none⟩,
            ⟨(.t 39), .bin .mul (.c (.int .i64 7)) (.t 38), none⟩,
            ⟨(.t 40), .conv .u64 (.t 39), none⟩,
            ⟨(.t 41), .bin .shl (.t 37) (.t 40), none⟩,
            ⟨(.t 42), .bin .or (.t 34) (.t 41), none⟩,
            ⟨(.v 4), .asg (.t 42), none⟩] none ⟨[], [], [], []⟩)
        (.seq (.reg 11 [] [
            ⟨(.t 43), .mv (.v 6), none⟩,
            ⟨(.t 44), .bin .lss (.t 43) (.c (.int .u8 128)), none⟩] none ⟨[], [], [], []⟩)
        (.cond (.t 44)
          (.seq (.reg 12 [] [
              ⟨(.t 45), .mv (.v 4), none⟩,
              ⟨(.t 46), .mv (.v 5), none⟩,
              ⟨(.t 47), .bin .add (.t 46) (.c (.int .i64 1)), none⟩,
              ⟨(.v 1), .asg (.t 45), none⟩,
              ⟨(.v 2), .asg (.t 47), none⟩,
              ⟨(.v 3), .asg (.c (.int .i64 0)), none⟩] none ⟨[], [], [], []⟩)
          .ret)
          .skip)))))))
      (.reg 4 [] [
          ⟨(.t 10), .mv (.v 5), none⟩,
          ⟨(.t 11), .bin .add (.t 10) (.c (.int .i64 1)), none⟩,
          ⟨(.v 5), .asg (.t 11), none⟩] none ⟨[], [], [], []⟩))))))
  (.seq (.reg 13 [] [
      ⟨(.v 1), .asg (.c (.int .u64 0)), none⟩,
      ⟨(.v 2), .asg (.c (.int .i64 0)), none⟩,
      ⟨(.v 3), .asg (.c (.int .i64 6)), none⟩] none ⟨[], [], [], []⟩)
  .ret))))
theorem c46 : compFn Try.prog 46 F46 = some (1, strip a46, [.v 1, .v 2, .v 3]) ∧ lexAll a46 = true := ⟨by kernel_rfl, by kernel_rfl⟩
/-- (*clusterlocks/clusterlocksmill.Tape).More -/
def F47 : Fr := ⟨13, [0, 2]⟩
def a47 : ACode :=
  (.seq (.reg 0 [] [
      ⟨(.v 1), .asg (.c (.bool false)), none⟩] none ⟨[], [], [], []⟩)
  (.seq (.reg 1 [] [
      ⟨(.t 3), .mv (.v 0), none⟩,
      ⟨(.t 4), .nilck (.t 3), none⟩,
      ⟨(.t 5), .fa 1 (.t 4), none⟩,
      ⟨(.t 6), .ld 1 false (.t 5), none⟩,
      ⟨(.t 7), .mv (.v 0), none⟩,
      ⟨(.t 8), .nilck (.t 7), none⟩,
      ⟨(.t 9), .fa 0 (.t 8), none⟩,
      ⟨(.t 10), .ld 1 false (.t 9), none⟩,
      ⟨(.t 11), .len (.t 10), none⟩,
      ⟨(.t 12), .bin .lss (.t 6) (.t 11), none⟩,
      ⟨(.v 1), .asg (.t 12), none⟩] (some [[], [0], [1], [2], [], [4], [5], [6], [7], [3, 8], [9, 0, 1, 2, 3, 4, 5, 6, 7, 8, 9]]) ⟨[], [], [], []⟩)
  .ret))
theorem c47 : compFn Try.prog 47 F47 = some (1, strip a47, [.v 1]) ∧ lexAll a47 = true := ⟨by kernel_rfl, by kernel_rfl⟩
/-- (*clusterlocks/clusterlocksmill.Tape).Next -/
def F48 : Fr := ⟨35, [0, 1, 4]⟩
def a48 : ACode :=
  (.seq (.reg 0 [] [
      ⟨(.v 2), .asg (.c (.int .i64 0)), none⟩] none ⟨[], [], [], []⟩)
  (.seq (.seq (.reg 1 [] [
      ⟨(.t 5), .mv (.v 0), none⟩,
      ⟨(.t 6), .nilck (.t 5), none⟩,
      ⟨(.t 7), .fa 1 (.t 6), none⟩,
      ⟨(.t 8), .ld 1 false (.t 7), none⟩,
      ⟨(.t 9), .mv (.v 0), none⟩,
      ⟨(.t 10), .nilck (.t 9), none⟩,
      ⟨(.t 11), .fa 0 (.t 10), none⟩,
      ⟨(.t 12), .ld 1 false (.t 11), none⟩,
      ⟨(.t 13), .len (.t 12), none⟩,
      ⟨(.t 14), .bin .geq (.t 8) (.t 13), none⟩] (some [[], [0], [1], [2], [], [4], [5], [6], [7], [3, 8]]) ⟨[], [], [], []⟩)
  (.cond (.t 14)
    (.seq (.reg 2 [] [
        ⟨(.v 2), .asg (.c (.int .i64 0)), none⟩] none ⟨[], [], [], []⟩)
    .ret)
    .skip))
  (.seq (.reg 3 [] [
      ⟨(.t 15), .mv (.v 0), none⟩,
      ⟨(.t 16), .nilck (.t 15), none⟩,
      ⟨(.t 17), .fa 1 (.t 16), none⟩,
      ⟨(.t 18), .ld 1 false (.t 17), none⟩,
      ⟨(.t 19), .bin .add (.t 18) (.c (.int .i64 1)), none⟩,
      ⟨(.t 20), .nilck (.t 15), none⟩,
      ⟨(.t 21), .fa 1 (.t 20), none⟩,
      ⟨.none, .st 1 (.t 21) (.t 19), none⟩] none ⟨[], [], [], []⟩)
  (.seq (.reg 4 [] [
      ⟨(.t 22), .mv (.v 0), none⟩,
      ⟨(.t 23), .nilck (.t 22), none⟩,
      ⟨(.t 24), .fa 0 (.t 23), none⟩,
      ⟨(.t 25), .ld 1 false (.t 24), none⟩,
      ⟨(.t 26), .mv (.v 0), none⟩,
      ⟨(.t 27), .nilck (.t 26), none⟩,
      ⟨(.t 28), .fa 1 (.t 27), none⟩,
      ⟨(.t 29), .ld 1 false (.t 28), none⟩,
      ⟨(.t 30), .bin .sub (.t 29) (.c (.int .i64 1)), none⟩,
      ⟨(.t 31), .ia 1 (.t 25) (.t 30), none⟩,
      ⟨(.t 32), .ld 1 false (.t 31), none⟩,
      ⟨(.t 33), .mv (.v 1), none⟩,
      ⟨(.t 34), .call 21 [(.t 32), (.t 33)], none⟩,
      ⟨(.v 2), .asg (.t 34), none⟩] (some [[], [0], [1], [2], [], [4], [5], [6], [7], [3, 8], [9], [], [10, 11], [12, 12, 0, 1, 2, 3, 4, 5, 6, 7, 8, 9, 10, 11, 12]]) ⟨[], [], [], []⟩)
  .ret))))
theorem c48 : compFn Try.prog 48 F48 = some (2, strip a48, [.v 2]) ∧ lexAll a48 = true := ⟨by kernel_rfl, by kernel_rfl⟩
/-- clusterlocks/clusterlocksref23.Copy -/
def F49 : Fr := ⟨19, [0, 2, 3, 5]⟩
def a49 : ACode :=
  (.seq (.reg 0 [] [
      ⟨(.v 1), .asg (.c (.slice none 0 0)), none⟩] none ⟨[], [], [], []⟩)
  (.seq (.reg 1 [] [
      ⟨(.v 2), .asg (.c (.slice none 0 0)), none⟩] none ⟨[], [], [], []⟩)
  (.seq (.seq (.reg 2 [.own (.var 2) 25 1] [
      ⟨(.t 6), .mv (.v 0), none⟩,
      ⟨(.t 7), .len (.t 6), none⟩,
      ⟨(.t 8), .mv (.c (.int .i64 0)), none⟩] none ⟨[], [], [], []⟩)
  (.block 0
    (.loop
      (.seq (.reg 3 [] [
          ⟨(.t 9), .bin .lss (.t 8) (.t 7), none⟩] none ⟨[], [], [], []⟩)
      (.seq (.cond (.t 9)
        .skip
        (.exit 0))
      (.seq (.block 1
        (.seq (.reg 4 [] [
            ⟨(.t 10), .ia 1 (.t 6) (.t 8), none⟩,
            ⟨(.t 11), .ld 1 false (.t 10), none⟩,
            ⟨(.v 3), .asg (.t 11), none⟩] none ⟨[], [], [], []⟩)
        (.reg 5 [.lend (.var 2) 16] [
            ⟨(.t 12), .mv (.v 2), none⟩,
            ⟨(.t 13), .mv (.v 3), none⟩,
            ⟨(.t 14), .app 5 1 1 (.c (.slice none 0 0)) (.t 13), none⟩,
            ⟨(.t 15), .bls 25 1 (.slice none 0 0) 1 [(0, (.t 14))], none⟩,
            ⟨(.t 16), .app 25 1 24 (.t 12) (.t 15), none⟩,
            ⟨(.v 2), .asg (.t 16), none⟩] none ⟨[], [], [], []⟩)))
      (.reg 6 [] [
          ⟨(.t 17), .bin .add (.t 8) (.c (.int .i64 1)), none⟩,
          ⟨(.t 8), .mv (.t 17), none⟩] none ⟨[], [], [], []⟩)))))))
  (.seq (.reg 7 [.lend (.var 2) 18] [
      ⟨(.t 18), .mv (.v 2), none⟩,
      ⟨(.v 1), .asg (.t 18), none⟩] none ⟨[], [], [], []⟩)
  .ret))))
theorem c49 : compFn Try.prog 49 F49 = some (1, strip a49, [.v 1]) ∧ lexAll a49 = true := ⟨by kernel_rfl, by kernel_rfl⟩
/-- clusterlocks/clusterlocksref23.SameBytes -/
def F50 : Fr := ⟨10, [0, 1, 4]⟩
def a50 : ACode :=
  (.seq (.reg 0 [] [
      ⟨(.v 2), .asg (.c (.bool false)), none⟩] none ⟨[], [], [], []⟩)
  (.seq (.reg 1 [] [
      ⟨(.t 5), .mv (.v 0), none⟩,
      ⟨(.t 6), .b2s (.t 5), none⟩,
      ⟨(.t 7), .mv (.v 1), none⟩,
      ⟨(.t 8), .b2s (.t 7), none⟩,
      ⟨(.t 9), .bin .eql (.t 6) (.t 8), none⟩,
      ⟨(.v 2), .asg (.t 9), none⟩] none ⟨[], [], [], []⟩)
  .ret))
theorem c50 : compFn Try.prog 50 F50 = some (2, strip a50, [.v 2]) ∧ lexAll a50 = true := ⟨by kernel_rfl, by kernel_rfl⟩
/-- clusterlocks/codec.Checksum -/
def F51 : Fr := ⟨31, [0, 2, 3, 5, 6]⟩
def a51 : ACode :=
  (.seq (.reg 0 [] [
      ⟨(.v 1), .asg (.c (.int .u32 0)), none⟩] none ⟨[], [], [], []⟩)
  (.seq (.reg 1 [] [
      ⟨(.v 2), .asg (.c (.int .u32 4294967295)), none⟩] none ⟨[], [], [], []⟩)
  (.seq (.seq (.reg 2 [] [
      ⟨(.t 7), .mv (.v 0), none⟩,
      ⟨(.t 8), .len (.t 7), none⟩,
      ⟨(.t 9), .mv (.c (.int .i64 0)), none⟩] none ⟨[], [], [], []⟩)
  (.block 0
    (.loop
      (.seq (.reg 3 [] [
          ⟨(.t 10), .bin .lss (.t 9) (.t 8), none⟩] none ⟨[], [], [], []⟩)
      (.seq (.cond (.t 10)
        .skip
        (.exit 0))
      (.seq (.block 1
        (.seq (.reg 4 [] [
            ⟨(.t 11), .ia 1 (.t 7) (.t 9), none⟩,
            ⟨(.t 12), .ld 1 false (.t 11), none⟩,
            ⟨(.v 3), .asg (.t 12), none⟩] none ⟨[], [], [], []⟩)
        (.seq (.reg 5 [] [
            ⟨(.t 13), .mv (.v 2), none⟩,
            ⟨(.t 14), .mv (.v 3), none⟩,
            ⟨(.t 15), .conv .u32 (.t 14), none⟩,
            ⟨(.t 16), .bin .xor (.t 13) (.t 15), none⟩,
            ⟨(.v 2), .asg (.t 16), none⟩] none ⟨[], [], [], []⟩)
        (.seq (.reg 6 [] [
            ⟨(.t 17), .mv (.c (.int .i64 0)), none⟩] none ⟨[], [], [], []⟩)
        (.block 2
          (.loop
            (.seq (.reg 7 [] [
                ⟨(.t 18), .bin .lss (.t 17) (.c (.int .i64 8)), none⟩] none ⟨[], [], [], []⟩)
            (.seq (.cond (.t 18)
              .skip
              (.exit 2))
            (.seq (.block 3
              (.seq (.reg 8 [] [
                  ⟨(.t 19), .mv (.v 2), none⟩,
                  ⟨(.t 20), .bin .and (.t 19) (.c (.int .u32 1)), none⟩,
                  ⟨(.v 4), .asg (.t 20), none⟩] none ⟨[], [], [], []⟩)
              (.seq (.reg 9 [] [
                  ⟨(.t 21), .mv (.v 2), none⟩,
                  ⟨(.t 22), .bin .shr (.t 21) (.c (.int .u64 1)), none⟩,
                  ⟨(.v 2), .asg (.t 22), none⟩] none ⟨[], [], [], []⟩)
              (.seq (.reg 10 [] [
                  ⟨(.t 23), .mv (.v 4), none⟩,
                  ⟨(.t 24), .bin .neq (.t 23) (.c (.int .u32 0)), none⟩] none ⟨[], [], [], []⟩)
              (.cond (.t 24)
                (.reg 11 [] [
                    ⟨(.t 25), .mv (.v 2), none⟩,
                    ⟨(.t 26), .bin .xor (.t 25) (.c (.int .u32 3988292384)), none⟩,
                    ⟨(.v 2), .asg (.t 26), none⟩] none ⟨[], [], [], []⟩)
                .skip)))))
            (.reg 12 [] [
                ⟨(.t 27), .bin .add (.t 17) (.c (.int .i64 1)), none⟩,
                ⟨(.t 17), .mv (.t 27), none⟩] none ⟨[], [], [], []⟩))))))))))
      (.reg 13 [] [
          ⟨(.t 28), .bin .add (.t 9) (.c (.int .i64 1)), none⟩,
          ⟨(.t 9), .mv (.t 28), none⟩] none ⟨[], [], [], []⟩)))))))
  (.seq (.reg 14 [] [
      ⟨(.t 29), .mv (.v 2), none⟩,
      ⟨(.t 30), .bin .xor (.t 29) (.c (.int .u32 4294967295)), none⟩,
      ⟨(.v 1), .asg (.t 30), none⟩] none ⟨[], [], [], []⟩)
  .ret))))
theorem c51 : compFn Try.prog 51 F51 = some (1, strip a51, [.v 1]) ∧ lexAll a51 = true := ⟨by kernel_rfl, by kernel_rfl⟩
/-- clusterlocks/clusterlocksref01.Checksum -/
def F52 : Fr := ⟨33, [0, 2, 3, 4, 5]⟩
def a52 : ACode :=
  (.seq (.reg 0 [] [
      ⟨(.v 1), .asg (.c (.int .u32 0)), none⟩] none ⟨[], [], [], []⟩)
  (.seq (.reg 1 [] [
      ⟨(.v 2), .asg (.c (.int .u32 4294967295)), none⟩] none ⟨[], [], [], []⟩)
  (.seq (.seq (.reg 2 [] [
      ⟨(.v 3), .asg (.c (.int .i64 0)), none⟩] none ⟨[], [], [], []⟩)
  (.block 0
    (.loop
      (.seq (.seq (.reg 3 [] [
          ⟨(.t 6), .mv (.v 3), none⟩,
          ⟨(.t 7), .mv (.v 0), none⟩,
          ⟨(.t 8), .len (.t 7), none⟩,
          ⟨(.t 9), .bin .lss (.t 6) (.t 8), none⟩] none ⟨[], [], [], []⟩)
      (.cond (.t 9)
        .skip
        (.exit 0)))
      (.seq (.block 1
        (.seq (.reg 5 [] [
            ⟨(.t 12), .mv (.v 2), none⟩,
            ⟨(.t 13), .mv (.v 0), none⟩,
            ⟨(.t 14), .mv (.v 3), none⟩,
            ⟨(.t 15), .ia 1 (.t 13) (.t 14), none⟩,
            ⟨(.t 16), .ld 1 false (.t 15), none⟩,
            ⟨(.t 17), .conv .u32 (.t 16), none⟩,
            ⟨(.t 18), .bin .xor (.t 12) (.t 17), none⟩,
            ⟨(.v 2), .asg (.t 18), none⟩] none ⟨[], [], [], []⟩)
        (.seq (.reg 6 [] [
            ⟨(.v 4), .asg (.c (.int .i64 0)), none⟩] none ⟨[], [], [], []⟩)
        (.block 2
          (.loop
            (.seq (.seq (.reg 7 [] [
                ⟨(.t 19), .mv (.v 4), none⟩,
                ⟨(.t 20), .bin .lss (.t 19) (.c (.int .i64 8)), none⟩] none ⟨[], [], [], []⟩)
            (.cond (.t 20)
              .skip
              (.exit 2)))
            (.seq (.block 3
              (.seq (.reg 9 [] [
                  ⟨(.t 23), .mv (.v 2), none⟩,
                  ⟨(.t 24), .bin .and (.t 23) (.c (.int .u32 1)), none⟩,
                  ⟨(.t 25), .bin .eql (.t 24) (.c (.int .u32 1)), none⟩] none ⟨[], [], [], []⟩)
              (.cond (.t 25)
                (.reg 10 [] [
                    ⟨(.t 26), .mv (.v 2), none⟩,
                    ⟨(.t 27), .bin .shr (.t 26) (.c (.int .u64 1)), none⟩,
                    ⟨(.t 28), .bin .xor (.t 27) (.c (.int .u32 3988292384)), none⟩,
                    ⟨(.v 2), .asg (.t 28), none⟩] none ⟨[], [], [], []⟩)
                (.reg 11 [] [
                    ⟨(.t 29), .mv (.v 2), none⟩,
                    ⟨(.t 30), .bin .shr (.t 29) (.c (.int .u64 1)), none⟩,
                    ⟨(.v 2), .asg (.t 30), none⟩] none ⟨[], [], [], []⟩))))
            (.reg 8 [] [
                ⟨(.t 21), .mv (.v 4), none⟩,
                ⟨(.t 22), .bin .add (.t 21) (.c (.int .i64 1)), none⟩,
                ⟨(.v 4), .asg (.t 22), none⟩] none ⟨[], [], [], []⟩))))))))
      (.reg 4 [] [
          ⟨(.t 10), .mv (.v 3), none⟩,
          ⟨(.t 11), .bin .add (.t 10) (.c (.int .i64 1)), none⟩,
          ⟨(.v 3), .asg (.t 11), none⟩] none ⟨[], [], [], []⟩))))))
  (.seq (.reg 12 [] [
      ⟨(.t 31), .mv (.v 2), none⟩,
      ⟨(.t 32), .un .xor (.t 31), none⟩,
      ⟨(.v 1), .asg (.t 32), none⟩] none ⟨[], [], [], []⟩)
  .ret))))
theorem c52 : compFn Try.prog 52 F52 = some (1, strip a52, [.v 1]) ∧ lexAll a52 = true := ⟨by kernel_rfl, by kernel_rfl⟩
theorem mixed : Try.prog.follows .mixedOrders = true := by kernel_rfl
end Go.Proofs.Ytjgcjahngmkfdaa

namespace Go.Proofs.Ytjgcjahngmkfdaa
open Go.RowKit

def a27b : ACode :=
  (.seq (.reg 0 [] [
      ⟨(.v 1), .asg (.c (.pointer none)), none⟩,
      ⟨(.v 2), .asg (.c (.bool false)), none⟩] none ⟨[], [], [], []⟩)
  (.seq (.reg 1 [] [
      ⟨(.t 14), .call 19 [], none⟩,
      ⟨(.t 15), .call 19 [], none⟩,
      ⟨(.t 16), .bld [(.int .i64 0), (.slice none 0 0), (.int .i64 0), (.int .i64 0), (.slice none 0 0), (.int .i64 0)] [(0, 3, (.t 14)), (3, 3, (.t 15))], none⟩,
      ⟨(.t 17), .bld [(.int .i64 0), (.slice none 0 0), (.int .i64 0), (.int .i64 0), (.slice none 0 0), (.int .i64 0), (.slice none 0 0), (.slice none 0 0), (.slice none 0 0), (.slice none 0 0), (.slice none 0 0), (.slice none 0 0)] [(0, 6, (.t 16))], none⟩,
      ⟨(.t 18), .box 12 (.t 17), none⟩,
      ⟨(.v 3), .asg (.t 18), none⟩] none ⟨[], [], [], []⟩)
  (.seq (.reg 2 [.own (.cell 0 6) 25 1, .own (.cell 0 7) 25 1, .freeze (.cell 0 6), .freeze (.cell 0 7), .own (.cell 0 8) 5 1, .own (.cell 0 9) 5 1, .own (.cell 0 10) 5 1, .own (.cell 0 11) 5 1] [
      ⟨(.t 19), .mv (.v 0), none⟩,
      ⟨(.t 20), .bld [(.slice none 0 0), (.int .i64 0)] [(0, 1, (.t 19))], none⟩,
      ⟨(.t 21), .box 2 (.t 20), none⟩,
      ⟨(.v 4), .asg (.t 21), none⟩] none ⟨[], [], [], []⟩)
  (.seq (.block 0
    (.loop
      (.seq (.seq (.reg 3 [] [
          ⟨(.t 22), .mv (.v 4), none⟩,
          ⟨(.t 23), .call 47 [(.t 22)], none⟩] none ⟨[], [], [], []⟩)
      (.cond (.t 23)
        .skip
        (.exit 0)))
      (.block 1
        (.seq (.reg 4 [] [
            ⟨(.t 24), .mv (.v 4), none⟩,
            ⟨(.t 25), .call 48 [(.t 24), (.c (.int .i64 2))], none⟩,
            ⟨(.t 26), .mv (.v 4), none⟩,
            ⟨(.t 27), .call 48 [(.t 26), (.c (.int .i64 10))], none⟩,
            ⟨(.t 28), .mv (.v 4), none⟩,
            ⟨(.t 29), .call 48 [(.t 28), (.c (.int .i64 3))], none⟩,
            ⟨(.v 5), .asg (.t 25), none⟩,
            ⟨(.v 6), .asg (.t 27), none⟩,
            ⟨(.v 7), .asg (.t 29), none⟩] none ⟨[], [], [], []⟩)
        (.seq (.reg 5 [] [
            ⟨(.t 30), .mv (.v 3), none⟩,
            ⟨(.t 31), .mv (.v 5), none⟩,
            ⟨(.t 32), .nilck (.t 30), none⟩,
            ⟨(.t 33), .fa 6 (.t 32), none⟩,
            ⟨(.t 34), .iaa 1 2 (.t 33) (.t 31), none⟩,
            ⟨(.t 35), .ld 1 false (.t 34), none⟩,
            ⟨(.v 8), .asg (.t 35), none⟩] none ⟨[], [], [], []⟩)
        (.seq (.reg 6 [] [
            ⟨(.v 9), .asg (.c (.bool true)), none⟩] none ⟨[], [], [], []⟩)
        (.seq (.block 2
          (.seq (.reg 7 [] [
              ⟨(.t 37), .mv (.v 6), none⟩,
              ⟨(.t 38), .bin .lss (.t 37) (.c (.int .i64 3)), none⟩,
              ⟨(.v 10), .asg (.t 38), none⟩] none ⟨[], [], [], []⟩)
          (.cond (.v 10)
            (.seq (.reg 8 [] [
                ⟨(.t 39), .mv (.v 3), none⟩,
                ⟨(.t 40), .mv (.v 5), none⟩,
                ⟨(.t 41), .nilck (.t 39), none⟩,
                ⟨(.t 42), .fa 8 (.t 41), none⟩,
                ⟨(.t 43), .iaa 1 2 (.t 42) (.t 40), none⟩,
                ⟨(.t 44), .ld 1 false (.t 43), none⟩,
                ⟨(.t 45), .len (.t 44), none⟩,
                ⟨(.t 46), .bin .add (.t 45) (.c (.int .i64 1)), none⟩,
                ⟨(.t 47), .conv .u8 (.t 46), none⟩,
                ⟨(.v 11), .asg (.t 47), none⟩] none ⟨[], [], [], []⟩)
            (.seq (.reg 9 [] [
                ⟨(.t 49), .mv (.v 3), none⟩,
                ⟨(.t 50), .mv (.v 5), none⟩,
                ⟨(.t 51), .nilck (.t 49), none⟩,
                ⟨(.t 52), .fa 0 (.t 51), none⟩,
                ⟨(.t 53), .iaa 3 2 (.t 52) (.t 50), none⟩,
                ⟨(.t 54), .ld 3 true (.t 53), none⟩,
                ⟨(.t 55), .mv (.v 11), none⟩,
                ⟨(.t 56), .bls 5 1 (.int .u8 0) 1 [(0, (.t 55))], none⟩,
                ⟨(.t 57), .call 9 [(.t 54), (.t 56)], none⟩,
                ⟨(.t 48), .mv (.t 57), none⟩,
                ⟨(.t 58), .ext 48 0, none⟩,
                ⟨(.t 59), .ext 48 1, none⟩,
                ⟨(.t 12), .allo [(.int .i64 0), (.slice none 0 0), (.int .i64 0)], none⟩,
                ⟨.none, .st 3 (.t 12) (.t 58), none⟩,
                ⟨(.v 12), .asg (.t 59), none⟩] none ⟨[], [], [], []⟩)
            (.seq (.reg 10 [] [
                ⟨(.t 60), .mv (.v 12), none⟩,
                ⟨(.t 61), .bin .eql (.t 60) (.c (.int .i64 0)), none⟩,
                ⟨(.v 9), .asg (.t 61), none⟩] none ⟨[], [], [], []⟩)
            (.reg 11 [.lendv 5 0 8 72] [
                ⟨(.t 62), .mv (.v 3), none⟩,
                ⟨(.t 63), .mv (.v 5), none⟩,
                ⟨(.t 64), .mv (.v 3), none⟩,
                ⟨(.t 65), .mv (.v 5), none⟩,
                ⟨(.t 66), .ld 3 true (.t 12), none⟩,
                ⟨(.t 67), .mv (.v 3), none⟩,
                ⟨(.t 68), .mv (.v 5), none⟩,
                ⟨(.t 69), .nilck (.t 67), none⟩,
                ⟨(.t 70), .fa 8 (.t 69), none⟩,
                ⟨(.t 71), .iaa 1 2 (.t 70) (.t 68), none⟩,
                ⟨(.t 72), .ld 1 false (.t 71), none⟩,
                ⟨(.t 73), .mv (.v 11), none⟩,
                ⟨(.t 74), .bls 5 1 (.int .u8 0) 1 [(0, (.t 73))], none⟩,
                ⟨(.t 75), .app 5 1 1 (.t 72) (.t 74), none⟩,
                ⟨(.t 76), .nilck (.t 62), none⟩,
                ⟨(.t 77), .fa 0 (.t 76), none⟩,
                ⟨(.t 78), .iaa 3 2 (.t 77) (.t 63), none⟩,
                ⟨.none, .st 3 (.t 78) (.t 66), none⟩,
                ⟨(.t 79), .nilck (.t 64), none⟩,
                ⟨(.t 80), .fa 8 (.t 79), none⟩,
                ⟨(.t 81), .iaa 1 2 (.t 80) (.t 65), none⟩,
                ⟨.none, .st 1 (.t 81) (.t 75), none⟩] (some [[], [], [], [], [], [], [], [5], [7], [8, 6], [9], [], [11], [10, 12], [0], [14], [15, 1, 0, 1, 4, 10, 13], [16, 4, 13, 0, 1, 4, 10, 13], [2], [18], [19, 3, 0, 1, 2, 3, 4, 5, 6, 7, 8, 9, 10, 11, 12, 13, 14, 15, 16, 17], [20, 13, 17, 0, 1, 2, 3, 4, 5, 6, 7, 8, 9, 10, 11, 12, 13, 14, 15, 16, 17]]) ⟨[], [2, 3, 18, 19], [], []⟩))))
            (.seq (.reg 12 [] [
                ⟨(.t 83), .mv (.v 6), none⟩,
                ⟨(.t 84), .bin .lss (.t 83) (.c (.int .i64 5)), none⟩,
                ⟨(.v 13), .asg (.t 84), none⟩] none ⟨[], [], [], []⟩)
            (.cond (.v 13)
              (.reg 13 [] [
                  ⟨(.t 85), .mv (.v 3), none⟩,
                  ⟨(.t 86), .mv (.v 5), none⟩,
                  ⟨(.t 87), .call 29 [(.t 85), (.t 86)], none⟩,
                  ⟨(.v 9), .asg (.t 87), none⟩] none ⟨[], [], [], []⟩)
              (.seq (.reg 14 [] [
                  ⟨(.t 89), .mv (.v 7), none⟩,
                  ⟨(.t 90), .mv (.v 8), none⟩,
                  ⟨(.t 91), .len (.t 90), none⟩,
                  ⟨(.t 92), .bin .geq (.t 89) (.t 91), none⟩,
                  ⟨(.v 14), .asg (.t 92), none⟩] none ⟨[], [], [], []⟩)
              (.cond (.v 14)
                .skip
                (.seq (.reg 15 [] [
                    ⟨(.t 94), .mv (.v 6), none⟩,
                    ⟨(.t 95), .bin .lss (.t 94) (.c (.int .i64 8)), none⟩,
                    ⟨(.v 15), .asg (.t 95), none⟩] none ⟨[], [], [], []⟩)
                (.cond (.v 15)
                  (.reg 16 [] [
                      ⟨(.t 96), .mv (.v 3), none⟩,
                      ⟨(.t 97), .mv (.v 5), none⟩,
                      ⟨(.t 98), .mv (.v 7), none⟩,
                      ⟨(.t 99), .call 28 [(.t 96), (.t 97), (.t 98)], none⟩,
                      ⟨(.v 9), .asg (.t 99), none⟩] none ⟨[], [], [], []⟩)
                  (.seq (.reg 17 [] [
                      ⟨(.t 101), .mv (.v 6), none⟩,
                      ⟨(.t 102), .bin .eql (.t 101) (.c (.int .i64 8)), none⟩,
                      ⟨(.v 16), .asg (.t 102), none⟩] none ⟨[], [], [], []⟩)
                  (.cond (.v 16)
                    (.reg 18 [] [
                        ⟨(.t 103), .mv (.v 3), none⟩,
                        ⟨(.t 104), .mv (.v 5), none⟩,
                        ⟨(.t 105), .mv (.v 8), none⟩,
                        ⟨(.t 106), .mv (.v 7), none⟩,
                        ⟨(.t 107), .sl 25 1 (.t 105) none (some (.t 106)) none, none⟩,
                        ⟨(.t 108), .app 25 1 24 (.c (.slice none 0 0)) (.t 107), none⟩,
                        ⟨(.t 109), .mv (.v 8), none⟩,
                        ⟨(.t 110), .mv (.v 7), none⟩,
                        ⟨(.t 111), .bin .add (.t 110) (.c (.int .i64 1)), none⟩,
                        ⟨(.t 112), .sl 25 1 (.t 109) (some (.t 111)) none none, none⟩,
                        ⟨(.t 113), .app 25 1 24 (.t 108) (.t 112), none⟩,
                        ⟨(.t 114), .nilck (.t 103), none⟩,
                        ⟨(.t 115), .fa 6 (.t 114), none⟩,
                        ⟨(.t 116), .iaa 1 2 (.t 115) (.t 104), none⟩,
                        ⟨.none, .st 1 (.t 116) (.t 113), none⟩] (some [[], [], [], [], [2, 3], [4], [], [], [7], [6, 8], [5, 9, 5], [0], [11], [12, 1, 0, 1, 2, 3, 4, 5, 6, 7, 8, 9, 10], [13, 10, 10, 0, 1, 2, 3, 4, 5, 6, 7, 8, 9, 10]]) ⟨[], [], [], []⟩)
                    (.seq (.reg 19 [] [
                        ⟨(.t 118), .mv (.v 8), none⟩,
                        ⟨(.t 119), .len (.t 118), none⟩,
                        ⟨(.t 120), .bin .lss (.t 119) (.c (.int .i64 8)), none⟩,
                        ⟨(.v 17), .asg (.t 120), none⟩] none ⟨[], [], [], []⟩)
                    (.cond (.v 17)
                      (.reg 20 [] [
                          ⟨(.t 121), .mv (.v 3), none⟩,
                          ⟨(.t 122), .mv (.v 5), none⟩,
                          ⟨(.t 123), .mv (.v 8), none⟩,
                          ⟨(.t 124), .app 25 1 24 (.c (.slice none 0 0)) (.t 123), none⟩,
                          ⟨(.t 125), .mv (.v 8), none⟩,
                          ⟨(.t 126), .mv (.v 7), none⟩,
                          ⟨(.t 127), .ia 1 (.t 125) (.t 126), none⟩,
                          ⟨(.t 128), .ld 1 false (.t 127), none⟩,
                          ⟨(.t 129), .bls 25 1 (.slice none 0 0) 1 [(0, (.t 128))], none⟩,
                          ⟨(.t 130), .app 25 1 24 (.t 124) (.t 129), none⟩,
                          ⟨(.t 131), .nilck (.t 121), none⟩,
                          ⟨(.t 132), .fa 6 (.t 131), none⟩,
                          ⟨(.t 133), .iaa 1 2 (.t 132) (.t 122), none⟩,
                          ⟨.none, .st 1 (.t 133) (.t 130), none⟩] (some [[], [], [], [2], [], [], [4, 5], [6], [7], [3, 8, 3], [0], [10], [11, 1, 0, 1, 2, 3, 4, 5, 6, 7, 8, 9], [12, 9, 9, 0, 1, 2, 3, 4, 5, 6, 7, 8, 9]]) ⟨[], [], [], []⟩)
                      .skip)))))))))))))
        (.seq (.reg 21 [.freeze (.cell 0 6), .freeze (.cell 0 7)] [
            ⟨(.t 134), .mv (.v 9), none⟩,
            ⟨(.t 135), .un .not (.t 134), none⟩,
            ⟨(.t 136), .mv (.t 135), none⟩,
            ⟨(.t 137), .mv (.v 3), some (136, false)⟩,
            ⟨(.t 138), .call 30 [(.t 137)], some (136, false)⟩,
            ⟨(.t 139), .un .not (.t 138), some (136, false)⟩,
            ⟨(.t 140), .pick (.t 136) (.c (.bool true)) (.t 139), none⟩] none ⟨[], [], [], []⟩)
        (.cond (.t 140)
          (.seq (.reg 22 [] [
              ⟨(.t 141), .mv (.v 3), none⟩,
              ⟨(.v 1), .asg (.t 141), none⟩,
              ⟨(.v 2), .asg (.c (.bool false)), none⟩] none ⟨[], [], [], []⟩)
          .ret)
          .skip))))))))))
  (.seq (.reg 23 [] [
      ⟨(.t 142), .mv (.v 3), none⟩,
      ⟨(.v 1), .asg (.t 142), none⟩,
      ⟨(.v 2), .asg (.c (.bool true)), none⟩] none ⟨[], [], [], []⟩)
  .ret)))))
theorem c27b : compFn Try.prog 27 F27 = some (1, strip a27b, [.v 1, .v 2]) ∧ lexAll a27b = true := ⟨by kernel_rfl, by kernel_rfl⟩

end Go.Proofs.Ytjgcjahngmkfdaa
