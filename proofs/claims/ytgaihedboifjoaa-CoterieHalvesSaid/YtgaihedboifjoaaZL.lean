/- The functions of this seat as trees' code (printed). -/
import Derived.Test.YtgaihedboifjoaaZE
import Derived.Tactics
import Derived.IntWalk
import Derived.Test.YtgaihedboifjoaaProg
set_option linter.unusedVariables false
set_option linter.unusedSimpArgs false
namespace Go.Proofs.Ytgaihedboifjoaa
open Go.RowKit Go.Proofs
def z512 : List Value := List.replicate 512 (.bool false)
/-- clusterlocks/clusterlockslaw29.CoterieMakes -/
def F3 : Fr := ⟨169, [0, 1, 2, 3, 8, 12, 14, 16, 18, 20, 22, 24, 26]⟩
def a3 : ACode :=
  (.seq (.reg 0 [] [
      ⟨(.t 7), .box 2 (.v 3), none⟩,
      ⟨(.v 4), .asg (.c (.bool false)), none⟩] none ⟨[], [], [], []⟩)
  (.seq (.seq (.reg 1 [] [
      ⟨(.t 27), .mv (.v 2), none⟩,
      ⟨(.t 28), .len (.t 27), none⟩,
      ⟨(.t 29), .bin .gtr (.t 28) (.c (.int .i64 30)), none⟩,
      ⟨(.t 30), .mv (.t 29), none⟩,
      ⟨(.t 31), .fa 1 (.t 7), some (30, false)⟩,
      ⟨(.t 32), .ld 1 false (.t 31), some (30, false)⟩,
      ⟨(.t 33), .len (.t 32), some (30, false)⟩,
      ⟨(.t 34), .bin .gtr (.t 33) (.c (.int .i64 80)), some (30, false)⟩,
      ⟨(.t 35), .pick (.t 30) (.c (.bool true)) (.t 34), none⟩] none ⟨[], [], [], []⟩)
  (.cond (.t 35)
    (.seq (.reg 2 [] [
        ⟨(.t 36), .call 8 [], none⟩,
        ⟨(.v 4), .asg (.t 36), none⟩] none ⟨[], [], [], []⟩)
    .ret)
    .skip))
  (.seq (.seq (.reg 3 [] [
      ⟨(.t 37), .mv (.v 0), none⟩,
      ⟨(.t 38), .mv (.v 1), none⟩,
      ⟨(.t 39), .bld [(.int .i64 0), (.int .i64 0)] [(0, 1, (.t 37)), (1, 1, (.t 38))], none⟩,
      ⟨(.t 40), .mv (.v 0), none⟩,
      ⟨(.t 41), .call 9 [(.t 40), (.c (.int .i64 12))], none⟩,
      ⟨(.t 42), .bin .sub (.t 41) (.c (.int .i64 1)), none⟩,
      ⟨(.t 43), .mv (.v 1), none⟩,
      ⟨(.t 44), .call 9 [(.t 43), (.c (.int .i64 6))], none⟩,
      ⟨(.t 45), .bin .sub (.t 44) (.c (.int .i64 1)), none⟩,
      ⟨(.t 46), .bld [(.int .i64 0), (.int .i64 0)] [(0, 1, (.t 42)), (1, 1, (.t 45))], none⟩,
      ⟨(.t 47), .bls 26 2 (.agg #[(.int .i64 0), (.int .i64 0)]) 2 [(0, (.t 39)), (1, (.t 46))], none⟩,
      ⟨(.t 48), .len (.t 47), none⟩,
      ⟨(.t 49), .mv (.c (.int .i64 0)), none⟩] none ⟨[], [], [], []⟩)
  (.block 0
    (.loop
      (.seq (.reg 4 [] [
          ⟨(.t 50), .bin .lss (.t 49) (.t 48), none⟩] none ⟨[], [], [], []⟩)
      (.seq (.cond (.t 50)
        .skip
        (.exit 0))
      (.seq (.block 1
        (.seq (.reg 5 [] [
            ⟨(.t 51), .ia 2 (.t 47) (.t 49), none⟩,
            ⟨(.t 52), .ld 2 true (.t 51), none⟩,
            ⟨(.t 10), .allo [(.int .i64 0), (.int .i64 0)], none⟩,
            ⟨.none, .st 2 (.t 10) (.t 52), none⟩] none ⟨[], [], [], []⟩)
        (.seq (.reg 6 [] [
            ⟨(.t 54), .iaa 1 2 (.t 10) (.c (.int .i64 0)), none⟩,
            ⟨(.t 55), .ld 1 false (.t 54), none⟩,
            ⟨(.t 56), .call 10 [(.t 55)], none⟩,
            ⟨(.t 53), .mv (.t 56), none⟩,
            ⟨(.t 57), .ext 53 0, none⟩,
            ⟨(.t 58), .ext 53 1, none⟩,
            ⟨(.t 11), .allo [(.int .i64 0), (.slice none 0 0)], none⟩,
            ⟨.none, .st 2 (.t 11) (.t 57), none⟩,
            ⟨(.v 5), .asg (.t 58), none⟩] none ⟨[], [], [], []⟩)
        (.seq (.reg 7 [] [
            ⟨(.t 60), .iaa 1 2 (.t 10) (.c (.int .i64 0)), none⟩,
            ⟨(.t 61), .ld 1 false (.t 60), none⟩,
            ⟨(.t 62), .call 11 [(.t 61)], none⟩,
            ⟨(.t 59), .mv (.t 62), none⟩,
            ⟨(.t 63), .ext 59 0, none⟩,
            ⟨(.t 64), .ext 59 1, none⟩,
            ⟨(.t 13), .allo [(.int .i64 0), (.slice none 0 0)], none⟩,
            ⟨.none, .st 2 (.t 13) (.t 63), none⟩,
            ⟨(.v 6), .asg (.t 64), none⟩] none ⟨[], [], [], []⟩)
        (.seq (.reg 8 [] [
            ⟨(.t 66), .iaa 1 2 (.t 10) (.c (.int .i64 0)), none⟩,
            ⟨(.t 67), .ld 1 false (.t 66), none⟩,
            ⟨(.t 68), .iaa 1 2 (.t 10) (.c (.int .i64 1)), none⟩,
            ⟨(.t 69), .ld 1 false (.t 68), none⟩,
            ⟨(.t 70), .call 12 [(.t 67), (.t 69)], none⟩,
            ⟨(.t 65), .mv (.t 70), none⟩,
            ⟨(.t 71), .ext 65 0, none⟩,
            ⟨(.t 72), .ext 65 1, none⟩,
            ⟨(.t 15), .allo [(.int .i64 0), (.slice none 0 0)], none⟩,
            ⟨.none, .st 2 (.t 15) (.t 71), none⟩,
            ⟨(.v 7), .asg (.t 72), none⟩] none ⟨[], [], [], []⟩)
        (.seq (.reg 9 [] [
            ⟨(.t 74), .iaa 1 2 (.t 10) (.c (.int .i64 0)), none⟩,
            ⟨(.t 75), .ld 1 false (.t 74), none⟩,
            ⟨(.t 76), .iaa 1 2 (.t 10) (.c (.int .i64 1)), none⟩,
            ⟨(.t 77), .ld 1 false (.t 76), none⟩,
            ⟨(.t 78), .call 13 [(.t 75), (.t 77)], none⟩,
            ⟨(.t 73), .mv (.t 78), none⟩,
            ⟨(.t 79), .ext 73 0, none⟩,
            ⟨(.t 80), .ext 73 1, none⟩,
            ⟨(.t 17), .allo [(.int .i64 0), (.slice none 0 0)], none⟩,
            ⟨.none, .st 2 (.t 17) (.t 79), none⟩,
            ⟨(.v 8), .asg (.t 80), none⟩] none ⟨[], [], [], []⟩)
        (.seq (.reg 10 [] [
            ⟨(.t 82), .iaa 1 2 (.t 10) (.c (.int .i64 1)), none⟩,
            ⟨(.t 83), .ld 1 false (.t 82), none⟩,
            ⟨(.t 84), .call 14 [(.t 83)], none⟩,
            ⟨(.t 81), .mv (.t 84), none⟩,
            ⟨(.t 85), .ext 81 0, none⟩,
            ⟨(.t 86), .ext 81 1, none⟩,
            ⟨(.t 19), .allo [(.int .i64 0), (.slice none 0 0)], none⟩,
            ⟨.none, .st 2 (.t 19) (.t 85), none⟩,
            ⟨(.v 9), .asg (.t 86), none⟩] none ⟨[], [], [], []⟩)
        (.seq (.reg 11 [] [
            ⟨(.t 88), .iaa 1 2 (.t 10) (.c (.int .i64 1)), none⟩,
            ⟨(.t 89), .ld 1 false (.t 88), none⟩,
            ⟨(.t 90), .call 15 [(.t 89)], none⟩,
            ⟨(.t 87), .mv (.t 90), none⟩,
            ⟨(.t 91), .ext 87 0, none⟩,
            ⟨(.t 92), .ext 87 1, none⟩,
            ⟨(.t 21), .allo [(.int .i64 0), (.slice none 0 0)], none⟩,
            ⟨.none, .st 2 (.t 21) (.t 91), none⟩,
            ⟨(.v 10), .asg (.t 92), none⟩] none ⟨[], [], [], []⟩)
        (.seq (.reg 12 [] [
            ⟨(.t 94), .iaa 1 2 (.t 10) (.c (.int .i64 0)), none⟩,
            ⟨(.t 95), .ld 1 false (.t 94), none⟩,
            ⟨(.t 96), .mv (.v 2), none⟩,
            ⟨(.t 97), .call 16 [(.t 95), (.t 96)], none⟩,
            ⟨(.t 93), .mv (.t 97), none⟩,
            ⟨(.t 98), .ext 93 0, none⟩,
            ⟨(.t 99), .ext 93 1, none⟩,
            ⟨(.t 23), .allo [(.int .i64 0), (.slice none 0 0)], none⟩,
            ⟨.none, .st 2 (.t 23) (.t 98), none⟩,
            ⟨(.v 11), .asg (.t 99), none⟩] none ⟨[], [], [], []⟩)
        (.seq (.reg 13 [] [
            ⟨(.t 101), .iaa 1 2 (.t 10) (.c (.int .i64 0)), none⟩,
            ⟨(.t 102), .ld 1 false (.t 101), none⟩,
            ⟨(.t 103), .mv (.v 2), none⟩,
            ⟨(.t 104), .call 17 [(.t 102), (.t 103)], none⟩,
            ⟨(.t 100), .mv (.t 104), none⟩,
            ⟨(.t 105), .ext 100 0, none⟩,
            ⟨(.t 106), .ext 100 1, none⟩,
            ⟨(.t 25), .allo [(.int .i64 0), (.slice none 0 0)], none⟩,
            ⟨.none, .st 2 (.t 25) (.t 105), none⟩,
            ⟨(.v 12), .asg (.t 106), none⟩] none ⟨[], [], [], []⟩)
        (.seq (.reg 14 [] [
            ⟨(.t 107), .mv (.v 5), none⟩,
            ⟨(.t 108), .mv (.v 6), none⟩,
            ⟨(.t 109), .bin .neq (.t 107) (.t 108), none⟩,
            ⟨(.t 110), .mv (.t 109), none⟩,
            ⟨(.t 111), .mv (.v 7), some (110, false)⟩,
            ⟨(.t 112), .mv (.v 8), some (110, false)⟩,
            ⟨(.t 113), .bin .neq (.t 111) (.t 112), some (110, false)⟩,
            ⟨(.t 114), .pick (.t 110) (.c (.bool true)) (.t 113), none⟩,
            ⟨(.t 115), .mv (.t 114), none⟩,
            ⟨(.t 116), .mv (.v 9), some (115, false)⟩,
            ⟨(.t 117), .mv (.v 10), some (115, false)⟩,
            ⟨(.t 118), .bin .neq (.t 116) (.t 117), some (115, false)⟩,
            ⟨(.t 119), .pick (.t 115) (.c (.bool true)) (.t 118), none⟩,
            ⟨(.t 120), .mv (.t 119), none⟩,
            ⟨(.t 121), .mv (.v 11), some (120, false)⟩,
            ⟨(.t 122), .mv (.v 12), some (120, false)⟩,
            ⟨(.t 123), .bin .neq (.t 121) (.t 122), some (120, false)⟩,
            ⟨(.t 124), .pick (.t 120) (.c (.bool true)) (.t 123), none⟩,
            ⟨(.t 125), .mv (.t 124), none⟩,
            ⟨(.t 126), .ld 2 true (.t 11), some (125, false)⟩,
            ⟨(.t 127), .ld 2 true (.t 13), some (125, false)⟩,
            ⟨(.t 128), .call 18 [(.t 126), (.t 127)], some (125, false)⟩,
            ⟨(.t 129), .un .not (.t 128), some (125, false)⟩,
            ⟨(.t 130), .pick (.t 125) (.c (.bool true)) (.t 129), none⟩,
            ⟨(.t 131), .mv (.t 130), none⟩,
            ⟨(.t 132), .ld 2 true (.t 15), some (131, false)⟩,
            ⟨(.t 133), .ld 2 true (.t 17), some (131, false)⟩,
            ⟨(.t 134), .call 18 [(.t 132), (.t 133)], some (131, false)⟩,
            ⟨(.t 135), .un .not (.t 134), some (131, false)⟩,
            ⟨(.t 136), .pick (.t 131) (.c (.bool true)) (.t 135), none⟩,
            ⟨(.t 137), .mv (.t 136), none⟩,
            ⟨(.t 138), .ld 2 true (.t 19), some (137, false)⟩,
            ⟨(.t 139), .ld 2 true (.t 21), some (137, false)⟩,
            ⟨(.t 140), .call 18 [(.t 138), (.t 139)], some (137, false)⟩,
            ⟨(.t 141), .un .not (.t 140), some (137, false)⟩,
            ⟨(.t 142), .pick (.t 137) (.c (.bool true)) (.t 141), none⟩,
            ⟨(.t 143), .mv (.t 142), none⟩,
            ⟨(.t 144), .ld 2 true (.t 23), some (143, false)⟩,
            ⟨(.t 145), .ld 2 true (.t 25), some (143, false)⟩,
            ⟨(.t 146), .call 18 [(.t 144), (.t 145)], some (143, false)⟩,
            ⟨(.t 147), .un .not (.t 146), some (143, false)⟩,
            ⟨(.t 148), .pick (.t 143) (.c (.bool true)) (.t 147), none⟩] none ⟨[], [], [], []⟩)
        (.cond (.t 148)
          (.seq (.reg 15 [] [
              ⟨(.v 4), .asg (.c (.bool false)), none⟩] none ⟨[], [], [], []⟩)
          .ret)
          .skip))))))))))))
      (.reg 16 [] [
          ⟨(.t 149), .bin .add (.t 49) (.c (.int .i64 1)), none⟩,
          ⟨(.t 49), .mv (.t 149), none⟩] none ⟨[], [], [], []⟩)))))))
  (.seq (.reg 17 [] [
      ⟨(.t 150), .call 8 [], none⟩,
      ⟨(.t 151), .mv (.t 150), none⟩,
      ⟨(.t 152), .ld 2 true (.t 7), some (151, true)⟩,
      ⟨(.t 153), .call 19 [(.t 152)], some (151, true)⟩,
      ⟨(.t 154), .ld 2 true (.t 7), some (151, true)⟩,
      ⟨(.t 155), .call 20 [(.t 154)], some (151, true)⟩,
      ⟨(.t 156), .bib .eql (.t 153) (.t 155), some (151, true)⟩,
      ⟨(.t 157), .pick (.t 151) (.t 156) (.c (.bool false)), none⟩,
      ⟨(.t 158), .mv (.t 157), none⟩,
      ⟨(.t 159), .mv (.v 0), some (158, true)⟩,
      ⟨(.t 160), .mv (.v 2), some (158, true)⟩,
      ⟨(.t 161), .call 21 [(.t 159), (.t 160)], some (158, true)⟩,
      ⟨(.t 162), .call 19 [(.t 161)], some (158, true)⟩,
      ⟨(.t 163), .mv (.v 0), some (158, true)⟩,
      ⟨(.t 164), .mv (.v 2), some (158, true)⟩,
      ⟨(.t 165), .call 21 [(.t 163), (.t 164)], some (158, true)⟩,
      ⟨(.t 166), .call 20 [(.t 165)], some (158, true)⟩,
      ⟨(.t 167), .bib .eql (.t 162) (.t 166), some (158, true)⟩,
      ⟨(.t 168), .pick (.t 158) (.t 167) (.c (.bool false)), none⟩,
      ⟨(.v 4), .asg (.t 168), none⟩] (some [[], [0, 0], [1], [2, 1, 1], [1], [4, 3, 1], [3, 5, 1], [1, 6], [7, 5], [8], [8], [9, 10, 8, 8], [11, 11, 8], [8], [8], [13, 14, 12, 8], [15, 15, 8], [12, 16, 8], [8, 17], [18, 16, 0, 1, 2, 3, 4, 5, 6, 7, 8, 9, 10, 11, 12, 13, 14, 15, 16, 17, 18]]) ⟨[7, 151, 158], [], [], []⟩)
  .ret))))
theorem c3 : compFn Try.prog 3 F3 = some (4, strip a3, [.v 4]) ∧ lexAll a3 = true := ⟨by kernel_rfl, by kernel_rfl⟩
/-- clusterlocks/clusterlockslaw29.CoterieAsks -/
def F4 : Fr := ⟨82, [0, 1, 2, 3, 8, 12, 13, 14, 15, 16]⟩
def a4 : ACode :=
  (.seq (.reg 0 [] [
      ⟨(.t 4), .box 2 (.v 0), none⟩,
      ⟨(.v 4), .asg (.c (.bool false)), none⟩] none ⟨[], [], [], []⟩)
  (.seq (.seq (.reg 1 [] [
      ⟨(.t 17), .fa 1 (.t 4), none⟩,
      ⟨(.t 18), .ld 1 false (.t 17), none⟩,
      ⟨(.t 19), .len (.t 18), none⟩,
      ⟨(.t 20), .bin .gtr (.t 19) (.c (.int .i64 80)), none⟩,
      ⟨(.t 21), .mv (.t 20), none⟩,
      ⟨(.t 22), .mv (.v 3), some (21, false)⟩,
      ⟨(.t 23), .len (.t 22), some (21, false)⟩,
      ⟨(.t 24), .bin .gtr (.t 23) (.c (.int .i64 30)), some (21, false)⟩,
      ⟨(.t 25), .pick (.t 21) (.c (.bool true)) (.t 24), none⟩] none ⟨[], [], [], []⟩)
  (.cond (.t 25)
    (.seq (.reg 2 [] [
        ⟨(.t 26), .call 8 [], none⟩,
        ⟨(.v 4), .asg (.t 26), none⟩] none ⟨[], [], [], []⟩)
    .ret)
    .skip))
  (.seq (.seq (.reg 3 [] [
      ⟨(.t 27), .ld 2 true (.t 4), none⟩,
      ⟨(.t 28), .mv (.v 1), none⟩,
      ⟨(.t 29), .mv (.v 3), none⟩,
      ⟨(.t 30), .call 21 [(.t 28), (.t 29)], none⟩,
      ⟨(.t 31), .bls 24 2 (.agg #[(.int .i64 0), (.slice none 0 0)]) 2 [(0, (.t 27)), (1, (.t 30))], none⟩,
      ⟨(.t 32), .len (.t 31), none⟩,
      ⟨(.t 33), .mv (.c (.int .i64 0)), none⟩] (some [[], [], [], [1, 2], [0, 3], [4], []]) ⟨[], [], [], []⟩)
  (.block 0
    (.loop
      (.seq (.reg 4 [] [
          ⟨(.t 34), .bin .lss (.t 33) (.t 32), none⟩] none ⟨[], [], [], []⟩)
      (.seq (.cond (.t 34)
        .skip
        (.exit 0))
      (.seq (.block 1
        (.seq (.reg 5 [] [
            ⟨(.t 35), .ia 2 (.t 31) (.t 33), none⟩,
            ⟨(.t 36), .ld 2 true (.t 35), none⟩,
            ⟨(.t 10), .allo [(.int .i64 0), (.slice none 0 0)], none⟩,
            ⟨.none, .st 2 (.t 10) (.t 36), none⟩] none ⟨[], [], [], []⟩)
        (.seq (.seq (.reg 6 [] [
            ⟨(.t 37), .mv (.v 2), none⟩,
            ⟨(.t 38), .mv (.v 2), none⟩,
            ⟨(.t 39), .call 9 [(.t 38), (.c (.int .i64 512))], none⟩,
            ⟨(.t 40), .bls 3 1 (.int .i64 0) 2 [(0, (.t 37)), (1, (.t 39))], none⟩,
            ⟨(.t 41), .len (.t 40), none⟩,
            ⟨(.t 42), .mv (.c (.int .i64 0)), none⟩] none ⟨[], [], [], []⟩)
        (.block 2
          (.loop
            (.seq (.reg 7 [] [
                ⟨(.t 43), .bin .lss (.t 42) (.t 41), none⟩] none ⟨[], [], [], []⟩)
            (.seq (.cond (.t 43)
              .skip
              (.exit 2))
            (.seq (.block 3
              (.seq (.reg 8 [] [
                  ⟨(.t 44), .ia 1 (.t 40) (.t 42), none⟩,
                  ⟨(.t 45), .ld 1 false (.t 44), none⟩,
                  ⟨(.v 5), .asg (.t 45), none⟩] none ⟨[], [], [], []⟩)
              (.seq (.reg 9 [] [
                  ⟨(.t 47), .ld 2 true (.t 10), none⟩,
                  ⟨(.t 48), .mv (.v 5), none⟩,
                  ⟨(.t 49), .call 22 [(.t 47), (.t 48)], none⟩,
                  ⟨(.t 46), .mv (.t 49), none⟩,
                  ⟨(.t 50), .ext 46 0, none⟩,
                  ⟨(.t 51), .ext 46 1, none⟩,
                  ⟨(.v 6), .asg (.t 50), none⟩,
                  ⟨(.v 7), .asg (.t 51), none⟩] none ⟨[], [], [], []⟩)
              (.seq (.reg 10 [] [
                  ⟨(.t 53), .ld 2 true (.t 10), none⟩,
                  ⟨(.t 54), .mv (.v 5), none⟩,
                  ⟨(.t 55), .call 23 [(.t 53), (.t 54)], none⟩,
                  ⟨(.t 52), .mv (.t 55), none⟩,
                  ⟨(.t 56), .ext 52 0, none⟩,
                  ⟨(.t 57), .ext 52 1, none⟩,
                  ⟨(.v 8), .asg (.t 56), none⟩,
                  ⟨(.v 9), .asg (.t 57), none⟩] none ⟨[], [], [], []⟩)
              (.seq (.reg 11 [] [
                  ⟨(.t 58), .mv (.v 6), none⟩,
                  ⟨(.t 59), .mv (.v 8), none⟩,
                  ⟨(.t 60), .bin .neq (.t 58) (.t 59), none⟩,
                  ⟨(.t 61), .mv (.t 60), none⟩,
                  ⟨(.t 62), .mv (.v 7), some (61, false)⟩,
                  ⟨(.t 63), .mv (.v 9), some (61, false)⟩,
                  ⟨(.t 64), .bib .neq (.t 62) (.t 63), some (61, false)⟩,
                  ⟨(.t 65), .pick (.t 61) (.c (.bool true)) (.t 64), none⟩] none ⟨[], [], [], []⟩)
              (.cond (.t 65)
                (.seq (.reg 12 [] [
                    ⟨(.v 4), .asg (.c (.bool false)), none⟩] none ⟨[], [], [], []⟩)
                .ret)
                .skip))))))
            (.reg 13 [] [
                ⟨(.t 66), .bin .add (.t 42) (.c (.int .i64 1)), none⟩,
                ⟨(.t 42), .mv (.t 66), none⟩] none ⟨[], [], [], []⟩)))))))
        (.seq (.reg 14 [] [
            ⟨(.t 67), .ld 2 true (.t 10), none⟩,
            ⟨(.t 68), .call 25 [(.t 67)], none⟩,
            ⟨(.t 69), .ld 2 true (.t 10), none⟩,
            ⟨(.t 70), .call 26 [(.t 69)], none⟩,
            ⟨(.t 71), .call 24 [(.t 68), (.t 70)], none⟩,
            ⟨(.t 72), .un .not (.t 71), none⟩,
            ⟨(.t 73), .mv (.t 72), none⟩,
            ⟨(.t 74), .ld 2 true (.t 10), some (73, false)⟩,
            ⟨(.t 75), .call 27 [(.t 74)], some (73, false)⟩,
            ⟨(.t 76), .ld 2 true (.t 10), some (73, false)⟩,
            ⟨(.t 77), .call 28 [(.t 76)], some (73, false)⟩,
            ⟨(.t 78), .bib .neq (.t 75) (.t 77), some (73, false)⟩,
            ⟨(.t 79), .pick (.t 73) (.c (.bool true)) (.t 78), none⟩] (some [[], [0], [], [2, 1], [1, 3, 3], [4], [5, 4], [6], [7, 6, 6], [6], [9, 8, 6], [8, 10, 6], [6, 11]]) ⟨[10, 73], [], [], []⟩)
        (.cond (.t 79)
          (.seq (.reg 15 [] [
              ⟨(.v 4), .asg (.c (.bool false)), none⟩] none ⟨[], [], [], []⟩)
          .ret)
          .skip)))))
      (.reg 16 [] [
          ⟨(.t 80), .bin .add (.t 33) (.c (.int .i64 1)), none⟩,
          ⟨(.t 33), .mv (.t 80), none⟩] none ⟨[], [], [], []⟩)))))))
  (.seq (.reg 17 [] [
      ⟨(.t 81), .call 8 [], none⟩,
      ⟨(.v 4), .asg (.t 81), none⟩] none ⟨[], [], [], []⟩)
  .ret))))
theorem c4 : compFn Try.prog 4 F4 = some (4, strip a4, [.v 4]) ∧ lexAll a4 = true := ⟨by kernel_rfl, by kernel_rfl⟩
/-- clusterlocks/clusterlockslaw29.CoterieSelf -/
def F5 : Fr := ⟨59, [0, 1, 4, 6, 8, 9, 11]⟩
def a5 : ACode :=
  (.seq (.reg 0 [] [
      ⟨(.v 2), .asg (.c (.bool false)), none⟩] none ⟨[], [], [], []⟩)
  (.seq (.seq (.reg 1 [] [
      ⟨(.t 12), .mv (.v 1), none⟩,
      ⟨(.t 13), .len (.t 12), none⟩,
      ⟨(.t 14), .bin .gtr (.t 13) (.c (.int .i64 30)), none⟩] none ⟨[], [], [], []⟩)
  (.cond (.t 14)
    (.seq (.reg 2 [] [
        ⟨(.t 15), .call 8 [], none⟩,
        ⟨(.v 2), .asg (.t 15), none⟩] none ⟨[], [], [], []⟩)
    .ret)
    .skip))
  (.seq (.reg 3 [] [
      ⟨(.t 16), .mv (.v 0), none⟩,
      ⟨(.t 17), .mv (.v 1), none⟩,
      ⟨(.t 18), .call 21 [(.t 16), (.t 17)], none⟩,
      ⟨(.t 5), .allo [(.int .i64 0), (.slice none 0 0)], none⟩,
      ⟨.none, .st 2 (.t 5) (.t 18), none⟩] none ⟨[], [], [], []⟩)
  (.seq (.seq (.reg 4 [] [
      ⟨(.t 19), .ld 2 true (.t 5), none⟩,
      ⟨(.t 20), .call 19 [(.t 19)], none⟩,
      ⟨(.t 21), .un .not (.t 20), none⟩] none ⟨[], [], [], []⟩)
  (.cond (.t 21)
    (.seq (.reg 5 [] [
        ⟨(.v 2), .asg (.c (.bool false)), none⟩] none ⟨[], [], [], []⟩)
    .ret)
    .skip))
  (.seq (.reg 6 [] [
      ⟨(.t 22), .ld 2 true (.t 5), none⟩,
      ⟨(.t 23), .call 25 [(.t 22)], none⟩,
      ⟨(.v 3), .asg (.t 23), none⟩] none ⟨[], [], [], []⟩)
  (.seq (.seq (.reg 7 [] [
      ⟨(.t 24), .fa 1 (.t 5), none⟩,
      ⟨(.t 25), .ld 1 false (.t 24), none⟩,
      ⟨(.t 26), .len (.t 25), none⟩,
      ⟨(.t 27), .mv (.c (.int .i64 0)), none⟩] none ⟨[], [], [], []⟩)
  (.block 0
    (.loop
      (.seq (.reg 8 [] [
          ⟨(.t 28), .bin .lss (.t 27) (.t 26), none⟩] none ⟨[], [], [], []⟩)
      (.seq (.cond (.t 28)
        .skip
        (.exit 0))
      (.seq (.block 1
        (.seq (.reg 9 [] [
            ⟨(.t 29), .ia 1 (.t 25) (.t 27), none⟩,
            ⟨(.t 30), .ld 1 false (.t 29), none⟩,
            ⟨(.v 4), .asg (.t 30), none⟩] none ⟨[], [], [], []⟩)
        (.seq (.reg 10 [] [
            ⟨(.v 5), .asg (.c (.bool false)), none⟩] none ⟨[], [], [], []⟩)
        (.seq (.seq (.reg 11 [] [
            ⟨(.t 31), .mv (.v 3), none⟩,
            ⟨(.t 32), .len (.t 31), none⟩,
            ⟨(.t 33), .mv (.c (.int .i64 0)), none⟩] none ⟨[], [], [], []⟩)
        (.block 2
          (.loop
            (.seq (.reg 12 [] [
                ⟨(.t 34), .bin .lss (.t 33) (.t 32), none⟩] none ⟨[], [], [], []⟩)
            (.seq (.cond (.t 34)
              .skip
              (.exit 2))
            (.seq (.block 3
              (.seq (.reg 13 [] [
                  ⟨(.t 35), .ia 1 (.t 31) (.t 33), none⟩,
                  ⟨(.t 36), .ld 1 false (.t 35), none⟩,
                  ⟨(.v 6), .asg (.t 36), none⟩] none ⟨[], [], [], []⟩)
              (.reg 14 [] [
                  ⟨(.t 37), .mv (.v 5), none⟩,
                  ⟨(.t 38), .mv (.t 37), none⟩,
                  ⟨(.t 39), .mv (.v 6), some (38, false)⟩,
                  ⟨(.t 40), .mv (.v 4), some (38, false)⟩,
                  ⟨(.t 41), .bin .and (.t 39) (.t 40), some (38, false)⟩,
                  ⟨(.t 42), .mv (.v 6), some (38, false)⟩,
                  ⟨(.t 43), .bin .eql (.t 41) (.t 42), some (38, false)⟩,
                  ⟨(.t 44), .pick (.t 38) (.c (.bool true)) (.t 43), none⟩,
                  ⟨(.v 5), .asg (.t 44), none⟩] none ⟨[], [], [], []⟩)))
            (.reg 15 [] [
                ⟨(.t 45), .bin .add (.t 33) (.c (.int .i64 1)), none⟩,
                ⟨(.t 33), .mv (.t 45), none⟩] none ⟨[], [], [], []⟩)))))))
        (.seq (.reg 16 [] [
            ⟨(.t 46), .mv (.v 5), none⟩,
            ⟨(.t 47), .un .not (.t 46), none⟩] none ⟨[], [], [], []⟩)
        (.cond (.t 47)
          (.seq (.reg 17 [] [
              ⟨(.v 2), .asg (.c (.bool false)), none⟩] none ⟨[], [], [], []⟩)
          .ret)
          .skip))))))
      (.reg 18 [] [
          ⟨(.t 48), .bin .add (.t 27) (.c (.int .i64 1)), none⟩,
          ⟨(.t 27), .mv (.t 48), none⟩] none ⟨[], [], [], []⟩)))))))
  (.seq (.reg 19 [] [
      ⟨(.t 49), .call 8 [], none⟩,
      ⟨(.t 50), .mv (.t 49), none⟩,
      ⟨(.t 51), .ld 2 true (.t 5), some (50, true)⟩,
      ⟨(.t 52), .call 27 [(.t 51)], some (50, true)⟩,
      ⟨(.t 53), .mv (.v 3), some (50, true)⟩,
      ⟨(.t 54), .fa 1 (.t 5), some (50, true)⟩,
      ⟨(.t 55), .ld 1 false (.t 54), some (50, true)⟩,
      ⟨(.t 56), .call 24 [(.t 53), (.t 55)], some (50, true)⟩,
      ⟨(.t 57), .bib .neq (.t 52) (.t 56), some (50, true)⟩,
      ⟨(.t 58), .pick (.t 50) (.t 57) (.c (.bool false)), none⟩,
      ⟨(.v 2), .asg (.t 58), none⟩] (some [[], [0, 0], [1], [2, 1, 1], [1], [1], [5, 1], [4, 6, 3, 1], [3, 7, 1], [1, 8], [9, 7, 0, 1, 2, 3, 4, 5, 6, 7, 8, 9]]) ⟨[50, 5], [], [], []⟩)
  .ret)))))))
theorem c5 : compFn Try.prog 5 F5 = some (2, strip a5, [.v 2]) ∧ lexAll a5 = true := ⟨by kernel_rfl, by kernel_rfl⟩
/-- clusterlocks/clusterlockslaw29.CoterieHalves -/
def F6 : Fr := ⟨58, [0, 1, 2, 6, 8, 9, 10, 11, 12, 13]⟩
def a6 : ACode :=
  (.seq (.reg 0 [] [
      ⟨(.v 3), .asg (.c (.bool false)), none⟩] none ⟨[], [], [], []⟩)
  (.seq (.seq (.reg 1 [] [
      ⟨(.t 14), .mv (.v 2), none⟩,
      ⟨(.t 15), .len (.t 14), none⟩,
      ⟨(.t 16), .bin .gtr (.t 15) (.c (.int .i64 30)), none⟩] none ⟨[], [], [], []⟩)
  (.cond (.t 16)
    (.seq (.reg 2 [] [
        ⟨(.t 17), .call 8 [], none⟩,
        ⟨(.v 3), .asg (.t 17), none⟩] none ⟨[], [], [], []⟩)
    .ret)
    .skip))
  (.seq (.reg 3 [] [
      ⟨(.t 18), .mv (.v 0), none⟩,
      ⟨(.t 19), .mv (.v 2), none⟩,
      ⟨(.t 20), .call 21 [(.t 18), (.t 19)], none⟩,
      ⟨(.t 7), .allo [(.int .i64 0), (.slice none 0 0)], none⟩,
      ⟨.none, .st 2 (.t 7) (.t 20), none⟩] none ⟨[], [], [], []⟩)
  (.seq (.reg 4 [] [
      ⟨(.t 21), .fa 0 (.t 7), none⟩,
      ⟨(.t 22), .ld 1 false (.t 21), none⟩,
      ⟨(.t 23), .bin .shl (.c (.int .i64 1)) (.t 22), none⟩,
      ⟨(.t 24), .bin .sub (.t 23) (.c (.int .i64 1)), none⟩,
      ⟨(.v 4), .asg (.t 24), none⟩] none ⟨[], [], [], []⟩)
  (.seq (.reg 5 [] [
      ⟨(.t 25), .mv (.v 1), none⟩,
      ⟨(.t 26), .mv (.v 4), none⟩,
      ⟨(.t 27), .bin .add (.t 26) (.c (.int .i64 1)), none⟩,
      ⟨(.t 28), .call 9 [(.t 25), (.t 27)], none⟩,
      ⟨(.v 5), .asg (.t 28), none⟩] none ⟨[], [], [], []⟩)
  (.seq (.reg 6 [] [
      ⟨(.t 30), .ld 2 true (.t 7), none⟩,
      ⟨(.t 31), .mv (.v 5), none⟩,
      ⟨(.t 32), .call 22 [(.t 30), (.t 31)], none⟩,
      ⟨(.t 29), .mv (.t 32), none⟩,
      ⟨(.t 33), .ext 29 0, none⟩,
      ⟨(.t 34), .ext 29 1, none⟩,
      ⟨(.v 6), .asg (.t 33), none⟩,
      ⟨(.v 7), .asg (.t 34), none⟩] none ⟨[], [], [], []⟩)
  (.seq (.reg 7 [] [
      ⟨(.t 36), .ld 2 true (.t 7), none⟩,
      ⟨(.t 37), .mv (.v 4), none⟩,
      ⟨(.t 38), .mv (.v 5), none⟩,
      ⟨(.t 39), .bin .andNot (.t 37) (.t 38), none⟩,
      ⟨(.t 40), .call 22 [(.t 36), (.t 39)], none⟩,
      ⟨(.t 35), .mv (.t 40), none⟩,
      ⟨(.t 41), .ext 35 0, none⟩,
      ⟨(.t 42), .ext 35 1, none⟩,
      ⟨(.v 8), .asg (.t 41), none⟩,
      ⟨(.v 9), .asg (.t 42), none⟩] none ⟨[], [], [], []⟩)
  (.seq (.seq (.reg 8 [] [
      ⟨(.t 43), .mv (.v 7), none⟩,
      ⟨(.t 44), .mv (.t 43), none⟩,
      ⟨(.t 45), .mv (.v 9), some (44, true)⟩,
      ⟨(.t 46), .pick (.t 44) (.t 45) (.c (.bool false)), none⟩] none ⟨[], [], [], []⟩)
  (.cond (.t 46)
    (.seq (.reg 9 [] [
        ⟨(.v 3), .asg (.c (.bool false)), none⟩] none ⟨[], [], [], []⟩)
    .ret)
    .skip))
  (.seq (.reg 10 [] [
      ⟨(.t 47), .call 8 [], none⟩,
      ⟨(.t 48), .mv (.t 47), none⟩,
      ⟨(.t 49), .ld 2 true (.t 7), some (48, true)⟩,
      ⟨(.t 50), .call 27 [(.t 49)], some (48, true)⟩,
      ⟨(.t 51), .mv (.t 50), some (48, true)⟩,
      ⟨(.t 52), .mv (.v 7), some (51, false)⟩,
      ⟨(.t 53), .pick (.t 51) (.c (.bool true)) (.t 52), some (48, true)⟩,
      ⟨(.t 54), .mv (.t 53), some (48, true)⟩,
      ⟨(.t 55), .mv (.v 9), some (54, false)⟩,
      ⟨(.t 56), .pick (.t 54) (.c (.bool true)) (.t 55), some (48, true)⟩,
      ⟨(.t 57), .pick (.t 48) (.t 56) (.c (.bool false)), none⟩,
      ⟨(.v 3), .asg (.t 57), none⟩] none ⟨[], [], [], []⟩)
  .ret)))))))))
theorem c6 : compFn Try.prog 6 F6 = some (3, strip a6, [.v 3]) ∧ lexAll a6 = true := ⟨by kernel_rfl, by kernel_rfl⟩
/-- clusterlocks/clusterlockslaw29.CoterieOdd -/
def F7 : Fr := ⟨47, [0, 2, 3, 5, 7]⟩
def a7 : ACode :=
  (.seq (.reg 0 [] [
      ⟨(.v 1), .asg (.c (.bool false)), none⟩] none ⟨[], [], [], []⟩)
  (.seq (.reg 1 [] [
      ⟨(.t 8), .mv (.v 0), none⟩,
      ⟨(.t 9), .conv .i64 (.t 8), none⟩,
      ⟨(.t 10), .bin .rem (.t 9) (.c (.int .i64 8)), none⟩,
      ⟨(.t 11), .bin .add (.c (.int .i64 1)) (.t 10), none⟩,
      ⟨(.v 2), .asg (.t 11), none⟩] none ⟨[], [], [], []⟩)
  (.seq (.reg 2 [] [
      ⟨(.t 13), .mv (.v 2), none⟩,
      ⟨(.t 14), .call 10 [(.t 13)], none⟩,
      ⟨(.t 12), .mv (.t 14), none⟩,
      ⟨(.t 15), .ext 12 0, none⟩,
      ⟨(.t 16), .ext 12 1, none⟩,
      ⟨(.t 4), .allo [(.int .i64 0), (.slice none 0 0)], none⟩,
      ⟨.none, .st 2 (.t 4) (.t 15), none⟩,
      ⟨(.v 3), .asg (.t 16), none⟩] none ⟨[], [], [], []⟩)
  (.seq (.reg 3 [] [
      ⟨(.t 18), .mv (.v 0), none⟩,
      ⟨(.t 19), .conv .i64 (.t 18), none⟩,
      ⟨(.t 20), .bin .rem (.t 19) (.c (.int .i64 3)), none⟩,
      ⟨(.t 21), .bin .add (.c (.int .i64 1)) (.t 20), none⟩,
      ⟨(.t 22), .call 14 [(.t 21)], none⟩,
      ⟨(.t 17), .mv (.t 22), none⟩,
      ⟨(.t 23), .ext 17 0, none⟩,
      ⟨(.t 24), .ext 17 1, none⟩,
      ⟨(.t 6), .allo [(.int .i64 0), (.slice none 0 0)], none⟩,
      ⟨.none, .st 2 (.t 6) (.t 23), none⟩,
      ⟨(.v 4), .asg (.t 24), none⟩] none ⟨[], [], [], []⟩)
  (.seq (.reg 4 [] [
      ⟨(.t 25), .call 8 [], none⟩,
      ⟨(.t 26), .mv (.t 25), none⟩,
      ⟨(.t 27), .mv (.v 3), some (26, true)⟩,
      ⟨(.t 28), .bin .eql (.t 27) (.c (.int .i64 0)), some (26, true)⟩,
      ⟨(.t 29), .pick (.t 26) (.t 28) (.c (.bool false)), none⟩,
      ⟨(.t 30), .mv (.t 29), none⟩,
      ⟨(.t 31), .mv (.v 4), some (30, true)⟩,
      ⟨(.t 32), .bin .eql (.t 31) (.c (.int .i64 0)), some (30, true)⟩,
      ⟨(.t 33), .pick (.t 30) (.t 32) (.c (.bool false)), none⟩,
      ⟨(.t 34), .mv (.t 33), none⟩,
      ⟨(.t 35), .ld 2 true (.t 4), some (34, true)⟩,
      ⟨(.t 36), .call 27 [(.t 35)], some (34, true)⟩,
      ⟨(.t 37), .mv (.v 2), some (34, true)⟩,
      ⟨(.t 38), .bin .rem (.t 37) (.c (.int .i64 2)), some (34, true)⟩,
      ⟨(.t 39), .bin .eql (.t 38) (.c (.int .i64 0)), some (34, true)⟩,
      ⟨(.t 40), .bib .eql (.t 36) (.t 39), some (34, true)⟩,
      ⟨(.t 41), .pick (.t 34) (.t 40) (.c (.bool false)), none⟩,
      ⟨(.t 42), .mv (.t 41), none⟩,
      ⟨(.t 43), .ld 2 true (.t 6), some (42, true)⟩,
      ⟨(.t 44), .call 27 [(.t 43)], some (42, true)⟩,
      ⟨(.t 45), .un .not (.t 44), some (42, true)⟩,
      ⟨(.t 46), .pick (.t 42) (.t 45) (.c (.bool false)), none⟩,
      ⟨(.v 1), .asg (.t 46), none⟩] none ⟨[], [], [], []⟩)
  .ret)))))
theorem c7 : compFn Try.prog 7 F7 = some (1, strip a7, [.v 1]) ∧ lexAll a7 = true := ⟨by kernel_rfl, by kernel_rfl⟩
/-- clusterlocks/clusterlockslaw29.awake -/
def F8 : Fr := ⟨85, [0, 2, 4, 6, 8, 9, 10]⟩
def a8 : ACode :=
  (.seq (.reg 0 [] [
      ⟨(.v 0), .asg (.c (.bool false)), none⟩] none ⟨[], [], [], []⟩)
  (.seq (.reg 1 [] [
      ⟨(.t 12), .call 10 [(.c (.int .i64 3))], none⟩,
      ⟨(.t 11), .mv (.t 12), none⟩,
      ⟨(.t 13), .ext 11 0, none⟩,
      ⟨(.t 14), .ext 11 1, none⟩,
      ⟨(.t 1), .allo [(.int .i64 0), (.slice none 0 0)], none⟩,
      ⟨.none, .st 2 (.t 1) (.t 13), none⟩,
      ⟨(.v 1), .asg (.t 14), none⟩] none ⟨[], [], [], []⟩)
  (.seq (.reg 2 [] [
      ⟨(.t 16), .call 12 [(.c (.int .i64 2)), (.c (.int .i64 2))], none⟩,
      ⟨(.t 15), .mv (.t 16), none⟩,
      ⟨(.t 17), .ext 15 0, none⟩,
      ⟨(.t 18), .ext 15 1, none⟩,
      ⟨(.t 3), .allo [(.int .i64 0), (.slice none 0 0)], none⟩,
      ⟨.none, .st 2 (.t 3) (.t 17), none⟩,
      ⟨(.v 2), .asg (.t 18), none⟩] none ⟨[], [], [], []⟩)
  (.seq (.reg 3 [] [
      ⟨(.t 20), .call 14 [(.c (.int .i64 2))], none⟩,
      ⟨(.t 19), .mv (.t 20), none⟩,
      ⟨(.t 21), .ext 19 0, none⟩,
      ⟨(.t 22), .ext 19 1, none⟩,
      ⟨(.t 5), .allo [(.int .i64 0), (.slice none 0 0)], none⟩,
      ⟨.none, .st 2 (.t 5) (.t 21), none⟩,
      ⟨(.v 3), .asg (.t 22), none⟩] none ⟨[], [], [], []⟩)
  (.seq (.reg 4 [] [
      ⟨(.t 24), .call 10 [(.c (.int .i64 4))], none⟩,
      ⟨(.t 23), .mv (.t 24), none⟩,
      ⟨(.t 25), .ext 23 0, none⟩,
      ⟨(.t 26), .ext 23 1, none⟩,
      ⟨(.t 7), .allo [(.int .i64 0), (.slice none 0 0)], none⟩,
      ⟨.none, .st 2 (.t 7) (.t 25), none⟩,
      ⟨(.v 4), .asg (.t 26), none⟩] none ⟨[], [], [], []⟩)
  (.seq (.reg 5 [] [
      ⟨(.t 28), .ld 2 true (.t 1), none⟩,
      ⟨(.t 29), .call 22 [(.t 28), (.c (.int .i64 6))], none⟩,
      ⟨(.t 27), .mv (.t 29), none⟩,
      ⟨(.t 30), .ext 27 0, none⟩,
      ⟨(.t 31), .ext 27 1, none⟩,
      ⟨(.v 5), .asg (.t 30), none⟩,
      ⟨(.v 6), .asg (.t 31), none⟩] none ⟨[], [], [], []⟩)
  (.seq (.reg 6 [] [
      ⟨(.t 32), .mv (.v 1), none⟩,
      ⟨(.t 33), .bin .eql (.t 32) (.c (.int .i64 0)), none⟩,
      ⟨(.t 34), .mv (.t 33), none⟩,
      ⟨(.t 35), .mv (.v 2), some (34, true)⟩,
      ⟨(.t 36), .bin .eql (.t 35) (.c (.int .i64 0)), some (34, true)⟩,
      ⟨(.t 37), .pick (.t 34) (.t 36) (.c (.bool false)), none⟩,
      ⟨(.t 38), .mv (.t 37), none⟩,
      ⟨(.t 39), .mv (.v 3), some (38, true)⟩,
      ⟨(.t 40), .bin .eql (.t 39) (.c (.int .i64 0)), some (38, true)⟩,
      ⟨(.t 41), .pick (.t 38) (.t 40) (.c (.bool false)), none⟩,
      ⟨(.t 42), .mv (.t 41), none⟩,
      ⟨(.t 43), .mv (.v 4), some (42, true)⟩,
      ⟨(.t 44), .bin .eql (.t 43) (.c (.int .i64 0)), some (42, true)⟩,
      ⟨(.t 45), .pick (.t 42) (.t 44) (.c (.bool false)), none⟩,
      ⟨(.t 46), .mv (.t 45), none⟩,
      ⟨(.t 47), .fa 1 (.t 1), some (46, true)⟩,
      ⟨(.t 48), .ld 1 false (.t 47), some (46, true)⟩,
      ⟨(.t 49), .bls 3 1 (.int .i64 0) 3 [(0, (.c (.int .i64 3))), (1, (.c (.int .i64 5))), (2, (.c (.int .i64 6)))], some (46, true)⟩,
      ⟨(.t 50), .call 24 [(.t 48), (.t 49)], some (46, true)⟩,
      ⟨(.t 51), .pick (.t 46) (.t 50) (.c (.bool false)), none⟩,
      ⟨(.t 52), .mv (.t 51), none⟩,
      ⟨(.t 53), .fa 1 (.t 3), some (52, true)⟩,
      ⟨(.t 54), .ld 1 false (.t 53), some (52, true)⟩,
      ⟨(.t 55), .bls 3 1 (.int .i64 0) 4 [(0, (.c (.int .i64 7))), (1, (.c (.int .i64 11))), (2, (.c (.int .i64 13))), (3, (.c (.int .i64 14)))], some (52, true)⟩,
      ⟨(.t 56), .call 24 [(.t 54), (.t 55)], some (52, true)⟩,
      ⟨(.t 57), .pick (.t 52) (.t 56) (.c (.bool false)), none⟩,
      ⟨(.t 58), .mv (.t 57), none⟩,
      ⟨(.t 59), .fa 1 (.t 5), some (58, true)⟩,
      ⟨(.t 60), .ld 1 false (.t 59), some (58, true)⟩,
      ⟨(.t 61), .fa 1 (.t 1), some (58, true)⟩,
      ⟨(.t 62), .ld 1 false (.t 61), some (58, true)⟩,
      ⟨(.t 63), .call 24 [(.t 60), (.t 62)], some (58, true)⟩,
      ⟨(.t 64), .pick (.t 58) (.t 63) (.c (.bool false)), none⟩,
      ⟨(.t 65), .mv (.t 64), none⟩,
      ⟨(.t 66), .ld 2 true (.t 7), some (65, true)⟩,
      ⟨(.t 67), .call 27 [(.t 66)], some (65, true)⟩,
      ⟨(.t 68), .pick (.t 65) (.t 67) (.c (.bool false)), none⟩,
      ⟨(.t 69), .mv (.t 68), none⟩,
      ⟨(.t 70), .ld 2 true (.t 1), some (69, true)⟩,
      ⟨(.t 71), .call 27 [(.t 70)], some (69, true)⟩,
      ⟨(.t 72), .un .not (.t 71), some (69, true)⟩,
      ⟨(.t 73), .pick (.t 69) (.t 72) (.c (.bool false)), none⟩,
      ⟨(.t 74), .mv (.t 73), none⟩,
      ⟨(.t 75), .mv (.v 5), some (74, true)⟩,
      ⟨(.t 76), .bin .eql (.t 75) (.c (.int .i64 6)), some (74, true)⟩,
      ⟨(.t 77), .pick (.t 74) (.t 76) (.c (.bool false)), none⟩,
      ⟨(.t 78), .mv (.t 77), none⟩,
      ⟨(.t 79), .mv (.v 6), some (78, true)⟩,
      ⟨(.t 80), .pick (.t 78) (.t 79) (.c (.bool false)), none⟩,
      ⟨(.t 81), .mv (.t 80), none⟩,
      ⟨(.t 82), .ld 2 true (.t 1), some (81, true)⟩,
      ⟨(.t 83), .call 19 [(.t 82)], some (81, true)⟩,
      ⟨(.t 84), .pick (.t 81) (.t 83) (.c (.bool false)), none⟩,
      ⟨(.v 0), .asg (.t 84), none⟩] none ⟨[], [], [], []⟩)
  .ret)))))))
theorem c8 : compFn Try.prog 8 F8 = some (0, strip a8, [.v 0]) ∧ lexAll a8 = true := ⟨by kernel_rfl, by kernel_rfl⟩
/-- clusterlocks/clusterlocksmill.Mod -/
def F9 : Fr := ⟨16, [0, 1, 4]⟩
def a9 : ACode :=
  (.seq (.reg 0 [] [
      ⟨(.v 2), .asg (.c (.int .i64 0)), none⟩] none ⟨[], [], [], []⟩)
  (.seq (.seq (.reg 1 [] [
      ⟨(.t 5), .mv (.v 1), none⟩,
      ⟨(.t 6), .bin .lss (.t 5) (.c (.int .i64 1)), none⟩] none ⟨[], [], [], []⟩)
  (.cond (.t 6)
    (.seq (.reg 2 [] [
        ⟨(.v 2), .asg (.c (.int .i64 0)), none⟩] none ⟨[], [], [], []⟩)
    .ret)
    .skip))
  (.seq (.reg 3 [] [
      ⟨(.t 7), .mv (.v 0), none⟩,
      ⟨(.t 8), .mv (.v 1), none⟩,
      ⟨(.t 9), .bin .rem (.t 7) (.t 8), none⟩,
      ⟨(.v 0), .asg (.t 9), none⟩] none ⟨[], [], [], []⟩)
  (.seq (.seq (.reg 4 [] [
      ⟨(.t 10), .mv (.v 0), none⟩,
      ⟨(.t 11), .bin .lss (.t 10) (.c (.int .i64 0)), none⟩] none ⟨[], [], [], []⟩)
  (.cond (.t 11)
    (.reg 5 [] [
        ⟨(.t 12), .mv (.v 0), none⟩,
        ⟨(.t 13), .mv (.v 1), none⟩,
        ⟨(.t 14), .bin .add (.t 12) (.t 13), none⟩,
        ⟨(.v 0), .asg (.t 14), none⟩] none ⟨[], [], [], []⟩)
    .skip))
  (.seq (.reg 6 [] [
      ⟨(.t 15), .mv (.v 0), none⟩,
      ⟨(.v 2), .asg (.t 15), none⟩] none ⟨[], [], [], []⟩)
  .ret)))))
theorem c9 : compFn Try.prog 9 F9 = some (2, strip a9, [.v 2]) ∧ lexAll a9 = true := ⟨by kernel_rfl, by kernel_rfl⟩
/-- clusterlocks/coterie.Majority -/
def F10 : Fr := ⟨19, [0, 3, 4]⟩
def a10 : ACode :=
  (.seq (.reg 0 [] [
      ⟨(.t 1), .box 1 (.v 0), none⟩,
      ⟨(.t 2), .allo [(.int .i64 0), (.slice none 0 0)], none⟩,
      ⟨(.v 1), .asg (.c (.int .i64 0)), none⟩] none ⟨[], [], [], []⟩)
  (.seq (.seq (.reg 1 [] [
      ⟨(.t 5), .ld 1 false (.t 1), none⟩,
      ⟨(.t 6), .call 29 [(.t 5)], none⟩,
      ⟨(.t 7), .un .not (.t 6), none⟩] none ⟨[], [], [], []⟩)
  (.cond (.t 7)
    (.seq (.reg 2 [] [
        ⟨(.t 8), .bld [(.int .i64 0), (.slice none 0 0)] [], none⟩,
        ⟨.none, .st 2 (.t 2) (.t 8), none⟩,
        ⟨(.v 1), .asg (.c (.int .i64 1)), none⟩] none ⟨[], [], [], []⟩)
    .ret)
    .skip))
  (.seq (.reg 3 [] [
      ⟨(.t 9), .ld 1 false (.t 1), none⟩,
      ⟨(.t 10), .mkf 31 (.t 1), none⟩,
      ⟨(.t 11), .call 30 [(.t 9), (.t 10)], none⟩,
      ⟨(.v 2), .asg (.t 11), none⟩] none ⟨[], [], [], []⟩)
  (.seq (.seq (.reg 4 [.freeze (.var 2)] [
      ⟨(.t 12), .mv (.v 2), none⟩,
      ⟨(.t 13), .len (.t 12), none⟩,
      ⟨(.t 14), .bin .gtr (.t 13) (.c (.int .i64 64)), none⟩] none ⟨[], [], [], []⟩)
  (.cond (.t 14)
    (.seq (.reg 5 [] [
        ⟨(.t 15), .bld [(.int .i64 0), (.slice none 0 0)] [], none⟩,
        ⟨.none, .st 2 (.t 2) (.t 15), none⟩,
        ⟨(.v 1), .asg (.c (.int .i64 4)), none⟩] none ⟨[], [], [], []⟩)
    .ret)
    .skip))
  (.seq (.reg 6 [] [
      ⟨(.t 16), .ld 1 false (.t 1), none⟩,
      ⟨(.t 17), .mv (.v 2), none⟩,
      ⟨(.t 18), .bld [(.int .i64 0), (.slice none 0 0)] [(0, 1, (.t 16)), (1, 1, (.t 17))], none⟩,
      ⟨.none, .st 2 (.t 2) (.t 18), none⟩,
      ⟨(.v 1), .asg (.c (.int .i64 0)), none⟩] none ⟨[], [], [], []⟩)
  .ret)))))
theorem c10 : compFn Try.prog 10 F10 = some (1, strip a10, [.c 2 2 true, .v 1]) ∧ lexAll a10 = true := ⟨by kernel_rfl, by kernel_rfl⟩
/-- clusterlocks/clusterlocksref29.Majority -/
def F11 : Fr := ⟨39, [0, 3, 5]⟩
def a11 : ACode :=
  (.seq (.reg 0 [] [
      ⟨(.t 2), .allo [(.int .i64 0), (.slice none 0 0)], none⟩,
      ⟨(.v 1), .asg (.c (.int .i64 0)), none⟩] none ⟨[], [], [], []⟩)
  (.seq (.seq (.reg 1 [] [
      ⟨(.t 6), .mv (.v 0), none⟩,
      ⟨(.t 7), .bin .lss (.t 6) (.c (.int .i64 1)), none⟩,
      ⟨(.t 8), .mv (.t 7), none⟩,
      ⟨(.t 9), .mv (.v 0), some (8, false)⟩,
      ⟨(.t 10), .bin .gtr (.t 9) (.c (.int .i64 9)), some (8, false)⟩,
      ⟨(.t 11), .pick (.t 8) (.c (.bool true)) (.t 10), none⟩] none ⟨[], [], [], []⟩)
  (.cond (.t 11)
    (.seq (.reg 2 [] [
        ⟨(.t 12), .bld [(.int .i64 0), (.slice none 0 0)] [], none⟩,
        ⟨.none, .st 2 (.t 2) (.t 12), none⟩,
        ⟨(.v 1), .asg (.c (.int .i64 1)), none⟩] none ⟨[], [], [], []⟩)
    .ret)
    .skip))
  (.seq (.reg 3 [] [
      ⟨(.t 13), .mv (.v 0), none⟩,
      ⟨(.t 14), .bld [(.int .i64 0), (.slice none 0 0)] [(0, 1, (.t 13))], none⟩,
      ⟨(.t 4), .allo [(.int .i64 0), (.slice none 0 0)], none⟩,
      ⟨.none, .st 2 (.t 4) (.t 14), none⟩] none ⟨[], [], [], []⟩)
  (.seq (.seq (.reg 4 [.own (.cell 1 1) 3 1] [
      ⟨(.v 2), .asg (.c (.int .i64 1)), none⟩] none ⟨[], [], [], []⟩)
  (.block 0
    (.loop
      (.seq (.seq (.reg 5 [] [
          ⟨(.t 15), .mv (.v 2), none⟩,
          ⟨(.t 16), .mv (.v 0), none⟩,
          ⟨(.t 17), .bin .shl (.c (.int .i64 1)) (.t 16), none⟩,
          ⟨(.t 18), .bin .lss (.t 15) (.t 17), none⟩] none ⟨[], [], [], []⟩)
      (.cond (.t 18)
        .skip
        (.exit 0)))
      (.seq (.block 1
        (.seq (.reg 7 [] [
            ⟨(.t 21), .mv (.v 2), none⟩,
            ⟨(.t 22), .call 33 [(.t 21)], none⟩,
            ⟨(.t 23), .mv (.v 0), none⟩,
            ⟨(.t 24), .bin .quo (.t 23) (.c (.int .i64 2)), none⟩,
            ⟨(.t 25), .bin .add (.t 24) (.c (.int .i64 1)), none⟩,
            ⟨(.t 26), .bin .eql (.t 22) (.t 25), none⟩] none ⟨[], [], [], []⟩)
        (.cond (.t 26)
          (.reg 8 [.lend (.cell 1 1) 31] [
              ⟨(.t 27), .fa 1 (.t 4), none⟩,
              ⟨(.t 28), .ld 1 false (.t 27), none⟩,
              ⟨(.t 29), .mv (.v 2), none⟩,
              ⟨(.t 30), .bls 3 1 (.int .i64 0) 1 [(0, (.t 29))], none⟩,
              ⟨(.t 31), .app 3 1 8 (.t 28) (.t 30), none⟩,
              ⟨(.t 32), .fa 1 (.t 4), none⟩,
              ⟨.none, .st 1 (.t 32) (.t 31), none⟩] none ⟨[], [], [], []⟩)
          .skip)))
      (.reg 6 [] [
          ⟨(.t 19), .mv (.v 2), none⟩,
          ⟨(.t 20), .bin .add (.t 19) (.c (.int .i64 1)), none⟩,
          ⟨(.v 2), .asg (.t 20), none⟩] none ⟨[], [], [], []⟩))))))
  (.seq (.seq (.reg 9 [.freeze (.cell 1 1)] [
      ⟨(.t 33), .fa 1 (.t 4), none⟩,
      ⟨(.t 34), .ld 1 false (.t 33), none⟩,
      ⟨(.t 35), .len (.t 34), none⟩,
      ⟨(.t 36), .bin .gtr (.t 35) (.c (.int .i64 64)), none⟩] none ⟨[], [], [], []⟩)
  (.cond (.t 36)
    (.seq (.reg 10 [] [
        ⟨(.t 37), .bld [(.int .i64 0), (.slice none 0 0)] [], none⟩,
        ⟨.none, .st 2 (.t 2) (.t 37), none⟩,
        ⟨(.v 1), .asg (.c (.int .i64 4)), none⟩] none ⟨[], [], [], []⟩)
    .ret)
    .skip))
  (.seq (.reg 11 [] [
      ⟨(.t 38), .ld 2 true (.t 4), none⟩,
      ⟨.none, .st 2 (.t 2) (.t 38), none⟩,
      ⟨(.v 1), .asg (.c (.int .i64 0)), none⟩] none ⟨[], [], [], []⟩)
  .ret))))))
theorem c11 : compFn Try.prog 11 F11 = some (1, strip a11, [.c 2 2 true, .v 1]) ∧ lexAll a11 = true := ⟨by kernel_rfl, by kernel_rfl⟩
/-- clusterlocks/coterie.Grid -/
def F12 : Fr := ⟨75, [0, 1, 5, 6, 7, 8, 9, 10, 11]⟩
def a12 : ACode :=
  (.seq (.reg 0 [] [
      ⟨(.t 4), .allo [(.int .i64 0), (.slice none 0 0)], none⟩,
      ⟨(.v 2), .asg (.c (.int .i64 0)), none⟩] none ⟨[], [], [], []⟩)
  (.seq (.seq (.reg 1 [] [
      ⟨(.t 12), .mv (.v 0), none⟩,
      ⟨(.t 13), .call 29 [(.t 12)], none⟩,
      ⟨(.t 14), .un .not (.t 13), none⟩,
      ⟨(.t 15), .mv (.t 14), none⟩,
      ⟨(.t 16), .mv (.v 1), some (15, false)⟩,
      ⟨(.t 17), .call 29 [(.t 16)], some (15, false)⟩,
      ⟨(.t 18), .un .not (.t 17), some (15, false)⟩,
      ⟨(.t 19), .pick (.t 15) (.c (.bool true)) (.t 18), none⟩,
      ⟨(.t 20), .mv (.t 19), none⟩,
      ⟨(.t 21), .mv (.v 0), some (20, false)⟩,
      ⟨(.t 22), .mv (.v 1), some (20, false)⟩,
      ⟨(.t 23), .bin .mul (.t 21) (.t 22), some (20, false)⟩,
      ⟨(.t 24), .call 29 [(.t 23)], some (20, false)⟩,
      ⟨(.t 25), .un .not (.t 24), some (20, false)⟩,
      ⟨(.t 26), .pick (.t 20) (.c (.bool true)) (.t 25), none⟩] none ⟨[], [], [], []⟩)
  (.cond (.t 26)
    (.seq (.reg 2 [] [
        ⟨(.t 27), .bld [(.int .i64 0), (.slice none 0 0)] [], none⟩,
        ⟨.none, .st 2 (.t 4) (.t 27), none⟩,
        ⟨(.v 2), .asg (.c (.int .i64 1)), none⟩] none ⟨[], [], [], []⟩)
    .ret)
    .skip))
  (.seq (.reg 3 [] [
      ⟨(.v 3), .asg (.c (.slice none 0 0)), none⟩] none ⟨[], [], [], []⟩)
  (.seq (.seq (.reg 4 [.own (.var 3) 3 1] [
      ⟨(.t 28), .mv (.v 0), none⟩,
      ⟨(.t 29), .mv (.c (.int .i64 0)), none⟩] none ⟨[], [], [], []⟩)
  (.block 0
    (.loop
      (.seq (.reg 5 [] [
          ⟨(.t 30), .bin .lss (.t 29) (.t 28), none⟩] none ⟨[], [], [], []⟩)
      (.seq (.cond (.t 30)
        .skip
        (.exit 0))
      (.seq (.block 1
        (.seq (.reg 6 [] [
            ⟨(.t 31), .mv (.t 29), none⟩,
            ⟨(.v 4), .asg (.t 31), none⟩] none ⟨[], [], [], []⟩)
        (.seq (.reg 7 [] [
            ⟨(.t 32), .mv (.v 1), none⟩,
            ⟨(.t 33), .mv (.c (.int .i64 0)), none⟩] none ⟨[], [], [], []⟩)
        (.block 2
          (.loop
            (.seq (.reg 8 [] [
                ⟨(.t 34), .bin .lss (.t 33) (.t 32), none⟩] none ⟨[], [], [], []⟩)
            (.seq (.cond (.t 34)
              .skip
              (.exit 2))
            (.seq (.block 3
              (.seq (.reg 9 [] [
                  ⟨(.t 35), .mv (.t 33), none⟩,
                  ⟨(.v 5), .asg (.t 35), none⟩] none ⟨[], [], [], []⟩)
              (.seq (.reg 10 [] [
                  ⟨(.v 6), .asg (.c (.int .i64 0)), none⟩] none ⟨[], [], [], []⟩)
              (.seq (.seq (.reg 11 [] [
                  ⟨(.t 36), .mv (.v 1), none⟩,
                  ⟨(.t 37), .mv (.c (.int .i64 0)), none⟩] none ⟨[], [], [], []⟩)
              (.block 4
                (.loop
                  (.seq (.reg 12 [] [
                      ⟨(.t 38), .bin .lss (.t 37) (.t 36), none⟩] none ⟨[], [], [], []⟩)
                  (.seq (.cond (.t 38)
                    .skip
                    (.exit 4))
                  (.seq (.block 5
                    (.seq (.reg 13 [] [
                        ⟨(.t 39), .mv (.t 37), none⟩,
                        ⟨(.v 7), .asg (.t 39), none⟩] none ⟨[], [], [], []⟩)
                    (.reg 14 [] [
                        ⟨(.t 40), .mv (.v 6), none⟩,
                        ⟨(.t 41), .mv (.v 4), none⟩,
                        ⟨(.t 42), .mv (.v 1), none⟩,
                        ⟨(.t 43), .bin .mul (.t 41) (.t 42), none⟩,
                        ⟨(.t 44), .mv (.v 7), none⟩,
                        ⟨(.t 45), .bin .add (.t 43) (.t 44), none⟩,
                        ⟨(.t 46), .bin .shl (.c (.int .i64 1)) (.t 45), none⟩,
                        ⟨(.t 47), .bin .or (.t 40) (.t 46), none⟩,
                        ⟨(.v 6), .asg (.t 47), none⟩] none ⟨[], [], [], []⟩)))
                  (.reg 15 [] [
                      ⟨(.t 48), .bin .add (.t 37) (.c (.int .i64 1)), none⟩,
                      ⟨(.t 37), .mv (.t 48), none⟩] none ⟨[], [], [], []⟩)))))))
              (.seq (.seq (.reg 16 [] [
                  ⟨(.t 49), .mv (.v 0), none⟩,
                  ⟨(.t 50), .mv (.c (.int .i64 0)), none⟩] none ⟨[], [], [], []⟩)
              (.block 6
                (.loop
                  (.seq (.reg 17 [] [
                      ⟨(.t 51), .bin .lss (.t 50) (.t 49), none⟩] none ⟨[], [], [], []⟩)
                  (.seq (.cond (.t 51)
                    .skip
                    (.exit 6))
                  (.seq (.block 7
                    (.seq (.reg 18 [] [
                        ⟨(.t 52), .mv (.t 50), none⟩,
                        ⟨(.v 8), .asg (.t 52), none⟩] none ⟨[], [], [], []⟩)
                    (.reg 19 [] [
                        ⟨(.t 53), .mv (.v 6), none⟩,
                        ⟨(.t 54), .mv (.v 8), none⟩,
                        ⟨(.t 55), .mv (.v 1), none⟩,
                        ⟨(.t 56), .bin .mul (.t 54) (.t 55), none⟩,
                        ⟨(.t 57), .mv (.v 5), none⟩,
                        ⟨(.t 58), .bin .add (.t 56) (.t 57), none⟩,
                        ⟨(.t 59), .bin .shl (.c (.int .i64 1)) (.t 58), none⟩,
                        ⟨(.t 60), .bin .or (.t 53) (.t 59), none⟩,
                        ⟨(.v 6), .asg (.t 60), none⟩] none ⟨[], [], [], []⟩)))
                  (.reg 20 [] [
                      ⟨(.t 61), .bin .add (.t 50) (.c (.int .i64 1)), none⟩,
                      ⟨(.t 50), .mv (.t 61), none⟩] none ⟨[], [], [], []⟩)))))))
              (.reg 21 [.lend (.var 3) 65] [
                  ⟨(.t 62), .mv (.v 3), none⟩,
                  ⟨(.t 63), .mv (.v 6), none⟩,
                  ⟨(.t 64), .bls 3 1 (.int .i64 0) 1 [(0, (.t 63))], none⟩,
                  ⟨(.t 65), .app 3 1 8 (.t 62) (.t 64), none⟩,
                  ⟨(.v 3), .asg (.t 65), none⟩] none ⟨[], [], [], []⟩))))))
            (.reg 22 [] [
                ⟨(.t 66), .bin .add (.t 33) (.c (.int .i64 1)), none⟩,
                ⟨(.t 33), .mv (.t 66), none⟩] none ⟨[], [], [], []⟩)))))))))
      (.reg 23 [] [
          ⟨(.t 67), .bin .add (.t 29) (.c (.int .i64 1)), none⟩,
          ⟨(.t 29), .mv (.t 67), none⟩] none ⟨[], [], [], []⟩)))))))
  (.seq (.reg 24 [.freeze (.var 3)] [
      ⟨(.t 68), .mv (.v 0), none⟩,
      ⟨(.t 69), .mv (.v 1), none⟩,
      ⟨(.t 70), .bin .mul (.t 68) (.t 69), none⟩,
      ⟨(.t 71), .mv (.v 3), none⟩,
      ⟨(.t 72), .call 16 [(.t 70), (.t 71)], none⟩,
      ⟨(.t 73), .ext 72 0, none⟩,
      ⟨(.t 74), .ext 72 1, none⟩,
      ⟨.none, .st 2 (.t 4) (.t 73), none⟩,
      ⟨(.v 2), .asg (.t 74), none⟩] none ⟨[], [], [], []⟩)
  .ret)))))
theorem c12 : compFn Try.prog 12 F12 = some (2, strip a12, [.c 4 2 true, .v 2]) ∧ lexAll a12 = true := ⟨by kernel_rfl, by kernel_rfl⟩
/-- clusterlocks/clusterlocksref29.Grid -/
def F13 : Fr := ⟨80, [0, 1, 5, 6, 7, 8, 9, 10, 11]⟩
def a13 : ACode :=
  (.seq (.reg 0 [] [
      ⟨(.t 4), .allo [(.int .i64 0), (.slice none 0 0)], none⟩,
      ⟨(.v 2), .asg (.c (.int .i64 0)), none⟩] none ⟨[], [], [], []⟩)
  (.seq (.seq (.reg 1 [] [
      ⟨(.t 12), .mv (.v 0), none⟩,
      ⟨(.t 13), .bin .lss (.t 12) (.c (.int .i64 1)), none⟩,
      ⟨(.t 14), .mv (.t 13), none⟩,
      ⟨(.t 15), .mv (.v 1), some (14, false)⟩,
      ⟨(.t 16), .bin .lss (.t 15) (.c (.int .i64 1)), some (14, false)⟩,
      ⟨(.t 17), .pick (.t 14) (.c (.bool true)) (.t 16), none⟩,
      ⟨(.t 18), .mv (.t 17), none⟩,
      ⟨(.t 19), .mv (.v 0), some (18, false)⟩,
      ⟨(.t 20), .bin .gtr (.t 19) (.c (.int .i64 9)), some (18, false)⟩,
      ⟨(.t 21), .pick (.t 18) (.c (.bool true)) (.t 20), none⟩,
      ⟨(.t 22), .mv (.t 21), none⟩,
      ⟨(.t 23), .mv (.v 1), some (22, false)⟩,
      ⟨(.t 24), .bin .gtr (.t 23) (.c (.int .i64 9)), some (22, false)⟩,
      ⟨(.t 25), .pick (.t 22) (.c (.bool true)) (.t 24), none⟩,
      ⟨(.t 26), .mv (.t 25), none⟩,
      ⟨(.t 27), .mv (.v 0), some (26, false)⟩,
      ⟨(.t 28), .mv (.v 1), some (26, false)⟩,
      ⟨(.t 29), .bin .mul (.t 27) (.t 28), some (26, false)⟩,
      ⟨(.t 30), .bin .gtr (.t 29) (.c (.int .i64 9)), some (26, false)⟩,
      ⟨(.t 31), .pick (.t 26) (.c (.bool true)) (.t 30), none⟩] none ⟨[], [], [], []⟩)
  (.cond (.t 31)
    (.seq (.reg 2 [] [
        ⟨(.t 32), .bld [(.int .i64 0), (.slice none 0 0)] [], none⟩,
        ⟨.none, .st 2 (.t 4) (.t 32), none⟩,
        ⟨(.v 2), .asg (.c (.int .i64 1)), none⟩] none ⟨[], [], [], []⟩)
    .ret)
    .skip))
  (.seq (.reg 3 [] [
      ⟨(.v 3), .asg (.c (.slice none 0 0)), none⟩] none ⟨[], [], [], []⟩)
  (.seq (.seq (.reg 4 [.own (.var 3) 3 1] [
      ⟨(.v 4), .asg (.c (.int .i64 0)), none⟩] none ⟨[], [], [], []⟩)
  (.block 0
    (.loop
      (.seq (.seq (.reg 5 [] [
          ⟨(.t 33), .mv (.v 4), none⟩,
          ⟨(.t 34), .mv (.v 0), none⟩,
          ⟨(.t 35), .bin .lss (.t 33) (.t 34), none⟩] none ⟨[], [], [], []⟩)
      (.cond (.t 35)
        .skip
        (.exit 0)))
      (.seq (.block 1
        (.seq (.reg 7 [] [
            ⟨(.v 5), .asg (.c (.int .i64 0)), none⟩] none ⟨[], [], [], []⟩)
        (.block 2
          (.loop
            (.seq (.seq (.reg 8 [] [
                ⟨(.t 38), .mv (.v 5), none⟩,
                ⟨(.t 39), .mv (.v 1), none⟩,
                ⟨(.t 40), .bin .lss (.t 38) (.t 39), none⟩] none ⟨[], [], [], []⟩)
            (.cond (.t 40)
              .skip
              (.exit 2)))
            (.seq (.block 3
              (.seq (.reg 10 [] [
                  ⟨(.v 6), .asg (.c (.int .i64 0)), none⟩] none ⟨[], [], [], []⟩)
              (.seq (.seq (.reg 11 [] [
                  ⟨(.v 7), .asg (.c (.int .i64 0)), none⟩] none ⟨[], [], [], []⟩)
              (.block 4
                (.loop
                  (.seq (.seq (.reg 12 [] [
                      ⟨(.t 43), .mv (.v 7), none⟩,
                      ⟨(.t 44), .mv (.v 1), none⟩,
                      ⟨(.t 45), .bin .lss (.t 43) (.t 44), none⟩] none ⟨[], [], [], []⟩)
                  (.cond (.t 45)
                    .skip
                    (.exit 4)))
                  (.seq (.block 5
                    (.reg 14 [] [
                        ⟨(.t 48), .mv (.v 6), none⟩,
                        ⟨(.t 49), .mv (.v 4), none⟩,
                        ⟨(.t 50), .mv (.v 1), none⟩,
                        ⟨(.t 51), .bin .mul (.t 49) (.t 50), none⟩,
                        ⟨(.t 52), .mv (.v 7), none⟩,
                        ⟨(.t 53), .bin .add (.t 51) (.t 52), none⟩,
                        ⟨(.t 54), .bin .shl (.c (.int .i64 1)) (.t 53), none⟩,
                        ⟨(.t 55), .bin .or (.t 48) (.t 54), none⟩,
                        ⟨(.v 6), .asg (.t 55), none⟩] none ⟨[], [], [], []⟩))
                  (.reg 13 [] [
                      ⟨(.t 46), .mv (.v 7), none⟩,
                      ⟨(.t 47), .bin .add (.t 46) (.c (.int .i64 1)), none⟩,
                      ⟨(.v 7), .asg (.t 47), none⟩] none ⟨[], [], [], []⟩))))))
              (.seq (.seq (.reg 15 [] [
                  ⟨(.v 8), .asg (.c (.int .i64 0)), none⟩] none ⟨[], [], [], []⟩)
              (.block 6
                (.loop
                  (.seq (.seq (.reg 16 [] [
                      ⟨(.t 56), .mv (.v 8), none⟩,
                      ⟨(.t 57), .mv (.v 0), none⟩,
                      ⟨(.t 58), .bin .lss (.t 56) (.t 57), none⟩] none ⟨[], [], [], []⟩)
                  (.cond (.t 58)
                    .skip
                    (.exit 6)))
                  (.seq (.block 7
                    (.reg 18 [] [
                        ⟨(.t 61), .mv (.v 6), none⟩,
                        ⟨(.t 62), .mv (.v 8), none⟩,
                        ⟨(.t 63), .mv (.v 1), none⟩,
                        ⟨(.t 64), .bin .mul (.t 62) (.t 63), none⟩,
                        ⟨(.t 65), .mv (.v 5), none⟩,
                        ⟨(.t 66), .bin .add (.t 64) (.t 65), none⟩,
                        ⟨(.t 67), .bin .shl (.c (.int .i64 1)) (.t 66), none⟩,
                        ⟨(.t 68), .bin .or (.t 61) (.t 67), none⟩,
                        ⟨(.v 6), .asg (.t 68), none⟩] none ⟨[], [], [], []⟩))
                  (.reg 17 [] [
                      ⟨(.t 59), .mv (.v 8), none⟩,
                      ⟨(.t 60), .bin .add (.t 59) (.c (.int .i64 1)), none⟩,
                      ⟨(.v 8), .asg (.t 60), none⟩] none ⟨[], [], [], []⟩))))))
              (.reg 19 [.lend (.var 3) 72] [
                  ⟨(.t 69), .mv (.v 3), none⟩,
                  ⟨(.t 70), .mv (.v 6), none⟩,
                  ⟨(.t 71), .bls 3 1 (.int .i64 0) 1 [(0, (.t 70))], none⟩,
                  ⟨(.t 72), .app 3 1 8 (.t 69) (.t 71), none⟩,
                  ⟨(.v 3), .asg (.t 72), none⟩] none ⟨[], [], [], []⟩)))))
            (.reg 9 [] [
                ⟨(.t 41), .mv (.v 5), none⟩,
                ⟨(.t 42), .bin .add (.t 41) (.c (.int .i64 1)), none⟩,
                ⟨(.v 5), .asg (.t 42), none⟩] none ⟨[], [], [], []⟩)))))))
      (.reg 6 [] [
          ⟨(.t 36), .mv (.v 4), none⟩,
          ⟨(.t 37), .bin .add (.t 36) (.c (.int .i64 1)), none⟩,
          ⟨(.v 4), .asg (.t 37), none⟩] none ⟨[], [], [], []⟩))))))
  (.seq (.reg 20 [.freeze (.var 3)] [
      ⟨(.t 73), .mv (.v 0), none⟩,
      ⟨(.t 74), .mv (.v 1), none⟩,
      ⟨(.t 75), .bin .mul (.t 73) (.t 74), none⟩,
      ⟨(.t 76), .mv (.v 3), none⟩,
      ⟨(.t 77), .call 17 [(.t 75), (.t 76)], none⟩,
      ⟨(.t 78), .ext 77 0, none⟩,
      ⟨(.t 79), .ext 77 1, none⟩,
      ⟨.none, .st 2 (.t 4) (.t 78), none⟩,
      ⟨(.v 2), .asg (.t 79), none⟩] none ⟨[], [], [], []⟩)
  .ret)))))
theorem c13 : compFn Try.prog 13 F13 = some (2, strip a13, [.c 4 2 true, .v 2]) ∧ lexAll a13 = true := ⟨by kernel_rfl, by kernel_rfl⟩
/-- clusterlocks/coterie.Tree -/
def F14 : Fr := ⟨21, [0, 3, 4]⟩
def a14 : ACode :=
  (.seq (.reg 0 [] [
      ⟨(.t 2), .allo [(.int .i64 0), (.slice none 0 0)], none⟩,
      ⟨(.v 1), .asg (.c (.int .i64 0)), none⟩] none ⟨[], [], [], []⟩)
  (.seq (.seq (.reg 1 [] [
      ⟨(.t 5), .mv (.v 0), none⟩,
      ⟨(.t 6), .bin .lss (.t 5) (.c (.int .i64 1)), none⟩,
      ⟨(.t 7), .mv (.t 6), none⟩,
      ⟨(.t 8), .mv (.v 0), some (7, false)⟩,
      ⟨(.t 9), .bin .gtr (.t 8) (.c (.int .i64 3)), some (7, false)⟩,
      ⟨(.t 10), .pick (.t 7) (.c (.bool true)) (.t 9), none⟩] none ⟨[], [], [], []⟩)
  (.cond (.t 10)
    (.seq (.reg 2 [] [
        ⟨(.t 11), .bld [(.int .i64 0), (.slice none 0 0)] [], none⟩,
        ⟨.none, .st 2 (.t 2) (.t 11), none⟩,
        ⟨(.v 1), .asg (.c (.int .i64 1)), none⟩] none ⟨[], [], [], []⟩)
    .ret)
    .skip))
  (.seq (.reg 3 [] [
      ⟨(.t 12), .mv (.v 0), none⟩,
      ⟨(.t 13), .bin .shl (.c (.int .i64 1)) (.t 12), none⟩,
      ⟨(.t 14), .bin .sub (.t 13) (.c (.int .i64 1)), none⟩,
      ⟨(.v 2), .asg (.t 14), none⟩] none ⟨[], [], [], []⟩)
  (.seq (.reg 4 [] [
      ⟨(.t 15), .mv (.v 2), none⟩,
      ⟨(.t 16), .mv (.v 2), none⟩,
      ⟨(.t 17), .call 34 [(.c (.int .i64 0)), (.t 16)], none⟩,
      ⟨(.t 18), .call 16 [(.t 15), (.t 17)], none⟩,
      ⟨(.t 19), .ext 18 0, none⟩,
      ⟨(.t 20), .ext 18 1, none⟩,
      ⟨.none, .st 2 (.t 2) (.t 19), none⟩,
      ⟨(.v 1), .asg (.t 20), none⟩] none ⟨[], [], [], []⟩)
  .ret))))
theorem c14 : compFn Try.prog 14 F14 = some (1, strip a14, [.c 2 2 true, .v 1]) ∧ lexAll a14 = true := ⟨by kernel_rfl, by kernel_rfl⟩
/-- clusterlocks/clusterlocksref29.Tree -/
def F15 : Fr := ⟨21, [0, 3, 4]⟩
def a15 : ACode :=
  (.seq (.reg 0 [] [
      ⟨(.t 2), .allo [(.int .i64 0), (.slice none 0 0)], none⟩,
      ⟨(.v 1), .asg (.c (.int .i64 0)), none⟩] none ⟨[], [], [], []⟩)
  (.seq (.seq (.reg 1 [] [
      ⟨(.t 5), .mv (.v 0), none⟩,
      ⟨(.t 6), .bin .lss (.t 5) (.c (.int .i64 1)), none⟩,
      ⟨(.t 7), .mv (.t 6), none⟩,
      ⟨(.t 8), .mv (.v 0), some (7, false)⟩,
      ⟨(.t 9), .bin .gtr (.t 8) (.c (.int .i64 3)), some (7, false)⟩,
      ⟨(.t 10), .pick (.t 7) (.c (.bool true)) (.t 9), none⟩] none ⟨[], [], [], []⟩)
  (.cond (.t 10)
    (.seq (.reg 2 [] [
        ⟨(.t 11), .bld [(.int .i64 0), (.slice none 0 0)] [], none⟩,
        ⟨.none, .st 2 (.t 2) (.t 11), none⟩,
        ⟨(.v 1), .asg (.c (.int .i64 1)), none⟩] none ⟨[], [], [], []⟩)
    .ret)
    .skip))
  (.seq (.reg 3 [] [
      ⟨(.t 12), .mv (.v 0), none⟩,
      ⟨(.t 13), .bin .shl (.c (.int .i64 1)) (.t 12), none⟩,
      ⟨(.t 14), .bin .sub (.t 13) (.c (.int .i64 1)), none⟩,
      ⟨(.v 2), .asg (.t 14), none⟩] none ⟨[], [], [], []⟩)
  (.seq (.reg 4 [] [
      ⟨(.t 15), .mv (.v 2), none⟩,
      ⟨(.t 16), .mv (.v 2), none⟩,
      ⟨(.t 17), .call 35 [(.c (.int .i64 0)), (.t 16)], none⟩,
      ⟨(.t 18), .call 17 [(.t 15), (.t 17)], none⟩,
      ⟨(.t 19), .ext 18 0, none⟩,
      ⟨(.t 20), .ext 18 1, none⟩,
      ⟨.none, .st 2 (.t 2) (.t 19), none⟩,
      ⟨(.v 1), .asg (.t 20), none⟩] none ⟨[], [], [], []⟩)
  .ret))))
theorem c15 : compFn Try.prog 15 F15 = some (1, strip a15, [.c 2 2 true, .v 1]) ∧ lexAll a15 = true := ⟨by kernel_rfl, by kernel_rfl⟩
/-- clusterlocks/coterie.Reduce -/
def F16 : Fr := ⟨61, [0, 1, 5, 8, 11, 12]⟩
def a16 : ACode :=
  (.seq (.reg 0 [] [
      ⟨(.t 4), .allo [(.int .i64 0), (.slice none 0 0)], none⟩,
      ⟨(.v 2), .asg (.c (.int .i64 0)), none⟩] none ⟨[], [], [], []⟩)
  (.seq (.seq (.reg 1 [] [
      ⟨(.t 13), .mv (.v 0), none⟩,
      ⟨(.t 14), .call 29 [(.t 13)], none⟩,
      ⟨(.t 15), .un .not (.t 14), none⟩,
      ⟨(.t 16), .mv (.t 15), none⟩,
      ⟨(.t 17), .mv (.v 1), some (16, false)⟩,
      ⟨(.t 18), .len (.t 17), some (16, false)⟩,
      ⟨(.t 19), .bin .eql (.t 18) (.c (.int .i64 0)), some (16, false)⟩,
      ⟨(.t 20), .pick (.t 16) (.c (.bool true)) (.t 19), none⟩] none ⟨[], [], [], []⟩)
  (.cond (.t 20)
    (.seq (.reg 2 [] [
        ⟨(.t 21), .bld [(.int .i64 0), (.slice none 0 0)] [], none⟩,
        ⟨.none, .st 2 (.t 4) (.t 21), none⟩,
        ⟨(.v 2), .asg (.c (.int .i64 1)), none⟩] none ⟨[], [], [], []⟩)
    .ret)
    .skip))
  (.seq (.reg 3 [] [
      ⟨(.t 6), .allo z512, none⟩] none ⟨[], [], [], []⟩)
  (.seq (.seq (.reg 4 [] [
      ⟨(.t 22), .mv (.v 1), none⟩,
      ⟨(.t 23), .len (.t 22), none⟩,
      ⟨(.t 24), .mv (.c (.int .i64 0)), none⟩] none ⟨[], [], [], []⟩)
  (.block 0
    (.loop
      (.seq (.reg 5 [] [
          ⟨(.t 25), .bin .lss (.t 24) (.t 23), none⟩] none ⟨[], [], [], []⟩)
      (.seq (.cond (.t 25)
        .skip
        (.exit 0))
      (.seq (.block 1
        (.seq (.reg 6 [] [
            ⟨(.t 26), .ia 1 (.t 22) (.t 24), none⟩,
            ⟨(.t 27), .ld 1 false (.t 26), none⟩,
            ⟨(.v 3), .asg (.t 27), none⟩] none ⟨[], [], [], []⟩)
        (.seq (.seq (.reg 7 [] [
            ⟨(.t 28), .mv (.v 3), none⟩,
            ⟨(.t 29), .mv (.v 0), none⟩,
            ⟨(.t 30), .call 36 [(.t 28), (.t 29)], none⟩,
            ⟨(.t 31), .un .not (.t 30), none⟩] none ⟨[], [], [], []⟩)
        (.cond (.t 31)
          (.seq (.reg 8 [] [
              ⟨(.t 32), .bld [(.int .i64 0), (.slice none 0 0)] [], none⟩,
              ⟨.none, .st 2 (.t 4) (.t 32), none⟩,
              ⟨(.v 2), .asg (.c (.int .i64 1)), none⟩] none ⟨[], [], [], []⟩)
          .ret)
          .skip))
        (.reg 9 [] [
            ⟨(.t 33), .mv (.v 3), none⟩,
            ⟨(.t 34), .iaa 1 512 (.t 6) (.t 33), none⟩,
            ⟨.none, .st 1 (.t 34) (.c (.bool true)), none⟩] none ⟨[], [], [], []⟩))))
      (.reg 10 [] [
          ⟨(.t 35), .bin .add (.t 24) (.c (.int .i64 1)), none⟩,
          ⟨(.t 24), .mv (.t 35), none⟩] none ⟨[], [], [], []⟩)))))))
  (.seq (.reg 11 [] [
      ⟨(.t 36), .mv (.v 0), none⟩,
      ⟨(.t 37), .mkf 37 (.t 6), none⟩,
      ⟨(.t 38), .call 30 [(.t 36), (.t 37)], none⟩,
      ⟨(.t 9), .allo [(.slice none 0 0)], none⟩,
      ⟨.none, .st 1 (.t 9) (.t 38), none⟩] none ⟨[], [], [], []⟩)
  (.seq (.seq (.reg 12 [.freeze (.cell 2 0)] [
      ⟨(.t 39), .ld 1 false (.t 9), none⟩,
      ⟨(.t 40), .len (.t 39), none⟩,
      ⟨(.t 41), .mv (.c (.int .i64 0)), none⟩] none ⟨[], [], [], []⟩)
  (.block 2
    (.loop
      (.seq (.reg 13 [] [
          ⟨(.t 42), .bin .lss (.t 41) (.t 40), none⟩] none ⟨[], [], [], []⟩)
      (.seq (.cond (.t 42)
        .skip
        (.exit 2))
      (.seq (.block 3
        (.seq (.reg 14 [] [
            ⟨(.t 43), .ia 1 (.t 39) (.t 41), none⟩,
            ⟨(.t 44), .ld 1 false (.t 43), none⟩,
            ⟨(.v 4), .asg (.t 44), none⟩] none ⟨[], [], [], []⟩)
        (.seq (.reg 15 [] [
            ⟨(.t 45), .mv (.v 4), none⟩,
            ⟨(.t 46), .ld 1 false (.t 9), none⟩,
            ⟨(.t 47), .call 38 [(.t 45), (.t 46)], none⟩,
            ⟨(.t 48), .un .not (.t 47), none⟩] none ⟨[], [], [], []⟩)
        (.cond (.t 48)
          (.seq (.reg 16 [] [
              ⟨(.t 49), .bld [(.int .i64 0), (.slice none 0 0)] [], none⟩,
              ⟨.none, .st 2 (.t 4) (.t 49), none⟩,
              ⟨(.v 2), .asg (.c (.int .i64 13)), none⟩] none ⟨[], [], [], []⟩)
          .ret)
          .skip))))
      (.reg 17 [] [
          ⟨(.t 50), .bin .add (.t 41) (.c (.int .i64 1)), none⟩,
          ⟨(.t 41), .mv (.t 50), none⟩] none ⟨[], [], [], []⟩)))))))
  (.seq (.reg 18 [] [
      ⟨(.t 51), .ld 1 false (.t 9), none⟩,
      ⟨(.t 52), .mkf 40 (.t 9), none⟩,
      ⟨(.t 53), .call 39 [(.t 51), (.t 52)], none⟩,
      ⟨(.v 5), .asg (.t 53), none⟩] none ⟨[], [], [], []⟩)
  (.seq (.seq (.reg 19 [.freeze (.var 5)] [
      ⟨(.t 54), .mv (.v 5), none⟩,
      ⟨(.t 55), .len (.t 54), none⟩,
      ⟨(.t 56), .bin .gtr (.t 55) (.c (.int .i64 64)), none⟩] none ⟨[], [], [], []⟩)
  (.cond (.t 56)
    (.seq (.reg 20 [] [
        ⟨(.t 57), .bld [(.int .i64 0), (.slice none 0 0)] [], none⟩,
        ⟨.none, .st 2 (.t 4) (.t 57), none⟩,
        ⟨(.v 2), .asg (.c (.int .i64 4)), none⟩] none ⟨[], [], [], []⟩)
    .ret)
    .skip))
  (.seq (.reg 21 [] [
      ⟨(.t 58), .mv (.v 0), none⟩,
      ⟨(.t 59), .mv (.v 5), none⟩,
      ⟨(.t 60), .bld [(.int .i64 0), (.slice none 0 0)] [(0, 1, (.t 58)), (1, 1, (.t 59))], none⟩,
      ⟨.none, .st 2 (.t 4) (.t 60), none⟩,
      ⟨(.v 2), .asg (.c (.int .i64 0)), none⟩] none ⟨[], [], [], []⟩)
  .ret)))))))))
theorem c16 : compFn Try.prog 16 F16 = some (2, strip a16, [.c 4 2 true, .v 2]) ∧ lexAll a16 = true := ⟨by kernel_rfl, by kernel_rfl⟩
/-- clusterlocks/clusterlocksref29.Reduce -/
def F17 : Fr := ⟨71, [0, 1, 5, 7, 9, 11]⟩
def a17 : ACode :=
  (.seq (.reg 0 [] [
      ⟨(.t 4), .allo [(.int .i64 0), (.slice none 0 0)], none⟩,
      ⟨(.v 2), .asg (.c (.int .i64 0)), none⟩] none ⟨[], [], [], []⟩)
  (.seq (.seq (.reg 1 [] [
      ⟨(.t 13), .mv (.v 0), none⟩,
      ⟨(.t 14), .bin .lss (.t 13) (.c (.int .i64 1)), none⟩,
      ⟨(.t 15), .mv (.t 14), none⟩,
      ⟨(.t 16), .mv (.v 0), some (15, false)⟩,
      ⟨(.t 17), .bin .gtr (.t 16) (.c (.int .i64 9)), some (15, false)⟩,
      ⟨(.t 18), .pick (.t 15) (.c (.bool true)) (.t 17), none⟩,
      ⟨(.t 19), .mv (.t 18), none⟩,
      ⟨(.t 20), .mv (.v 1), some (19, false)⟩,
      ⟨(.t 21), .len (.t 20), some (19, false)⟩,
      ⟨(.t 22), .bin .eql (.t 21) (.c (.int .i64 0)), some (19, false)⟩,
      ⟨(.t 23), .pick (.t 19) (.c (.bool true)) (.t 22), none⟩] none ⟨[], [], [], []⟩)
  (.cond (.t 23)
    (.seq (.reg 2 [] [
        ⟨(.t 24), .bld [(.int .i64 0), (.slice none 0 0)] [], none⟩,
        ⟨.none, .st 2 (.t 4) (.t 24), none⟩,
        ⟨(.v 2), .asg (.c (.int .i64 1)), none⟩] none ⟨[], [], [], []⟩)
    .ret)
    .skip))
  (.seq (.seq (.reg 3 [] [
      ⟨(.t 25), .mv (.v 1), none⟩,
      ⟨(.t 26), .len (.t 25), none⟩,
      ⟨(.t 27), .mv (.c (.int .i64 0)), none⟩] none ⟨[], [], [], []⟩)
  (.block 0
    (.loop
      (.seq (.reg 4 [] [
          ⟨(.t 28), .bin .lss (.t 27) (.t 26), none⟩] none ⟨[], [], [], []⟩)
      (.seq (.cond (.t 28)
        .skip
        (.exit 0))
      (.seq (.block 1
        (.seq (.reg 5 [] [
            ⟨(.t 29), .ia 1 (.t 25) (.t 27), none⟩,
            ⟨(.t 30), .ld 1 false (.t 29), none⟩,
            ⟨(.v 3), .asg (.t 30), none⟩] none ⟨[], [], [], []⟩)
        (.seq (.reg 6 [] [
            ⟨(.t 31), .mv (.v 3), none⟩,
            ⟨(.t 32), .bin .lss (.t 31) (.c (.int .i64 1)), none⟩,
            ⟨(.t 33), .mv (.t 32), none⟩,
            ⟨(.t 34), .mv (.v 3), some (33, false)⟩,
            ⟨(.t 35), .mv (.v 0), some (33, false)⟩,
            ⟨(.t 36), .bin .shl (.c (.int .i64 1)) (.t 35), some (33, false)⟩,
            ⟨(.t 37), .bin .geq (.t 34) (.t 36), some (33, false)⟩,
            ⟨(.t 38), .pick (.t 33) (.c (.bool true)) (.t 37), none⟩] none ⟨[], [], [], []⟩)
        (.cond (.t 38)
          (.seq (.reg 7 [] [
              ⟨(.t 39), .bld [(.int .i64 0), (.slice none 0 0)] [], none⟩,
              ⟨.none, .st 2 (.t 4) (.t 39), none⟩,
              ⟨(.v 2), .asg (.c (.int .i64 1)), none⟩] none ⟨[], [], [], []⟩)
          .ret)
          .skip))))
      (.reg 8 [] [
          ⟨(.t 40), .bin .add (.t 27) (.c (.int .i64 1)), none⟩,
          ⟨(.t 27), .mv (.t 40), none⟩] none ⟨[], [], [], []⟩)))))))
  (.seq (.seq (.reg 9 [] [
      ⟨(.t 41), .mv (.v 1), none⟩,
      ⟨(.t 42), .len (.t 41), none⟩,
      ⟨(.t 43), .mv (.c (.int .i64 0)), none⟩] none ⟨[], [], [], []⟩)
  (.block 2
    (.loop
      (.seq (.reg 10 [] [
          ⟨(.t 44), .bin .lss (.t 43) (.t 42), none⟩] none ⟨[], [], [], []⟩)
      (.seq (.cond (.t 44)
        .skip
        (.exit 2))
      (.seq (.block 3
        (.seq (.reg 11 [] [
            ⟨(.t 45), .ia 1 (.t 41) (.t 43), none⟩,
            ⟨(.t 46), .ld 1 false (.t 45), none⟩,
            ⟨(.v 4), .asg (.t 46), none⟩] none ⟨[], [], [], []⟩)
        (.seq (.reg 12 [] [
            ⟨(.t 47), .mv (.v 1), none⟩,
            ⟨(.t 48), .len (.t 47), none⟩,
            ⟨(.t 49), .mv (.c (.int .i64 0)), none⟩] none ⟨[], [], [], []⟩)
        (.block 4
          (.loop
            (.seq (.reg 13 [] [
                ⟨(.t 50), .bin .lss (.t 49) (.t 48), none⟩] none ⟨[], [], [], []⟩)
            (.seq (.cond (.t 50)
              .skip
              (.exit 4))
            (.seq (.block 5
              (.seq (.reg 14 [] [
                  ⟨(.t 51), .ia 1 (.t 47) (.t 49), none⟩,
                  ⟨(.t 52), .ld 1 false (.t 51), none⟩,
                  ⟨(.v 5), .asg (.t 52), none⟩] none ⟨[], [], [], []⟩)
              (.seq (.reg 15 [] [
                  ⟨(.t 53), .mv (.v 4), none⟩,
                  ⟨(.t 54), .mv (.v 5), none⟩,
                  ⟨(.t 55), .bin .and (.t 53) (.t 54), none⟩,
                  ⟨(.t 56), .bin .eql (.t 55) (.c (.int .i64 0)), none⟩] none ⟨[], [], [], []⟩)
              (.cond (.t 56)
                (.seq (.reg 16 [] [
                    ⟨(.t 57), .bld [(.int .i64 0), (.slice none 0 0)] [], none⟩,
                    ⟨.none, .st 2 (.t 4) (.t 57), none⟩,
                    ⟨(.v 2), .asg (.c (.int .i64 13)), none⟩] none ⟨[], [], [], []⟩)
                .ret)
                .skip))))
            (.reg 17 [] [
                ⟨(.t 58), .bin .add (.t 49) (.c (.int .i64 1)), none⟩,
                ⟨(.t 49), .mv (.t 58), none⟩] none ⟨[], [], [], []⟩)))))))))
      (.reg 18 [] [
          ⟨(.t 59), .bin .add (.t 43) (.c (.int .i64 1)), none⟩,
          ⟨(.t 43), .mv (.t 59), none⟩] none ⟨[], [], [], []⟩)))))))
  (.seq (.reg 19 [] [
      ⟨(.t 60), .mv (.v 0), none⟩,
      ⟨(.t 61), .mv (.v 0), none⟩,
      ⟨(.t 62), .mv (.v 1), none⟩,
      ⟨(.t 63), .call 42 [(.t 61), (.t 62)], none⟩,
      ⟨(.t 64), .bld [(.int .i64 0), (.slice none 0 0)] [(0, 1, (.t 60)), (1, 1, (.t 63))], none⟩,
      ⟨(.t 12), .allo [(.int .i64 0), (.slice none 0 0)], none⟩,
      ⟨.none, .st 2 (.t 12) (.t 64), none⟩] none ⟨[], [], [], []⟩)
  (.seq (.seq (.reg 20 [] [
      ⟨(.t 65), .fa 1 (.t 12), none⟩,
      ⟨(.t 66), .ld 1 false (.t 65), none⟩,
      ⟨(.t 67), .len (.t 66), none⟩,
      ⟨(.t 68), .bin .gtr (.t 67) (.c (.int .i64 64)), none⟩] none ⟨[], [], [], []⟩)
  (.cond (.t 68)
    (.seq (.reg 21 [] [
        ⟨(.t 69), .bld [(.int .i64 0), (.slice none 0 0)] [], none⟩,
        ⟨.none, .st 2 (.t 4) (.t 69), none⟩,
        ⟨(.v 2), .asg (.c (.int .i64 4)), none⟩] none ⟨[], [], [], []⟩)
    .ret)
    .skip))
  (.seq (.reg 22 [] [
      ⟨(.t 70), .ld 2 true (.t 12), none⟩,
      ⟨.none, .st 2 (.t 4) (.t 70), none⟩,
      ⟨(.v 2), .asg (.c (.int .i64 0)), none⟩] none ⟨[], [], [], []⟩)
  .ret)))))))
theorem c17 : compFn Try.prog 17 F17 = some (2, strip a17, [.c 4 2 true, .v 2]) ∧ lexAll a17 = true := ⟨by kernel_rfl, by kernel_rfl⟩
/-- clusterlocks/clusterlocksref29.Same -/
def F18 : Fr := ⟨17, [0, 1, 4]⟩
def a18 : ACode :=
  (.seq (.reg 0 [] [
      ⟨(.t 2), .box 2 (.v 0), none⟩,
      ⟨(.t 3), .box 2 (.v 1), none⟩,
      ⟨(.v 2), .asg (.c (.bool false)), none⟩] none ⟨[], [], [], []⟩)
  (.seq (.reg 1 [] [
      ⟨(.t 5), .fa 0 (.t 2), none⟩,
      ⟨(.t 6), .ld 1 false (.t 5), none⟩,
      ⟨(.t 7), .fa 0 (.t 3), none⟩,
      ⟨(.t 8), .ld 1 false (.t 7), none⟩,
      ⟨(.t 9), .bin .eql (.t 6) (.t 8), none⟩,
      ⟨(.t 10), .mv (.t 9), none⟩,
      ⟨(.t 11), .fa 1 (.t 2), some (10, true)⟩,
      ⟨(.t 12), .ld 1 false (.t 11), some (10, true)⟩,
      ⟨(.t 13), .fa 1 (.t 3), some (10, true)⟩,
      ⟨(.t 14), .ld 1 false (.t 13), some (10, true)⟩,
      ⟨(.t 15), .call 24 [(.t 12), (.t 14)], some (10, true)⟩,
      ⟨(.t 16), .pick (.t 10) (.t 15) (.c (.bool false)), none⟩,
      ⟨(.v 2), .asg (.t 16), none⟩] none ⟨[], [], [], []⟩)
  .ret))
theorem c18 : compFn Try.prog 18 F18 = some (2, strip a18, [.v 2]) ∧ lexAll a18 = true := ⟨by kernel_rfl, by kernel_rfl⟩
/-- clusterlocks/coterie.Valid -/
def F19 : Fr := ⟨71, [0, 2, 3, 4, 6]⟩
def a19 : ACode :=
  (.seq (.reg 0 [] [
      ⟨(.t 1), .box 2 (.v 0), none⟩,
      ⟨(.v 1), .asg (.c (.bool false)), none⟩] none ⟨[], [], [], []⟩)
  (.seq (.seq (.reg 1 [] [
      ⟨(.t 7), .fa 0 (.t 1), none⟩,
      ⟨(.t 8), .ld 1 false (.t 7), none⟩,
      ⟨(.t 9), .call 29 [(.t 8)], none⟩,
      ⟨(.t 10), .un .not (.t 9), none⟩,
      ⟨(.t 11), .mv (.t 10), none⟩,
      ⟨(.t 12), .fa 1 (.t 1), some (11, false)⟩,
      ⟨(.t 13), .ld 1 false (.t 12), some (11, false)⟩,
      ⟨(.t 14), .len (.t 13), some (11, false)⟩,
      ⟨(.t 15), .bin .lss (.t 14) (.c (.int .i64 1)), some (11, false)⟩,
      ⟨(.t 16), .pick (.t 11) (.c (.bool true)) (.t 15), none⟩,
      ⟨(.t 17), .mv (.t 16), none⟩,
      ⟨(.t 18), .fa 1 (.t 1), some (17, false)⟩,
      ⟨(.t 19), .ld 1 false (.t 18), some (17, false)⟩,
      ⟨(.t 20), .len (.t 19), some (17, false)⟩,
      ⟨(.t 21), .bin .gtr (.t 20) (.c (.int .i64 64)), some (17, false)⟩,
      ⟨(.t 22), .pick (.t 17) (.c (.bool true)) (.t 21), none⟩] none ⟨[], [], [], []⟩)
  (.cond (.t 22)
    (.seq (.reg 2 [] [
        ⟨(.v 1), .asg (.c (.bool false)), none⟩] none ⟨[], [], [], []⟩)
    .ret)
    .skip))
  (.seq (.seq (.reg 3 [] [
      ⟨(.t 23), .fa 1 (.t 1), none⟩,
      ⟨(.t 24), .ld 1 false (.t 23), none⟩,
      ⟨(.t 25), .len (.t 24), none⟩,
      ⟨(.t 26), .mv (.c (.int .i64 0)), none⟩] none ⟨[], [], [], []⟩)
  (.block 0
    (.loop
      (.seq (.reg 4 [] [
          ⟨(.t 27), .bin .lss (.t 26) (.t 25), none⟩] none ⟨[], [], [], []⟩)
      (.seq (.cond (.t 27)
        .skip
        (.exit 0))
      (.seq (.block 1
        (.seq (.reg 5 [] [
            ⟨(.t 28), .mv (.t 26), none⟩,
            ⟨(.t 29), .ia 1 (.t 24) (.t 26), none⟩,
            ⟨(.t 30), .ld 1 false (.t 29), none⟩,
            ⟨(.v 2), .asg (.t 28), none⟩,
            ⟨(.v 3), .asg (.t 30), none⟩] none ⟨[], [], [], []⟩)
        (.seq (.reg 6 [] [
            ⟨(.t 31), .mv (.v 3), none⟩,
            ⟨(.t 32), .fa 0 (.t 1), none⟩,
            ⟨(.t 33), .ld 1 false (.t 32), none⟩,
            ⟨(.t 34), .call 36 [(.t 31), (.t 33)], none⟩,
            ⟨(.t 35), .un .not (.t 34), none⟩,
            ⟨(.t 36), .mv (.t 35), none⟩,
            ⟨(.t 37), .mv (.v 2), some (36, false)⟩,
            ⟨(.t 38), .bin .gtr (.t 37) (.c (.int .i64 0)), some (36, false)⟩,
            ⟨(.t 39), .mv (.t 38), some (36, false)⟩,
            ⟨(.t 40), .mv (.v 3), some (39, true)⟩,
            ⟨(.t 41), .fa 1 (.t 1), some (39, true)⟩,
            ⟨(.t 42), .ld 1 false (.t 41), some (39, true)⟩,
            ⟨(.t 43), .mv (.v 2), some (39, true)⟩,
            ⟨(.t 44), .bin .sub (.t 43) (.c (.int .i64 1)), some (39, true)⟩,
            ⟨(.t 45), .ia 1 (.t 42) (.t 44), some (39, true)⟩,
            ⟨(.t 46), .ld 1 false (.t 45), some (39, true)⟩,
            ⟨(.t 47), .bin .leq (.t 40) (.t 46), some (39, true)⟩,
            ⟨(.t 48), .pick (.t 39) (.t 47) (.c (.bool false)), some (36, false)⟩,
            ⟨(.t 49), .pick (.t 36) (.c (.bool true)) (.t 48), none⟩] none ⟨[], [], [], []⟩)
        (.cond (.t 49)
          (.seq (.reg 7 [] [
              ⟨(.v 1), .asg (.c (.bool false)), none⟩] none ⟨[], [], [], []⟩)
          .ret)
          .skip))))
      (.reg 8 [] [
          ⟨(.t 50), .bin .add (.t 26) (.c (.int .i64 1)), none⟩,
          ⟨(.t 26), .mv (.t 50), none⟩] none ⟨[], [], [], []⟩)))))))
  (.seq (.seq (.reg 9 [] [
      ⟨(.t 51), .fa 1 (.t 1), none⟩,
      ⟨(.t 52), .ld 1 false (.t 51), none⟩,
      ⟨(.t 53), .len (.t 52), none⟩,
      ⟨(.t 54), .mv (.c (.int .i64 0)), none⟩] none ⟨[], [], [], []⟩)
  (.block 2
    (.loop
      (.seq (.reg 10 [] [
          ⟨(.t 55), .bin .lss (.t 54) (.t 53), none⟩] none ⟨[], [], [], []⟩)
      (.seq (.cond (.t 55)
        .skip
        (.exit 2))
      (.seq (.block 3
        (.seq (.reg 11 [] [
            ⟨(.t 56), .ia 1 (.t 52) (.t 54), none⟩,
            ⟨(.t 57), .ld 1 false (.t 56), none⟩,
            ⟨(.v 4), .asg (.t 57), none⟩] none ⟨[], [], [], []⟩)
        (.seq (.reg 12 [] [
            ⟨(.t 58), .mv (.v 4), none⟩,
            ⟨(.t 59), .fa 1 (.t 1), none⟩,
            ⟨(.t 60), .ld 1 false (.t 59), none⟩,
            ⟨(.t 61), .call 38 [(.t 58), (.t 60)], none⟩,
            ⟨(.t 62), .un .not (.t 61), none⟩,
            ⟨(.t 63), .mv (.t 62), none⟩,
            ⟨(.t 64), .mv (.v 4), some (63, false)⟩,
            ⟨(.t 65), .fa 1 (.t 1), some (63, false)⟩,
            ⟨(.t 66), .ld 1 false (.t 65), some (63, false)⟩,
            ⟨(.t 67), .call 41 [(.t 64), (.t 66)], some (63, false)⟩,
            ⟨(.t 68), .un .not (.t 67), some (63, false)⟩,
            ⟨(.t 69), .pick (.t 63) (.c (.bool true)) (.t 68), none⟩] none ⟨[], [], [], []⟩)
        (.cond (.t 69)
          (.seq (.reg 13 [] [
              ⟨(.v 1), .asg (.c (.bool false)), none⟩] none ⟨[], [], [], []⟩)
          .ret)
          .skip))))
      (.reg 14 [] [
          ⟨(.t 70), .bin .add (.t 54) (.c (.int .i64 1)), none⟩,
          ⟨(.t 54), .mv (.t 70), none⟩] none ⟨[], [], [], []⟩)))))))
  (.seq (.reg 15 [] [
      ⟨(.v 1), .asg (.c (.bool true)), none⟩] none ⟨[], [], [], []⟩)
  .ret)))))
theorem c19 : compFn Try.prog 19 F19 = some (1, strip a19, [.v 1]) ∧ lexAll a19 = true := ⟨by kernel_rfl, by kernel_rfl⟩
/-- clusterlocks/clusterlocksref29.Valid -/
def F20 : Fr := ⟨27, [0, 2]⟩
def a20 : ACode :=
  (.seq (.reg 0 [] [
      ⟨(.t 1), .box 2 (.v 0), none⟩,
      ⟨(.v 1), .asg (.c (.bool false)), none⟩] none ⟨[], [], [], []⟩)
  (.seq (.reg 1 [] [
      ⟨(.t 3), .fa 0 (.t 1), none⟩,
      ⟨(.t 4), .ld 1 false (.t 3), none⟩,
      ⟨(.t 5), .bin .geq (.t 4) (.c (.int .i64 1)), none⟩,
      ⟨(.t 6), .mv (.t 5), none⟩,
      ⟨(.t 7), .fa 0 (.t 1), some (6, true)⟩,
      ⟨(.t 8), .ld 1 false (.t 7), some (6, true)⟩,
      ⟨(.t 9), .bin .leq (.t 8) (.c (.int .i64 9)), some (6, true)⟩,
      ⟨(.t 10), .pick (.t 6) (.t 9) (.c (.bool false)), none⟩,
      ⟨(.t 11), .mv (.t 10), none⟩,
      ⟨(.t 12), .fa 1 (.t 1), some (11, true)⟩,
      ⟨(.t 13), .ld 1 false (.t 12), some (11, true)⟩,
      ⟨(.t 14), .len (.t 13), some (11, true)⟩,
      ⟨(.t 15), .bin .geq (.t 14) (.c (.int .i64 1)), some (11, true)⟩,
      ⟨(.t 16), .pick (.t 11) (.t 15) (.c (.bool false)), none⟩,
      ⟨(.t 17), .mv (.t 16), none⟩,
      ⟨(.t 18), .fa 1 (.t 1), some (17, true)⟩,
      ⟨(.t 19), .ld 1 false (.t 18), some (17, true)⟩,
      ⟨(.t 20), .len (.t 19), some (17, true)⟩,
      ⟨(.t 21), .bin .leq (.t 20) (.c (.int .i64 64)), some (17, true)⟩,
      ⟨(.t 22), .pick (.t 17) (.t 21) (.c (.bool false)), none⟩,
      ⟨(.t 23), .mv (.t 22), none⟩,
      ⟨(.t 24), .ld 2 true (.t 1), some (23, true)⟩,
      ⟨(.t 25), .call 43 [(.t 24)], some (23, true)⟩,
      ⟨(.t 26), .pick (.t 23) (.t 25) (.c (.bool false)), none⟩,
      ⟨(.v 1), .asg (.t 26), none⟩] none ⟨[], [], [], []⟩)
  .ret))
theorem c20 : compFn Try.prog 20 F20 = some (1, strip a20, [.v 1]) ∧ lexAll a20 = true := ⟨by kernel_rfl, by kernel_rfl⟩
/-- clusterlocks/clusterlockslaw29.made -/
def F21 : Fr := ⟨99, [0, 1, 5, 67, 76, 89, 7, 8, 9, 10, 11, 13]⟩
def a21 : ACode :=
  (.seq (.reg 0 [] [
      ⟨(.t 4), .allo [(.int .i64 0), (.slice none 0 0)], none⟩] none ⟨[], [], [], []⟩)
  (.seq (.reg 1 [] [
      ⟨(.t 14), .mv (.v 0), none⟩,
      ⟨(.t 15), .call 9 [(.t 14), (.c (.int .i64 24))], none⟩,
      ⟨(.v 2), .asg (.t 15), none⟩] none ⟨[], [], [], []⟩)
  (.seq (.reg 2 [] [
      ⟨(.t 6), .allo [(.int .i64 0), (.slice none 0 0)], none⟩] none ⟨[], [], [], []⟩)
  (.seq (.block 0
    (.seq (.reg 20 [] [
        ⟨(.t 68), .mv (.v 2), none⟩,
        ⟨(.t 69), .bin .lss (.t 68) (.c (.int .i64 8)), none⟩,
        ⟨(.v 3), .asg (.t 69), none⟩] none ⟨[], [], [], []⟩)
    (.cond (.v 3)
      (.reg 21 [] [
          ⟨(.t 71), .mv (.v 2), none⟩,
          ⟨(.t 72), .bin .add (.c (.int .i64 1)) (.t 71), none⟩,
          ⟨(.t 73), .call 11 [(.t 72)], none⟩,
          ⟨(.t 70), .mv (.t 73), none⟩,
          ⟨(.t 74), .ext 70 0, none⟩,
          ⟨(.t 75), .ext 70 1, none⟩,
          ⟨.none, .st 2 (.t 6) (.t 74), none⟩] none ⟨[], [], [], []⟩)
      (.seq (.reg 22 [] [
          ⟨(.t 77), .mv (.v 2), none⟩,
          ⟨(.t 78), .bin .lss (.t 77) (.c (.int .i64 14)), none⟩,
          ⟨(.v 4), .asg (.t 78), none⟩] none ⟨[], [], [], []⟩)
      (.cond (.v 4)
        (.reg 23 [] [
            ⟨(.t 80), .mv (.v 2), none⟩,
            ⟨(.t 81), .bin .rem (.t 80) (.c (.int .i64 3)), none⟩,
            ⟨(.t 82), .bin .add (.c (.int .i64 1)) (.t 81), none⟩,
            ⟨(.t 83), .mv (.v 2), none⟩,
            ⟨(.t 84), .bin .rem (.t 83) (.c (.int .i64 2)), none⟩,
            ⟨(.t 85), .bin .add (.c (.int .i64 1)) (.t 84), none⟩,
            ⟨(.t 86), .call 13 [(.t 82), (.t 85)], none⟩,
            ⟨(.t 79), .mv (.t 86), none⟩,
            ⟨(.t 87), .ext 79 0, none⟩,
            ⟨(.t 88), .ext 79 1, none⟩,
            ⟨.none, .st 2 (.t 6) (.t 87), none⟩] none ⟨[], [], [], []⟩)
        (.seq (.reg 24 [] [
            ⟨(.t 90), .mv (.v 2), none⟩,
            ⟨(.t 91), .bin .lss (.t 90) (.c (.int .i64 17)), none⟩,
            ⟨(.v 5), .asg (.t 91), none⟩] none ⟨[], [], [], []⟩)
        (.cond (.v 5)
          (.reg 25 [] [
              ⟨(.t 93), .mv (.v 2), none⟩,
              ⟨(.t 94), .bin .sub (.t 93) (.c (.int .i64 13)), none⟩,
              ⟨(.t 95), .call 15 [(.t 94)], none⟩,
              ⟨(.t 92), .mv (.t 95), none⟩,
              ⟨(.t 96), .ext 92 0, none⟩,
              ⟨(.t 97), .ext 92 1, none⟩,
              ⟨.none, .st 2 (.t 6) (.t 96), none⟩] none ⟨[], [], [], []⟩)
          (.seq (.reg 3 [] [
              ⟨(.t 16), .mv (.v 2), none⟩,
              ⟨(.t 17), .bin .rem (.t 16) (.c (.int .i64 5)), none⟩,
              ⟨(.t 18), .bin .add (.c (.int .i64 2)) (.t 17), none⟩,
              ⟨(.v 6), .asg (.t 18), none⟩] none ⟨[], [], [], []⟩)
          (.seq (.reg 4 [] [
              ⟨(.v 7), .asg (.c (.slice none 0 0)), none⟩] none ⟨[], [], [], []⟩)
          (.seq (.seq (.reg 5 [.own (.var 7) 3 1] [
              ⟨(.v 8), .asg (.c (.int .i64 0)), none⟩] none ⟨[], [], [], []⟩)
          (.block 1
            (.loop
              (.seq (.seq (.reg 6 [] [
                  ⟨(.t 19), .mv (.v 8), none⟩,
                  ⟨(.t 20), .mv (.v 1), none⟩,
                  ⟨(.t 21), .len (.t 20), none⟩,
                  ⟨(.t 22), .bin .lss (.t 19) (.t 21), none⟩,
                  ⟨(.t 23), .mv (.t 22), none⟩,
                  ⟨(.t 24), .mv (.v 8), some (23, true)⟩,
                  ⟨(.t 25), .bin .lss (.t 24) (.c (.int .i64 12)), some (23, true)⟩,
                  ⟨(.t 26), .pick (.t 23) (.t 25) (.c (.bool false)), none⟩] none ⟨[], [], [], []⟩)
              (.cond (.t 26)
                .skip
                (.exit 1)))
              (.seq (.block 2
                (.seq (.reg 8 [] [
                    ⟨(.t 29), .mv (.v 1), none⟩,
                    ⟨(.t 30), .mv (.v 8), none⟩,
                    ⟨(.t 31), .ia 1 (.t 29) (.t 30), none⟩,
                    ⟨(.t 32), .ld 1 false (.t 31), none⟩,
                    ⟨(.t 33), .mv (.v 6), none⟩,
                    ⟨(.t 34), .bin .shl (.c (.int .i64 1)) (.t 33), none⟩,
                    ⟨(.t 35), .bin .sub (.t 34) (.c (.int .i64 1)), none⟩,
                    ⟨(.t 36), .call 9 [(.t 32), (.t 35)], none⟩,
                    ⟨(.t 37), .bin .add (.c (.int .i64 1)) (.t 36), none⟩,
                    ⟨(.v 9), .asg (.t 37), none⟩] (some [[], [], [0, 1], [2], [], [4], [5], [3, 6], [7], [8, 7, 0, 1, 2, 3, 4, 5, 6, 7, 8]]) ⟨[], [], [], []⟩)
                (.seq (.reg 9 [] [
                    ⟨(.v 10), .asg (.c (.bool true)), none⟩] none ⟨[], [], [], []⟩)
                (.seq (.seq (.reg 10 [] [
                    ⟨(.t 38), .mv (.v 7), none⟩,
                    ⟨(.t 39), .len (.t 38), none⟩,
                    ⟨(.t 40), .mv (.c (.int .i64 0)), none⟩] none ⟨[], [], [], []⟩)
                (.block 3
                  (.loop
                    (.seq (.reg 11 [] [
                        ⟨(.t 41), .bin .lss (.t 40) (.t 39), none⟩] none ⟨[], [], [], []⟩)
                    (.seq (.cond (.t 41)
                      .skip
                      (.exit 3))
                    (.seq (.block 4
                      (.seq (.reg 12 [] [
                          ⟨(.t 42), .ia 1 (.t 38) (.t 40), none⟩,
                          ⟨(.t 43), .ld 1 false (.t 42), none⟩,
                          ⟨(.v 11), .asg (.t 43), none⟩] none ⟨[], [], [], []⟩)
                      (.reg 13 [] [
                          ⟨(.t 44), .mv (.v 10), none⟩,
                          ⟨(.t 45), .mv (.t 44), none⟩,
                          ⟨(.t 46), .mv (.v 11), some (45, true)⟩,
                          ⟨(.t 47), .mv (.v 9), some (45, true)⟩,
                          ⟨(.t 48), .bin .and (.t 46) (.t 47), some (45, true)⟩,
                          ⟨(.t 49), .bin .neq (.t 48) (.c (.int .i64 0)), some (45, true)⟩,
                          ⟨(.t 50), .pick (.t 45) (.t 49) (.c (.bool false)), none⟩,
                          ⟨(.v 10), .asg (.t 50), none⟩] none ⟨[], [], [], []⟩)))
                    (.reg 14 [] [
                        ⟨(.t 51), .bin .add (.t 40) (.c (.int .i64 1)), none⟩,
                        ⟨(.t 40), .mv (.t 51), none⟩] none ⟨[], [], [], []⟩)))))))
                (.seq (.reg 15 [] [
                    ⟨(.t 52), .mv (.v 10), none⟩] none ⟨[], [], [], []⟩)
                (.cond (.t 52)
                  (.reg 16 [.lend (.var 7) 56] [
                      ⟨(.t 53), .mv (.v 7), none⟩,
                      ⟨(.t 54), .mv (.v 9), none⟩,
                      ⟨(.t 55), .bls 3 1 (.int .i64 0) 1 [(0, (.t 54))], none⟩,
                      ⟨(.t 56), .app 3 1 8 (.t 53) (.t 55), none⟩,
                      ⟨(.v 7), .asg (.t 56), none⟩] none ⟨[], [], [], []⟩)
                  .skip))))))
              (.reg 7 [] [
                  ⟨(.t 27), .mv (.v 8), none⟩,
                  ⟨(.t 28), .bin .add (.t 27) (.c (.int .i64 1)), none⟩,
                  ⟨(.v 8), .asg (.t 28), none⟩] none ⟨[], [], [], []⟩))))))
          (.seq (.seq (.reg 17 [] [
              ⟨(.t 57), .mv (.v 7), none⟩,
              ⟨(.t 58), .len (.t 57), none⟩,
              ⟨(.t 59), .bin .eql (.t 58) (.c (.int .i64 0)), none⟩] none ⟨[], [], [], []⟩)
          (.cond (.t 59)
            (.reg 18 [] [
                ⟨(.t 60), .bls 3 1 (.int .i64 0) 1 [(0, (.c (.int .i64 1)))], none⟩,
                ⟨(.v 7), .asg (.t 60), none⟩] none ⟨[], [], [], []⟩)
            .skip))
          (.reg 19 [.freeze (.var 7)] [
              ⟨(.t 62), .mv (.v 6), none⟩,
              ⟨(.t 63), .mv (.v 7), none⟩,
              ⟨(.t 64), .call 17 [(.t 62), (.t 63)], none⟩,
              ⟨(.t 61), .mv (.t 64), none⟩,
              ⟨(.t 65), .ext 61 0, none⟩,
              ⟨(.t 66), .ext 61 1, none⟩,
              ⟨.none, .st 2 (.t 6) (.t 65), none⟩] none ⟨[], [], [], []⟩))))))))))))
  (.seq (.reg 26 [] [
      ⟨(.t 98), .ld 2 true (.t 6), none⟩,
      ⟨.none, .st 2 (.t 4) (.t 98), none⟩] none ⟨[], [], [], []⟩)
  .ret)))))
theorem c21 : compFn Try.prog 21 F21 = some (2, strip a21, [.c 4 2 true]) ∧ lexAll a21 = true := ⟨by kernel_rfl, by kernel_rfl⟩
/-- clusterlocks/coterie.Available -/
def F22 : Fr := ⟨25, [0, 1, 4, 5, 7]⟩
def a22 : ACode :=
  (.seq (.reg 0 [] [
      ⟨(.t 2), .box 2 (.v 0), none⟩,
      ⟨(.v 2), .asg (.c (.int .i64 0)), none⟩,
      ⟨(.v 3), .asg (.c (.bool false)), none⟩] none ⟨[], [], [], []⟩)
  (.seq (.seq (.reg 1 [] [
      ⟨(.t 8), .ld 2 true (.t 2), none⟩,
      ⟨(.t 9), .call 19 [(.t 8)], none⟩,
      ⟨(.t 10), .un .not (.t 9), none⟩] none ⟨[], [], [], []⟩)
  (.cond (.t 10)
    (.seq (.reg 2 [] [
        ⟨(.v 2), .asg (.c (.int .i64 0)), none⟩,
        ⟨(.v 3), .asg (.c (.bool false)), none⟩] none ⟨[], [], [], []⟩)
    .ret)
    .skip))
  (.seq (.seq (.reg 3 [] [
      ⟨(.t 11), .fa 1 (.t 2), none⟩,
      ⟨(.t 12), .ld 1 false (.t 11), none⟩,
      ⟨(.t 13), .len (.t 12), none⟩,
      ⟨(.t 14), .mv (.c (.int .i64 0)), none⟩] none ⟨[], [], [], []⟩)
  (.block 0
    (.loop
      (.seq (.reg 4 [] [
          ⟨(.t 15), .bin .lss (.t 14) (.t 13), none⟩] none ⟨[], [], [], []⟩)
      (.seq (.cond (.t 15)
        .skip
        (.exit 0))
      (.seq (.block 1
        (.seq (.reg 5 [] [
            ⟨(.t 16), .ia 1 (.t 12) (.t 14), none⟩,
            ⟨(.t 17), .ld 1 false (.t 16), none⟩,
            ⟨(.v 4), .asg (.t 17), none⟩] none ⟨[], [], [], []⟩)
        (.seq (.reg 6 [] [
            ⟨(.t 18), .mv (.v 4), none⟩,
            ⟨(.t 19), .mv (.v 1), none⟩,
            ⟨(.t 20), .bin .and (.t 18) (.t 19), none⟩,
            ⟨(.t 21), .mv (.v 4), none⟩,
            ⟨(.t 22), .bin .eql (.t 20) (.t 21), none⟩] none ⟨[], [], [], []⟩)
        (.cond (.t 22)
          (.seq (.reg 7 [] [
              ⟨(.t 23), .mv (.v 4), none⟩,
              ⟨(.v 2), .asg (.t 23), none⟩,
              ⟨(.v 3), .asg (.c (.bool true)), none⟩] none ⟨[], [], [], []⟩)
          .ret)
          .skip))))
      (.reg 8 [] [
          ⟨(.t 24), .bin .add (.t 14) (.c (.int .i64 1)), none⟩,
          ⟨(.t 14), .mv (.t 24), none⟩] none ⟨[], [], [], []⟩)))))))
  (.seq (.reg 9 [] [
      ⟨(.v 2), .asg (.c (.int .i64 0)), none⟩,
      ⟨(.v 3), .asg (.c (.bool false)), none⟩] none ⟨[], [], [], []⟩)
  .ret))))
theorem c22 : compFn Try.prog 22 F22 = some (2, strip a22, [.v 2, .v 3]) ∧ lexAll a22 = true := ⟨by kernel_rfl, by kernel_rfl⟩
/-- clusterlocks/clusterlocksref29.Available -/
def F23 : Fr := ⟨23, [0, 1, 4, 5, 7]⟩
def a23 : ACode :=
  (.seq (.reg 0 [] [
      ⟨(.t 2), .box 2 (.v 0), none⟩,
      ⟨(.v 2), .asg (.c (.int .i64 0)), none⟩,
      ⟨(.v 3), .asg (.c (.bool false)), none⟩] none ⟨[], [], [], []⟩)
  (.seq (.seq (.reg 1 [] [
      ⟨(.t 8), .ld 2 true (.t 2), none⟩,
      ⟨(.t 9), .call 20 [(.t 8)], none⟩,
      ⟨(.t 10), .un .not (.t 9), none⟩] none ⟨[], [], [], []⟩)
  (.cond (.t 10)
    (.seq (.reg 2 [] [
        ⟨(.v 2), .asg (.c (.int .i64 0)), none⟩,
        ⟨(.v 3), .asg (.c (.bool false)), none⟩] none ⟨[], [], [], []⟩)
    .ret)
    .skip))
  (.seq (.seq (.reg 3 [] [
      ⟨(.t 11), .fa 1 (.t 2), none⟩,
      ⟨(.t 12), .ld 1 false (.t 11), none⟩,
      ⟨(.t 13), .len (.t 12), none⟩,
      ⟨(.t 14), .mv (.c (.int .i64 0)), none⟩] none ⟨[], [], [], []⟩)
  (.block 0
    (.loop
      (.seq (.reg 4 [] [
          ⟨(.t 15), .bin .lss (.t 14) (.t 13), none⟩] none ⟨[], [], [], []⟩)
      (.seq (.cond (.t 15)
        .skip
        (.exit 0))
      (.seq (.block 1
        (.seq (.reg 5 [] [
            ⟨(.t 16), .ia 1 (.t 12) (.t 14), none⟩,
            ⟨(.t 17), .ld 1 false (.t 16), none⟩,
            ⟨(.v 4), .asg (.t 17), none⟩] none ⟨[], [], [], []⟩)
        (.seq (.reg 6 [] [
            ⟨(.t 18), .mv (.v 4), none⟩,
            ⟨(.t 19), .mv (.v 1), none⟩,
            ⟨(.t 20), .call 44 [(.t 18), (.t 19)], none⟩] none ⟨[], [], [], []⟩)
        (.cond (.t 20)
          (.seq (.reg 7 [] [
              ⟨(.t 21), .mv (.v 4), none⟩,
              ⟨(.v 2), .asg (.t 21), none⟩,
              ⟨(.v 3), .asg (.c (.bool true)), none⟩] none ⟨[], [], [], []⟩)
          .ret)
          .skip))))
      (.reg 8 [] [
          ⟨(.t 22), .bin .add (.t 14) (.c (.int .i64 1)), none⟩,
          ⟨(.t 14), .mv (.t 22), none⟩] none ⟨[], [], [], []⟩)))))))
  (.seq (.reg 9 [] [
      ⟨(.v 2), .asg (.c (.int .i64 0)), none⟩,
      ⟨(.v 3), .asg (.c (.bool false)), none⟩] none ⟨[], [], [], []⟩)
  .ret))))
theorem c23 : compFn Try.prog 23 F23 = some (2, strip a23, [.v 2, .v 3]) ∧ lexAll a23 = true := ⟨by kernel_rfl, by kernel_rfl⟩
/-- clusterlocks/clusterlocksref19.SameInts -/
def F24 : Fr := ⟨26, [0, 1, 4, 5]⟩
def a24 : ACode :=
  (.seq (.reg 0 [] [
      ⟨(.v 2), .asg (.c (.bool false)), none⟩] none ⟨[], [], [], []⟩)
  (.seq (.seq (.reg 1 [] [
      ⟨(.t 6), .mv (.v 0), none⟩,
      ⟨(.t 7), .len (.t 6), none⟩,
      ⟨(.t 8), .mv (.v 1), none⟩,
      ⟨(.t 9), .len (.t 8), none⟩,
      ⟨(.t 10), .bin .neq (.t 7) (.t 9), none⟩] none ⟨[], [], [], []⟩)
  (.cond (.t 10)
    (.seq (.reg 2 [] [
        ⟨(.v 2), .asg (.c (.bool false)), none⟩] none ⟨[], [], [], []⟩)
    .ret)
    .skip))
  (.seq (.seq (.reg 3 [] [
      ⟨(.v 3), .asg (.c (.int .i64 0)), none⟩] none ⟨[], [], [], []⟩)
  (.block 0
    (.loop
      (.seq (.seq (.reg 4 [] [
          ⟨(.t 11), .mv (.v 3), none⟩,
          ⟨(.t 12), .mv (.v 0), none⟩,
          ⟨(.t 13), .len (.t 12), none⟩,
          ⟨(.t 14), .bin .lss (.t 11) (.t 13), none⟩] none ⟨[], [], [], []⟩)
      (.cond (.t 14)
        .skip
        (.exit 0)))
      (.seq (.block 1
        (.seq (.reg 6 [] [
            ⟨(.t 17), .mv (.v 0), none⟩,
            ⟨(.t 18), .mv (.v 3), none⟩,
            ⟨(.t 19), .ia 1 (.t 17) (.t 18), none⟩,
            ⟨(.t 20), .ld 1 false (.t 19), none⟩,
            ⟨(.t 21), .mv (.v 1), none⟩,
            ⟨(.t 22), .mv (.v 3), none⟩,
            ⟨(.t 23), .ia 1 (.t 21) (.t 22), none⟩,
            ⟨(.t 24), .ld 1 false (.t 23), none⟩,
            ⟨(.t 25), .bin .neq (.t 20) (.t 24), none⟩] (some [[], [], [0, 1], [2], [], [], [4, 5], [6], [3, 7]]) ⟨[], [], [], []⟩)
        (.cond (.t 25)
          (.seq (.reg 7 [] [
              ⟨(.v 2), .asg (.c (.bool false)), none⟩] none ⟨[], [], [], []⟩)
          .ret)
          .skip)))
      (.reg 5 [] [
          ⟨(.t 15), .mv (.v 3), none⟩,
          ⟨(.t 16), .bin .add (.t 15) (.c (.int .i64 1)), none⟩,
          ⟨(.v 3), .asg (.t 16), none⟩] none ⟨[], [], [], []⟩))))))
  (.seq (.reg 8 [] [
      ⟨(.v 2), .asg (.c (.bool true)), none⟩] none ⟨[], [], [], []⟩)
  .ret))))
theorem c24 : compFn Try.prog 24 F24 = some (2, strip a24, [.v 2]) ∧ lexAll a24 = true := ⟨by kernel_rfl, by kernel_rfl⟩
/-- clusterlocks/coterie.Transversals -/
def F25 : Fr := ⟨14, [0, 2]⟩
def a25 : ACode :=
  (.seq (.reg 0 [] [
      ⟨(.t 1), .box 2 (.v 0), none⟩,
      ⟨(.v 1), .asg (.c (.slice none 0 0)), none⟩] none ⟨[], [], [], []⟩)
  (.seq (.seq (.reg 1 [] [
      ⟨(.t 4), .ld 2 true (.t 1), none⟩,
      ⟨(.t 5), .call 19 [(.t 4)], none⟩,
      ⟨(.t 6), .un .not (.t 5), none⟩] none ⟨[], [], [], []⟩)
  (.cond (.t 6)
    (.seq (.reg 2 [] [
        ⟨(.v 1), .asg (.c (.slice none 0 0)), none⟩] none ⟨[], [], [], []⟩)
    .ret)
    .skip))
  (.seq (.reg 3 [] [
      ⟨(.t 7), .fa 0 (.t 1), none⟩,
      ⟨(.t 8), .ld 1 false (.t 7), none⟩,
      ⟨(.t 9), .mkf 45 (.t 1), none⟩,
      ⟨(.t 10), .call 30 [(.t 8), (.t 9)], none⟩,
      ⟨(.t 3), .allo [(.slice none 0 0)], none⟩,
      ⟨.none, .st 1 (.t 3) (.t 10), none⟩] none ⟨[], [], [], []⟩)
  (.seq (.reg 4 [.freeze (.cell 1 0)] [
      ⟨(.t 11), .ld 1 false (.t 3), none⟩,
      ⟨(.t 12), .mkf 46 (.t 3), none⟩,
      ⟨(.t 13), .call 39 [(.t 11), (.t 12)], none⟩,
      ⟨(.v 1), .asg (.t 13), none⟩] none ⟨[], [], [], []⟩)
  .ret))))
theorem c25 : compFn Try.prog 25 F25 = some (1, strip a25, [.v 1]) ∧ lexAll a25 = true := ⟨by kernel_rfl, by kernel_rfl⟩
/-- clusterlocks/clusterlocksref29.Transversals -/
def F26 : Fr := ⟨42, [0, 2, 3, 4, 5, 7]⟩
def a26 : ACode :=
  (.seq (.reg 0 [] [
      ⟨(.t 1), .box 2 (.v 0), none⟩,
      ⟨(.v 1), .asg (.c (.slice none 0 0)), none⟩] none ⟨[], [], [], []⟩)
  (.seq (.seq (.reg 1 [] [
      ⟨(.t 8), .ld 2 true (.t 1), none⟩,
      ⟨(.t 9), .call 20 [(.t 8)], none⟩,
      ⟨(.t 10), .un .not (.t 9), none⟩] none ⟨[], [], [], []⟩)
  (.cond (.t 10)
    (.seq (.reg 2 [] [
        ⟨(.v 1), .asg (.c (.slice none 0 0)), none⟩] none ⟨[], [], [], []⟩)
    .ret)
    .skip))
  (.seq (.reg 3 [] [
      ⟨(.v 2), .asg (.c (.slice none 0 0)), none⟩] none ⟨[], [], [], []⟩)
  (.seq (.seq (.reg 4 [.own (.var 2) 3 1] [
      ⟨(.v 3), .asg (.c (.int .i64 1)), none⟩] none ⟨[], [], [], []⟩)
  (.block 0
    (.loop
      (.seq (.seq (.reg 5 [] [
          ⟨(.t 11), .mv (.v 3), none⟩,
          ⟨(.t 12), .fa 0 (.t 1), none⟩,
          ⟨(.t 13), .ld 1 false (.t 12), none⟩,
          ⟨(.t 14), .bin .shl (.c (.int .i64 1)) (.t 13), none⟩,
          ⟨(.t 15), .bin .lss (.t 11) (.t 14), none⟩] none ⟨[], [], [], []⟩)
      (.cond (.t 15)
        .skip
        (.exit 0)))
      (.seq (.block 1
        (.seq (.reg 7 [] [
            ⟨(.v 4), .asg (.c (.bool true)), none⟩] none ⟨[], [], [], []⟩)
        (.seq (.seq (.reg 8 [] [
            ⟨(.t 18), .fa 1 (.t 1), none⟩,
            ⟨(.t 19), .ld 1 false (.t 18), none⟩,
            ⟨(.t 20), .len (.t 19), none⟩,
            ⟨(.t 21), .mv (.c (.int .i64 0)), none⟩] none ⟨[], [], [], []⟩)
        (.block 2
          (.loop
            (.seq (.reg 9 [] [
                ⟨(.t 22), .bin .lss (.t 21) (.t 20), none⟩] none ⟨[], [], [], []⟩)
            (.seq (.cond (.t 22)
              .skip
              (.exit 2))
            (.seq (.block 3
              (.seq (.reg 10 [] [
                  ⟨(.t 23), .ia 1 (.t 19) (.t 21), none⟩,
                  ⟨(.t 24), .ld 1 false (.t 23), none⟩,
                  ⟨(.v 5), .asg (.t 24), none⟩] none ⟨[], [], [], []⟩)
              (.reg 11 [] [
                  ⟨(.t 25), .mv (.v 4), none⟩,
                  ⟨(.t 26), .mv (.t 25), none⟩,
                  ⟨(.t 27), .mv (.v 3), some (26, true)⟩,
                  ⟨(.t 28), .mv (.v 5), some (26, true)⟩,
                  ⟨(.t 29), .bin .and (.t 27) (.t 28), some (26, true)⟩,
                  ⟨(.t 30), .bin .neq (.t 29) (.c (.int .i64 0)), some (26, true)⟩,
                  ⟨(.t 31), .pick (.t 26) (.t 30) (.c (.bool false)), none⟩,
                  ⟨(.v 4), .asg (.t 31), none⟩] none ⟨[], [], [], []⟩)))
            (.reg 12 [] [
                ⟨(.t 32), .bin .add (.t 21) (.c (.int .i64 1)), none⟩,
                ⟨(.t 21), .mv (.t 32), none⟩] none ⟨[], [], [], []⟩)))))))
        (.seq (.reg 13 [] [
            ⟨(.t 33), .mv (.v 4), none⟩] none ⟨[], [], [], []⟩)
        (.cond (.t 33)
          (.reg 14 [.lend (.var 2) 37] [
              ⟨(.t 34), .mv (.v 2), none⟩,
              ⟨(.t 35), .mv (.v 3), none⟩,
              ⟨(.t 36), .bls 3 1 (.int .i64 0) 1 [(0, (.t 35))], none⟩,
              ⟨(.t 37), .app 3 1 8 (.t 34) (.t 36), none⟩,
              ⟨(.v 2), .asg (.t 37), none⟩] none ⟨[], [], [], []⟩)
          .skip)))))
      (.reg 6 [] [
          ⟨(.t 16), .mv (.v 3), none⟩,
          ⟨(.t 17), .bin .add (.t 16) (.c (.int .i64 1)), none⟩,
          ⟨(.v 3), .asg (.t 17), none⟩] none ⟨[], [], [], []⟩))))))
  (.seq (.reg 15 [.freeze (.var 2)] [
      ⟨(.t 38), .fa 0 (.t 1), none⟩,
      ⟨(.t 39), .ld 1 false (.t 38), none⟩,
      ⟨(.t 40), .mv (.v 2), none⟩,
      ⟨(.t 41), .call 42 [(.t 39), (.t 40)], none⟩,
      ⟨(.v 1), .asg (.t 41), none⟩] none ⟨[], [], [], []⟩)
  .ret)))))
theorem c26 : compFn Try.prog 26 F26 = some (1, strip a26, [.v 1]) ∧ lexAll a26 = true := ⟨by kernel_rfl, by kernel_rfl⟩
/-- clusterlocks/coterie.Dominated -/
def F27 : Fr := ⟨13, [0, 2]⟩
def a27 : ACode :=
  (.seq (.reg 0 [] [
      ⟨(.t 1), .box 2 (.v 0), none⟩,
      ⟨(.v 1), .asg (.c (.bool false)), none⟩] none ⟨[], [], [], []⟩)
  (.seq (.reg 1 [] [
      ⟨(.t 3), .ld 2 true (.t 1), none⟩,
      ⟨(.t 4), .call 19 [(.t 3)], none⟩,
      ⟨(.t 5), .mv (.t 4), none⟩,
      ⟨(.t 6), .ld 2 true (.t 1), some (5, true)⟩,
      ⟨(.t 7), .call 25 [(.t 6)], some (5, true)⟩,
      ⟨(.t 8), .fa 1 (.t 1), some (5, true)⟩,
      ⟨(.t 9), .ld 1 false (.t 8), some (5, true)⟩,
      ⟨(.t 10), .call 47 [(.t 7), (.t 9)], some (5, true)⟩,
      ⟨(.t 11), .un .not (.t 10), some (5, true)⟩,
      ⟨(.t 12), .pick (.t 5) (.t 11) (.c (.bool false)), none⟩,
      ⟨(.v 1), .asg (.t 12), none⟩] (some [[], [0], [1, 1], [2], [3, 2, 2], [2], [5, 2], [4, 6, 4, 2], [7, 2], [2, 8], [9, 7, 0, 1, 2, 3, 4, 5, 6, 7, 8, 9]]) ⟨[1, 5], [], [], []⟩)
  .ret))
theorem c27 : compFn Try.prog 27 F27 = some (1, strip a27, [.v 1]) ∧ lexAll a27 = true := ⟨by kernel_rfl, by kernel_rfl⟩
/-- clusterlocks/clusterlocksref29.Dominated -/
def F28 : Fr := ⟨44, [0, 2, 3, 4, 5, 7]⟩
def a28 : ACode :=
  (.seq (.reg 0 [] [
      ⟨(.t 1), .box 2 (.v 0), none⟩,
      ⟨(.v 1), .asg (.c (.bool false)), none⟩] none ⟨[], [], [], []⟩)
  (.seq (.seq (.reg 1 [] [
      ⟨(.t 8), .ld 2 true (.t 1), none⟩,
      ⟨(.t 9), .call 20 [(.t 8)], none⟩,
      ⟨(.t 10), .un .not (.t 9), none⟩] none ⟨[], [], [], []⟩)
  (.cond (.t 10)
    (.seq (.reg 2 [] [
        ⟨(.v 1), .asg (.c (.bool false)), none⟩] none ⟨[], [], [], []⟩)
    .ret)
    .skip))
  (.seq (.seq (.reg 3 [] [
      ⟨(.v 2), .asg (.c (.int .i64 1)), none⟩] none ⟨[], [], [], []⟩)
  (.block 0
    (.loop
      (.seq (.seq (.reg 4 [] [
          ⟨(.t 11), .mv (.v 2), none⟩,
          ⟨(.t 12), .fa 0 (.t 1), none⟩,
          ⟨(.t 13), .ld 1 false (.t 12), none⟩,
          ⟨(.t 14), .bin .shl (.c (.int .i64 1)) (.t 13), none⟩,
          ⟨(.t 15), .bin .lss (.t 11) (.t 14), none⟩] none ⟨[], [], [], []⟩)
      (.cond (.t 15)
        .skip
        (.exit 0)))
      (.seq (.block 1
        (.seq (.reg 6 [] [
            ⟨(.v 3), .asg (.c (.bool true)), none⟩,
            ⟨(.v 4), .asg (.c (.bool false)), none⟩] none ⟨[], [], [], []⟩)
        (.seq (.seq (.reg 7 [] [
            ⟨(.t 18), .fa 1 (.t 1), none⟩,
            ⟨(.t 19), .ld 1 false (.t 18), none⟩,
            ⟨(.t 20), .len (.t 19), none⟩,
            ⟨(.t 21), .mv (.c (.int .i64 0)), none⟩] none ⟨[], [], [], []⟩)
        (.block 2
          (.loop
            (.seq (.reg 8 [] [
                ⟨(.t 22), .bin .lss (.t 21) (.t 20), none⟩] none ⟨[], [], [], []⟩)
            (.seq (.cond (.t 22)
              .skip
              (.exit 2))
            (.seq (.block 3
              (.seq (.reg 9 [] [
                  ⟨(.t 23), .ia 1 (.t 19) (.t 21), none⟩,
                  ⟨(.t 24), .ld 1 false (.t 23), none⟩,
                  ⟨(.v 5), .asg (.t 24), none⟩] none ⟨[], [], [], []⟩)
              (.seq (.reg 10 [] [
                  ⟨(.t 25), .mv (.v 3), none⟩,
                  ⟨(.t 26), .mv (.t 25), none⟩,
                  ⟨(.t 27), .mv (.v 2), some (26, true)⟩,
                  ⟨(.t 28), .mv (.v 5), some (26, true)⟩,
                  ⟨(.t 29), .bin .and (.t 27) (.t 28), some (26, true)⟩,
                  ⟨(.t 30), .bin .neq (.t 29) (.c (.int .i64 0)), some (26, true)⟩,
                  ⟨(.t 31), .pick (.t 26) (.t 30) (.c (.bool false)), none⟩,
                  ⟨(.v 3), .asg (.t 31), none⟩] none ⟨[], [], [], []⟩)
              (.reg 11 [] [
                  ⟨(.t 32), .mv (.v 4), none⟩,
                  ⟨(.t 33), .mv (.t 32), none⟩,
                  ⟨(.t 34), .mv (.v 5), some (33, false)⟩,
                  ⟨(.t 35), .mv (.v 2), some (33, false)⟩,
                  ⟨(.t 36), .call 44 [(.t 34), (.t 35)], some (33, false)⟩,
                  ⟨(.t 37), .pick (.t 33) (.c (.bool true)) (.t 36), none⟩,
                  ⟨(.v 4), .asg (.t 37), none⟩] none ⟨[], [], [], []⟩))))
            (.reg 12 [] [
                ⟨(.t 38), .bin .add (.t 21) (.c (.int .i64 1)), none⟩,
                ⟨(.t 21), .mv (.t 38), none⟩] none ⟨[], [], [], []⟩)))))))
        (.seq (.reg 13 [] [
            ⟨(.t 39), .mv (.v 3), none⟩,
            ⟨(.t 40), .mv (.t 39), none⟩,
            ⟨(.t 41), .mv (.v 4), some (40, true)⟩,
            ⟨(.t 42), .un .not (.t 41), some (40, true)⟩,
            ⟨(.t 43), .pick (.t 40) (.t 42) (.c (.bool false)), none⟩] none ⟨[], [], [], []⟩)
        (.cond (.t 43)
          (.seq (.reg 14 [] [
              ⟨(.v 1), .asg (.c (.bool true)), none⟩] none ⟨[], [], [], []⟩)
          .ret)
          .skip)))))
      (.reg 5 [] [
          ⟨(.t 16), .mv (.v 2), none⟩,
          ⟨(.t 17), .bin .add (.t 16) (.c (.int .i64 1)), none⟩,
          ⟨(.v 2), .asg (.t 17), none⟩] none ⟨[], [], [], []⟩))))))
  (.seq (.reg 15 [] [
      ⟨(.v 1), .asg (.c (.bool false)), none⟩] none ⟨[], [], [], []⟩)
  .ret))))
theorem c28 : compFn Try.prog 28 F28 = some (1, strip a28, [.v 1]) ∧ lexAll a28 = true := ⟨by kernel_rfl, by kernel_rfl⟩
/-- clusterlocks/coterie.validVoters -/
def F29 : Fr := ⟨9, [0, 2]⟩
def a29 : ACode :=
  (.seq (.reg 0 [] [
      ⟨(.v 1), .asg (.c (.bool false)), none⟩] none ⟨[], [], [], []⟩)
  (.seq (.reg 1 [] [
      ⟨(.t 3), .mv (.v 0), none⟩,
      ⟨(.t 4), .bin .geq (.t 3) (.c (.int .i64 1)), none⟩,
      ⟨(.t 5), .mv (.t 4), none⟩,
      ⟨(.t 6), .mv (.v 0), some (5, true)⟩,
      ⟨(.t 7), .bin .leq (.t 6) (.c (.int .i64 9)), some (5, true)⟩,
      ⟨(.t 8), .pick (.t 5) (.t 7) (.c (.bool false)), none⟩,
      ⟨(.v 1), .asg (.t 8), none⟩] none ⟨[], [], [], []⟩)
  .ret))
theorem c29 : compFn Try.prog 29 F29 = some (1, strip a29, [.v 1]) ∧ lexAll a29 = true := ⟨by kernel_rfl, by kernel_rfl⟩
/-- clusterlocks/coterie.subsets -/
def F30 : Fr := ⟨20, [0, 1, 4, 5, 6]⟩
def a30 : ACode :=
  (.seq (.reg 0 [] [
      ⟨(.v 2), .asg (.c (.slice none 0 0)), none⟩] none ⟨[], [], [], []⟩)
  (.seq (.reg 1 [] [
      ⟨(.v 3), .asg (.c (.slice none 0 0)), none⟩] none ⟨[], [], [], []⟩)
  (.seq (.seq (.reg 2 [.own (.var 3) 3 1] [
      ⟨(.v 4), .asg (.c (.int .i64 1)), none⟩] none ⟨[], [], [], []⟩)
  (.block 0
    (.loop
      (.seq (.seq (.reg 3 [] [
          ⟨(.t 7), .mv (.v 4), none⟩,
          ⟨(.t 8), .mv (.v 0), none⟩,
          ⟨(.t 9), .bin .shl (.c (.int .i64 1)) (.t 8), none⟩,
          ⟨(.t 10), .bin .lss (.t 7) (.t 9), none⟩] none ⟨[], [], [], []⟩)
      (.cond (.t 10)
        .skip
        (.exit 0)))
      (.seq (.block 1
        (.reg 5 [.lend (.var 3) 16] [
            ⟨(.t 13), .mv (.v 3), none⟩,
            ⟨(.t 14), .mv (.v 4), none⟩,
            ⟨(.t 15), .bls 3 1 (.int .i64 0) 1 [(0, (.t 14))], none⟩,
            ⟨(.t 16), .app 3 1 8 (.t 13) (.t 15), none⟩,
            ⟨(.v 3), .asg (.t 16), none⟩] none ⟨[], [], [], []⟩))
      (.reg 4 [] [
          ⟨(.t 11), .mv (.v 4), none⟩,
          ⟨(.t 12), .bin .add (.t 11) (.c (.int .i64 1)), none⟩,
          ⟨(.v 4), .asg (.t 12), none⟩] none ⟨[], [], [], []⟩))))))
  (.seq (.reg 6 [.freeze (.var 3)] [
      ⟨(.t 17), .mv (.v 3), none⟩,
      ⟨(.t 18), .mv (.v 1), none⟩,
      ⟨(.t 19), .call 39 [(.t 17), (.t 18)], none⟩,
      ⟨(.v 2), .asg (.t 19), none⟩] none ⟨[], [], [], []⟩)
  .ret))))
theorem c30 : compFn Try.prog 30 F30 = some (2, strip a30, [.v 2]) ∧ lexAll a30 = true := ⟨by kernel_rfl, by kernel_rfl⟩
/-- clusterlocks/coterie.Majority$1 -/
def F31 : Fr := ⟨11, [0, 1, 3]⟩
def a31 : ACode :=
  (.seq (.reg 0 [] [
      ⟨(.v 2), .asg (.c (.bool false)), none⟩] none ⟨[], [], [], []⟩)
  (.seq (.reg 1 [] [
      ⟨(.t 4), .mv (.v 0), none⟩,
      ⟨(.t 5), .conv .u64 (.t 4), none⟩,
      ⟨(.t 6), .call 32 [(.t 5)], none⟩,
      ⟨(.t 7), .ld 1 false (.v 1), none⟩,
      ⟨(.t 8), .bin .quo (.t 7) (.c (.int .i64 2)), none⟩,
      ⟨(.t 9), .bin .add (.t 8) (.c (.int .i64 1)), none⟩,
      ⟨(.t 10), .bin .eql (.t 6) (.t 9), none⟩,
      ⟨(.v 2), .asg (.t 10), none⟩] (some [[], [0], [1], [], [3], [4], [2, 5], [6, 2, 0, 1, 2, 3, 4, 5, 6]]) ⟨[], [], [], []⟩)
  .ret))
theorem c31 : compFn Try.prog 31 F31 = some (2, strip a31, [.v 2]) ∧ lexAll a31 = true := ⟨by kernel_rfl, by kernel_rfl⟩
/-- math/bits.OnesCount -/
def F32 : Fr := ⟨8, [0, 2]⟩
def a32 : ACode :=
  (.seq (.reg 0 [] [
      ⟨(.v 1), .asg (.c (.int .i64 0)), none⟩] none ⟨[], [], [], []⟩)
  (.seq (.cond (.c (.bool false))
    (.seq (.reg 1 [] [
        ⟨(.t 3), .mv (.v 0), none⟩,
        ⟨(.t 4), .conv .u32 (.t 3), none⟩,
        ⟨(.t 5), .call 48 [(.t 4)], none⟩,
        ⟨(.v 1), .asg (.t 5), none⟩] none ⟨[], [], [], []⟩)
    .ret)
    .skip)
  (.seq (.reg 2 [] [
      ⟨(.t 6), .mv (.v 0), none⟩,
      ⟨(.t 7), .call 49 [(.t 6)], none⟩,
      ⟨(.v 1), .asg (.t 7), none⟩] none ⟨[], [], [], []⟩)
  .ret)))
theorem c32 : compFn Try.prog 32 F32 = some (1, strip a32, [.v 1]) ∧ lexAll a32 = true := ⟨by kernel_rfl, by kernel_rfl⟩
/-- clusterlocks/clusterlocksref29.size -/
def F33 : Fr := ⟨13, [0, 2, 3]⟩
def a33 : ACode :=
  (.seq (.reg 0 [] [
      ⟨(.v 1), .asg (.c (.int .i64 0)), none⟩] none ⟨[], [], [], []⟩)
  (.seq (.reg 1 [] [
      ⟨(.v 2), .asg (.c (.int .i64 0)), none⟩] none ⟨[], [], [], []⟩)
  (.seq (.block 0
    (.loop
      (.seq (.seq (.reg 2 [] [
          ⟨(.t 4), .mv (.v 0), none⟩,
          ⟨(.t 5), .bin .gtr (.t 4) (.c (.int .i64 0)), none⟩] none ⟨[], [], [], []⟩)
      (.cond (.t 5)
        .skip
        (.exit 0)))
      (.seq (.block 1
        (.reg 4 [] [
            ⟨(.t 8), .mv (.v 2), none⟩,
            ⟨(.t 9), .mv (.v 0), none⟩,
            ⟨(.t 10), .bin .and (.t 9) (.c (.int .i64 1)), none⟩,
            ⟨(.t 11), .bin .add (.t 8) (.t 10), none⟩,
            ⟨(.v 2), .asg (.t 11), none⟩] none ⟨[], [], [], []⟩))
      (.reg 3 [] [
          ⟨(.t 6), .mv (.v 0), none⟩,
          ⟨(.t 7), .bin .shr (.t 6) (.c (.int .u64 1)), none⟩,
          ⟨(.v 0), .asg (.t 7), none⟩] none ⟨[], [], [], []⟩)))))
  (.seq (.reg 5 [] [
      ⟨(.t 12), .mv (.v 2), none⟩,
      ⟨(.v 1), .asg (.t 12), none⟩] none ⟨[], [], [], []⟩)
  .ret))))
theorem c33 : compFn Try.prog 33 F33 = some (1, strip a33, [.v 1]) ∧ lexAll a33 = true := ⟨by kernel_rfl, by kernel_rfl⟩
/-- clusterlocks/coterie.below -/
def F34 : Fr := ⟨74, [0, 1, 4, 5, 6, 7, 9, 11, 13]⟩
def a34 : ACode :=
  (.seq (.reg 0 [] [
      ⟨(.v 2), .asg (.c (.slice none 0 0)), none⟩] none ⟨[], [], [], []⟩)
  (.seq (.seq (.reg 1 [] [
      ⟨(.t 14), .mv (.v 0), none⟩,
      ⟨(.t 15), .bin .mul (.c (.int .i64 2)) (.t 14), none⟩,
      ⟨(.t 16), .bin .add (.t 15) (.c (.int .i64 1)), none⟩,
      ⟨(.t 17), .mv (.v 1), none⟩,
      ⟨(.t 18), .bin .geq (.t 16) (.t 17), none⟩] none ⟨[], [], [], []⟩)
  (.cond (.t 18)
    (.seq (.reg 2 [] [
        ⟨(.t 19), .mv (.v 0), none⟩,
        ⟨(.t 20), .bin .shl (.c (.int .i64 1)) (.t 19), none⟩,
        ⟨(.t 21), .bls 3 1 (.int .i64 0) 1 [(0, (.t 20))], none⟩,
        ⟨(.v 2), .asg (.t 21), none⟩] none ⟨[], [], [], []⟩)
    .ret)
    .skip))
  (.seq (.reg 3 [] [
      ⟨(.t 22), .mv (.v 0), none⟩,
      ⟨(.t 23), .bin .mul (.c (.int .i64 2)) (.t 22), none⟩,
      ⟨(.t 24), .bin .add (.t 23) (.c (.int .i64 1)), none⟩,
      ⟨(.t 25), .mv (.v 1), none⟩,
      ⟨(.t 26), .call 34 [(.t 24), (.t 25)], none⟩,
      ⟨(.v 3), .asg (.t 26), none⟩] none ⟨[], [], [], []⟩)
  (.seq (.reg 4 [] [
      ⟨(.t 27), .mv (.v 0), none⟩,
      ⟨(.t 28), .bin .mul (.c (.int .i64 2)) (.t 27), none⟩,
      ⟨(.t 29), .bin .add (.t 28) (.c (.int .i64 2)), none⟩,
      ⟨(.t 30), .mv (.v 1), none⟩,
      ⟨(.t 31), .call 34 [(.t 29), (.t 30)], none⟩,
      ⟨(.v 4), .asg (.t 31), none⟩] none ⟨[], [], [], []⟩)
  (.seq (.reg 5 [] [
      ⟨(.v 5), .asg (.c (.slice none 0 0)), none⟩] none ⟨[], [], [], []⟩)
  (.seq (.seq (.reg 6 [.own (.var 5) 3 1] [
      ⟨(.t 32), .mv (.v 3), none⟩,
      ⟨(.t 33), .len (.t 32), none⟩,
      ⟨(.t 34), .mv (.c (.int .i64 0)), none⟩] none ⟨[], [], [], []⟩)
  (.block 0
    (.loop
      (.seq (.reg 7 [] [
          ⟨(.t 35), .bin .lss (.t 34) (.t 33), none⟩] none ⟨[], [], [], []⟩)
      (.seq (.cond (.t 35)
        .skip
        (.exit 0))
      (.seq (.block 1
        (.seq (.reg 8 [] [
            ⟨(.t 36), .ia 1 (.t 32) (.t 34), none⟩,
            ⟨(.t 37), .ld 1 false (.t 36), none⟩,
            ⟨(.v 6), .asg (.t 37), none⟩] none ⟨[], [], [], []⟩)
        (.seq (.reg 9 [.lend (.var 5) 44] [
            ⟨(.t 38), .mv (.v 5), none⟩,
            ⟨(.t 39), .mv (.v 6), none⟩,
            ⟨(.t 40), .mv (.v 0), none⟩,
            ⟨(.t 41), .bin .shl (.c (.int .i64 1)) (.t 40), none⟩,
            ⟨(.t 42), .bin .or (.t 39) (.t 41), none⟩,
            ⟨(.t 43), .bls 3 1 (.int .i64 0) 1 [(0, (.t 42))], none⟩,
            ⟨(.t 44), .app 3 1 8 (.t 38) (.t 43), none⟩,
            ⟨(.v 5), .asg (.t 44), none⟩] none ⟨[], [], [], []⟩)
        (.seq (.reg 10 [] [
            ⟨(.t 45), .mv (.v 4), none⟩,
            ⟨(.t 46), .len (.t 45), none⟩,
            ⟨(.t 47), .mv (.c (.int .i64 0)), none⟩] none ⟨[], [], [], []⟩)
        (.block 2
          (.loop
            (.seq (.reg 11 [] [
                ⟨(.t 48), .bin .lss (.t 47) (.t 46), none⟩] none ⟨[], [], [], []⟩)
            (.seq (.cond (.t 48)
              .skip
              (.exit 2))
            (.seq (.block 3
              (.seq (.reg 12 [] [
                  ⟨(.t 49), .ia 1 (.t 45) (.t 47), none⟩,
                  ⟨(.t 50), .ld 1 false (.t 49), none⟩,
                  ⟨(.v 7), .asg (.t 50), none⟩] none ⟨[], [], [], []⟩)
              (.reg 13 [.lend (.var 5) 56] [
                  ⟨(.t 51), .mv (.v 5), none⟩,
                  ⟨(.t 52), .mv (.v 6), none⟩,
                  ⟨(.t 53), .mv (.v 7), none⟩,
                  ⟨(.t 54), .bin .or (.t 52) (.t 53), none⟩,
                  ⟨(.t 55), .bls 3 1 (.int .i64 0) 1 [(0, (.t 54))], none⟩,
                  ⟨(.t 56), .app 3 1 8 (.t 51) (.t 55), none⟩,
                  ⟨(.v 5), .asg (.t 56), none⟩] none ⟨[], [], [], []⟩)))
            (.reg 14 [] [
                ⟨(.t 57), .bin .add (.t 47) (.c (.int .i64 1)), none⟩,
                ⟨(.t 47), .mv (.t 57), none⟩] none ⟨[], [], [], []⟩))))))))))
      (.reg 15 [] [
          ⟨(.t 58), .bin .add (.t 34) (.c (.int .i64 1)), none⟩,
          ⟨(.t 34), .mv (.t 58), none⟩] none ⟨[], [], [], []⟩)))))))
  (.seq (.seq (.reg 16 [] [
      ⟨(.t 59), .mv (.v 4), none⟩,
      ⟨(.t 60), .len (.t 59), none⟩,
      ⟨(.t 61), .mv (.c (.int .i64 0)), none⟩] none ⟨[], [], [], []⟩)
  (.block 4
    (.loop
      (.seq (.reg 17 [] [
          ⟨(.t 62), .bin .lss (.t 61) (.t 60), none⟩] none ⟨[], [], [], []⟩)
      (.seq (.cond (.t 62)
        .skip
        (.exit 4))
      (.seq (.block 5
        (.seq (.reg 18 [] [
            ⟨(.t 63), .ia 1 (.t 59) (.t 61), none⟩,
            ⟨(.t 64), .ld 1 false (.t 63), none⟩,
            ⟨(.v 8), .asg (.t 64), none⟩] none ⟨[], [], [], []⟩)
        (.reg 19 [.lend (.var 5) 71] [
            ⟨(.t 65), .mv (.v 5), none⟩,
            ⟨(.t 66), .mv (.v 8), none⟩,
            ⟨(.t 67), .mv (.v 0), none⟩,
            ⟨(.t 68), .bin .shl (.c (.int .i64 1)) (.t 67), none⟩,
            ⟨(.t 69), .bin .or (.t 66) (.t 68), none⟩,
            ⟨(.t 70), .bls 3 1 (.int .i64 0) 1 [(0, (.t 69))], none⟩,
            ⟨(.t 71), .app 3 1 8 (.t 65) (.t 70), none⟩,
            ⟨(.v 5), .asg (.t 71), none⟩] none ⟨[], [], [], []⟩)))
      (.reg 20 [] [
          ⟨(.t 72), .bin .add (.t 61) (.c (.int .i64 1)), none⟩,
          ⟨(.t 61), .mv (.t 72), none⟩] none ⟨[], [], [], []⟩)))))))
  (.seq (.reg 21 [.lend (.var 5) 73] [
      ⟨(.t 73), .mv (.v 5), none⟩,
      ⟨(.v 2), .asg (.t 73), none⟩] none ⟨[], [], [], []⟩)
  .ret))))))))
theorem c34 : compFn Try.prog 34 F34 = some (2, strip a34, [.v 2]) ∧ lexAll a34 = true := ⟨by kernel_rfl, by kernel_rfl⟩
/-- clusterlocks/clusterlocksref29.tree -/
def F35 : Fr := ⟨70, [0, 1, 4, 5, 6, 7, 9, 11, 13]⟩
def a35 : ACode :=
  (.seq (.reg 0 [] [
      ⟨(.v 2), .asg (.c (.slice none 0 0)), none⟩] none ⟨[], [], [], []⟩)
  (.seq (.seq (.reg 1 [] [
      ⟨(.t 14), .mv (.v 0), none⟩,
      ⟨(.t 15), .bin .mul (.c (.int .i64 2)) (.t 14), none⟩,
      ⟨(.t 16), .bin .add (.t 15) (.c (.int .i64 2)), none⟩,
      ⟨(.t 17), .mv (.v 1), none⟩,
      ⟨(.t 18), .bin .geq (.t 16) (.t 17), none⟩] none ⟨[], [], [], []⟩)
  (.cond (.t 18)
    (.seq (.reg 2 [] [
        ⟨(.t 19), .mv (.v 0), none⟩,
        ⟨(.t 20), .bin .shl (.c (.int .i64 1)) (.t 19), none⟩,
        ⟨(.t 21), .bls 3 1 (.int .i64 0) 1 [(0, (.t 20))], none⟩,
        ⟨(.v 2), .asg (.t 21), none⟩] none ⟨[], [], [], []⟩)
    .ret)
    .skip))
  (.seq (.reg 3 [] [
      ⟨(.t 22), .mv (.v 0), none⟩,
      ⟨(.t 23), .bin .mul (.c (.int .i64 2)) (.t 22), none⟩,
      ⟨(.t 24), .bin .add (.t 23) (.c (.int .i64 1)), none⟩,
      ⟨(.t 25), .mv (.v 1), none⟩,
      ⟨(.t 26), .call 35 [(.t 24), (.t 25)], none⟩,
      ⟨(.t 27), .mv (.v 0), none⟩,
      ⟨(.t 28), .bin .mul (.c (.int .i64 2)) (.t 27), none⟩,
      ⟨(.t 29), .bin .add (.t 28) (.c (.int .i64 2)), none⟩,
      ⟨(.t 30), .mv (.v 1), none⟩,
      ⟨(.t 31), .call 35 [(.t 29), (.t 30)], none⟩,
      ⟨(.v 3), .asg (.t 26), none⟩,
      ⟨(.v 4), .asg (.t 31), none⟩] none ⟨[], [], [], []⟩)
  (.seq (.reg 4 [] [
      ⟨(.v 5), .asg (.c (.slice none 0 0)), none⟩] none ⟨[], [], [], []⟩)
  (.seq (.seq (.reg 5 [.own (.var 5) 3 1] [
      ⟨(.t 32), .mv (.v 3), none⟩,
      ⟨(.t 33), .app 3 1 8 (.c (.slice none 0 0)) (.t 32), none⟩,
      ⟨(.t 34), .mv (.v 4), none⟩,
      ⟨(.t 35), .app 3 1 8 (.t 33) (.t 34), none⟩,
      ⟨(.t 36), .len (.t 35), none⟩,
      ⟨(.t 37), .mv (.c (.int .i64 0)), none⟩] none ⟨[], [], [], []⟩)
  (.block 0
    (.loop
      (.seq (.reg 6 [] [
          ⟨(.t 38), .bin .lss (.t 37) (.t 36), none⟩] none ⟨[], [], [], []⟩)
      (.seq (.cond (.t 38)
        .skip
        (.exit 0))
      (.seq (.block 1
        (.seq (.reg 7 [] [
            ⟨(.t 39), .ia 1 (.t 35) (.t 37), none⟩,
            ⟨(.t 40), .ld 1 false (.t 39), none⟩,
            ⟨(.v 6), .asg (.t 40), none⟩] none ⟨[], [], [], []⟩)
        (.reg 8 [.lend (.var 5) 47] [
            ⟨(.t 41), .mv (.v 5), none⟩,
            ⟨(.t 42), .mv (.v 6), none⟩,
            ⟨(.t 43), .mv (.v 0), none⟩,
            ⟨(.t 44), .bin .shl (.c (.int .i64 1)) (.t 43), none⟩,
            ⟨(.t 45), .bin .or (.t 42) (.t 44), none⟩,
            ⟨(.t 46), .bls 3 1 (.int .i64 0) 1 [(0, (.t 45))], none⟩,
            ⟨(.t 47), .app 3 1 8 (.t 41) (.t 46), none⟩,
            ⟨(.v 5), .asg (.t 47), none⟩] none ⟨[], [], [], []⟩)))
      (.reg 9 [] [
          ⟨(.t 48), .bin .add (.t 37) (.c (.int .i64 1)), none⟩,
          ⟨(.t 37), .mv (.t 48), none⟩] none ⟨[], [], [], []⟩)))))))
  (.seq (.seq (.reg 10 [] [
      ⟨(.t 49), .mv (.v 3), none⟩,
      ⟨(.t 50), .len (.t 49), none⟩,
      ⟨(.t 51), .mv (.c (.int .i64 0)), none⟩] none ⟨[], [], [], []⟩)
  (.block 2
    (.loop
      (.seq (.reg 11 [] [
          ⟨(.t 52), .bin .lss (.t 51) (.t 50), none⟩] none ⟨[], [], [], []⟩)
      (.seq (.cond (.t 52)
        .skip
        (.exit 2))
      (.seq (.block 3
        (.seq (.reg 12 [] [
            ⟨(.t 53), .ia 1 (.t 49) (.t 51), none⟩,
            ⟨(.t 54), .ld 1 false (.t 53), none⟩,
            ⟨(.v 7), .asg (.t 54), none⟩] none ⟨[], [], [], []⟩)
        (.seq (.reg 13 [] [
            ⟨(.t 55), .mv (.v 4), none⟩,
            ⟨(.t 56), .len (.t 55), none⟩,
            ⟨(.t 57), .mv (.c (.int .i64 0)), none⟩] none ⟨[], [], [], []⟩)
        (.block 4
          (.loop
            (.seq (.reg 14 [] [
                ⟨(.t 58), .bin .lss (.t 57) (.t 56), none⟩] none ⟨[], [], [], []⟩)
            (.seq (.cond (.t 58)
              .skip
              (.exit 4))
            (.seq (.block 5
              (.seq (.reg 15 [] [
                  ⟨(.t 59), .ia 1 (.t 55) (.t 57), none⟩,
                  ⟨(.t 60), .ld 1 false (.t 59), none⟩,
                  ⟨(.v 8), .asg (.t 60), none⟩] none ⟨[], [], [], []⟩)
              (.reg 16 [.lend (.var 5) 66] [
                  ⟨(.t 61), .mv (.v 5), none⟩,
                  ⟨(.t 62), .mv (.v 7), none⟩,
                  ⟨(.t 63), .mv (.v 8), none⟩,
                  ⟨(.t 64), .bin .or (.t 62) (.t 63), none⟩,
                  ⟨(.t 65), .bls 3 1 (.int .i64 0) 1 [(0, (.t 64))], none⟩,
                  ⟨(.t 66), .app 3 1 8 (.t 61) (.t 65), none⟩,
                  ⟨(.v 5), .asg (.t 66), none⟩] none ⟨[], [], [], []⟩)))
            (.reg 17 [] [
                ⟨(.t 67), .bin .add (.t 57) (.c (.int .i64 1)), none⟩,
                ⟨(.t 57), .mv (.t 67), none⟩] none ⟨[], [], [], []⟩)))))))))
      (.reg 18 [] [
          ⟨(.t 68), .bin .add (.t 51) (.c (.int .i64 1)), none⟩,
          ⟨(.t 51), .mv (.t 68), none⟩] none ⟨[], [], [], []⟩)))))))
  (.seq (.reg 19 [.lend (.var 5) 69] [
      ⟨(.t 69), .mv (.v 5), none⟩,
      ⟨(.v 2), .asg (.t 69), none⟩] none ⟨[], [], [], []⟩)
  .ret)))))))
theorem c35 : compFn Try.prog 35 F35 = some (2, strip a35, [.v 2]) ∧ lexAll a35 = true := ⟨by kernel_rfl, by kernel_rfl⟩
/-- clusterlocks/coterie.isSet -/
def F36 : Fr := ⟨13, [0, 1, 4]⟩
def a36 : ACode :=
  (.seq (.reg 0 [] [
      ⟨(.v 2), .asg (.c (.bool false)), none⟩] none ⟨[], [], [], []⟩)
  (.seq (.reg 1 [] [
      ⟨(.t 5), .mv (.v 0), none⟩,
      ⟨(.t 6), .bin .geq (.t 5) (.c (.int .i64 1)), none⟩,
      ⟨(.t 7), .mv (.t 6), none⟩,
      ⟨(.t 8), .mv (.v 0), some (7, true)⟩,
      ⟨(.t 9), .mv (.v 1), some (7, true)⟩,
      ⟨(.t 10), .bin .shl (.c (.int .i64 1)) (.t 9), some (7, true)⟩,
      ⟨(.t 11), .bin .lss (.t 8) (.t 10), some (7, true)⟩,
      ⟨(.t 12), .pick (.t 7) (.t 11) (.c (.bool false)), none⟩,
      ⟨(.v 2), .asg (.t 12), none⟩] none ⟨[], [], [], []⟩)
  .ret))
theorem c36 : compFn Try.prog 36 F36 = some (2, strip a36, [.v 2]) ∧ lexAll a36 = true := ⟨by kernel_rfl, by kernel_rfl⟩
/-- clusterlocks/coterie.Reduce$1 -/
def F37 : Fr := ⟨7, [0, 1, 3]⟩
def a37 : ACode :=
  (.seq (.reg 0 [] [
      ⟨(.v 2), .asg (.c (.bool false)), none⟩] none ⟨[], [], [], []⟩)
  (.seq (.reg 1 [] [
      ⟨(.t 4), .mv (.v 0), none⟩,
      ⟨(.t 5), .iaa 1 512 (.v 1) (.t 4), none⟩,
      ⟨(.t 6), .ld 1 false (.t 5), none⟩,
      ⟨(.v 2), .asg (.t 6), none⟩] none ⟨[], [], [], []⟩)
  .ret))
theorem c37 : compFn Try.prog 37 F37 = some (2, strip a37, [.v 2]) ∧ lexAll a37 = true := ⟨by kernel_rfl, by kernel_rfl⟩
/-- clusterlocks/coterie.meet -/
def F38 : Fr := ⟨18, [0, 1, 4, 6]⟩
def a38 : ACode :=
  (.seq (.reg 0 [] [
      ⟨(.v 2), .asg (.c (.bool false)), none⟩] none ⟨[], [], [], []⟩)
  (.seq (.seq (.reg 1 [] [
      ⟨(.t 7), .mv (.v 1), none⟩,
      ⟨(.t 8), .len (.t 7), none⟩,
      ⟨(.t 9), .mv (.c (.int .i64 0)), none⟩] none ⟨[], [], [], []⟩)
  (.block 0
    (.loop
      (.seq (.reg 2 [] [
          ⟨(.t 10), .bin .lss (.t 9) (.t 8), none⟩] none ⟨[], [], [], []⟩)
      (.seq (.cond (.t 10)
        .skip
        (.exit 0))
      (.seq (.block 1
        (.seq (.reg 3 [] [
            ⟨(.t 11), .ia 1 (.t 7) (.t 9), none⟩,
            ⟨(.t 12), .ld 1 false (.t 11), none⟩,
            ⟨(.v 3), .asg (.t 12), none⟩] none ⟨[], [], [], []⟩)
        (.seq (.reg 4 [] [
            ⟨(.t 13), .mv (.v 0), none⟩,
            ⟨(.t 14), .mv (.v 3), none⟩,
            ⟨(.t 15), .bin .and (.t 13) (.t 14), none⟩,
            ⟨(.t 16), .bin .eql (.t 15) (.c (.int .i64 0)), none⟩] none ⟨[], [], [], []⟩)
        (.cond (.t 16)
          (.seq (.reg 5 [] [
              ⟨(.v 2), .asg (.c (.bool false)), none⟩] none ⟨[], [], [], []⟩)
          .ret)
          .skip))))
      (.reg 6 [] [
          ⟨(.t 17), .bin .add (.t 9) (.c (.int .i64 1)), none⟩,
          ⟨(.t 9), .mv (.t 17), none⟩] none ⟨[], [], [], []⟩)))))))
  (.seq (.reg 7 [] [
      ⟨(.v 2), .asg (.c (.bool true)), none⟩] none ⟨[], [], [], []⟩)
  .ret)))
theorem c38 : compFn Try.prog 38 F38 = some (2, strip a38, [.v 2]) ∧ lexAll a38 = true := ⟨by kernel_rfl, by kernel_rfl⟩
/-- clusterlocks/coterie.filter[int] -/
def F39 : Fr := ⟨23, [0, 1, 4, 5, 7]⟩
def a39 : ACode :=
  (.seq (.reg 0 [] [
      ⟨(.v 2), .asg (.c (.slice none 0 0)), none⟩] none ⟨[], [], [], []⟩)
  (.seq (.reg 1 [] [
      ⟨(.v 3), .asg (.c (.slice none 0 0)), none⟩] none ⟨[], [], [], []⟩)
  (.seq (.seq (.reg 2 [.own (.var 3) 3 1] [
      ⟨(.t 8), .mv (.v 0), none⟩,
      ⟨(.t 9), .len (.t 8), none⟩,
      ⟨(.t 10), .mv (.c (.int .i64 0)), none⟩] none ⟨[], [], [], []⟩)
  (.block 0
    (.loop
      (.seq (.reg 3 [] [
          ⟨(.t 11), .bin .lss (.t 10) (.t 9), none⟩] none ⟨[], [], [], []⟩)
      (.seq (.cond (.t 11)
        .skip
        (.exit 0))
      (.seq (.block 1
        (.seq (.reg 4 [] [
            ⟨(.t 12), .ia 1 (.t 8) (.t 10), none⟩,
            ⟨(.t 13), .ld 1 false (.t 12), none⟩,
            ⟨(.v 4), .asg (.t 13), none⟩] none ⟨[], [], [], []⟩)
        (.seq (.reg 5 [] [
            ⟨(.t 14), .mv (.v 1), none⟩,
            ⟨(.t 15), .mv (.v 4), none⟩,
            ⟨(.t 16), .callv 14 [(.t 15)], none⟩] none ⟨[], [], [], []⟩)
        (.cond (.t 16)
          (.reg 6 [.lend (.var 3) 20] [
              ⟨(.t 17), .mv (.v 3), none⟩,
              ⟨(.t 18), .mv (.v 4), none⟩,
              ⟨(.t 19), .bls 3 1 (.int .i64 0) 1 [(0, (.t 18))], none⟩,
              ⟨(.t 20), .app 3 1 8 (.t 17) (.t 19), none⟩,
              ⟨(.v 3), .asg (.t 20), none⟩] none ⟨[], [], [], []⟩)
          .skip))))
      (.reg 7 [] [
          ⟨(.t 21), .bin .add (.t 10) (.c (.int .i64 1)), none⟩,
          ⟨(.t 10), .mv (.t 21), none⟩] none ⟨[], [], [], []⟩)))))))
  (.seq (.reg 8 [.freeze (.var 3)] [
      ⟨(.t 22), .mv (.v 3), none⟩,
      ⟨(.v 2), .asg (.t 22), none⟩] none ⟨[], [], [], []⟩)
  .ret))))
theorem c39 : compFn Try.prog 39 F39 = some (2, strip a39, [.v 2]) ∧ lexAll a39 = true := ⟨by kernel_rfl, by kernel_rfl⟩
/-- clusterlocks/coterie.Reduce$2 -/
def F40 : Fr := ⟨7, [0, 1, 3]⟩
def a40 : ACode :=
  (.seq (.reg 0 [] [
      ⟨(.v 2), .asg (.c (.bool false)), none⟩] none ⟨[], [], [], []⟩)
  (.seq (.reg 1 [] [
      ⟨(.t 4), .mv (.v 0), none⟩,
      ⟨(.t 5), .ld 1 false (.v 1), none⟩,
      ⟨(.t 6), .call 41 [(.t 4), (.t 5)], none⟩,
      ⟨(.v 2), .asg (.t 6), none⟩] none ⟨[], [], [], []⟩)
  .ret))
theorem c40 : compFn Try.prog 40 F40 = some (2, strip a40, [.v 2]) ∧ lexAll a40 = true := ⟨by kernel_rfl, by kernel_rfl⟩
/-- clusterlocks/coterie.minimal -/
def F41 : Fr := ⟨24, [0, 1, 4, 6]⟩
def a41 : ACode :=
  (.seq (.reg 0 [] [
      ⟨(.v 2), .asg (.c (.bool false)), none⟩] none ⟨[], [], [], []⟩)
  (.seq (.seq (.reg 1 [] [
      ⟨(.t 7), .mv (.v 1), none⟩,
      ⟨(.t 8), .len (.t 7), none⟩,
      ⟨(.t 9), .mv (.c (.int .i64 0)), none⟩] none ⟨[], [], [], []⟩)
  (.block 0
    (.loop
      (.seq (.reg 2 [] [
          ⟨(.t 10), .bin .lss (.t 9) (.t 8), none⟩] none ⟨[], [], [], []⟩)
      (.seq (.cond (.t 10)
        .skip
        (.exit 0))
      (.seq (.block 1
        (.seq (.reg 3 [] [
            ⟨(.t 11), .ia 1 (.t 7) (.t 9), none⟩,
            ⟨(.t 12), .ld 1 false (.t 11), none⟩,
            ⟨(.v 3), .asg (.t 12), none⟩] none ⟨[], [], [], []⟩)
        (.seq (.reg 4 [] [
            ⟨(.t 13), .mv (.v 3), none⟩,
            ⟨(.t 14), .mv (.v 0), none⟩,
            ⟨(.t 15), .bin .neq (.t 13) (.t 14), none⟩,
            ⟨(.t 16), .mv (.t 15), none⟩,
            ⟨(.t 17), .mv (.v 0), some (16, true)⟩,
            ⟨(.t 18), .mv (.v 3), some (16, true)⟩,
            ⟨(.t 19), .bin .and (.t 17) (.t 18), some (16, true)⟩,
            ⟨(.t 20), .mv (.v 3), some (16, true)⟩,
            ⟨(.t 21), .bin .eql (.t 19) (.t 20), some (16, true)⟩,
            ⟨(.t 22), .pick (.t 16) (.t 21) (.c (.bool false)), none⟩] none ⟨[], [], [], []⟩)
        (.cond (.t 22)
          (.seq (.reg 5 [] [
              ⟨(.v 2), .asg (.c (.bool false)), none⟩] none ⟨[], [], [], []⟩)
          .ret)
          .skip))))
      (.reg 6 [] [
          ⟨(.t 23), .bin .add (.t 9) (.c (.int .i64 1)), none⟩,
          ⟨(.t 9), .mv (.t 23), none⟩] none ⟨[], [], [], []⟩)))))))
  (.seq (.reg 7 [] [
      ⟨(.v 2), .asg (.c (.bool true)), none⟩] none ⟨[], [], [], []⟩)
  .ret)))
theorem c41 : compFn Try.prog 41 F41 = some (2, strip a41, [.v 2]) ∧ lexAll a41 = true := ⟨by kernel_rfl, by kernel_rfl⟩
/-- clusterlocks/clusterlocksref29.minimal -/
def F42 : Fr := ⟨51, [0, 1, 4, 5, 6, 7, 8, 10]⟩
def a42 : ACode :=
  (.seq (.reg 0 [] [
      ⟨(.v 2), .asg (.c (.slice none 0 0)), none⟩] none ⟨[], [], [], []⟩)
  (.seq (.reg 1 [] [
      ⟨(.v 3), .asg (.c (.slice none 0 0)), none⟩] none ⟨[], [], [], []⟩)
  (.seq (.seq (.reg 2 [.own (.var 3) 3 1] [
      ⟨(.v 4), .asg (.c (.int .i64 0)), none⟩] none ⟨[], [], [], []⟩)
  (.block 0
    (.loop
      (.seq (.seq (.reg 3 [] [
          ⟨(.t 11), .mv (.v 4), none⟩,
          ⟨(.t 12), .mv (.v 0), none⟩,
          ⟨(.t 13), .bin .shl (.c (.int .i64 1)) (.t 12), none⟩,
          ⟨(.t 14), .bin .lss (.t 11) (.t 13), none⟩] none ⟨[], [], [], []⟩)
      (.cond (.t 14)
        .skip
        (.exit 0)))
      (.seq (.block 1
        (.seq (.reg 5 [] [
            ⟨(.v 5), .asg (.c (.bool false)), none⟩,
            ⟨(.v 6), .asg (.c (.bool true)), none⟩] none ⟨[], [], [], []⟩)
        (.seq (.seq (.reg 6 [] [
            ⟨(.t 17), .mv (.v 1), none⟩,
            ⟨(.t 18), .len (.t 17), none⟩,
            ⟨(.t 19), .mv (.c (.int .i64 0)), none⟩] none ⟨[], [], [], []⟩)
        (.block 2
          (.loop
            (.seq (.reg 7 [] [
                ⟨(.t 20), .bin .lss (.t 19) (.t 18), none⟩] none ⟨[], [], [], []⟩)
            (.seq (.cond (.t 20)
              .skip
              (.exit 2))
            (.seq (.block 3
              (.seq (.reg 8 [] [
                  ⟨(.t 21), .ia 1 (.t 17) (.t 19), none⟩,
                  ⟨(.t 22), .ld 1 false (.t 21), none⟩,
                  ⟨(.v 7), .asg (.t 22), none⟩] none ⟨[], [], [], []⟩)
              (.seq (.reg 9 [] [
                  ⟨(.t 23), .mv (.v 5), none⟩,
                  ⟨(.t 24), .mv (.t 23), none⟩,
                  ⟨(.t 25), .mv (.v 7), some (24, false)⟩,
                  ⟨(.t 26), .mv (.v 4), some (24, false)⟩,
                  ⟨(.t 27), .bin .eql (.t 25) (.t 26), some (24, false)⟩,
                  ⟨(.t 28), .pick (.t 24) (.c (.bool true)) (.t 27), none⟩,
                  ⟨(.v 5), .asg (.t 28), none⟩] none ⟨[], [], [], []⟩)
              (.reg 10 [] [
                  ⟨(.t 29), .mv (.v 6), none⟩,
                  ⟨(.t 30), .mv (.t 29), none⟩,
                  ⟨(.t 31), .mv (.v 7), some (30, true)⟩,
                  ⟨(.t 32), .mv (.v 4), some (30, true)⟩,
                  ⟨(.t 33), .bin .eql (.t 31) (.t 32), some (30, true)⟩,
                  ⟨(.t 34), .mv (.t 33), some (30, true)⟩,
                  ⟨(.t 35), .mv (.v 7), some (34, false)⟩,
                  ⟨(.t 36), .mv (.v 4), some (34, false)⟩,
                  ⟨(.t 37), .call 44 [(.t 35), (.t 36)], some (34, false)⟩,
                  ⟨(.t 38), .un .not (.t 37), some (34, false)⟩,
                  ⟨(.t 39), .pick (.t 34) (.c (.bool true)) (.t 38), some (30, true)⟩,
                  ⟨(.t 40), .pick (.t 30) (.t 39) (.c (.bool false)), none⟩,
                  ⟨(.v 6), .asg (.t 40), none⟩] none ⟨[], [], [], []⟩))))
            (.reg 11 [] [
                ⟨(.t 41), .bin .add (.t 19) (.c (.int .i64 1)), none⟩,
                ⟨(.t 19), .mv (.t 41), none⟩] none ⟨[], [], [], []⟩)))))))
        (.seq (.reg 12 [] [
            ⟨(.t 42), .mv (.v 5), none⟩,
            ⟨(.t 43), .mv (.t 42), none⟩,
            ⟨(.t 44), .mv (.v 6), some (43, true)⟩,
            ⟨(.t 45), .pick (.t 43) (.t 44) (.c (.bool false)), none⟩] none ⟨[], [], [], []⟩)
        (.cond (.t 45)
          (.reg 13 [.lend (.var 3) 49] [
              ⟨(.t 46), .mv (.v 3), none⟩,
              ⟨(.t 47), .mv (.v 4), none⟩,
              ⟨(.t 48), .bls 3 1 (.int .i64 0) 1 [(0, (.t 47))], none⟩,
              ⟨(.t 49), .app 3 1 8 (.t 46) (.t 48), none⟩,
              ⟨(.v 3), .asg (.t 49), none⟩] none ⟨[], [], [], []⟩)
          .skip)))))
      (.reg 4 [] [
          ⟨(.t 15), .mv (.v 4), none⟩,
          ⟨(.t 16), .bin .add (.t 15) (.c (.int .i64 1)), none⟩,
          ⟨(.v 4), .asg (.t 16), none⟩] none ⟨[], [], [], []⟩))))))
  (.seq (.reg 14 [.lend (.var 3) 50] [
      ⟨(.t 50), .mv (.v 3), none⟩,
      ⟨(.v 2), .asg (.t 50), none⟩] none ⟨[], [], [], []⟩)
  .ret))))
theorem c42 : compFn Try.prog 42 F42 = some (2, strip a42, [.v 2]) ∧ lexAll a42 = true := ⟨by kernel_rfl, by kernel_rfl⟩
/-- clusterlocks/clusterlocksref29.coterie -/
def F43 : Fr := ⟨63, [0, 2, 3, 4, 6]⟩
def a43 : ACode :=
  (.seq (.reg 0 [] [
      ⟨(.t 1), .box 2 (.v 0), none⟩,
      ⟨(.v 1), .asg (.c (.bool false)), none⟩] none ⟨[], [], [], []⟩)
  (.seq (.seq (.reg 1 [] [
      ⟨(.t 7), .fa 1 (.t 1), none⟩,
      ⟨(.t 8), .ld 1 false (.t 7), none⟩,
      ⟨(.t 9), .len (.t 8), none⟩,
      ⟨(.t 10), .mv (.c (.int .i64 0)), none⟩] none ⟨[], [], [], []⟩)
  (.block 0
    (.loop
      (.seq (.reg 2 [] [
          ⟨(.t 11), .bin .lss (.t 10) (.t 9), none⟩] none ⟨[], [], [], []⟩)
      (.seq (.cond (.t 11)
        .skip
        (.exit 0))
      (.seq (.block 1
        (.seq (.reg 3 [] [
            ⟨(.t 12), .mv (.t 10), none⟩,
            ⟨(.t 13), .ia 1 (.t 8) (.t 10), none⟩,
            ⟨(.t 14), .ld 1 false (.t 13), none⟩,
            ⟨(.v 2), .asg (.t 12), none⟩,
            ⟨(.v 3), .asg (.t 14), none⟩] none ⟨[], [], [], []⟩)
        (.seq (.seq (.reg 4 [] [
            ⟨(.t 15), .mv (.v 3), none⟩,
            ⟨(.t 16), .bin .lss (.t 15) (.c (.int .i64 1)), none⟩,
            ⟨(.t 17), .mv (.t 16), none⟩,
            ⟨(.t 18), .mv (.v 3), some (17, false)⟩,
            ⟨(.t 19), .fa 0 (.t 1), some (17, false)⟩,
            ⟨(.t 20), .ld 1 false (.t 19), some (17, false)⟩,
            ⟨(.t 21), .bin .shl (.c (.int .i64 1)) (.t 20), some (17, false)⟩,
            ⟨(.t 22), .bin .geq (.t 18) (.t 21), some (17, false)⟩,
            ⟨(.t 23), .pick (.t 17) (.c (.bool true)) (.t 22), none⟩,
            ⟨(.t 24), .mv (.t 23), none⟩,
            ⟨(.t 25), .mv (.v 2), some (24, false)⟩,
            ⟨(.t 26), .bin .gtr (.t 25) (.c (.int .i64 0)), some (24, false)⟩,
            ⟨(.t 27), .mv (.t 26), some (24, false)⟩,
            ⟨(.t 28), .mv (.v 3), some (27, true)⟩,
            ⟨(.t 29), .fa 1 (.t 1), some (27, true)⟩,
            ⟨(.t 30), .ld 1 false (.t 29), some (27, true)⟩,
            ⟨(.t 31), .mv (.v 2), some (27, true)⟩,
            ⟨(.t 32), .bin .sub (.t 31) (.c (.int .i64 1)), some (27, true)⟩,
            ⟨(.t 33), .ia 1 (.t 30) (.t 32), some (27, true)⟩,
            ⟨(.t 34), .ld 1 false (.t 33), some (27, true)⟩,
            ⟨(.t 35), .bin .leq (.t 28) (.t 34), some (27, true)⟩,
            ⟨(.t 36), .pick (.t 27) (.t 35) (.c (.bool false)), some (24, false)⟩,
            ⟨(.t 37), .pick (.t 24) (.c (.bool true)) (.t 36), none⟩] none ⟨[], [], [], []⟩)
        (.cond (.t 37)
          (.seq (.reg 5 [] [
              ⟨(.v 1), .asg (.c (.bool false)), none⟩] none ⟨[], [], [], []⟩)
          .ret)
          .skip))
        (.seq (.reg 6 [] [
            ⟨(.t 38), .fa 1 (.t 1), none⟩,
            ⟨(.t 39), .ld 1 false (.t 38), none⟩,
            ⟨(.t 40), .mv (.v 2), none⟩,
            ⟨(.t 41), .sl 3 1 (.t 39) none (some (.t 40)) none, none⟩,
            ⟨(.t 42), .len (.t 41), none⟩,
            ⟨(.t 43), .mv (.c (.int .i64 0)), none⟩] none ⟨[], [], [], []⟩)
        (.block 2
          (.loop
            (.seq (.reg 7 [] [
                ⟨(.t 44), .bin .lss (.t 43) (.t 42), none⟩] none ⟨[], [], [], []⟩)
            (.seq (.cond (.t 44)
              .skip
              (.exit 2))
            (.seq (.block 3
              (.seq (.reg 8 [] [
                  ⟨(.t 45), .ia 1 (.t 41) (.t 43), none⟩,
                  ⟨(.t 46), .ld 1 false (.t 45), none⟩,
                  ⟨(.v 4), .asg (.t 46), none⟩] none ⟨[], [], [], []⟩)
              (.seq (.reg 9 [] [
                  ⟨(.t 47), .mv (.v 4), none⟩,
                  ⟨(.t 48), .mv (.v 3), none⟩,
                  ⟨(.t 49), .bin .and (.t 47) (.t 48), none⟩,
                  ⟨(.t 50), .bin .eql (.t 49) (.c (.int .i64 0)), none⟩,
                  ⟨(.t 51), .mv (.t 50), none⟩,
                  ⟨(.t 52), .mv (.v 4), some (51, false)⟩,
                  ⟨(.t 53), .mv (.v 3), some (51, false)⟩,
                  ⟨(.t 54), .call 44 [(.t 52), (.t 53)], some (51, false)⟩,
                  ⟨(.t 55), .pick (.t 51) (.c (.bool true)) (.t 54), none⟩,
                  ⟨(.t 56), .mv (.t 55), none⟩,
                  ⟨(.t 57), .mv (.v 3), some (56, false)⟩,
                  ⟨(.t 58), .mv (.v 4), some (56, false)⟩,
                  ⟨(.t 59), .call 44 [(.t 57), (.t 58)], some (56, false)⟩,
                  ⟨(.t 60), .pick (.t 56) (.c (.bool true)) (.t 59), none⟩] none ⟨[], [], [], []⟩)
              (.cond (.t 60)
                (.seq (.reg 10 [] [
                    ⟨(.v 1), .asg (.c (.bool false)), none⟩] none ⟨[], [], [], []⟩)
                .ret)
                .skip))))
            (.reg 11 [] [
                ⟨(.t 61), .bin .add (.t 43) (.c (.int .i64 1)), none⟩,
                ⟨(.t 43), .mv (.t 61), none⟩] none ⟨[], [], [], []⟩))))))))))
      (.reg 12 [] [
          ⟨(.t 62), .bin .add (.t 10) (.c (.int .i64 1)), none⟩,
          ⟨(.t 10), .mv (.t 62), none⟩] none ⟨[], [], [], []⟩)))))))
  (.seq (.reg 13 [] [
      ⟨(.v 1), .asg (.c (.bool true)), none⟩] none ⟨[], [], [], []⟩)
  .ret)))
theorem c43 : compFn Try.prog 43 F43 = some (1, strip a43, [.v 1]) ∧ lexAll a43 = true := ⟨by kernel_rfl, by kernel_rfl⟩
/-- clusterlocks/clusterlocksref29.inside -/
def F44 : Fr := ⟨10, [0, 1, 4]⟩
def a44 : ACode :=
  (.seq (.reg 0 [] [
      ⟨(.v 2), .asg (.c (.bool false)), none⟩] none ⟨[], [], [], []⟩)
  (.seq (.reg 1 [] [
      ⟨(.t 5), .mv (.v 0), none⟩,
      ⟨(.t 6), .mv (.v 1), none⟩,
      ⟨(.t 7), .bin .and (.t 5) (.t 6), none⟩,
      ⟨(.t 8), .mv (.v 0), none⟩,
      ⟨(.t 9), .bin .eql (.t 7) (.t 8), none⟩,
      ⟨(.v 2), .asg (.t 9), none⟩] none ⟨[], [], [], []⟩)
  .ret))
theorem c44 : compFn Try.prog 44 F44 = some (2, strip a44, [.v 2]) ∧ lexAll a44 = true := ⟨by kernel_rfl, by kernel_rfl⟩
/-- clusterlocks/coterie.Transversals$1 -/
def F45 : Fr := ⟨8, [0, 1, 3]⟩
def a45 : ACode :=
  (.seq (.reg 0 [] [
      ⟨(.v 2), .asg (.c (.bool false)), none⟩] none ⟨[], [], [], []⟩)
  (.seq (.reg 1 [] [
      ⟨(.t 4), .mv (.v 0), none⟩,
      ⟨(.t 5), .fa 1 (.v 1), none⟩,
      ⟨(.t 6), .ld 1 false (.t 5), none⟩,
      ⟨(.t 7), .call 38 [(.t 4), (.t 6)], none⟩,
      ⟨(.v 2), .asg (.t 7), none⟩] none ⟨[], [], [], []⟩)
  .ret))
theorem c45 : compFn Try.prog 45 F45 = some (2, strip a45, [.v 2]) ∧ lexAll a45 = true := ⟨by kernel_rfl, by kernel_rfl⟩
/-- clusterlocks/coterie.Transversals$2 -/
def F46 : Fr := ⟨7, [0, 1, 3]⟩
def a46 : ACode :=
  (.seq (.reg 0 [] [
      ⟨(.v 2), .asg (.c (.bool false)), none⟩] none ⟨[], [], [], []⟩)
  (.seq (.reg 1 [] [
      ⟨(.t 4), .mv (.v 0), none⟩,
      ⟨(.t 5), .ld 1 false (.v 1), none⟩,
      ⟨(.t 6), .call 41 [(.t 4), (.t 5)], none⟩,
      ⟨(.v 2), .asg (.t 6), none⟩] none ⟨[], [], [], []⟩)
  .ret))
theorem c46 : compFn Try.prog 46 F46 = some (2, strip a46, [.v 2]) ∧ lexAll a46 = true := ⟨by kernel_rfl, by kernel_rfl⟩
/-- slices.Equal[[]int,int] -/
def F47 : Fr := ⟨26, [0, 1, 4, 5]⟩
def a47 : ACode :=
  (.seq (.reg 0 [] [
      ⟨(.v 2), .asg (.c (.bool false)), none⟩] none ⟨[], [], [], []⟩)
  (.seq (.seq (.reg 1 [] [
      ⟨(.t 6), .mv (.v 0), none⟩,
      ⟨(.t 7), .len (.t 6), none⟩,
      ⟨(.t 8), .mv (.v 1), none⟩,
      ⟨(.t 9), .len (.t 8), none⟩,
      ⟨(.t 10), .bin .neq (.t 7) (.t 9), none⟩] none ⟨[], [], [], []⟩)
  (.cond (.t 10)
    (.seq (.reg 2 [] [
        ⟨(.v 2), .asg (.c (.bool false)), none⟩] none ⟨[], [], [], []⟩)
    .ret)
    .skip))
  (.seq (.seq (.reg 3 [] [
      ⟨(.t 11), .mv (.v 0), none⟩,
      ⟨(.t 12), .len (.t 11), none⟩,
      ⟨(.t 13), .mv (.c (.int .i64 0)), none⟩] none ⟨[], [], [], []⟩)
  (.block 0
    (.loop
      (.seq (.reg 4 [] [
          ⟨(.t 14), .bin .lss (.t 13) (.t 12), none⟩] none ⟨[], [], [], []⟩)
      (.seq (.cond (.t 14)
        .skip
        (.exit 0))
      (.seq (.block 1
        (.seq (.reg 5 [] [
            ⟨(.t 15), .mv (.t 13), none⟩,
            ⟨(.v 3), .asg (.t 15), none⟩] none ⟨[], [], [], []⟩)
        (.seq (.reg 6 [] [
            ⟨(.t 16), .mv (.v 0), none⟩,
            ⟨(.t 17), .mv (.v 3), none⟩,
            ⟨(.t 18), .ia 1 (.t 16) (.t 17), none⟩,
            ⟨(.t 19), .ld 1 false (.t 18), none⟩,
            ⟨(.t 20), .mv (.v 1), none⟩,
            ⟨(.t 21), .mv (.v 3), none⟩,
            ⟨(.t 22), .ia 1 (.t 20) (.t 21), none⟩,
            ⟨(.t 23), .ld 1 false (.t 22), none⟩,
            ⟨(.t 24), .bin .neq (.t 19) (.t 23), none⟩] (some [[], [], [0, 1], [2], [], [], [4, 5], [6], [3, 7]]) ⟨[], [], [], []⟩)
        (.cond (.t 24)
          (.seq (.reg 7 [] [
              ⟨(.v 2), .asg (.c (.bool false)), none⟩] none ⟨[], [], [], []⟩)
          .ret)
          .skip))))
      (.reg 8 [] [
          ⟨(.t 25), .bin .add (.t 13) (.c (.int .i64 1)), none⟩,
          ⟨(.t 13), .mv (.t 25), none⟩] none ⟨[], [], [], []⟩)))))))
  (.seq (.reg 9 [] [
      ⟨(.v 2), .asg (.c (.bool true)), none⟩] none ⟨[], [], [], []⟩)
  .ret))))
theorem c47 : compFn Try.prog 47 F47 = some (2, strip a47, [.v 2]) ∧ lexAll a47 = true := ⟨by kernel_rfl, by kernel_rfl⟩
/-- math/bits.OnesCount64 -/
def F49 : Fr := ⟨35, [0, 2]⟩
def a49 : ACode :=
  (.seq (.reg 0 [] [
      ⟨(.v 1), .asg (.c (.int .i64 0)), none⟩] none ⟨[], [], [], []⟩)
  (.seq (.reg 1 [] [
      ⟨(.t 3), .mv (.v 0), none⟩,
      ⟨(.t 4), .bin .shr (.t 3) (.c (.int .u64 1)), none⟩,
      ⟨(.t 5), .bin .and (.t 4) (.c (.int .u64 6148914691236517205)), none⟩,
      ⟨(.t 6), .mv (.v 0), none⟩,
      ⟨(.t 7), .bin .and (.t 6) (.c (.int .u64 6148914691236517205)), none⟩,
      ⟨(.t 8), .bin .add (.t 5) (.t 7), none⟩,
      ⟨(.v 0), .asg (.t 8), none⟩] none ⟨[], [], [], []⟩)
  (.seq (.reg 2 [] [
      ⟨(.t 9), .mv (.v 0), none⟩,
      ⟨(.t 10), .bin .shr (.t 9) (.c (.int .u64 2)), none⟩,
      ⟨(.t 11), .bin .and (.t 10) (.c (.int .u64 3689348814741910323)), none⟩,
      ⟨(.t 12), .mv (.v 0), none⟩,
      ⟨(.t 13), .bin .and (.t 12) (.c (.int .u64 3689348814741910323)), none⟩,
      ⟨(.t 14), .bin .add (.t 11) (.t 13), none⟩,
      ⟨(.v 0), .asg (.t 14), none⟩] none ⟨[], [], [], []⟩)
  (.seq (.reg 3 [] [
      ⟨(.t 15), .mv (.v 0), none⟩,
      ⟨(.t 16), .bin .shr (.t 15) (.c (.int .u64 4)), none⟩,
      ⟨(.t 17), .mv (.v 0), none⟩,
      ⟨(.t 18), .bin .add (.t 16) (.t 17), none⟩,
      ⟨(.t 19), .bin .and (.t 18) (.c (.int .u64 1085102592571150095)), none⟩,
      ⟨(.v 0), .asg (.t 19), none⟩] none ⟨[], [], [], []⟩)
  (.seq (.reg 4 [] [
      ⟨(.t 20), .mv (.v 0), none⟩,
      ⟨(.t 21), .mv (.v 0), none⟩,
      ⟨(.t 22), .bin .shr (.t 21) (.c (.int .u64 8)), none⟩,
      ⟨(.t 23), .bin .add (.t 20) (.t 22), none⟩,
      ⟨(.v 0), .asg (.t 23), none⟩] none ⟨[], [], [], []⟩)
  (.seq (.reg 5 [] [
      ⟨(.t 24), .mv (.v 0), none⟩,
      ⟨(.t 25), .mv (.v 0), none⟩,
      ⟨(.t 26), .bin .shr (.t 25) (.c (.int .u64 16)), none⟩,
      ⟨(.t 27), .bin .add (.t 24) (.t 26), none⟩,
      ⟨(.v 0), .asg (.t 27), none⟩] none ⟨[], [], [], []⟩)
  (.seq (.reg 6 [] [
      ⟨(.t 28), .mv (.v 0), none⟩,
      ⟨(.t 29), .mv (.v 0), none⟩,
      ⟨(.t 30), .bin .shr (.t 29) (.c (.int .u64 32)), none⟩,
      ⟨(.t 31), .bin .add (.t 28) (.t 30), none⟩,
      ⟨(.v 0), .asg (.t 31), none⟩] none ⟨[], [], [], []⟩)
  (.seq (.reg 7 [] [
      ⟨(.t 32), .mv (.v 0), none⟩,
      ⟨(.t 33), .conv .i64 (.t 32), none⟩,
      ⟨(.t 34), .bin .and (.t 33) (.c (.int .i64 127)), none⟩,
      ⟨(.v 1), .asg (.t 34), none⟩] none ⟨[], [], [], []⟩)
  .ret))))))))
theorem c49 : compFn Try.prog 49 F49 = some (1, strip a49, [.v 1]) ∧ lexAll a49 = true := ⟨by kernel_rfl, by kernel_rfl⟩
theorem mixed : Try.prog.follows .mixedOrders = true := by kernel_rfl
end Go.Proofs.Ytgaihedboifjoaa
