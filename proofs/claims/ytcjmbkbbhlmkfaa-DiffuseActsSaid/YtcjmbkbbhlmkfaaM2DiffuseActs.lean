/- Texts put behind one another: LB, K12, K17, K18, K19, Sh2. -/
import Derived.Test.YtcjmbkbbhlmkfaaZL
import Derived.Test.YtcjmbkbbhlmkfaaZV
import Derived.Test.YtcjmbkbbhlmkfaaZM
import Derived.Test.YtcjmbkbbhlmkfaaZN
set_option linter.unusedVariables false
set_option linter.unusedSimpArgs false
namespace Go.Proofs.Ytcjmbkbbhlmkfaa
open Go.RowKit Go.Proofs
def a15b : ACode :=
  (.seq (.reg 0 [] [
      ⟨(.t 2), .box 7 (.v 0), none⟩,
      ⟨(.t 4), .allo [(.slice none 0 0), (.int .i64 0), (.slice none 0 0), (.slice none 0 0), (.slice none 0 0), (.slice none 0 0), (.bool false)], none⟩,
      ⟨(.v 2), .asg (.c (.int .i64 0)), none⟩] none ⟨[], [], [], []⟩)
  (.seq (.block 0
    (.seq (.reg 1 [] [
        ⟨(.t 9), .ld 7 true (.t 2), none⟩,
        ⟨(.t 10), .call 19 [(.t 9)], none⟩,
        ⟨(.t 11), .un .not (.t 10), none⟩,
        ⟨(.v 3), .asg (.t 11), none⟩] none ⟨[], [], [], []⟩)
    (.cond (.v 3)
      (.seq (.reg 2 [] [
          ⟨(.t 12), .bld [(.slice none 0 0), (.int .i64 0), (.slice none 0 0), (.slice none 0 0), (.slice none 0 0), (.slice none 0 0), (.bool false)] [], none⟩,
          ⟨.none, .st 7 (.t 4) (.t 12), none⟩,
          ⟨(.v 2), .asg (.c (.int .i64 2)), none⟩] none ⟨[], [], [], []⟩)
      .ret)
      (.seq (.reg 3 [] [
          ⟨(.t 14), .mv (.v 1), none⟩,
          ⟨(.t 15), .bin .lss (.t 14) (.c (.int .i64 0)), none⟩,
          ⟨(.t 16), .mv (.t 15), none⟩,
          ⟨(.t 17), .mv (.v 1), some (16, false)⟩,
          ⟨(.t 18), .fa 2 (.t 2), some (16, false)⟩,
          ⟨(.t 19), .ld 1 false (.t 18), some (16, false)⟩,
          ⟨(.t 20), .len (.t 19), some (16, false)⟩,
          ⟨(.t 21), .bin .geq (.t 17) (.t 20), some (16, false)⟩,
          ⟨(.t 22), .pick (.t 16) (.c (.bool true)) (.t 21), none⟩,
          ⟨(.v 4), .asg (.t 22), none⟩] none ⟨[], [], [], []⟩)
      (.cond (.v 4)
        (.seq (.reg 4 [] [
            ⟨(.t 23), .bld [(.slice none 0 0), (.int .i64 0), (.slice none 0 0), (.slice none 0 0), (.slice none 0 0), (.slice none 0 0), (.bool false)] [], none⟩,
            ⟨.none, .st 7 (.t 4) (.t 23), none⟩,
            ⟨(.v 2), .asg (.c (.int .i64 1)), none⟩] none ⟨[], [], [], []⟩)
        .ret)
        .skip)))))
  (.seq (.reg 5 [] [
      ⟨(.t 24), .fa 2 (.t 2), none⟩,
      ⟨(.t 25), .ld 1 false (.t 24), none⟩,
      ⟨(.t 26), .mv (.v 1), none⟩,
      ⟨(.t 27), .ia 3 (.t 25) (.t 26), none⟩,
      ⟨(.t 28), .ld 3 true (.t 27), none⟩,
      ⟨(.t 6), .allo [(.int .i64 0), (.int .i64 0), (.bool false)], none⟩,
      ⟨.none, .st 3 (.t 6) (.t 28), none⟩] none ⟨[], [], [], []⟩)
  (.seq (.reg 6 [] [
      ⟨(.t 29), .ld 7 true (.t 2), none⟩,
      ⟨(.t 30), .call 34 [(.t 29)], none⟩,
      ⟨.none, .st 7 (.t 2) (.t 30), none⟩] none ⟨[], [], [], []⟩)
  (.seq (.reg 7 [.freeze (.cell 0 0), .frz (.cell 0 2)] [
      ⟨(.t 31), .fa 2 (.t 2), none⟩,
      ⟨(.t 32), .ld 1 false (.t 31), none⟩,
      ⟨(.t 33), .mv (.v 1), none⟩,
      ⟨(.t 34), .mv (.v 1), none⟩,
      ⟨(.t 35), .sl 59 3 (.t 32) none (some (.t 33)) (some (.t 34)), none⟩,
      ⟨(.t 36), .fa 2 (.t 2), none⟩,
      ⟨(.t 37), .ld 1 false (.t 36), none⟩,
      ⟨(.t 38), .mv (.v 1), none⟩,
      ⟨(.t 39), .bin .add (.t 38) (.c (.int .i64 1)), none⟩,
      ⟨(.t 40), .sl 59 3 (.t 37) (some (.t 39)) none none, none⟩,
      ⟨(.t 41), .app 59 3 24 (.t 35) (.t 40), none⟩,
      ⟨(.t 42), .fa 2 (.t 2), none⟩,
      ⟨.none, .st 1 (.t 42) (.t 41), none⟩] (some [[], [0], [], [], [1, 2, 3], [], [5], [], [7], [6, 8], [4, 9], [0, 1, 2, 3, 4, 5, 6, 7, 8, 9, 10], [11, 10, 10, 0, 1, 2, 3, 4, 5, 6, 7, 8, 9, 10]]) ⟨[2], [], [], []⟩)
  (.seq (.reg 8 [] [
      ⟨(.t 43), .fa 1 (.t 6), none⟩,
      ⟨(.t 44), .ld 1 false (.t 43), none⟩,
      ⟨(.v 5), .asg (.t 44), none⟩] none ⟨[], [], [], []⟩)
  (.seq (.block 1
    (.seq (.reg 9 [] [
        ⟨(.t 46), .fa 2 (.t 6), none⟩,
        ⟨(.t 47), .ld 1 false (.t 46), none⟩,
        ⟨(.t 48), .un .not (.t 47), none⟩,
        ⟨(.t 49), .mv (.t 48), none⟩,
        ⟨(.t 50), .fa 0 (.t 2), some (49, true)⟩,
        ⟨(.t 51), .ld 1 false (.t 50), some (49, true)⟩,
        ⟨(.t 52), .mv (.v 5), some (49, true)⟩,
        ⟨(.t 53), .ia 2 (.t 51) (.t 52), some (49, true)⟩,
        ⟨(.t 54), .fa 0 (.t 53), some (49, true)⟩,
        ⟨(.t 55), .ld 1 false (.t 54), some (49, true)⟩,
        ⟨(.t 56), .bin .eql (.t 55) (.c (.int .i64 0)), some (49, true)⟩,
        ⟨(.t 57), .pick (.t 49) (.t 56) (.c (.bool false)), none⟩,
        ⟨(.v 6), .asg (.t 57), none⟩] none ⟨[], [], [], []⟩)
    (.cond (.v 6)
      .skip
      (.seq (.reg 10 [] [
          ⟨(.t 59), .fa 2 (.t 6), none⟩,
          ⟨(.t 60), .ld 1 false (.t 59), none⟩,
          ⟨(.t 61), .un .not (.t 60), none⟩,
          ⟨(.t 62), .mv (.t 61), none⟩,
          ⟨(.t 63), .fa 3 (.t 2), some (62, true)⟩,
          ⟨(.t 64), .ld 1 false (.t 63), some (62, true)⟩,
          ⟨(.t 65), .mv (.v 5), some (62, true)⟩,
          ⟨(.t 66), .ia 1 (.t 64) (.t 65), some (62, true)⟩,
          ⟨(.t 67), .ld 1 false (.t 66), some (62, true)⟩,
          ⟨(.t 68), .pick (.t 62) (.t 67) (.c (.bool false)), none⟩,
          ⟨(.v 7), .asg (.t 68), none⟩] none ⟨[], [], [], []⟩)
      (.cond (.v 7)
        (.reg 11 [.lend (.cell 0 2) 76] [
            ⟨(.t 69), .fa 2 (.t 2), none⟩,
            ⟨(.t 70), .ld 1 false (.t 69), none⟩,
            ⟨(.t 71), .mv (.v 5), none⟩,
            ⟨(.t 72), .fa 0 (.t 6), none⟩,
            ⟨(.t 73), .ld 1 false (.t 72), none⟩,
            ⟨(.t 74), .bld [(.int .i64 0), (.int .i64 0), (.bool false)] [(0, 1, (.t 71)), (1, 1, (.t 73)), (2, 1, (.c (.bool true)))], none⟩,
            ⟨(.t 75), .bls 59 3 (.agg #[(.int .i64 0), (.int .i64 0), (.bool false)]) 1 [(0, (.t 74))], none⟩,
            ⟨(.t 76), .app 59 3 24 (.t 70) (.t 75), none⟩,
            ⟨(.t 77), .fa 2 (.t 2), none⟩,
            ⟨.none, .st 1 (.t 77) (.t 76), none⟩] none ⟨[], [], [], []⟩)
        (.seq (.reg 12 [] [
            ⟨(.t 79), .fa 2 (.t 6), none⟩,
            ⟨(.t 80), .ld 1 false (.t 79), none⟩,
            ⟨(.t 81), .un .not (.t 80), none⟩,
            ⟨(.v 8), .asg (.t 81), none⟩] none ⟨[], [], [], []⟩)
        (.cond (.v 8)
          (.seq (.reg 13 [] [
              ⟨(.t 82), .fa 3 (.t 2), none⟩,
              ⟨(.t 83), .ld 1 false (.t 82), none⟩,
              ⟨(.t 84), .mv (.v 5), none⟩,
              ⟨(.t 85), .fa 4 (.t 2), none⟩,
              ⟨(.t 86), .ld 1 false (.t 85), none⟩,
              ⟨(.t 87), .mv (.v 5), none⟩,
              ⟨(.t 88), .fa 5 (.t 2), none⟩,
              ⟨(.t 89), .ld 1 false (.t 88), none⟩,
              ⟨(.t 90), .mv (.v 5), none⟩,
              ⟨(.t 91), .fa 0 (.t 6), none⟩,
              ⟨(.t 92), .ld 1 false (.t 91), none⟩,
              ⟨(.t 93), .fa 0 (.t 2), none⟩,
              ⟨(.t 94), .ld 1 false (.t 93), none⟩,
              ⟨(.t 95), .mv (.v 5), none⟩,
              ⟨(.t 96), .ia 2 (.t 94) (.t 95), none⟩,
              ⟨(.t 97), .fa 1 (.t 96), none⟩,
              ⟨(.t 98), .ld 1 false (.t 97), none⟩,
              ⟨(.t 99), .len (.t 98), none⟩,
              ⟨(.t 100), .ia 1 (.t 83) (.t 84), none⟩,
              ⟨.none, .st 1 (.t 100) (.c (.bool true)), none⟩,
              ⟨(.t 101), .ia 1 (.t 86) (.t 87), none⟩,
              ⟨.none, .st 1 (.t 101) (.t 92), none⟩,
              ⟨(.t 102), .ia 1 (.t 89) (.t 90), none⟩,
              ⟨.none, .st 1 (.t 102) (.t 99), none⟩] (some [[], [0], [], [], [3], [], [], [6], [], [], [9], [], [11], [], [12, 13], [14], [15], [16], [1, 2, 0, 1, 2, 16], [18, 0, 1, 2, 16], [4, 5, 0, 1, 2, 3, 4, 5, 9, 10, 16, 18, 19], [20, 10, 19, 0, 1, 2, 3, 4, 5, 9, 10, 16, 18, 19], [7, 8, 0, 1, 2, 3, 4, 5, 6, 7, 8, 9, 10, 11, 12, 13, 14, 15, 16, 17, 18, 19, 20, 21], [22, 17, 21, 0, 1, 2, 3, 4, 5, 6, 7, 8, 9, 10, 11, 12, 13, 14, 15, 16, 17, 18, 19, 20, 21]]) ⟨[2], [3, 5, 6, 8, 9, 17], [], [(19, 1000085, 4), (19, 1000088, 7), (19, 1000091, 10), (21, 1000088, 7)]⟩)
          (.reg 14 [.lend (.cell 0 2) 109] [
              ⟨(.t 103), .fa 2 (.t 2), none⟩,
              ⟨(.t 104), .ld 1 false (.t 103), none⟩,
              ⟨(.t 105), .fa 0 (.t 2), none⟩,
              ⟨(.t 106), .ld 1 false (.t 105), none⟩,
              ⟨(.t 107), .mv (.v 5), none⟩,
              ⟨(.t 108), .call 30 [(.t 106), (.t 107)], none⟩,
              ⟨(.t 109), .app 59 3 24 (.t 104) (.t 108), none⟩,
              ⟨(.t 110), .fa 2 (.t 2), none⟩,
              ⟨.none, .st 1 (.t 110) (.t 109), none⟩] (some [[], [0], [], [2], [], [3, 4], [1, 5, 5], [0, 1, 2, 3, 4, 5, 6], [7, 6, 6, 0, 1, 2, 3, 4, 5, 6]]) ⟨[2], [], [], []⟩))
          (.seq (.reg 15 [] [
              ⟨(.t 112), .fa 5 (.t 2), none⟩,
              ⟨(.t 113), .ld 1 false (.t 112), none⟩,
              ⟨(.t 114), .mv (.v 5), none⟩,
              ⟨(.t 115), .ia 1 (.t 113) (.t 114), none⟩,
              ⟨(.t 116), .ld 1 false (.t 115), none⟩,
              ⟨(.t 117), .bin .gtr (.t 116) (.c (.int .i64 0)), none⟩,
              ⟨(.v 9), .asg (.t 117), none⟩] none ⟨[], [], [], []⟩)
          (.cond (.v 9)
            (.seq (.reg 16 [] [
                ⟨(.t 118), .fa 5 (.t 2), none⟩,
                ⟨(.t 119), .ld 1 false (.t 118), none⟩,
                ⟨(.t 120), .mv (.v 5), none⟩,
                ⟨(.t 121), .ia 1 (.t 119) (.t 120), none⟩,
                ⟨(.t 122), .ld 1 false (.t 121), none⟩,
                ⟨(.t 123), .bin .sub (.t 122) (.c (.int .i64 1)), none⟩,
                ⟨(.t 124), .ia 1 (.t 119) (.t 120), none⟩,
                ⟨.none, .st 1 (.t 124) (.t 123), none⟩] none ⟨[], [], [], []⟩)
            (.seq (.reg 17 [] [
                ⟨(.t 125), .fa 5 (.t 2), none⟩,
                ⟨(.t 126), .ld 1 false (.t 125), none⟩,
                ⟨(.t 127), .mv (.v 5), none⟩,
                ⟨(.t 128), .ia 1 (.t 126) (.t 127), none⟩,
                ⟨(.t 129), .ld 1 false (.t 128), none⟩,
                ⟨(.t 130), .bin .eql (.t 129) (.c (.int .i64 0)), none⟩,
                ⟨(.t 131), .mv (.t 130), none⟩,
                ⟨(.t 132), .mv (.v 5), some (131, true)⟩,
                ⟨(.t 133), .fa 1 (.t 2), some (131, true)⟩,
                ⟨(.t 134), .ld 1 false (.t 133), some (131, true)⟩,
                ⟨(.t 135), .bin .eql (.t 132) (.t 134), some (131, true)⟩,
                ⟨(.t 136), .pick (.t 131) (.t 135) (.c (.bool false)), none⟩] none ⟨[], [], [], []⟩)
            (.cond (.t 136)
              (.reg 18 [] [
                  ⟨(.t 137), .fa 6 (.t 2), none⟩,
                  ⟨.none, .st 1 (.t 137) (.c (.bool true)), none⟩] none ⟨[], [], [], []⟩)
              (.seq (.reg 19 [] [
                  ⟨(.t 138), .fa 5 (.t 2), none⟩,
                  ⟨(.t 139), .ld 1 false (.t 138), none⟩,
                  ⟨(.t 140), .mv (.v 5), none⟩,
                  ⟨(.t 141), .ia 1 (.t 139) (.t 140), none⟩,
                  ⟨(.t 142), .ld 1 false (.t 141), none⟩,
                  ⟨(.t 143), .bin .eql (.t 142) (.c (.int .i64 0)), none⟩] none ⟨[], [], [], []⟩)
              (.cond (.t 143)
                (.reg 20 [.lend (.cell 0 2) 154] [
                    ⟨(.t 144), .fa 2 (.t 2), none⟩,
                    ⟨(.t 145), .ld 1 false (.t 144), none⟩,
                    ⟨(.t 146), .mv (.v 5), none⟩,
                    ⟨(.t 147), .fa 4 (.t 2), none⟩,
                    ⟨(.t 148), .ld 1 false (.t 147), none⟩,
                    ⟨(.t 149), .mv (.v 5), none⟩,
                    ⟨(.t 150), .ia 1 (.t 148) (.t 149), none⟩,
                    ⟨(.t 151), .ld 1 false (.t 150), none⟩,
                    ⟨(.t 152), .bld [(.int .i64 0), (.int .i64 0), (.bool false)] [(0, 1, (.t 146)), (1, 1, (.t 151)), (2, 1, (.c (.bool true)))], none⟩,
                    ⟨(.t 153), .bls 59 3 (.agg #[(.int .i64 0), (.int .i64 0), (.bool false)]) 1 [(0, (.t 152))], none⟩,
                    ⟨(.t 154), .app 59 3 24 (.t 145) (.t 153), none⟩,
                    ⟨(.t 155), .fa 2 (.t 2), none⟩,
                    ⟨.none, .st 1 (.t 155) (.t 154), none⟩] (some [[], [0], [], [], [3], [], [4, 5], [6], [2, 7], [8], [1, 9], [0, 1, 2, 3, 4, 5, 6, 7, 8, 9, 10], [11, 10, 10, 0, 1, 2, 3, 4, 5, 6, 7, 8, 9, 10]]) ⟨[2], [], [], []⟩)
                .skip)))))
            .skip)))))))))
  (.seq (.reg 21 [.freeze (.cell 0 0), .freeze (.cell 0 2), .freeze (.cell 0 3), .freeze (.cell 0 4), .freeze (.cell 0 5)] [
      ⟨(.t 156), .ld 7 true (.t 2), none⟩,
      ⟨.none, .st 7 (.t 4) (.t 156), none⟩,
      ⟨(.v 2), .asg (.c (.int .i64 0)), none⟩] none ⟨[], [], [], []⟩)
  .ret))))))))
theorem c15b : compFn Try.prog 15 F15 = some (2, strip a15b, [.c 4 7 true, .v 2]) ∧ lexAll a15b = true := ⟨by kernel_rfl, by kernel_rfl⟩
end Go.Proofs.Ytcjmbkbbhlmkfaa

namespace Go.Proofs.Ytcjmbkbbhlmkfaa
open Go.RowKit Go.Proofs

theorem queriesOk (g : List Nd) (i : Int) (h0 : 0 ≤ i) (hi : i < g.length) (hx : (nodeAt g i).next.length ≤ 1000000) : PC Try.prog 30 [.list 2 (gv g), .s (.int .i64 i)] (fun r => r = .own true 59 3 (mv (qrs i (nodeAt g i).next))) := by
  have h : i.toNat < g.length := by omega
  have e : ((i.toNat : Nat) : Int) = i := by omega
  have := queries_pc g i.toNat h (by rw [node_getElem h, e]; exact hx)
  rwa [node_getElem h, e] at this
def rpInv' (g : List Nd) (s : Int) (m : Nat) (S : St) : Prop := ∃ i, i + m = g.length ∧ S = ⟨tmL [(4, .ptr 0 0), (6, .ptr 1 0), (49, .s (.int .i64 g.length)), (50, .s (.int .i64 i))], [.list 2 (gv g), .s (.int .i64 s), .s (.int .i64 0), .s (.bool false), .s (.bool false), .s (.bool false), .no], [zDs, [.own true 42 2 (gv g), .s (.int .i64 s), .own true 59 3 (mv (qrs s (nodeAt g s).next)), .own true 4 1 (lv (List.replicate g.length false)), .own true 3 1 (iv (fillP g.length i)), .own true 3 1 (iv (List.replicate g.length 0)), .s (.bool false)]], 0⟩
set_option maxHeartbeats 16000000 in
set_option maxRecDepth 10000 in
theorem rBegin_pc (g : List Nd) (s : Int) (hl : g.length ≤ 1000000) (hn : ∀ n ∈ g, n.next.length ≤ 1000000) : PC Try.prog 11 [.list 2 (gv g), .s (.int .i64 s)] (fun r => r = res (begE g s) (begD g s)) := by
  refine pc_end c11 mixed rfl ?_
  simp -implicitDefEqProofs [a11, F11]
  refine wk_take ?_
  simp -implicitDefEqProofs
  refine wc_of (rgValid_pc g hn) (by simp) (by simp) ?_
  rintro _ rfl
  by_cases g1 : gOk g = false
  · simp -implicitDefEqProofs [g1, res, begE, zD, zDs]
  have g1 : gOk g = true := by simpa using g1
  by_cases g2 : s < 0
  · simp -implicitDefEqProofs [g1, g2, res, begE, zD, zDs]
  by_cases g3 : s ≥ g.length
  · have g3' : (g.length : Int) ≤ s := g3
    simp -implicitDefEqProofs [g1, g2, g3, g3', res, begE, zD, zDs]
  have g3' : ¬ (g.length : Int) ≤ s := g3
  have g4 := gv_at (g := g) (i := s) (by omega) (by omega)
  cases g5 : ((nodeAt g s).k == 0)
  case' true =>
    have g5' : (nodeAt g s).k = 0 := eq_of_beq g5
    simp -implicitDefEqProofs [g1, g2, g3, g3', g4, g5, g5', res, begE, zD, zDs]
  have g5' : ¬ (nodeAt g s).k = 0 := by simpa using g5
  simp -implicitDefEqProofs [g1, g2, g3, g4, g5]
  refine wkd_take ?_
  simp -implicitDefEqProofs
  refine wcd_of (rCopy_pc g hl hn) (by simp) (by simp) ?_
  have b1 : g.length ≤ maxLen ∧ g.length ≤ 140737488355328 ∧ g.length * 8 ≤ 140737488355328 := by simp [maxLen]; omega
  have hx := hn _ (nodeAt_mem (g := g) (i := s) (by omega) (by omega))
  simp -implicitDefEqProofs [b1]
  refine wkd_take ?_
  simp -implicitDefEqProofs
  refine wcd_of (queriesOk g s (by omega) (by omega) hx) (by simp) (by simp) ?_
  simp -implicitDefEqProofs [b1]
  refine w_rounds [4, 6, 49, 50] [6] 2 (by simp) (rpInv' g s) g.length ⟨by simp, 0, by simp, by simp [fillP, lv_rep, iv_rep, zDs]⟩ ?_
  rintro m S ⟨i, hi, rfl⟩
  by_cases hm : i < g.length
  · have h1 : (i : Int) < g.length := by omega
    have h0 : ¬ (i : Int) < 0 := by omega
    have hlen := fillP_len (n := g.length) (i := i) (by omega)
    simp -implicitDefEqProofs [h1, h0, hlen, hm, fillP_at hm, iv_set, fillP_set hm, zDs]
    exact ⟨m - 1, by omega, i + 1, by omega, by rw [wrap64 (by omega)]; rfl⟩
  have h1 : ¬ (i : Int) < g.length := by omega
  have h2 : i = g.length := by omega
  subst h2
  have i1 : s.toNat < g.length := by omega
  have i2 : s < g.length := by omega
  have e1 : (lv (List.replicate g.length false))[s.toNat]'(by simpa using i1) = .s (.bool false) := by simp [lv]
  have e2 : (iv (List.replicate g.length 0))[s.toNat]'(by simpa using i1) = .s (.int .i64 0) := by simp [iv]
  have g6 := gv_ate (g := g) (i := s) (by omega) (by omega)
  simp -implicitDefEqProofs [fillP_end, g2, i1, i2, e1, e2, g6, lv_set, iv_set, zDs, g1, g3', g5', res, begE, begD, begD0, Df.ask, Df.v, Df.cells]
end Go.Proofs.Ytcjmbkbbhlmkfaa

namespace Go.Proofs.Ytcjmbkbbhlmkfaa
open Go.RowKit Go.Proofs

set_option maxHeartbeats 16000000 in
set_option maxRecDepth 10000 in
theorem rStep_pc (d : Df) (k : Int) (hs : d.sm) : PC Try.prog 15 [d.v, .s (.int .i64 k)] (fun r => r = res (stepE d k) (stepD d k)) := by
  refine pc_end c15b mixed rfl ?_
  have hv := rValid_pc d hs
  simp only [Df.v, Df.cells] at hv
  simp -implicitDefEqProofs [a15b, F15, Df.v, Df.cells]
  refine wk_take ?_
  simp -implicitDefEqProofs
  refine wc_of hv (by simp) (by simp) ?_
  rintro _ rfl
  by_cases ho : d.ok
  case neg => simp -implicitDefEqProofs [ho, res, stepE, zD, zDs]
  by_cases k1 : k < 0
  · simp -implicitDefEqProofs [ho, k1, res, stepE, zD, zDs]
  by_cases k2 : k ≥ d.ml.length
  · have k2' : (d.ml.length : Int) ≤ k := k2
    simp -implicitDefEqProofs [ho, k1, k2, k2', res, stepE, zD, zDs]
  have k2' : ¬ (d.ml.length : Int) ≤ k := k2
  have kn : k.toNat < d.ml.length := by omega
  have hto := ok_to ho (mAt_mem kn)
  have hml := hs.ml
  have hcut := cut_length kn
  have hst : stepE d k = 0 := by rw [stepE, if_neg (fun h => h ho), if_neg (by omega)]
  have hm := mv_atk kn
  have el := ho.el
  have pl := ho.pl
  have ol := ho.ol
  simp -implicitDefEqProofs [ho, k1, k2, k2', kn, hm]
  refine wk_take ?_
  simp -implicitDefEqProofs
  have hw := Copy_pc d hs
  simp only [Df.v, Df.cells] at hw
  refine wc_of hw (by simp) (by simp) ?_
  rintro _ rfl
  have k3 : ¬ k + 1 < 0 := by omega
  have k4 : (k + 1).toNat = k.toNat + 1 := by omega
  have k5 : k.toNat + 1 ≤ d.ml.length := by omega
  have k5' : k.toNat ≤ d.ml.length := by omega
  have kw : IntKind.i64.wrap (k + 1) = k + 1 := by rw [wrap64 (by omega)]
  have k6 : min k.toNat d.ml.length = k.toNat := by omega
  have b2 : k.toNat + (d.ml.length - (k.toNat + 1)) ≤ maxLen ∧ (k.toNat + (d.ml.length - (k.toNat + 1))) * 24 ≤ maxBytes := by simp [maxLen, maxBytes]; omega
  have b3 : d.ml.length - (k.toNat + 1) ≤ maxLen ∧ (d.ml.length - (k.toNat + 1)) * 24 ≤ maxBytes := by simp [maxLen, maxBytes]; omega
  have k7 : (d.ml.drop (k.toNat + 1)).take (d.ml.length - (k.toNat + 1)) = d.ml.drop (k.toNat + 1) := List.take_of_length_le (by simp)
  have k5z : 1 ≤ d.ml.length := by omega
  have k7z : (d.ml.drop 1).take (d.ml.length - 1) = d.ml.drop 1 := List.take_of_length_le (by simp)
  have b2z : d.ml.length - 1 ≤ maxLen ∧ (d.ml.length - 1) * 24 ≤ maxBytes := by simp [maxLen, maxBytes]; omega
  have b5 : k ≤ maxLen ∧ k.toNat * 24 ≤ maxBytes := by simp [maxLen, maxBytes]; omega
  have hcl := cut_length kn
  have b1 : (cut d.ml k).length + 1 ≤ maxLen ∧ ((cut d.ml k).length + 1) * 24 ≤ maxBytes := by simp [maxLen, maxBytes]; omega
  have b0 : (cut d.ml k).length ≤ maxLen ∧ (cut d.ml k).length * 24 ≤ maxBytes := by simp [maxLen, maxBytes]; omega
  have hx := hs.nx _ (nodeAt_mem (g := d.g) (i := (mAt d.ml k).to) hto.1 hto.2)
  have b4 : (cut d.ml k).length + (nodeAt d.g (mAt d.ml k).to).next.length ≤ maxLen ∧ ((cut d.ml k).length + (nodeAt d.g (mAt d.ml k).to).next.length) * 24 ≤ maxBytes := by simp [maxLen, maxBytes]; omega
  have hi0 : ¬ (mAt d.ml k).to < 0 := by omega
  have hin : (mAt d.ml k).to.toNat < d.g.length := by omega
  have hO := iv_ate (s := d.opn) (i := (mAt d.ml k).to) hto.1 (by omega)
  have hP := iv_ate (s := d.par) (i := (mAt d.ml k).to) hto.1 (by omega)
  have hE := lv_ate (s := d.eng) (i := (mAt d.ml k).to) hto.1 (by omega)
  have hG := gv_ate (g := d.g) (i := (mAt d.ml k).to) hto.1 (by omega)
  have hop := (ho.nd (mAt d.ml k).to.toNat hin)
  rw [show (((mAt d.ml k).to.toNat : Nat) : Int) = (mAt d.ml k).to by omega] at hop
  have ho2 := hto.2
  have m1 : k.toNat = 0 → List.take (d.ml.length - 1) (mv d.ml).tail = mv (cut d.ml k) := fun q => by rw [← List.drop_one, mv_drop, mv_take, k7z, cut, q]; simp
  have m2 : d.ml.length ≤ k.toNat + 1 → List.take k.toNat (mv d.ml) = mv (cut d.ml k) := fun q => by rw [mv_take, cut, List.drop_eq_nil_of_le q, List.append_nil]
  have m3 : List.take k.toNat (mv d.ml) ++ List.take (d.ml.length - (k.toNat + 1)) (List.drop (k.toNat + 1) (mv d.ml)) = mv (cut d.ml k) := by rw [mv_drop, mv_take, mv_take, k7, cut, mv_append]
  by_cases kz : k.toNat = 0
  case' pos =>
    have m1 := m1 kz
    simp -implicitDefEqProofs [Df.rbox, k1, k3, k4, k5, k5', kw, k6, b2, b3, kz, k5z, b0, b2z, m1]
  case' neg =>
    have kz' : ¬ 0 = k.toNat := fun e => kz e.symm
    by_cases kl : d.ml.length ≤ k.toNat + 1
    case' pos =>
      have m2 := m2 kl
      have kl' : d.ml.length - (k.toNat + 1) = 0 := by omega
      simp -implicitDefEqProofs [Df.rbox, k1, k3, k4, k5, k5', kw, k6, b2, b3, kz, kz', kl, kl', b5, m2, b0]
    case' neg =>
      have kl' : ¬ d.ml.length - (k.toNat + 1) = 0 := by omega
      simp -implicitDefEqProofs [Df.rbox, k1, k3, k4, k5, k5', kw, k6, b2, b3, kz, kz', kl, kl', m3]
  all_goals
    cases hr : (mAt d.ml k).rep
    case true =>
      have hop0 : 0 ≤ iAt d.opn (mAt d.ml k).to ∧ iAt d.opn (mAt d.ml k).to ≤ 1000000 := by
        unfold nOk at hop
        split at hop
        · omega
        · omega
      have w1 : IntKind.i64.wrap (iAt d.opn (mAt d.ml k).to - 1) = iAt d.opn (mAt d.ml k).to - 1 := by rw [wrap64 (by omega)]
      have hS : (iv (d.opn.set (mAt d.ml k).to.toNat (iAt d.opn (mAt d.ml k).to - 1)))[(mAt d.ml k).to.toNat]'(by simp; omega) = .s (.int .i64 (iAt d.opn (mAt d.ml k).to - 1)) := by simp [iv]
      by_cases h1 : iAt d.opn (mAt d.ml k).to = 0
      · have hD : stepD d k = { d with ml := cut d.ml k } := by simp only [stepD, repD, hr, if_true]; rw [if_pos h1]
        simp -implicitDefEqProofs [hr, hi0, hin, hO, h1, ho2, el, pl, ol, hst, res, hD, Df.v, Df.cells]
      · have h1p : 0 < iAt d.opn (mAt d.ml k).to := by omega
        by_cases h2 : iAt d.opn (mAt d.ml k).to > 1
        · have h2' : 1 < iAt d.opn (mAt d.ml k).to := by omega
          have h2z : (iAt d.opn (mAt d.ml k).to - 1 == 0) = false := by simp; omega
          have hD : stepD d k = { d with ml := cut d.ml k, opn := d.opn.set (mAt d.ml k).to.toNat (iAt d.opn (mAt d.ml k).to - 1) } := by simp only [stepD, repD, hr, if_true]; rw [if_neg h1, if_pos h2]
          simp -implicitDefEqProofs [hr, hi0, hin, hO, hS, h1p, h2', h2z, w1, ho2, el, pl, ol, hst, res, hD, Df.v, Df.cells, iv_set]
        · have h2z : (iAt d.opn (mAt d.ml k).to - 1 == 0) = true := by simp; omega
          by_cases h3 : (mAt d.ml k).to = d.start
          · have h3' : ((mAt d.ml k).to == d.start) = true := by simpa using h3
            have hD : stepD d k = { d with ml := cut d.ml k, opn := d.opn.set (mAt d.ml k).to.toNat (iAt d.opn (mAt d.ml k).to - 1), dec := true } := by simp only [stepD, repD, hr, if_true]; rw [if_neg h1, if_neg h2, if_pos h3]
            simp -implicitDefEqProofs [hr, hi0, hin, hO, hS, h1p, h2z, w1, ho2, el, pl, ol, hst, res, hD, Df.v, Df.cells, iv_set, h3']
          · have h3' : ((mAt d.ml k).to == d.start) = false := by simpa using h3
            have hD : stepD d k = { d with ml := cut d.ml k ++ [⟨(mAt d.ml k).to, iAt d.par (mAt d.ml k).to, true⟩], opn := d.opn.set (mAt d.ml k).to.toNat (iAt d.opn (mAt d.ml k).to - 1) } := by simp only [stepD, repD, hr, if_true]; rw [if_neg h1, if_neg h2, if_neg h3]
            simp -implicitDefEqProofs [hr, hi0, hin, hO, hP, hS, h1p, h2z, w1, ho2, el, pl, ol, hst, res, hD, Df.v, Df.cells, iv_set, h3', b1, Ml.v, mv]
    case false =>
      cases h1 : ((nodeAt d.g (mAt d.ml k).to).k == 0)
      case' true =>
        have h1' : (nodeAt d.g (mAt d.ml k).to).k = 0 := eq_of_beq h1
        simp -implicitDefEqProofs [hr, hi0, hin, hG, h1, h1', ho2, el, pl, ol, hst, res, stepD, qryD, Df.v, Df.cells]
      case' false =>
        have h1' : ¬ (nodeAt d.g (mAt d.ml k).to).k = 0 := by simpa using h1
        cases h2 : bAt d.eng (mAt d.ml k).to
        case' true =>
          simp -implicitDefEqProofs [hr, hi0, hin, hG, hE, h1, h1', h2, ho2, el, pl, ol, hst, res, stepD, qryD, Df.v, Df.cells, b1, Ml.v, mv]
        case' false =>
          have hax := asc_next ho.g hto.1 hto.2
          have hne : ¬ mv (qrs (mAt d.ml k).to (nodeAt d.g (mAt d.ml k).to).next) = [] := fun e => by
            have h3 : (mv (qrs (mAt d.ml k).to (nodeAt d.g (mAt d.ml k).to).next)).length = (nodeAt d.g (mAt d.ml k).to).next.length := by simp [mv]
            rw [e, List.length_nil] at h3
            omega
          simp -implicitDefEqProofs [hr, hi0, hin, hG, hE, hP, hO, h1, h1', h2, ho2, el, pl, ol, lv_set, iv_set]
          refine wkd_take ?_
          simp -implicitDefEqProofs
          refine wcd_of (queriesOk d.g (mAt d.ml k).to hto.1 hto.2 hx) (by simp) (by simp) ?_
          simp -implicitDefEqProofs [b4, hne, hr, h1', h2, hst, res, stepD, qryD, Df.v, Df.cells, Df.ask]
end Go.Proofs.Ytcjmbkbbhlmkfaa

namespace Go.Proofs.Ytcjmbkbbhlmkfaa
open Go.RowKit Go.Proofs

theorem rBegin_pl (g : List Nd) (s : Int) (hl : g.length ≤ 1000000) (hn : ∀ n ∈ g, n.next.length ≤ 1000000) : PC Try.prog 11 [.list 2 (gv g), .s (.int .i64 s)] (fun r => r = resP (begE g s) (begD g s)) :=
  pc_list (rBegin_pc g s hl hn) fun x hx _ => ⟨_, hx ▸ res_fr _ _, rfl, rfl⟩
theorem rStep_pl (d : Df) (k : Int) (hs : d.sm) : PC Try.prog 15 [d.v, .s (.int .i64 k)] (fun r => r = resP (stepE d k) (stepD d k)) :=
  pc_list (rStep_pc d k hs) fun x hx _ => ⟨_, hx ▸ res_fr _ _, rfl, rfl⟩
theorem mem_cut {l : List Ml} {k : Int} {m : Ml} (h : m ∈ cut l k) : m ∈ l := by
  rw [cut, List.mem_append] at h
  exact h.elim List.mem_of_mem_take List.mem_of_mem_drop
theorem qrs_wf {i : Int} {l : List Int} {N : Int} (hi : wf64 i) (hN : N ≤ 1000) (h : ∀ x ∈ l, 0 ≤ x ∧ x < N) : ∀ m ∈ qrs i l, wf64 m.frm ∧ wf64 m.to := by
  intro m hm
  simp only [qrs, List.mem_map] at hm
  obtain ⟨x, hx, rfl⟩ := hm
  have := h x hx
  refine ⟨hi, ?_⟩
  show wf64 x
  unfold wf64
  omega
theorem step_sm {d : Df} {k : Int} (h : d.ok) (hs : d.sm) (hl : d.ml.length ≤ 1000) (hg : d.g.length ≤ 1000) (k0 : k.toNat < d.ml.length) : (stepD d k).sm := by
  have hto := ok_to h (mAt_mem k0)
  have hc : ∀ m ∈ cut d.ml k, wf64 m.frm ∧ wf64 m.to := fun m hm => hs.wf m (mem_cut hm)
  have hcl := cut_length k0
  obtain ⟨hf, hi⟩ := hs.wf _ (mAt_mem k0)
  have hp : wf64 (iAt d.par (mAt d.ml k).to) := by
    have hx := ok_nd h hto.1 hto.2
    unfold nOk at hx
    unfold wf64
    split at hx
    · have h2 := hx.2.2.2
      split at h2
      · omega
      · have := h2.2
        unfold eOk at this
        omega
    · omega
  have hn := nodeAt_next h.g (mAt d.ml k).to
  have ha : ∀ x ∈ (nodeAt d.g (mAt d.ml k).to).next, 0 ≤ x ∧ x < d.g.length := fun x hx => by
    have := asc_mem (asc_next h.g hto.1 hto.2).2.2.2 x hx
    omega
  have h1 : ∀ m ∈ cut d.ml k ++ [⟨(mAt d.ml k).to, iAt d.par (mAt d.ml k).to, true⟩], wf64 m.frm ∧ wf64 m.to := fun m hm => by
    rw [List.mem_append] at hm
    rcases hm with hm | hm
    · exact hc m hm
    · simp at hm; subst hm; exact ⟨hi, hp⟩
  have h2 : ∀ m ∈ cut d.ml k ++ [⟨(mAt d.ml k).to, (mAt d.ml k).frm, true⟩], wf64 m.frm ∧ wf64 m.to := fun m hm => by
    rw [List.mem_append] at hm
    rcases hm with hm | hm
    · exact hc m hm
    · simp at hm; subst hm; exact ⟨hi, hf⟩
  have h3 : ∀ m ∈ cut d.ml k ++ qrs (mAt d.ml k).to (nodeAt d.g (mAt d.ml k).to).next, wf64 m.frm ∧ wf64 m.to := fun m hm => by
    rw [List.mem_append] at hm
    rcases hm with hm | hm
    · exact hc m hm
    · exact qrs_wf hi (by omega) ha m hm
  have he := hs.eng
  have hpa := hs.par
  have ho := hs.opn
  unfold stepD
  split
  · unfold repD
    split
    · exact ⟨hs.g, hs.nx, by show (cut d.ml k).length ≤ _; omega, he, hpa, ho, hc⟩
    · split
      · exact ⟨hs.g, hs.nx, by show (cut d.ml k).length ≤ _; omega, he, hpa, by simpa using ho, hc⟩
      · split
        · exact ⟨hs.g, hs.nx, by show (cut d.ml k).length ≤ _; omega, he, hpa, by simpa using ho, hc⟩
        · exact ⟨hs.g, hs.nx, by show (cut d.ml k ++ [_]).length ≤ _; simp; omega, he, hpa, by simpa using ho, h1⟩
  · unfold qryD
    split
    · exact ⟨hs.g, hs.nx, by show (cut d.ml k).length ≤ _; omega, he, hpa, ho, hc⟩
    · split
      · exact ⟨hs.g, hs.nx, by show (cut d.ml k ++ [_]).length ≤ _; simp; omega, he, hpa, ho, h2⟩
      · exact ⟨hs.g, hs.nx, by show (cut d.ml k ++ qrs _ _).length ≤ _; simp [qrs]; omega, by simpa [Df.ask] using he, by simpa [Df.ask] using hpa, by simpa [Df.ask] using ho, h3⟩
theorem dz_sm : d0.sm := ⟨by simp [d0], by simp [d0], by simp [d0], by simp [d0], by simp [d0], by simp [d0], by simp [d0]⟩
theorem stepE_ok {d : Df} {k : Int} (h : stepE d k = 0) : d.ok ∧ 0 ≤ k ∧ k.toNat < d.ml.length := by
  unfold stepE at h
  by_cases ho : d.ok
  · rw [if_neg (not_not_intro ho)] at h
    split at h
    · cases h
    · exact ⟨ho, by omega, by omega⟩
  · rw [if_pos ho] at h; cases h
theorem dE_step_sm {d : Df} {k : Int} (hs : d.sm) (hl : d.ml.length ≤ 1000) (hg : d.g.length ≤ 1000) : (dE (stepE d k) (stepD d k)).sm := by
  unfold dE
  split
  · next h =>
    obtain ⟨h1, _, h3⟩ := stepE_ok h
    exact step_sm h1 hs hl hg h3
  · exact dz_sm
theorem dE_begin_sm {g : List Nd} {k : Int} (hg : g.length ≤ 1000) : (dE (begE g k) (begD g k)).sm := by
  unfold dE
  split
  · next h =>
    obtain ⟨h1, h2, h3, _⟩ := begE_ok h
    have hn := nodeAt_next h1 k
    refine ⟨by simp [begD, begD0, Df.ask]; omega, fun n hn => ?_, by simp [begD, begD0, Df.ask, qrs]; omega, by simp [begD, begD0, Df.ask]; omega, by simp [begD, begD0, Df.ask]; omega, by simp [begD, begD0, Df.ask]; omega, fun m hm => ?_⟩
    · have := gOk_next h1 (show n ∈ g from hn); omega
    · simp only [begD, begD0, Df.ask, List.nil_append] at hm
      refine qrs_wf (N := g.length) (by unfold wf64; omega) (by omega) (fun x hx => ?_) m hm
      have := asc_mem (asc_next h1 h2 h3).2.2.2 x hx
      omega
  · exact dz_sm
end Go.Proofs.Ytcjmbkbbhlmkfaa

namespace Go.Proofs.Ytcjmbkbbhlmkfaa
open Go.RowKit Go.Proofs

theorem run_e {G : List Nd} {i : Int} : begE G i = 0 → ∃ n, Run G i (dE (begE G i) (begD G i)) n := fun h => ⟨0, by rw [dE, if_pos h]; exact .begin h⟩
def acIn (g : List Nd) (c : Df) (k : Int) (l order : List Int) (G : List Nd) (i f : Int) (m : Nat) (S : St) : Prop := ∃ (j : Nat) (e : Int) (a b : Df), j + m = order.length ∧ (f = 0 → ∃ n, Run G i b n) ∧
  S = ⟨tmL [(6, .ptr 0 0), (13, .ptr 1 0), (15, .ptr 2 0), (103, .list 1 (iv order)), (104, .s (.int .i64 order.length)), (105, .s (.int .i64 j))],
    [.list 2 (gv g), c.v, .s (.int .i64 k), .list 1 (iv l), .list 1 (iv order), .s (.bool false), .list 2 (gv G), .s (.int .i64 i), .s (.int .i64 e), .s (.int .i64 f), .no, .no, .no, .no, .no, .no, .no], [c.cells, a.cells, b.cells], 0⟩
def acOut (g : List Nd) (c : Df) (k : Int) (l order : List Int) (G : List Nd) (m : Nat) (S : St) : Prop := ∃ (i : Int), -1 ≤ i ∧ i ≤ G.length + 1 ∧ m = (G.length + 1 - i).toNat ∧
  S = ⟨tmL [(6, .ptr 0 0)], [.list 2 (gv g), c.v, .s (.int .i64 k), .list 1 (iv l), .list 1 (iv order), .s (.bool false), .list 2 (gv G), .s (.int .i64 i), .no, .no, .no, .no, .no, .no, .no, .no, .no], [c.cells], 0⟩
set_option maxHeartbeats 16000000 in
set_option maxRecDepth 10000 in
theorem DiffuseActs_pc (g : List Nd) (c : Df) (k : Int) (l order : List Int) (hwf : ∀ m ∈ c.ml, wf64 m.frm ∧ wf64 m.to) : PC Try.prog 3 [.list 2 (gv g), c.v, .s (.int .i64 k), .list 1 (iv l), .list 1 (iv order)] (fun r => r = .s (.bool true)) := by
  refine pc_end c3 mixed rfl ?_
  simp -implicitDefEqProofs [a3, F3, Df.v, Df.cells]
  refine wk_take ?_
  simp -implicitDefEqProofs
  refine wc_of (small_pc g) (by simp) (by simp) ?_
  rintro _ rfl
  by_cases s1 : smallG g = true
  case neg =>
    have s1 : smallG g = false := by simpa using s1
    simp -implicitDefEqProofs [s1]
    refine wk_take ?_
    simp -implicitDefEqProofs
    refine wc_of awake_pc (by simp) (by simp) ?_
    rintro _ rfl
    simp -implicitDefEqProofs
  simp -implicitDefEqProofs [s1]
  refine wk_take ?_
  simp -implicitDefEqProofs
  refine wc_of (small_pc c.g) (by simp) (by simp) ?_
  rintro _ rfl
  by_cases s2 : smallG c.g = true
  case neg =>
    have s2 : smallG c.g = false := by simpa using s2
    simp -implicitDefEqProofs [s2]
    refine wk_take ?_
    simp -implicitDefEqProofs
    refine wc_of awake_pc (by simp) (by simp) ?_
    rintro _ rfl
    simp -implicitDefEqProofs
  by_cases s3 : c.ml.length ≤ 60
  case neg =>
    have s3' : (c.ml.length : Int) > 60 := by omega
    simp -implicitDefEqProofs [s2, s3']
    refine wk_take ?_
    simp -implicitDefEqProofs
    refine wc_of awake_pc (by simp) (by simp) ?_
    rintro _ rfl
    simp -implicitDefEqProofs
  have s3' : ¬ (c.ml.length : Int) > 60 := by omega
  by_cases s4 : c.eng.length ≤ 40
  case neg =>
    have s4' : (c.eng.length : Int) > 40 := by omega
    simp -implicitDefEqProofs [s2, s3', s4']
    refine wk_take ?_
    simp -implicitDefEqProofs
    refine wc_of awake_pc (by simp) (by simp) ?_
    rintro _ rfl
    simp -implicitDefEqProofs
  have s4' : ¬ (c.eng.length : Int) > 40 := by omega
  by_cases s4p : c.par.length ≤ 40
  case neg =>
    have s4p' : (c.par.length : Int) > 40 := by omega
    simp -implicitDefEqProofs [s2, s3', s4', s4p']
    refine wk_take ?_
    simp -implicitDefEqProofs
    refine wc_of awake_pc (by simp) (by simp) ?_
    rintro _ rfl
    simp -implicitDefEqProofs
  have s4p' : ¬ (c.par.length : Int) > 40 := by omega
  by_cases s4o : c.opn.length ≤ 40
  case neg =>
    have s4o' : (c.opn.length : Int) > 40 := by omega
    simp -implicitDefEqProofs [s2, s3', s4', s4p', s4o']
    refine wk_take ?_
    simp -implicitDefEqProofs
    refine wc_of awake_pc (by simp) (by simp) ?_
    rintro _ rfl
    simp -implicitDefEqProofs
  have s4o' : ¬ (c.opn.length : Int) > 40 := by omega
  by_cases s5 : l.length ≤ 120
  case neg =>
    have s5' : (l.length : Int) > 120 := by omega
    simp -implicitDefEqProofs [s2, s3', s4', s4p', s4o', s5']
    refine wk_take ?_
    simp -implicitDefEqProofs
    refine wc_of awake_pc (by simp) (by simp) ?_
    rintro _ rfl
    simp -implicitDefEqProofs
  have s5' : ¬ (l.length : Int) > 120 := by omega
  by_cases s6 : order.length ≤ 60
  case neg =>
    have s6' : (order.length : Int) > 60 := by omega
    simp -implicitDefEqProofs [s2, s3', s4', s4p', s4o', s5', s6']
    refine wk_take ?_
    simp -implicitDefEqProofs
    refine wc_of awake_pc (by simp) (by simp) ?_
    rintro _ rfl
    simp -implicitDefEqProofs
  have s6' : ¬ (order.length : Int) > 60 := by omega
  have hcs := smallG_of s2
  have hgs := smallG_of s1
  have csm : c.sm := ⟨by omega, fun n hn => by have := hcs.2 n hn; omega, by omega, by omega, by omega, by omega, hwf⟩
  simp -implicitDefEqProofs [s2, s3', s4', s4p', s4o', s5', s6']
  refine wk_take ?_
  simp -implicitDefEqProofs
  refine wc_of (graph_pc l false (by omega)) (by simp) (by simp) ?_
  rintro _ ⟨G, rfl, hG, hG1, hG8, _⟩
  have hGn : ∀ n ∈ G, n.next.length ≤ 1000000 := fun n hn => by have := gOk_next hG hn; omega
  simp -implicitDefEqProofs
  refine w_rounds [6] [8, 9, 10, 11, 12] 1 (by simp) (acOut g c k l order G) (G.length + 2) ⟨by simp, -1, by omega, by omega, by omega, by simp [Df.v, Df.cells]⟩ ?_
  rintro m S ⟨i, hi1, hi2, rfl, rfl⟩
  by_cases hi : i ≤ G.length
  · have hwi : IntKind.i64.wrap (i + 1) = i + 1 := wrap64 (by omega)
    have next : ∃ m' : Nat, (m' : Int) < G.length + 1 - i ∧ acOut g c k l order G m' ⟨tmL [(6, .ptr 0 0)], [.list 2 (gv g), c.v, .s (.int .i64 k), .list 1 (iv l), .list 1 (iv order), .s (.bool false), .list 2 (gv G), .s (.int .i64 (IntKind.i64.wrap (i + 1))), .no, .no, .no, .no, .no, .no, .no, .no, .no], [c.cells], 0⟩ :=
      ⟨(G.length + 1 - (i + 1)).toNat, by omega, i + 1, by omega, by omega, rfl, by rw [hwi]⟩
    have hb := dE_begin_sm (g := G) (k := i) (by omega)
    have hst := run_e (G := G) (i := i)
    simp -implicitDefEqProofs [Df.v, Df.cells, hi]
    refine wk_take ?_
    simp -implicitDefEqProofs
    refine wc_of (Begin_pl G i (by omega) hGn) (by simp) (by simp) ?_
    rintro _ rfl
    simp -implicitDefEqProofs [resP, Df.v, Df.cells]
    refine wk_take ?_
    simp -implicitDefEqProofs
    refine wc_of (rBegin_pl G i (by omega) hGn) (by simp) (by simp) ?_
    rintro _ rfl
    simp -implicitDefEqProofs [resP, Df.v, Df.cells]
    revert hb hst
    generalize dE (begE G i) (begD G i) = b0
    generalize begE G i = f
    intro hb hst
    refine wk_take ?_
    simp -implicitDefEqProofs
    refine wc_of (Same_pc b0 b0 hb) (by simp [Df.v, Df.cells]) (by simp [Df.v, Df.cells]) ?_
    rintro _ rfl
    simp -implicitDefEqProofs
    refine w_rounds [6, 13, 15, 103, 104, 105] [10, 11, 12] 3 (by simp) (acIn g c k l order G i f) order.length ⟨by simp, 0, f, b0, b0, by simp, hst, by simp [Df.v, Df.cells]⟩ ?_
    clear hst hb
    rintro m S ⟨j, e, a, b, hjm, hF, rfl⟩
    by_cases hj : j < order.length
    · have j1 : (j : Int) < order.length := by omega
      have j0 : ¬ (j : Int) < 0 := by omega
      cases hf : (f != 0)
      case' true =>
        simp -implicitDefEqProofs [Df.v, Df.cells, j1, j0, iv_get hj, hf]
        exact next
      have hf' : f = 0 := by simpa using hf
      subst hf'
      obtain ⟨rn, hF⟩ := hF rfl
      have hb := hF.sm hG hG8
      have hfew := hF.few
      have h64 := edgs_64 hG hG8
      have hpl := hb.ml
      have wl : IntKind.i64.wrap ((b.ml.length : Int) + 1) = (b.ml.length : Int) + 1 := wrap64 (by omega)
      cases hps : (((b.ml.length : Nat) : Int) == 0)
      case' true =>
        simp -implicitDefEqProofs [Df.v, Df.cells, j1, j0, iv_get hj, hps]
        exact next
      simp -implicitDefEqProofs [Df.v, Df.cells, j1, j0, iv_get hj, hps, wl]
      refine wk_take ?_
      simp -implicitDefEqProofs
      refine wc_of (Mod_pc order[j] ((b.ml.length : Int) + 1) (by omega) (by omega)) (by simp) (by simp) ?_
      rintro _ rfl
      generalize order[j] % ((b.ml.length : Int) + 1) = n
      simp -implicitDefEqProofs
      refine wk_take ?_
      simp -implicitDefEqProofs
      refine wc_of (Step_pl b n hb) (by simp [Df.v, Df.cells]) (by simp [Df.v, Df.cells]) ?_
      rintro _ rfl
      simp -implicitDefEqProofs [resP, Df.v, Df.cells]
      refine wk_take ?_
      simp -implicitDefEqProofs
      refine wc_of (rStep_pl b n hb) (by simp [Df.v, Df.cells]) (by simp [Df.v, Df.cells]) ?_
      rintro _ rfl
      simp -implicitDefEqProofs [resP, Df.v, Df.cells]
      have hd := dE_step_sm (k := n) hb (by omega) (by rw [hF.g]; omega)
      have hst : stepE b n = 0 → ∃ m, Run G i (dE (stepE b n) (stepD b n)) m := fun q => ⟨rn + 1, by rw [dE, if_pos q]; exact hF.step (stepE_ok q).2.2⟩
      revert hd hst
      generalize dE (stepE b n) (stepD b n) = d
      generalize stepE b n = h
      intro hd hst
      refine wkd_take ?_
      simp -implicitDefEqProofs
      refine wcd_of (Same_pc d d hd) (by simp [Df.v, Df.cells]) (by simp [Df.v, Df.cells]) ?_
      simp -implicitDefEqProofs
      refine wkd_take ?_
      simp -implicitDefEqProofs
      refine wcd_of (Over_pc b hb) (by simp [Df.v, Df.cells]) (by simp [Df.v, Df.cells]) ?_
      simp -implicitDefEqProofs
      refine wkd_take ?_
      simp -implicitDefEqProofs
      refine wcd_of (rOver_pc b hb) (by simp [Df.v, Df.cells]) (by simp [Df.v, Df.cells]) ?_
      have wj : IntKind.i64.wrap ((j : Int) + 1) = ((j + 1 : Nat) : Int) := by rw [wrap64 (by omega)]; rfl
      cases hh : (h == 0)
      · simp -implicitDefEqProofs [hh]
        exact ⟨m - 1, by omega, j + 1, h, d, b, by omega, fun _ => ⟨_, hF⟩, by rw [wj]; rfl⟩
      · simp -implicitDefEqProofs [hh]
        exact ⟨m - 1, by omega, j + 1, h, d, d, by omega, fun _ => hst (eq_of_beq hh), by rw [wj]; rfl⟩
    · have j1 : ¬ (j : Int) < order.length := by omega
      simp -implicitDefEqProofs [Df.v, Df.cells, j1]
      exact next
  · simp -implicitDefEqProofs [Df.v, Df.cells, hi]
    have hgn : ∀ n ∈ g, n.next.length ≤ 1000000 := fun n hn => by have := hgs.2 n hn; omega
    have hsb := dE_begin_sm (g := g) (k := k) (by omega)
    have hsd := dE_step_sm (d := c) (k := k) csm (by omega) (by omega)
    refine wk_take ?_
    simp -implicitDefEqProofs
    refine wc_of (Begin_pl g k (by omega) hgn) (by simp) (by simp) ?_
    rintro _ rfl
    simp -implicitDefEqProofs [resP, Df.v, Df.cells]
    refine wk_take ?_
    simp -implicitDefEqProofs
    refine wc_of (rBegin_pl g k (by omega) hgn) (by simp) (by simp) ?_
    rintro _ rfl
    simp -implicitDefEqProofs [resP, Df.v, Df.cells]
    revert hsb
    generalize dE (begE g k) (begD g k) = b
    generalize begE g k = e
    intro hsb
    refine wk_take ?_
    simp -implicitDefEqProofs
    refine wc_of (Step_pl c k csm) (by simp [Df.v, Df.cells]) (by simp [Df.v, Df.cells]) ?_
    rintro _ rfl
    simp -implicitDefEqProofs [resP, Df.v, Df.cells]
    refine wk_take ?_
    simp -implicitDefEqProofs
    refine wc_of (rStep_pl c k csm) (by simp [Df.v, Df.cells]) (by simp [Df.v, Df.cells]) ?_
    rintro _ rfl
    simp -implicitDefEqProofs [resP, Df.v, Df.cells]
    revert hsd
    generalize dE (stepE c k) (stepD c k) = d
    generalize stepE c k = q
    intro hsd
    refine wkd_take ?_
    simp -implicitDefEqProofs
    refine wcd_of awake_pc (by simp) (by simp) ?_
    simp -implicitDefEqProofs
    refine wkd_take ?_
    simp -implicitDefEqProofs
    refine wcd_of (Same_pc b b hsb) (by simp [Df.v, Df.cells]) (by simp [Df.v, Df.cells]) ?_
    simp -implicitDefEqProofs
    refine wkd_take ?_
    simp -implicitDefEqProofs
    refine wcd_of (Same_pc d d hsd) (by simp [Df.v, Df.cells]) (by simp [Df.v, Df.cells]) ?_
    simp -implicitDefEqProofs
    refine wkd_take ?_
    simp -implicitDefEqProofs
    refine wcd_of (Valid_pc c csm) (by simp [Df.v, Df.cells]) (by simp [Df.v, Df.cells]) ?_
    simp -implicitDefEqProofs
    refine wkd_take ?_
    simp -implicitDefEqProofs
    refine wcd_of (rValid_pc c csm) (by simp [Df.v, Df.cells]) (by simp [Df.v, Df.cells]) ?_
    simp -implicitDefEqProofs
    refine wkd_take ?_
    simp -implicitDefEqProofs
    refine wcd_of (Over_pc c csm) (by simp [Df.v, Df.cells]) (by simp [Df.v, Df.cells]) ?_
    simp -implicitDefEqProofs
    refine wkd_take ?_
    simp -implicitDefEqProofs
    refine wcd_of (rOver_pc c csm) (by simp [Df.v, Df.cells]) (by simp [Df.v, Df.cells]) ?_
    simp -implicitDefEqProofs
end Go.Proofs.Ytcjmbkbbhlmkfaa

namespace Go.Proofs.Ytcjmbkbbhlmkfaa
open Go.RowKit Go.Proofs

theorem sh_intW {dep : Nat} {el : List V} (h : Shape Try.prog (dep + 1) 3 el) : ∃ n : Int, wf64 n ∧ el = [.s (.int .i64 n)] := by
  unfold Shape at h
  rw [Try.underlying3] at h
  obtain ⟨n, hn, hx⟩ := h
  have hb : -9223372036854775808 ≤ n ∧ n ≤ 9223372036854775807 := by simpa [Lit.wf, IntKind.min, IntKind.max, IntKind.signed, IntKind.bits] using hn
  exact ⟨n, by unfold wf64; omega, by simpa using hx⟩
theorem sh_elsP {α : Type} {dep : Nat} {t : TypeId} {f : α → V} {p : α → Prop} (hf : ∀ el, Shape Try.prog dep t el → ∃ a, p a ∧ elemD Try.prog t el = f a) : ∀ (els : List (List V)), (∀ el ∈ els, Shape Try.prog dep t el) → ∃ m : List α, (∀ a ∈ m, p a) ∧ els.map (elemD Try.prog t) = m.map f
  | [], _ => ⟨[], by simp, rfl⟩
  | x :: r, h => by
    obtain ⟨m, hp, hm⟩ := sh_elsP hf r (fun el hel => h el (by simp [hel]))
    obtain ⟨a, pa, ha⟩ := hf x (h x (by simp))
    exact ⟨a :: m, by simpa using ⟨pa, hp⟩, by rw [List.map_cons, hm, ha]; rfl⟩
theorem sh_ml {dep : Nat} {el : List V} (h : Shape Try.prog (dep + 2) 59 el) : ∃ m : Ml, (wf64 m.frm ∧ wf64 m.to) ∧ el = [.s (.int .i64 m.frm), .s (.int .i64 m.to), .s (.bool m.rep)] := by
  unfold Shape at h
  rw [Try.underlying59] at h
  obtain ⟨parts, rfl, hl, hp⟩ := h
  obtain ⟨a, b, c, rfl, ha, hb, hc⟩ := parts3 rfl hl hp
  obtain ⟨x, wx, rfl⟩ := sh_intW ha
  obtain ⟨y, wy, rfl⟩ := sh_intW hb
  obtain ⟨r, rfl⟩ := sh_bool0 hc
  exact ⟨⟨x, y, r⟩, ⟨wx, wy⟩, rfl⟩
theorem sh_mails0 {dep : Nat} {el : List V} (h : Shape Try.prog (dep + 3) 23 el) : ∃ l : List Ml, (∀ m ∈ l, wf64 m.frm ∧ wf64 m.to) ∧ el = [.list 3 (mv l)] := by
  unfold Shape at h
  rw [Try.underlying23] at h
  obtain ⟨els, hx, _, hb⟩ := h
  have e1 : Try.prog.cellsOf 59 = 3 := by kernel_rfl
  have e2 : aggT Try.prog 59 = some true := by kernel_rfl
  rw [e1] at hx
  obtain ⟨m, hp, hm⟩ := sh_elsP (f := Ml.v) (p := fun m => wf64 m.frm ∧ wf64 m.to) (fun el hel => by
    obtain ⟨n, hn, rfl⟩ := sh_ml hel
    exact ⟨n, hn, by simp [elemD, e2, Ml.v]⟩) els hb
  rw [hm] at hx
  exact ⟨m, hp, hx⟩
theorem sh_diffuse {dep : Nat} {x : V} (h : ArgShape Try.prog (dep + 5) 27 x) : ∃ d : Df, (∀ m ∈ d.ml, wf64 m.frm ∧ wf64 m.to) ∧ x = d.v := by
  unfold ArgShape at h
  rw [Try.underlying27] at h
  simp only at h
  obtain ⟨xs, rfl, h⟩ := h
  unfold Shape at h
  rw [Try.underlying27] at h
  obtain ⟨parts, rfl, hl, hp⟩ := h
  obtain ⟨a, b, c, d, e, f, q, rfl, ha, hb, hc, hd, he, hf, hq⟩ := parts7 rfl hl hp
  obtain ⟨g, rfl⟩ := sh_graph0 ha
  obtain ⟨s, rfl⟩ := sh_int0 hb
  obtain ⟨ml, wm, rfl⟩ := sh_mails0 hc
  obtain ⟨en, rfl⟩ := sh_bools0 hd
  obtain ⟨pa, rfl⟩ := sh_ints0 he
  obtain ⟨op, rfl⟩ := sh_ints0 hf
  obtain ⟨dd, rfl⟩ := sh_bool0 hq
  exact ⟨⟨g, s, ml, en, pa, op, dd⟩, wm, rfl⟩
end Go.Proofs.Ytcjmbkbbhlmkfaa
