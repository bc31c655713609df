/- Texts put behind one another: L0, LB, LC, LD, LE. -/
import Derived.Test.YtebibhmjmaomnaaZE
import Derived.Tactics
import Derived.IntWalk
import Derived.Test.YtebibhmjmaomnaaProg
set_option linter.unusedVariables false
set_option linter.unusedSimpArgs false
namespace Go.Proofs.Ytebibhmjmaomnaa
open Go.RowKit Go.Proofs
def F5 : Fr := ⟨57, [0, 1, 4, 8, 10, 12]⟩
def a5 : ACode :=
 (.seq (.reg 0 [] [
 ⟨(.v 2), .asg (.c (.bool false)), none⟩] none ⟨[], [], [], []⟩)
 (.seq (.reg 1 [] [
 ⟨(.t 13), .mv (.v 0), none⟩,
 ⟨(.t 14), .call 9 [(.t 13)], none⟩,
 ⟨(.t 15), .mv (.v 1), none⟩,
 ⟨(.t 16), .call 9 [(.t 15)], none⟩,
 ⟨(.t 5), .allo [(.int .i64 0), (.slice none 0 0)], none⟩,
 ⟨(.t 6), .allo [(.int .i64 0), (.slice none 0 0)], none⟩,
 ⟨.none, .st 2 (.t 5) (.t 14), none⟩,
 ⟨.none, .st 2 (.t 6) (.t 16), none⟩] none ⟨[], [], [], []⟩)
 (.seq (.reg 2 [] [
 ⟨(.t 18), .ld 2 true (.t 5), none⟩,
 ⟨(.t 19), .ld 2 true (.t 6), none⟩,
 ⟨(.t 20), .call 16 [(.t 18), (.t 19)], none⟩,
 ⟨(.t 17), .mv (.t 20), none⟩,
 ⟨(.t 21), .ext 17 0, none⟩,
 ⟨(.t 22), .ext 17 1, none⟩,
 ⟨(.t 7), .allo [(.int .i64 0), (.slice none 0 0)], none⟩,
 ⟨.none, .st 2 (.t 7) (.t 21), none⟩,
 ⟨(.v 3), .asg (.t 22), none⟩] none ⟨[], [], [], []⟩)
 (.seq (.reg 3 [] [
 ⟨(.t 24), .ld 2 true (.t 6), none⟩,
 ⟨(.t 25), .ld 2 true (.t 5), none⟩,
 ⟨(.t 26), .call 16 [(.t 24), (.t 25)], none⟩,
 ⟨(.t 23), .mv (.t 26), none⟩,
 ⟨(.t 27), .ext 23 0, none⟩,
 ⟨(.t 28), .ext 23 1, none⟩,
 ⟨(.t 9), .allo [(.int .i64 0), (.slice none 0 0)], none⟩,
 ⟨.none, .st 2 (.t 9) (.t 27), none⟩,
 ⟨(.v 4), .asg (.t 28), none⟩] none ⟨[], [], [], []⟩)
 (.seq (.reg 4 [] [
 ⟨(.t 30), .ld 2 true (.t 5), none⟩,
 ⟨(.t 31), .ld 2 true (.t 6), none⟩,
 ⟨(.t 32), .bls 32 2 (.agg #[(.int .i64 0), (.slice none 0 0)]) 2 [(0, (.t 30)), (1, (.t 31))], none⟩,
 ⟨(.t 33), .call 12 [(.t 32)], none⟩,
 ⟨(.t 29), .mv (.t 33), none⟩,
 ⟨(.t 34), .ext 29 0, none⟩,
 ⟨(.t 35), .ext 29 1, none⟩,
 ⟨(.t 11), .allo [(.int .i64 0), (.slice none 0 0)], none⟩,
 ⟨.none, .st 2 (.t 11) (.t 34), none⟩,
 ⟨(.v 5), .asg (.t 35), none⟩] none ⟨[], [], [], []⟩)
 (.seq (.reg 5 [] [
 ⟨(.t 36), .call 8 [], none⟩,
 ⟨(.t 37), .mv (.t 36), none⟩,
 ⟨(.t 38), .mv (.v 3), some (37, true)⟩,
 ⟨(.t 39), .mv (.v 4), some (37, true)⟩,
 ⟨(.t 40), .bin .eql (.t 38) (.t 39), some (37, true)⟩,
 ⟨(.t 41), .pick (.t 37) (.t 40) (.c (.bool false)), none⟩,
 ⟨(.t 42), .mv (.t 41), none⟩,
 ⟨(.t 43), .mv (.v 4), some (42, true)⟩,
 ⟨(.t 44), .mv (.v 5), some (42, true)⟩,
 ⟨(.t 45), .bin .eql (.t 43) (.t 44), some (42, true)⟩,
 ⟨(.t 46), .pick (.t 42) (.t 45) (.c (.bool false)), none⟩,
 ⟨(.t 47), .mv (.t 46), none⟩,
 ⟨(.t 48), .ld 2 true (.t 7), some (47, true)⟩,
 ⟨(.t 49), .ld 2 true (.t 9), some (47, true)⟩,
 ⟨(.t 50), .call 18 [(.t 48), (.t 49)], some (47, true)⟩,
 ⟨(.t 51), .pick (.t 47) (.t 50) (.c (.bool false)), none⟩,
 ⟨(.t 52), .mv (.t 51), none⟩,
 ⟨(.t 53), .ld 2 true (.t 9), some (52, true)⟩,
 ⟨(.t 54), .ld 2 true (.t 11), some (52, true)⟩,
 ⟨(.t 55), .call 18 [(.t 53), (.t 54)], some (52, true)⟩,
 ⟨(.t 56), .pick (.t 52) (.t 55) (.c (.bool false)), none⟩,
 ⟨(.v 2), .asg (.t 56), none⟩] none ⟨[], [], [], []⟩)
 .ret))))))
theorem c5 : compFn Try.prog 5 F5 = some (2, strip a5, [.v 2]) ∧ lexAll a5 = true := ⟨by kernel_rfl, by kernel_rfl⟩
def F6 : Fr := ⟨96, [0, 1, 4, 8, 10, 12, 14, 16]⟩
def a6 : ACode :=
 (.seq (.reg 0 [] [
 ⟨(.v 2), .asg (.c (.bool false)), none⟩] none ⟨[], [], [], []⟩)
 (.seq (.reg 1 [] [
 ⟨(.t 17), .mv (.v 0), none⟩,
 ⟨(.t 18), .call 9 [(.t 17)], none⟩,
 ⟨(.t 5), .allo [(.int .i64 0), (.slice none 0 0)], none⟩,
 ⟨.none, .st 2 (.t 5) (.t 18), none⟩] none ⟨[], [], [], []⟩)
 (.seq (.reg 2 [] [
 ⟨(.t 19), .bls 9 1 (.string (ByteArray.mk #[])) 5 [(0, (.c (.string (ByteArray.mk #[97])))), (1, (.c (.string (ByteArray.mk #[98])))), (2, (.c (.string (ByteArray.mk #[99])))), (3, (.c (.string (ByteArray.mk #[100])))), (4, (.c (.string (ByteArray.mk #[101]))))], none⟩,
 ⟨(.t 20), .mv (.v 1), none⟩,
 ⟨(.t 21), .conv .i64 (.t 20), none⟩,
 ⟨(.t 22), .bin .rem (.t 21) (.c (.int .i64 5)), none⟩,
 ⟨(.t 23), .ia 1 (.t 19) (.t 22), none⟩,
 ⟨(.t 24), .ld 1 false (.t 23), none⟩,
 ⟨(.t 25), .call 10 [(.t 24)], none⟩,
 ⟨(.t 6), .allo [(.string (ByteArray.mk #[])), (.int .i64 0), (.int .i64 0), (.int .i64 0)], none⟩,
 ⟨.none, .st 4 (.t 6) (.t 25), none⟩] none ⟨[], [], [], []⟩)
 (.seq (.reg 3 [] [
 ⟨(.t 27), .fa 1 (.t 5), none⟩,
 ⟨(.t 28), .ld 1 false (.t 27), none⟩,
 ⟨(.t 29), .fa 0 (.t 6), none⟩,
 ⟨(.t 30), .ld 1 false (.t 29), none⟩,
 ⟨(.t 31), .call 35 [(.t 28), (.t 30)], none⟩,
 ⟨(.t 26), .mv (.t 31), none⟩,
 ⟨(.t 32), .ext 26 0, none⟩,
 ⟨(.t 33), .ext 26 1, none⟩,
 ⟨(.t 7), .allo [(.string (ByteArray.mk #[])), (.int .i64 0), (.int .i64 0), (.int .i64 0)], none⟩,
 ⟨.none, .st 4 (.t 7) (.t 32), none⟩,
 ⟨(.v 3), .asg (.t 33), none⟩] none ⟨[], [], [], []⟩)
 (.seq (.reg 4 [] [
 ⟨(.t 35), .ld 2 true (.t 5), none⟩,
 ⟨(.t 36), .ld 4 true (.t 6), none⟩,
 ⟨(.t 37), .call 14 [(.t 35), (.c (.bool true)), (.t 36)], none⟩,
 ⟨(.t 34), .mv (.t 37), none⟩,
 ⟨(.t 38), .ext 34 0, none⟩,
 ⟨(.t 39), .ext 34 1, none⟩,
 ⟨(.t 9), .allo [(.int .i64 0), (.slice none 0 0)], none⟩,
 ⟨.none, .st 2 (.t 9) (.t 38), none⟩,
 ⟨(.v 4), .asg (.t 39), none⟩] none ⟨[], [], [], []⟩)
 (.seq (.seq (.reg 5 [] [
 ⟨(.t 40), .mv (.v 3), none⟩] none ⟨[], [], [], []⟩)
 (.cond (.t 40)
 (.seq (.reg 6 [] [
 ⟨(.t 41), .call 8 [], none⟩,
 ⟨(.t 42), .mv (.t 41), none⟩,
 ⟨(.t 43), .mv (.v 4), some (42, true)⟩,
 ⟨(.t 44), .bin .eql (.t 43) (.c (.int .i64 11)), some (42, true)⟩,
 ⟨(.t 45), .pick (.t 42) (.t 44) (.c (.bool false)), none⟩,
 ⟨(.v 2), .asg (.t 45), none⟩] none ⟨[], [], [], []⟩)
 .ret)
 .skip))
 (.seq (.seq (.reg 7 [] [
 ⟨(.t 47), .fa 1 (.t 9), none⟩,
 ⟨(.t 48), .ld 1 false (.t 47), none⟩,
 ⟨(.t 49), .fa 0 (.t 6), none⟩,
 ⟨(.t 50), .ld 1 false (.t 49), none⟩,
 ⟨(.t 51), .call 35 [(.t 48), (.t 50)], none⟩,
 ⟨(.t 46), .mv (.t 51), none⟩,
 ⟨(.t 52), .ext 46 0, none⟩,
 ⟨(.t 53), .ext 46 1, none⟩,
 ⟨(.t 11), .allo [(.string (ByteArray.mk #[])), (.int .i64 0), (.int .i64 0), (.int .i64 0)], none⟩,
 ⟨.none, .st 4 (.t 11) (.t 52), none⟩,
 ⟨(.v 5), .asg (.t 53), none⟩] none ⟨[], [], [], []⟩)
 (.seq (.reg 8 [] [
 ⟨(.t 54), .mv (.v 4), none⟩,
 ⟨(.t 55), .bin .neq (.t 54) (.c (.int .i64 0)), none⟩,
 ⟨(.t 56), .mv (.t 55), none⟩,
 ⟨(.t 57), .mv (.v 5), some (56, false)⟩,
 ⟨(.t 58), .un .not (.t 57), some (56, false)⟩,
 ⟨(.t 59), .pick (.t 56) (.c (.bool true)) (.t 58), none⟩] none ⟨[], [], [], []⟩)
 (.cond (.t 59)
 (.seq (.reg 9 [] [
 ⟨(.v 2), .asg (.c (.bool false)), none⟩] none ⟨[], [], [], []⟩)
 .ret)
 .skip)))
 (.seq (.reg 10 [] [
 ⟨(.t 61), .ld 2 true (.t 9), none⟩,
 ⟨(.t 62), .ld 4 true (.t 6), none⟩,
 ⟨(.t 63), .call 14 [(.t 61), (.c (.bool true)), (.t 62)], none⟩,
 ⟨(.t 60), .mv (.t 63), none⟩,
 ⟨(.t 64), .ext 60 0, none⟩,
 ⟨(.t 65), .ext 60 1, none⟩,
 ⟨(.t 13), .allo [(.int .i64 0), (.slice none 0 0)], none⟩,
 ⟨.none, .st 2 (.t 13) (.t 64), none⟩,
 ⟨(.v 6), .asg (.t 65), none⟩] none ⟨[], [], [], []⟩)
 (.seq (.reg 11 [] [
 ⟨(.t 67), .ld 2 true (.t 9), none⟩,
 ⟨(.t 68), .ld 4 true (.t 6), none⟩,
 ⟨(.t 69), .call 14 [(.t 67), (.c (.bool false)), (.t 68)], none⟩,
 ⟨(.t 66), .mv (.t 69), none⟩,
 ⟨(.t 70), .ext 66 0, none⟩,
 ⟨(.t 71), .ext 66 1, none⟩,
 ⟨(.t 15), .allo [(.int .i64 0), (.slice none 0 0)], none⟩,
 ⟨.none, .st 2 (.t 15) (.t 70), none⟩,
 ⟨(.v 7), .asg (.t 71), none⟩] none ⟨[], [], [], []⟩)
 (.seq (.reg 12 [] [
 ⟨(.t 72), .call 8 [], none⟩,
 ⟨(.t 73), .mv (.t 72), none⟩,
 ⟨(.t 74), .mv (.v 6), some (73, true)⟩,
 ⟨(.t 75), .bin .eql (.t 74) (.c (.int .i64 11)), some (73, true)⟩,
 ⟨(.t 76), .pick (.t 73) (.t 75) (.c (.bool false)), none⟩,
 ⟨(.t 77), .mv (.t 76), none⟩,
 ⟨(.t 78), .mv (.v 7), some (77, true)⟩,
 ⟨(.t 79), .bin .eql (.t 78) (.c (.int .i64 0)), some (77, true)⟩,
 ⟨(.t 80), .pick (.t 77) (.t 79) (.c (.bool false)), none⟩,
 ⟨(.t 81), .mv (.t 80), none⟩,
 ⟨(.t 82), .fa 0 (.t 15), some (81, true)⟩,
 ⟨(.t 83), .ld 1 false (.t 82), some (81, true)⟩,
 ⟨(.t 84), .fa 0 (.t 5), some (81, true)⟩,
 ⟨(.t 85), .ld 1 false (.t 84), some (81, true)⟩,
 ⟨(.t 86), .bin .add (.t 85) (.c (.int .i64 2)), some (81, true)⟩,
 ⟨(.t 87), .bin .eql (.t 83) (.t 86), some (81, true)⟩,
 ⟨(.t 88), .pick (.t 81) (.t 87) (.c (.bool false)), none⟩,
 ⟨(.t 89), .mv (.t 88), none⟩,
 ⟨(.t 90), .fa 1 (.t 15), some (89, true)⟩,
 ⟨(.t 91), .ld 1 false (.t 90), some (89, true)⟩,
 ⟨(.t 92), .fa 1 (.t 5), some (89, true)⟩,
 ⟨(.t 93), .ld 1 false (.t 92), some (89, true)⟩,
 ⟨(.t 94), .call 36 [(.t 91), (.t 93)], some (89, true)⟩,
 ⟨(.t 95), .pick (.t 89) (.t 94) (.c (.bool false)), none⟩,
 ⟨(.v 2), .asg (.t 95), none⟩] none ⟨[], [], [], []⟩)
 .ret))))))))))
theorem c6 : compFn Try.prog 6 F6 = some (2, strip a6, [.v 2]) ∧ lexAll a6 = true := ⟨by kernel_rfl, by kernel_rfl⟩
def F7 : Fr := ⟨19, [0, 2]⟩
def a7 : ACode :=
 (.seq (.reg 0 [] [
 ⟨(.v 1), .asg (.c (.bool false)), none⟩] none ⟨[], [], [], []⟩)
 (.seq (.seq (.reg 1 [] [
 ⟨(.t 5), .mv (.v 0), none⟩,
 ⟨(.t 6), .len (.t 5), none⟩,
 ⟨(.t 7), .bin .gtr (.t 6) (.c (.int .i64 12)), none⟩] none ⟨[], [], [], []⟩)
 (.cond (.t 7)
 (.seq (.reg 2 [] [
 ⟨(.v 1), .asg (.c (.bool false)), none⟩] none ⟨[], [], [], []⟩)
 .ret)
 .skip))
 (.seq (.seq (.reg 3 [] [
 ⟨(.t 8), .mv (.v 0), none⟩,
 ⟨(.t 9), .len (.t 8), none⟩,
 ⟨(.t 10), .mv (.c (.int .i64 0)), none⟩] none ⟨[], [], [], []⟩)
 (.block 0
 (.loop
 (.seq (.reg 4 [] [
 ⟨(.t 11), .bin .lss (.t 10) (.t 9), none⟩] none ⟨[], [], [], []⟩)
 (.seq (.cond (.t 11)
 .skip
 (.exit 0))
 (.seq (.block 1
 (.seq (.reg 5 [] [
 ⟨(.t 12), .ia 2 (.t 8) (.t 10), none⟩,
 ⟨(.t 13), .ld 2 true (.t 12), none⟩,
 ⟨(.t 4), .allo [(.int .i64 0), (.slice none 0 0)], none⟩,
 ⟨.none, .st 2 (.t 4) (.t 13), none⟩] none ⟨[], [], [], []⟩)
 (.seq (.reg 6 [] [
 ⟨(.t 14), .fa 1 (.t 4), none⟩,
 ⟨(.t 15), .ld 1 false (.t 14), none⟩,
 ⟨(.t 16), .len (.t 15), none⟩,
 ⟨(.t 17), .bin .gtr (.t 16) (.c (.int .i64 12)), none⟩] none ⟨[], [], [], []⟩)
 (.cond (.t 17)
 (.seq (.reg 7 [] [
 ⟨(.v 1), .asg (.c (.bool false)), none⟩] none ⟨[], [], [], []⟩)
 .ret)
 .skip))))
 (.reg 8 [] [
 ⟨(.t 18), .bin .add (.t 10) (.c (.int .i64 1)), none⟩,
 ⟨(.t 10), .mv (.t 18), none⟩] none ⟨[], [], [], []⟩)))))))
 (.seq (.reg 9 [] [
 ⟨(.v 1), .asg (.c (.bool true)), none⟩] none ⟨[], [], [], []⟩)
 .ret))))
theorem c7 : compFn Try.prog 7 F7 = some (1, strip a7, [.v 1]) ∧ lexAll a7 = true := ⟨by kernel_rfl, by kernel_rfl⟩
def F8 : Fr := ⟨78, [0, 2, 3, 5, 7]⟩
def F10 : Fr := ⟨5, [0]⟩
def a10 : ACode :=
 (.seq (.reg 0 [] [
 ⟨(.t 2), .allo [(.string (ByteArray.mk #[])), (.int .i64 0), (.int .i64 0), (.int .i64 0)], none⟩] none ⟨[], [], [], []⟩)
 (.seq (.reg 1 [] [
 ⟨(.t 3), .mv (.v 0), none⟩,
 ⟨(.t 4), .bld [(.string (ByteArray.mk #[])), (.int .i64 0), (.int .i64 0), (.int .i64 0)] [(0, 1, (.t 3)), (1, 1, (.c (.int .i64 1))), (2, 1, (.c (.int .i64 1)))], none⟩,
 ⟨.none, .st 4 (.t 2) (.t 4), none⟩] none ⟨[], [], [], []⟩)
 .ret))
theorem c10 : compFn Try.prog 10 F10 = some (1, strip a10, [.c 2 4 true]) ∧ lexAll a10 = true := ⟨by kernel_rfl, by kernel_rfl⟩
def F11 : Fr := ⟨16, [0, 1, 4]⟩
def a11 : ACode :=
 (.seq (.reg 0 [] [
 ⟨(.v 2), .asg (.c (.int .i64 0)), none⟩] none ⟨[], [], [], []⟩)
 (.seq (.seq (.reg 1 [] [
 ⟨(.t 5), .mv (.v 1), none⟩,
 ⟨(.t 6), .bin .lss (.t 5) (.c (.int .i64 1)), none⟩] none ⟨[], [], [], []⟩)
 (.cond (.t 6)
 (.seq (.reg 2 [] [
 ⟨(.v 2), .asg (.c (.int .i64 0)), none⟩] none ⟨[], [], [], []⟩)
 .ret)
 .skip))
 (.seq (.reg 3 [] [
 ⟨(.t 7), .mv (.v 0), none⟩,
 ⟨(.t 8), .mv (.v 1), none⟩,
 ⟨(.t 9), .bin .rem (.t 7) (.t 8), none⟩,
 ⟨(.v 0), .asg (.t 9), none⟩] none ⟨[], [], [], []⟩)
 (.seq (.seq (.reg 4 [] [
 ⟨(.t 10), .mv (.v 0), none⟩,
 ⟨(.t 11), .bin .lss (.t 10) (.c (.int .i64 0)), none⟩] none ⟨[], [], [], []⟩)
 (.cond (.t 11)
 (.reg 5 [] [
 ⟨(.t 12), .mv (.v 0), none⟩,
 ⟨(.t 13), .mv (.v 1), none⟩,
 ⟨(.t 14), .bin .add (.t 12) (.t 13), none⟩,
 ⟨(.v 0), .asg (.t 14), none⟩] none ⟨[], [], [], []⟩)
 .skip))
 (.seq (.reg 6 [] [
 ⟨(.t 15), .mv (.v 0), none⟩,
 ⟨(.v 2), .asg (.t 15), none⟩] none ⟨[], [], [], []⟩)
 .ret)))))
theorem c11 : compFn Try.prog 11 F11 = some (2, strip a11, [.v 2]) ∧ lexAll a11 = true := ⟨by kernel_rfl, by kernel_rfl⟩
def F12 : Fr := ⟨56, [0, 3]⟩
def a12 : ACode :=
 (.seq (.reg 0 [] [
 ⟨(.t 2), .allo [(.int .i64 0), (.slice none 0 0)], none⟩,
 ⟨(.v 1), .asg (.c (.int .i64 0)), none⟩] none ⟨[], [], [], []⟩)
 (.seq (.seq (.reg 1 [] [
 ⟨(.t 9), .mv (.v 0), none⟩,
 ⟨(.t 10), .len (.t 9), none⟩,
 ⟨(.t 11), .bin .eql (.t 10) (.c (.int .i64 0)), none⟩] none ⟨[], [], [], []⟩)
 (.cond (.t 11)
 (.seq (.reg 2 [] [
 ⟨(.t 12), .bld [(.int .i64 0), (.slice none 0 0)] [], none⟩,
 ⟨.none, .st 2 (.t 2) (.t 12), none⟩,
 ⟨(.v 1), .asg (.c (.int .i64 1)), none⟩] none ⟨[], [], [], []⟩)
 .ret)
 .skip))
 (.seq (.reg 3 [] [
 ⟨(.t 13), .mv (.v 0), none⟩,
 ⟨(.t 14), .ia 2 (.t 13) (.c (.int .i64 0)), none⟩,
 ⟨(.t 15), .ld 2 true (.t 14), none⟩,
 ⟨(.t 4), .allo [(.int .i64 0), (.slice none 0 0)], none⟩,
 ⟨.none, .st 2 (.t 4) (.t 15), none⟩] none ⟨[], [], [], []⟩)
 (.seq (.seq (.reg 4 [] [
 ⟨(.t 16), .mv (.v 0), none⟩,
 ⟨(.t 17), .len (.t 16), none⟩,
 ⟨(.t 18), .mv (.c (.int .i64 0)), none⟩] none ⟨[], [], [], []⟩)
 (.block 0
 (.loop
 (.seq (.reg 5 [] [
 ⟨(.t 19), .bin .lss (.t 18) (.t 17), none⟩] none ⟨[], [], [], []⟩)
 (.seq (.cond (.t 19)
 .skip
 (.exit 0))
 (.seq (.block 1
 (.seq (.reg 6 [] [
 ⟨(.t 20), .ia 2 (.t 16) (.t 18), none⟩,
 ⟨(.t 21), .ld 2 true (.t 20), none⟩,
 ⟨(.t 6), .allo [(.int .i64 0), (.slice none 0 0)], none⟩,
 ⟨.none, .st 2 (.t 6) (.t 21), none⟩] none ⟨[], [], [], []⟩)
 (.seq (.seq (.reg 7 [] [
 ⟨(.t 22), .ld 2 true (.t 6), none⟩,
 ⟨(.t 23), .call 19 [(.t 22)], none⟩,
 ⟨(.t 24), .un .not (.t 23), none⟩] none ⟨[], [], [], []⟩)
 (.cond (.t 24)
 (.seq (.reg 8 [] [
 ⟨(.t 25), .bld [(.int .i64 0), (.slice none 0 0)] [], none⟩,
 ⟨.none, .st 2 (.t 2) (.t 25), none⟩,
 ⟨(.v 1), .asg (.c (.int .i64 2)), none⟩] none ⟨[], [], [], []⟩)
 .ret)
 .skip))
 (.seq (.reg 9 [] [
 ⟨(.t 26), .fa 0 (.t 6), none⟩,
 ⟨(.t 27), .ld 1 false (.t 26), none⟩,
 ⟨(.t 28), .fa 0 (.t 4), none⟩,
 ⟨(.t 29), .ld 1 false (.t 28), none⟩,
 ⟨(.t 30), .bin .gtr (.t 27) (.t 29), none⟩] none ⟨[], [], [], []⟩)
 (.cond (.t 30)
 (.reg 10 [.lend (.cell 2 0) 31, .lend (.cell 2 1) 31] [
 ⟨(.t 31), .ld 2 true (.t 6), none⟩,
 ⟨.none, .st 2 (.t 4) (.t 31), none⟩] none ⟨[], [], [], []⟩)
 .skip)))))
 (.reg 11 [] [
 ⟨(.t 32), .bin .add (.t 18) (.c (.int .i64 1)), none⟩,
 ⟨(.t 18), .mv (.t 32), none⟩] none ⟨[], [], [], []⟩)))))))
 (.seq (.seq (.reg 12 [] [
 ⟨(.t 33), .mv (.v 0), none⟩,
 ⟨(.t 34), .len (.t 33), none⟩,
 ⟨(.t 35), .mv (.c (.int .i64 0)), none⟩] none ⟨[], [], [], []⟩)
 (.block 2
 (.loop
 (.seq (.reg 13 [] [
 ⟨(.t 36), .bin .lss (.t 35) (.t 34), none⟩] none ⟨[], [], [], []⟩)
 (.seq (.cond (.t 36)
 .skip
 (.exit 2))
 (.seq (.block 3
 (.seq (.reg 14 [] [
 ⟨(.t 37), .ia 2 (.t 33) (.t 35), none⟩,
 ⟨(.t 38), .ld 2 true (.t 37), none⟩,
 ⟨(.t 8), .allo [(.int .i64 0), (.slice none 0 0)], none⟩,
 ⟨.none, .st 2 (.t 8) (.t 38), none⟩] none ⟨[], [], [], []⟩)
 (.seq (.reg 15 [] [
 ⟨(.t 39), .fa 0 (.t 8), none⟩,
 ⟨(.t 40), .ld 1 false (.t 39), none⟩,
 ⟨(.t 41), .fa 0 (.t 4), none⟩,
 ⟨(.t 42), .ld 1 false (.t 41), none⟩,
 ⟨(.t 43), .bin .eql (.t 40) (.t 42), none⟩,
 ⟨(.t 44), .mv (.t 43), none⟩,
 ⟨(.t 45), .fa 1 (.t 8), some (44, true)⟩,
 ⟨(.t 46), .ld 1 false (.t 45), some (44, true)⟩,
 ⟨(.t 47), .fa 1 (.t 4), some (44, true)⟩,
 ⟨(.t 48), .ld 1 false (.t 47), some (44, true)⟩,
 ⟨(.t 49), .call 37 [(.t 46), (.t 48)], some (44, true)⟩,
 ⟨(.t 50), .un .not (.t 49), some (44, true)⟩,
 ⟨(.t 51), .pick (.t 44) (.t 50) (.c (.bool false)), none⟩] none ⟨[], [], [], []⟩)
 (.cond (.t 51)
 (.seq (.reg 16 [] [
 ⟨(.t 52), .bld [(.int .i64 0), (.slice none 0 0)] [], none⟩,
 ⟨.none, .st 2 (.t 2) (.t 52), none⟩,
 ⟨(.v 1), .asg (.c (.int .i64 13)), none⟩] none ⟨[], [], [], []⟩)
 .ret)
 .skip))))
 (.reg 17 [] [
 ⟨(.t 53), .bin .add (.t 35) (.c (.int .i64 1)), none⟩,
 ⟨(.t 35), .mv (.t 53), none⟩] none ⟨[], [], [], []⟩)))))))
 (.seq (.reg 18 [] [
 ⟨(.t 54), .ld 2 true (.t 4), none⟩,
 ⟨(.t 55), .call 38 [(.t 54)], none⟩,
 ⟨.none, .st 2 (.t 2) (.t 55), none⟩,
 ⟨(.v 1), .asg (.c (.int .i64 0)), none⟩] none ⟨[], [], [], []⟩)
 .ret))))))
theorem c12 : compFn Try.prog 12 F12 = some (1, strip a12, [.c 2 2 true, .v 1]) ∧ lexAll a12 = true := ⟨by kernel_rfl, by kernel_rfl⟩
def F14 : Fr := ⟨43, [0, 1, 2, 7, 8, 9]⟩
def a14 : ACode :=
 (.seq (.reg 0 [] [
 ⟨(.t 3), .box 2 (.v 0), none⟩,
 ⟨(.t 5), .box 4 (.v 2), none⟩,
 ⟨(.t 6), .allo [(.int .i64 0), (.slice none 0 0)], none⟩,
 ⟨(.v 3), .asg (.c (.int .i64 0)), none⟩] none ⟨[], [], [], []⟩)
 (.seq (.seq (.reg 1 [] [
 ⟨(.t 10), .ld 2 true (.t 3), none⟩,
 ⟨(.t 11), .call 19 [(.t 10)], none⟩,
 ⟨(.t 12), .un .not (.t 11), none⟩] none ⟨[], [], [], []⟩)
 (.cond (.t 12)
 (.seq (.reg 2 [] [
 ⟨(.t 13), .bld [(.int .i64 0), (.slice none 0 0)] [], none⟩,
 ⟨.none, .st 2 (.t 6) (.t 13), none⟩,
 ⟨(.v 3), .asg (.c (.int .i64 2)), none⟩] none ⟨[], [], [], []⟩)
 .ret)
 .skip))
 (.seq (.seq (.reg 3 [] [
 ⟨(.t 14), .fa 0 (.t 3), none⟩,
 ⟨(.t 15), .ld 1 false (.t 14), none⟩,
 ⟨(.t 16), .bin .eql (.t 15) (.c (.int .i64 1073741824)), none⟩] none ⟨[], [], [], []⟩)
 (.cond (.t 16)
 (.seq (.reg 4 [] [
 ⟨(.t 17), .bld [(.int .i64 0), (.slice none 0 0)] [], none⟩,
 ⟨.none, .st 2 (.t 6) (.t 17), none⟩,
 ⟨(.v 3), .asg (.c (.int .i64 16)), none⟩] none ⟨[], [], [], []⟩)
 .ret)
 .skip))
 (.seq (.reg 5 [] [
 ⟨(.v 4), .asg (.c (.slice none 0 0)), none⟩] none ⟨[], [], [], []⟩)
 (.seq (.reg 6 [] [
 ⟨(.v 5), .asg (.c (.int .i64 0)), none⟩] none ⟨[], [], [], []⟩)
 (.seq (.seq (.reg 7 [] [
 ⟨(.t 18), .mv (.v 1), none⟩] none ⟨[], [], [], []⟩)
 (.cond (.t 18)
 (.reg 8 [] [
 ⟨(.t 20), .fa 1 (.t 3), none⟩,
 ⟨(.t 21), .ld 1 false (.t 20), none⟩,
 ⟨(.t 22), .ld 4 true (.t 5), none⟩,
 ⟨(.t 23), .call 40 [(.t 21), (.t 22)], none⟩,
 ⟨(.t 19), .mv (.t 23), none⟩,
 ⟨(.t 24), .ext 19 0, none⟩,
 ⟨(.t 25), .ext 19 1, none⟩,
 ⟨(.v 4), .asg (.t 24), none⟩,
 ⟨(.v 5), .asg (.t 25), none⟩] none ⟨[], [], [], []⟩)
 (.reg 9 [] [
 ⟨(.t 27), .fa 1 (.t 3), none⟩,
 ⟨(.t 28), .ld 1 false (.t 27), none⟩,
 ⟨(.t 29), .fa 0 (.t 5), none⟩,
 ⟨(.t 30), .ld 1 false (.t 29), none⟩,
 ⟨(.t 31), .call 41 [(.t 28), (.t 30)], none⟩,
 ⟨(.t 26), .mv (.t 31), none⟩,
 ⟨(.t 32), .ext 26 0, none⟩,
 ⟨(.t 33), .ext 26 1, none⟩,
 ⟨(.v 4), .asg (.t 32), none⟩,
 ⟨(.v 5), .asg (.t 33), none⟩] none ⟨[], [], [], []⟩)))
 (.seq (.seq (.reg 10 [] [
 ⟨(.t 34), .mv (.v 5), none⟩,
 ⟨(.t 35), .bin .neq (.t 34) (.c (.int .i64 0)), none⟩] none ⟨[], [], [], []⟩)
 (.cond (.t 35)
 (.seq (.reg 11 [] [
 ⟨(.t 36), .bld [(.int .i64 0), (.slice none 0 0)] [], none⟩,
 ⟨(.t 37), .mv (.v 5), none⟩,
 ⟨.none, .st 2 (.t 6) (.t 36), none⟩,
 ⟨(.v 3), .asg (.t 37), none⟩] none ⟨[], [], [], []⟩)
 .ret)
 .skip))
 (.seq (.reg 12 [] [
 ⟨(.t 38), .fa 0 (.t 3), none⟩,
 ⟨(.t 39), .ld 1 false (.t 38), none⟩,
 ⟨(.t 40), .bin .add (.t 39) (.c (.int .i64 1)), none⟩,
 ⟨(.t 41), .mv (.v 4), none⟩,
 ⟨(.t 42), .bld [(.int .i64 0), (.slice none 0 0)] [(0, 1, (.t 40)), (1, 1, (.t 41))], none⟩,
 ⟨.none, .st 2 (.t 6) (.t 42), none⟩,
 ⟨(.v 3), .asg (.c (.int .i64 0)), none⟩] none ⟨[], [], [], []⟩)
 .ret))))))))
theorem c14 : compFn Try.prog 14 F14 = some (3, strip a14, [.c 6 2 true, .v 3]) ∧ lexAll a14 = true := ⟨by kernel_rfl, by kernel_rfl⟩
def F15 : Fr := ⟨45, [0, 1, 2, 7, 10, 15, 8, 9]⟩
def a15 : ACode :=
 (.seq (.reg 0 [] [
 ⟨(.t 3), .box 2 (.v 0), none⟩,
 ⟨(.t 5), .box 4 (.v 2), none⟩,
 ⟨(.t 6), .allo [(.int .i64 0), (.slice none 0 0)], none⟩,
 ⟨(.v 3), .asg (.c (.int .i64 0)), none⟩] none ⟨[], [], [], []⟩)
 (.seq (.block 0
 (.seq (.reg 1 [] [
 ⟨(.t 11), .ld 2 true (.t 3), none⟩,
 ⟨(.t 12), .call 20 [(.t 11)], none⟩,
 ⟨(.t 13), .un .not (.t 12), none⟩,
 ⟨(.v 4), .asg (.t 13), none⟩] none ⟨[], [], [], []⟩)
 (.cond (.v 4)
 (.seq (.reg 2 [] [
 ⟨(.t 14), .bld [(.int .i64 0), (.slice none 0 0)] [], none⟩,
 ⟨.none, .st 2 (.t 6) (.t 14), none⟩,
 ⟨(.v 3), .asg (.c (.int .i64 2)), none⟩] none ⟨[], [], [], []⟩)
 .ret)
 (.seq (.reg 3 [] [
 ⟨(.t 16), .fa 0 (.t 3), none⟩,
 ⟨(.t 17), .ld 1 false (.t 16), none⟩,
 ⟨(.t 18), .bin .eql (.t 17) (.c (.int .i64 1073741824)), none⟩,
 ⟨(.v 5), .asg (.t 18), none⟩] none ⟨[], [], [], []⟩)
 (.cond (.v 5)
 (.seq (.reg 4 [] [
 ⟨(.t 19), .bld [(.int .i64 0), (.slice none 0 0)] [], none⟩,
 ⟨.none, .st 2 (.t 6) (.t 19), none⟩,
 ⟨(.v 3), .asg (.c (.int .i64 16)), none⟩] none ⟨[], [], [], []⟩)
 .ret)
 .skip)))))
 (.seq (.reg 5 [] [
 ⟨(.v 6), .asg (.c (.slice none 0 0)), none⟩] none ⟨[], [], [], []⟩)
 (.seq (.reg 6 [] [
 ⟨(.v 7), .asg (.c (.int .i64 0)), none⟩] none ⟨[], [], [], []⟩)
 (.seq (.seq (.reg 7 [] [
 ⟨(.t 20), .mv (.v 1), none⟩] none ⟨[], [], [], []⟩)
 (.cond (.t 20)
 (.reg 8 [] [
 ⟨(.t 22), .fa 1 (.t 3), none⟩,
 ⟨(.t 23), .ld 1 false (.t 22), none⟩,
 ⟨(.t 24), .ld 4 true (.t 5), none⟩,
 ⟨(.t 25), .call 42 [(.t 23), (.t 24)], none⟩,
 ⟨(.t 21), .mv (.t 25), none⟩,
 ⟨(.t 26), .ext 21 0, none⟩,
 ⟨(.t 27), .ext 21 1, none⟩,
 ⟨(.v 6), .asg (.t 26), none⟩,
 ⟨(.v 7), .asg (.t 27), none⟩] none ⟨[], [], [], []⟩)
 (.reg 9 [] [
 ⟨(.t 29), .fa 1 (.t 3), none⟩,
 ⟨(.t 30), .ld 1 false (.t 29), none⟩,
 ⟨(.t 31), .fa 0 (.t 5), none⟩,
 ⟨(.t 32), .ld 1 false (.t 31), none⟩,
 ⟨(.t 33), .call 43 [(.t 30), (.t 32)], none⟩,
 ⟨(.t 28), .mv (.t 33), none⟩,
 ⟨(.t 34), .ext 28 0, none⟩,
 ⟨(.t 35), .ext 28 1, none⟩,
 ⟨(.v 6), .asg (.t 34), none⟩,
 ⟨(.v 7), .asg (.t 35), none⟩] none ⟨[], [], [], []⟩)))
 (.seq (.seq (.reg 10 [] [
 ⟨(.t 36), .mv (.v 7), none⟩,
 ⟨(.t 37), .bin .neq (.t 36) (.c (.int .i64 0)), none⟩] none ⟨[], [], [], []⟩)
 (.cond (.t 37)
 (.seq (.reg 11 [] [
 ⟨(.t 38), .bld [(.int .i64 0), (.slice none 0 0)] [], none⟩,
 ⟨(.t 39), .mv (.v 7), none⟩,
 ⟨.none, .st 2 (.t 6) (.t 38), none⟩,
 ⟨(.v 3), .asg (.t 39), none⟩] none ⟨[], [], [], []⟩)
 .ret)
 .skip))
 (.seq (.reg 12 [] [
 ⟨(.t 40), .fa 0 (.t 3), none⟩,
 ⟨(.t 41), .ld 1 false (.t 40), none⟩,
 ⟨(.t 42), .bin .add (.t 41) (.c (.int .i64 1)), none⟩,
 ⟨(.t 43), .mv (.v 6), none⟩,
 ⟨(.t 44), .bld [(.int .i64 0), (.slice none 0 0)] [(0, 1, (.t 42)), (1, 1, (.t 43))], none⟩,
 ⟨.none, .st 2 (.t 6) (.t 44), none⟩,
 ⟨(.v 3), .asg (.c (.int .i64 0)), none⟩] none ⟨[], [], [], []⟩)
 .ret)))))))
theorem c15 : compFn Try.prog 15 F15 = some (3, strip a15, [.c 6 2 true, .v 3]) ∧ lexAll a15 = true := ⟨by kernel_rfl, by kernel_rfl⟩
def F16 : Fr := ⟨38, [0, 1, 5]⟩
def a16 : ACode :=
 (.seq (.reg 0 [] [
 ⟨(.t 2), .box 2 (.v 0), none⟩,
 ⟨(.t 3), .box 2 (.v 1), none⟩,
 ⟨(.t 4), .allo [(.int .i64 0), (.slice none 0 0)], none⟩,
 ⟨(.v 2), .asg (.c (.int .i64 0)), none⟩] none ⟨[], [], [], []⟩)
 (.seq (.seq (.reg 1 [] [
 ⟨(.t 6), .ld 2 true (.t 2), none⟩,
 ⟨(.t 7), .call 19 [(.t 6)], none⟩,
 ⟨(.t 8), .un .not (.t 7), none⟩,
 ⟨(.t 9), .mv (.t 8), none⟩,
 ⟨(.t 10), .ld 2 true (.t 3), some (9, false)⟩,
 ⟨(.t 11), .call 19 [(.t 10)], some (9, false)⟩,
 ⟨(.t 12), .un .not (.t 11), some (9, false)⟩,
 ⟨(.t 13), .pick (.t 9) (.c (.bool true)) (.t 12), none⟩] none ⟨[], [], [], []⟩)
 (.cond (.t 13)
 (.seq (.reg 2 [] [
 ⟨(.t 14), .bld [(.int .i64 0), (.slice none 0 0)] [], none⟩,
 ⟨.none, .st 2 (.t 4) (.t 14), none⟩,
 ⟨(.v 2), .asg (.c (.int .i64 2)), none⟩] none ⟨[], [], [], []⟩)
 .ret)
 .skip))
 (.seq (.seq (.reg 3 [] [
 ⟨(.t 15), .fa 0 (.t 2), none⟩,
 ⟨(.t 16), .ld 1 false (.t 15), none⟩,
 ⟨(.t 17), .fa 0 (.t 3), none⟩,
 ⟨(.t 18), .ld 1 false (.t 17), none⟩,
 ⟨(.t 19), .bin .eql (.t 16) (.t 18), none⟩,
 ⟨(.t 20), .mv (.t 19), none⟩,
 ⟨(.t 21), .fa 1 (.t 2), some (20, true)⟩,
 ⟨(.t 22), .ld 1 false (.t 21), some (20, true)⟩,
 ⟨(.t 23), .fa 1 (.t 3), some (20, true)⟩,
 ⟨(.t 24), .ld 1 false (.t 23), some (20, true)⟩,
 ⟨(.t 25), .call 37 [(.t 22), (.t 24)], some (20, true)⟩,
 ⟨(.t 26), .un .not (.t 25), some (20, true)⟩,
 ⟨(.t 27), .pick (.t 20) (.t 26) (.c (.bool false)), none⟩] none ⟨[], [], [], []⟩)
 (.cond (.t 27)
 (.seq (.reg 4 [] [
 ⟨(.t 28), .bld [(.int .i64 0), (.slice none 0 0)] [], none⟩,
 ⟨.none, .st 2 (.t 4) (.t 28), none⟩,
 ⟨(.v 2), .asg (.c (.int .i64 13)), none⟩] none ⟨[], [], [], []⟩)
 .ret)
 .skip))
 (.seq (.seq (.reg 5 [] [
 ⟨(.t 29), .fa 0 (.t 3), none⟩,
 ⟨(.t 30), .ld 1 false (.t 29), none⟩,
 ⟨(.t 31), .fa 0 (.t 2), none⟩,
 ⟨(.t 32), .ld 1 false (.t 31), none⟩,
 ⟨(.t 33), .bin .gtr (.t 30) (.t 32), none⟩] none ⟨[], [], [], []⟩)
 (.cond (.t 33)
 (.seq (.reg 6 [] [
 ⟨(.t 34), .ld 2 true (.t 3), none⟩,
 ⟨(.t 35), .call 38 [(.t 34)], none⟩,
 ⟨.none, .st 2 (.t 4) (.t 35), none⟩,
 ⟨(.v 2), .asg (.c (.int .i64 0)), none⟩] none ⟨[], [], [], []⟩)
 .ret)
 .skip))
 (.seq (.reg 7 [] [
 ⟨(.t 36), .ld 2 true (.t 2), none⟩,
 ⟨(.t 37), .call 38 [(.t 36)], none⟩,
 ⟨.none, .st 2 (.t 4) (.t 37), none⟩,
 ⟨(.v 2), .asg (.c (.int .i64 0)), none⟩] none ⟨[], [], [], []⟩)
 .ret)))))
theorem c16 : compFn Try.prog 16 F16 = some (2, strip a16, [.c 4 2 true, .v 2]) ∧ lexAll a16 = true := ⟨by kernel_rfl, by kernel_rfl⟩
def F18 : Fr := ⟨17, [0, 1, 4]⟩
def a18 : ACode :=
 (.seq (.reg 0 [] [
 ⟨(.t 2), .box 2 (.v 0), none⟩,
 ⟨(.t 3), .box 2 (.v 1), none⟩,
 ⟨(.v 2), .asg (.c (.bool false)), none⟩] none ⟨[], [], [], []⟩)
 (.seq (.reg 1 [] [
 ⟨(.t 5), .fa 0 (.t 2), none⟩,
 ⟨(.t 6), .ld 1 false (.t 5), none⟩,
 ⟨(.t 7), .fa 0 (.t 3), none⟩,
 ⟨(.t 8), .ld 1 false (.t 7), none⟩,
 ⟨(.t 9), .bin .eql (.t 6) (.t 8), none⟩,
 ⟨(.t 10), .mv (.t 9), none⟩,
 ⟨(.t 11), .fa 1 (.t 2), some (10, true)⟩,
 ⟨(.t 12), .ld 1 false (.t 11), some (10, true)⟩,
 ⟨(.t 13), .fa 1 (.t 3), some (10, true)⟩,
 ⟨(.t 14), .ld 1 false (.t 13), some (10, true)⟩,
 ⟨(.t 15), .call 36 [(.t 12), (.t 14)], some (10, true)⟩,
 ⟨(.t 16), .pick (.t 10) (.t 15) (.c (.bool false)), none⟩,
 ⟨(.v 2), .asg (.t 16), none⟩] none ⟨[], [], [], []⟩)
 .ret))
theorem c18 : compFn Try.prog 18 F18 = some (2, strip a18, [.v 2]) ∧ lexAll a18 = true := ⟨by kernel_rfl, by kernel_rfl⟩
def F19 : Fr := ⟨16, [0, 2]⟩
def a19 : ACode :=
 (.seq (.reg 0 [] [
 ⟨(.t 1), .box 2 (.v 0), none⟩,
 ⟨(.v 1), .asg (.c (.bool false)), none⟩] none ⟨[], [], [], []⟩)
 (.seq (.reg 1 [] [
 ⟨(.t 3), .fa 0 (.t 1), none⟩,
 ⟨(.t 4), .ld 1 false (.t 3), none⟩,
 ⟨(.t 5), .bin .geq (.t 4) (.c (.int .i64 0)), none⟩,
 ⟨(.t 6), .mv (.t 5), none⟩,
 ⟨(.t 7), .fa 0 (.t 1), some (6, true)⟩,
 ⟨(.t 8), .ld 1 false (.t 7), some (6, true)⟩,
 ⟨(.t 9), .bin .leq (.t 8) (.c (.int .i64 1073741824)), some (6, true)⟩,
 ⟨(.t 10), .pick (.t 6) (.t 9) (.c (.bool false)), none⟩,
 ⟨(.t 11), .mv (.t 10), none⟩,
 ⟨(.t 12), .fa 1 (.t 1), some (11, true)⟩,
 ⟨(.t 13), .ld 1 false (.t 12), some (11, true)⟩,
 ⟨(.t 14), .call 44 [(.t 13)], some (11, true)⟩,
 ⟨(.t 15), .pick (.t 11) (.t 14) (.c (.bool false)), none⟩,
 ⟨(.v 1), .asg (.t 15), none⟩] none ⟨[], [], [], []⟩)
 .ret))
theorem c19 : compFn Try.prog 19 F19 = some (1, strip a19, [.v 1]) ∧ lexAll a19 = true := ⟨by kernel_rfl, by kernel_rfl⟩
def F20 : Fr := ⟨16, [0, 2]⟩
def a20 : ACode :=
 (.seq (.reg 0 [] [
 ⟨(.t 1), .box 2 (.v 0), none⟩,
 ⟨(.v 1), .asg (.c (.bool false)), none⟩] none ⟨[], [], [], []⟩)
 (.seq (.reg 1 [] [
 ⟨(.t 3), .fa 0 (.t 1), none⟩,
 ⟨(.t 4), .ld 1 false (.t 3), none⟩,
 ⟨(.t 5), .bin .geq (.t 4) (.c (.int .i64 0)), none⟩,
 ⟨(.t 6), .mv (.t 5), none⟩,
 ⟨(.t 7), .fa 0 (.t 1), some (6, true)⟩,
 ⟨(.t 8), .ld 1 false (.t 7), some (6, true)⟩,
 ⟨(.t 9), .bin .leq (.t 8) (.c (.int .i64 1073741824)), some (6, true)⟩,
 ⟨(.t 10), .pick (.t 6) (.t 9) (.c (.bool false)), none⟩,
 ⟨(.t 11), .mv (.t 10), none⟩,
 ⟨(.t 12), .fa 1 (.t 1), some (11, true)⟩,
 ⟨(.t 13), .ld 1 false (.t 12), some (11, true)⟩,
 ⟨(.t 14), .call 45 [(.t 13)], some (11, true)⟩,
 ⟨(.t 15), .pick (.t 11) (.t 14) (.c (.bool false)), none⟩,
 ⟨(.v 1), .asg (.t 15), none⟩] none ⟨[], [], [], []⟩)
 .ret))
theorem c20 : compFn Try.prog 20 F20 = some (1, strip a20, [.v 1]) ∧ lexAll a20 = true := ⟨by kernel_rfl, by kernel_rfl⟩
def F21 : Fr := ⟨48, [0, 1, 2, 7, 8, 9, 10, 11]⟩
def F23 : Fr := ⟨66, [0, 1, 2, 3, 8, 9, 10, 11, 12, 13, 16]⟩
def a23 : ACode :=
 (.seq (.reg 0 [] [
 ⟨(.t 5), .box 2 (.v 1), none⟩,
 ⟨(.t 7), .box 2 (.v 3), none⟩,
 ⟨(.v 4), .asg (.c (.slice none 0 0)), none⟩,
 ⟨(.v 5), .asg (.c (.int .i64 0)), none⟩] none ⟨[], [], [], []⟩)
 (.seq (.seq (.reg 1 [] [
 ⟨(.t 17), .mv (.v 0), none⟩,
 ⟨(.t 18), .ld 2 true (.t 5), none⟩,
 ⟨(.t 19), .call 46 [(.t 17), (.t 18)], none⟩,
 ⟨(.t 20), .un .not (.t 19), none⟩,
 ⟨(.t 21), .mv (.t 20), none⟩,
 ⟨(.t 22), .ld 2 true (.t 7), some (21, false)⟩,
 ⟨(.t 23), .call 19 [(.t 22)], some (21, false)⟩,
 ⟨(.t 24), .un .not (.t 23), some (21, false)⟩,
 ⟨(.t 25), .pick (.t 21) (.c (.bool true)) (.t 24), none⟩] none ⟨[], [], [], []⟩)
 (.cond (.t 25)
 (.seq (.reg 2 [] [
 ⟨(.v 4), .asg (.c (.slice none 0 0)), none⟩,
 ⟨(.v 5), .asg (.c (.int .i64 2)), none⟩] none ⟨[], [], [], []⟩)
 .ret)
 .skip))
 (.seq (.reg 3 [] [
 ⟨(.t 27), .ld 2 true (.t 5), none⟩,
 ⟨(.t 28), .mv (.v 2), none⟩,
 ⟨(.t 29), .call 47 [(.t 27), (.t 28)], none⟩,
 ⟨(.t 26), .mv (.t 29), none⟩,
 ⟨(.t 30), .ext 26 0, none⟩,
 ⟨(.t 31), .ext 26 1, none⟩,
 ⟨(.v 6), .asg (.t 30), none⟩,
 ⟨(.v 7), .asg (.t 31), none⟩] none ⟨[], [], [], []⟩)
 (.seq (.seq (.reg 4 [] [
 ⟨(.t 32), .mv (.v 7), none⟩,
 ⟨(.t 33), .un .not (.t 32), none⟩] none ⟨[], [], [], []⟩)
 (.cond (.t 33)
 (.seq (.reg 5 [] [
 ⟨(.v 4), .asg (.c (.slice none 0 0)), none⟩,
 ⟨(.v 5), .asg (.c (.int .i64 21)), none⟩] none ⟨[], [], [], []⟩)
 .ret)
 .skip))
 (.seq (.reg 6 [] [
 ⟨(.v 8), .asg (.c (.slice none 0 0)), none⟩] none ⟨[], [], [], []⟩)
 (.seq (.seq (.reg 7 [.own (.var 8) 32 2] [
 ⟨(.t 34), .mv (.v 0), none⟩,
 ⟨(.t 35), .len (.t 34), none⟩,
 ⟨(.t 36), .mv (.c (.int .i64 0)), none⟩] none ⟨[], [], [], []⟩)
 (.block 0
 (.loop
 (.seq (.reg 8 [] [
 ⟨(.t 37), .bin .lss (.t 36) (.t 35), none⟩] none ⟨[], [], [], []⟩)
 (.seq (.cond (.t 37)
 .skip
 (.exit 0))
 (.seq (.block 1
 (.seq (.reg 9 [] [
 ⟨(.t 38), .mv (.t 36), none⟩,
 ⟨(.t 39), .ia 2 (.t 34) (.t 36), none⟩,
 ⟨(.t 40), .ld 2 true (.t 39), none⟩,
 ⟨(.t 14), .allo [(.int .i64 0), (.slice none 0 0)], none⟩,
 ⟨(.v 9), .asg (.t 38), none⟩,
 ⟨.none, .st 2 (.t 14) (.t 40), none⟩] none ⟨[], [], [], []⟩)
 (.seq (.seq (.reg 10 [] [
 ⟨(.t 41), .mv (.v 6), none⟩,
 ⟨(.t 42), .mv (.v 9), none⟩,
 ⟨(.t 43), .bin .shl (.c (.int .i64 1)) (.t 42), none⟩,
 ⟨(.t 44), .bin .and (.t 41) (.t 43), none⟩,
 ⟨(.t 45), .bin .eql (.t 44) (.c (.int .i64 0)), none⟩] none ⟨[], [], [], []⟩)
 (.cond (.t 45)
 (.seq (.reg 11 [.lend (.var 8) 50] [
 ⟨(.t 46), .mv (.v 8), none⟩,
 ⟨(.t 47), .ld 2 true (.t 14), none⟩,
 ⟨(.t 48), .call 38 [(.t 47)], none⟩,
 ⟨(.t 49), .bls 32 2 (.agg #[(.int .i64 0), (.slice none 0 0)]) 1 [(0, (.t 48))], none⟩,
 ⟨(.t 50), .app 32 2 32 (.t 46) (.t 49), none⟩,
 ⟨(.v 8), .asg (.t 50), none⟩] none ⟨[], [], [], []⟩)
 (.exit 1))
 .skip))
 (.seq (.reg 12 [] [
 ⟨(.t 52), .ld 2 true (.t 14), none⟩,
 ⟨(.t 53), .ld 2 true (.t 7), none⟩,
 ⟨(.t 54), .call 16 [(.t 52), (.t 53)], none⟩,
 ⟨(.t 51), .mv (.t 54), none⟩,
 ⟨(.t 55), .ext 51 0, none⟩,
 ⟨(.t 56), .ext 51 1, none⟩,
 ⟨(.t 15), .allo [(.int .i64 0), (.slice none 0 0)], none⟩,
 ⟨.none, .st 2 (.t 15) (.t 55), none⟩,
 ⟨(.v 10), .asg (.t 56), none⟩] none ⟨[], [], [], []⟩)
 (.seq (.seq (.reg 13 [] [
 ⟨(.t 57), .mv (.v 10), none⟩,
 ⟨(.t 58), .bin .neq (.t 57) (.c (.int .i64 0)), none⟩] none ⟨[], [], [], []⟩)
 (.cond (.t 58)
 (.seq (.reg 14 [] [
 ⟨(.t 59), .mv (.v 10), none⟩,
 ⟨(.v 4), .asg (.c (.slice none 0 0)), none⟩,
 ⟨(.v 5), .asg (.t 59), none⟩] none ⟨[], [], [], []⟩)
 .ret)
 .skip))
 (.reg 15 [.lend (.var 8) 63] [
 ⟨(.t 60), .mv (.v 8), none⟩,
 ⟨(.t 61), .ld 2 true (.t 15), none⟩,
 ⟨(.t 62), .bls 32 2 (.agg #[(.int .i64 0), (.slice none 0 0)]) 1 [(0, (.t 61))], none⟩,
 ⟨(.t 63), .app 32 2 32 (.t 60) (.t 62), none⟩,
 ⟨(.v 8), .asg (.t 63), none⟩] none ⟨[], [], [], []⟩))))))
 (.reg 16 [] [
 ⟨(.t 64), .bin .add (.t 36) (.c (.int .i64 1)), none⟩,
 ⟨(.t 36), .mv (.t 64), none⟩] none ⟨[], [], [], []⟩)))))))
 (.seq (.reg 17 [.lend (.var 8) 65] [
 ⟨(.t 65), .mv (.v 8), none⟩,
 ⟨(.v 4), .asg (.t 65), none⟩,
 ⟨(.v 5), .asg (.c (.int .i64 0)), none⟩] none ⟨[], [], [], []⟩)
 .ret)))))))
theorem c23 : compFn Try.prog 23 F23 = some (4, strip a23, [.v 4, .v 5]) ∧ lexAll a23 = true := ⟨by kernel_rfl, by kernel_rfl⟩
def F28 : Fr := ⟨6, [0, 2]⟩
def a28 : ACode :=
 (.seq (.reg 0 [] [
 ⟨(.v 1), .asg (.c (.bool false)), none⟩] none ⟨[], [], [], []⟩)
 (.seq (.reg 1 [] [
 ⟨(.t 3), .mv (.v 0), none⟩,
 ⟨(.t 4), .len (.t 3), none⟩,
 ⟨(.t 5), .bin .leq (.t 4) (.c (.int .i64 400)), none⟩,
 ⟨(.v 1), .asg (.t 5), none⟩] none ⟨[], [], [], []⟩)
 .ret))
theorem c28 : compFn Try.prog 28 F28 = some (1, strip a28, [.v 1]) ∧ lexAll a28 = true := ⟨by kernel_rfl, by kernel_rfl⟩
def F29 : Fr := ⟨39, [0, 3, 5]⟩
def a29 : ACode :=
 (.seq (.reg 0 [] [
 ⟨(.t 2), .allo [(.int .i64 0), (.slice none 0 0)], none⟩,
 ⟨(.v 1), .asg (.c (.int .i64 0)), none⟩] none ⟨[], [], [], []⟩)
 (.seq (.seq (.reg 1 [] [
 ⟨(.t 6), .mv (.v 0), none⟩,
 ⟨(.t 7), .bin .lss (.t 6) (.c (.int .i64 1)), none⟩,
 ⟨(.t 8), .mv (.t 7), none⟩,
 ⟨(.t 9), .mv (.v 0), some (8, false)⟩,
 ⟨(.t 10), .bin .gtr (.t 9) (.c (.int .i64 9)), some (8, false)⟩,
 ⟨(.t 11), .pick (.t 8) (.c (.bool true)) (.t 10), none⟩] none ⟨[], [], [], []⟩)
 (.cond (.t 11)
 (.seq (.reg 2 [] [
 ⟨(.t 12), .bld [(.int .i64 0), (.slice none 0 0)] [], none⟩,
 ⟨.none, .st 2 (.t 2) (.t 12), none⟩,
 ⟨(.v 1), .asg (.c (.int .i64 1)), none⟩] none ⟨[], [], [], []⟩)
 .ret)
 .skip))
 (.seq (.reg 3 [] [
 ⟨(.t 13), .mv (.v 0), none⟩,
 ⟨(.t 14), .bld [(.int .i64 0), (.slice none 0 0)] [(0, 1, (.t 13))], none⟩,
 ⟨(.t 4), .allo [(.int .i64 0), (.slice none 0 0)], none⟩,
 ⟨.none, .st 2 (.t 4) (.t 14), none⟩] none ⟨[], [], [], []⟩)
 (.seq (.seq (.reg 4 [.own (.cell 1 1) 3 1] [
 ⟨(.v 2), .asg (.c (.int .i64 1)), none⟩] none ⟨[], [], [], []⟩)
 (.block 0
 (.loop
 (.seq (.seq (.reg 5 [] [
 ⟨(.t 15), .mv (.v 2), none⟩,
 ⟨(.t 16), .mv (.v 0), none⟩,
 ⟨(.t 17), .bin .shl (.c (.int .i64 1)) (.t 16), none⟩,
 ⟨(.t 18), .bin .lss (.t 15) (.t 17), none⟩] none ⟨[], [], [], []⟩)
 (.cond (.t 18)
 .skip
 (.exit 0)))
 (.seq (.block 1
 (.seq (.reg 7 [] [
 ⟨(.t 21), .mv (.v 2), none⟩,
 ⟨(.t 22), .call 52 [(.t 21)], none⟩,
 ⟨(.t 23), .mv (.v 0), none⟩,
 ⟨(.t 24), .bin .quo (.t 23) (.c (.int .i64 2)), none⟩,
 ⟨(.t 25), .bin .add (.t 24) (.c (.int .i64 1)), none⟩,
 ⟨(.t 26), .bin .eql (.t 22) (.t 25), none⟩] none ⟨[], [], [], []⟩)
 (.cond (.t 26)
 (.reg 8 [.lend (.cell 1 1) 31] [
 ⟨(.t 27), .fa 1 (.t 4), none⟩,
 ⟨(.t 28), .ld 1 false (.t 27), none⟩,
 ⟨(.t 29), .mv (.v 2), none⟩,
 ⟨(.t 30), .bls 3 1 (.int .i64 0) 1 [(0, (.t 29))], none⟩,
 ⟨(.t 31), .app 3 1 8 (.t 28) (.t 30), none⟩,
 ⟨(.t 32), .fa 1 (.t 4), none⟩,
 ⟨.none, .st 1 (.t 32) (.t 31), none⟩] none ⟨[], [], [], []⟩)
 .skip)))
 (.reg 6 [] [
 ⟨(.t 19), .mv (.v 2), none⟩,
 ⟨(.t 20), .bin .add (.t 19) (.c (.int .i64 1)), none⟩,
 ⟨(.v 2), .asg (.t 20), none⟩] none ⟨[], [], [], []⟩))))))
 (.seq (.seq (.reg 9 [.freeze (.cell 1 1)] [
 ⟨(.t 33), .fa 1 (.t 4), none⟩,
 ⟨(.t 34), .ld 1 false (.t 33), none⟩,
 ⟨(.t 35), .len (.t 34), none⟩,
 ⟨(.t 36), .bin .gtr (.t 35) (.c (.int .i64 64)), none⟩] none ⟨[], [], [], []⟩)
 (.cond (.t 36)
 (.seq (.reg 10 [] [
 ⟨(.t 37), .bld [(.int .i64 0), (.slice none 0 0)] [], none⟩,
 ⟨.none, .st 2 (.t 2) (.t 37), none⟩,
 ⟨(.v 1), .asg (.c (.int .i64 4)), none⟩] none ⟨[], [], [], []⟩)
 .ret)
 .skip))
 (.seq (.reg 11 [] [
 ⟨(.t 38), .ld 2 true (.t 4), none⟩,
 ⟨.none, .st 2 (.t 2) (.t 38), none⟩,
 ⟨(.v 1), .asg (.c (.int .i64 0)), none⟩] none ⟨[], [], [], []⟩)
 .ret))))))
theorem c29 : compFn Try.prog 29 F29 = some (1, strip a29, [.c 2 2 true, .v 1]) ∧ lexAll a29 = true := ⟨by kernel_rfl, by kernel_rfl⟩
def F30 : Fr := ⟨80, [0, 1, 5, 6, 7, 8, 9, 10, 11]⟩
def a30 : ACode :=
 (.seq (.reg 0 [] [
 ⟨(.t 4), .allo [(.int .i64 0), (.slice none 0 0)], none⟩,
 ⟨(.v 2), .asg (.c (.int .i64 0)), none⟩] none ⟨[], [], [], []⟩)
 (.seq (.seq (.reg 1 [] [
 ⟨(.t 12), .mv (.v 0), none⟩,
 ⟨(.t 13), .bin .lss (.t 12) (.c (.int .i64 1)), none⟩,
 ⟨(.t 14), .mv (.t 13), none⟩,
 ⟨(.t 15), .mv (.v 1), some (14, false)⟩,
 ⟨(.t 16), .bin .lss (.t 15) (.c (.int .i64 1)), some (14, false)⟩,
 ⟨(.t 17), .pick (.t 14) (.c (.bool true)) (.t 16), none⟩,
 ⟨(.t 18), .mv (.t 17), none⟩,
 ⟨(.t 19), .mv (.v 0), some (18, false)⟩,
 ⟨(.t 20), .bin .gtr (.t 19) (.c (.int .i64 9)), some (18, false)⟩,
 ⟨(.t 21), .pick (.t 18) (.c (.bool true)) (.t 20), none⟩,
 ⟨(.t 22), .mv (.t 21), none⟩,
 ⟨(.t 23), .mv (.v 1), some (22, false)⟩,
 ⟨(.t 24), .bin .gtr (.t 23) (.c (.int .i64 9)), some (22, false)⟩,
 ⟨(.t 25), .pick (.t 22) (.c (.bool true)) (.t 24), none⟩,
 ⟨(.t 26), .mv (.t 25), none⟩,
 ⟨(.t 27), .mv (.v 0), some (26, false)⟩,
 ⟨(.t 28), .mv (.v 1), some (26, false)⟩,
 ⟨(.t 29), .bin .mul (.t 27) (.t 28), some (26, false)⟩,
 ⟨(.t 30), .bin .gtr (.t 29) (.c (.int .i64 9)), some (26, false)⟩,
 ⟨(.t 31), .pick (.t 26) (.c (.bool true)) (.t 30), none⟩] none ⟨[], [], [], []⟩)
 (.cond (.t 31)
 (.seq (.reg 2 [] [
 ⟨(.t 32), .bld [(.int .i64 0), (.slice none 0 0)] [], none⟩,
 ⟨.none, .st 2 (.t 4) (.t 32), none⟩,
 ⟨(.v 2), .asg (.c (.int .i64 1)), none⟩] none ⟨[], [], [], []⟩)
 .ret)
 .skip))
 (.seq (.reg 3 [] [
 ⟨(.v 3), .asg (.c (.slice none 0 0)), none⟩] none ⟨[], [], [], []⟩)
 (.seq (.seq (.reg 4 [.own (.var 3) 3 1] [
 ⟨(.v 4), .asg (.c (.int .i64 0)), none⟩] none ⟨[], [], [], []⟩)
 (.block 0
 (.loop
 (.seq (.seq (.reg 5 [] [
 ⟨(.t 33), .mv (.v 4), none⟩,
 ⟨(.t 34), .mv (.v 0), none⟩,
 ⟨(.t 35), .bin .lss (.t 33) (.t 34), none⟩] none ⟨[], [], [], []⟩)
 (.cond (.t 35)
 .skip
 (.exit 0)))
 (.seq (.block 1
 (.seq (.reg 7 [] [
 ⟨(.v 5), .asg (.c (.int .i64 0)), none⟩] none ⟨[], [], [], []⟩)
 (.block 2
 (.loop
 (.seq (.seq (.reg 8 [] [
 ⟨(.t 38), .mv (.v 5), none⟩,
 ⟨(.t 39), .mv (.v 1), none⟩,
 ⟨(.t 40), .bin .lss (.t 38) (.t 39), none⟩] none ⟨[], [], [], []⟩)
 (.cond (.t 40)
 .skip
 (.exit 2)))
 (.seq (.block 3
 (.seq (.reg 10 [] [
 ⟨(.v 6), .asg (.c (.int .i64 0)), none⟩] none ⟨[], [], [], []⟩)
 (.seq (.seq (.reg 11 [] [
 ⟨(.v 7), .asg (.c (.int .i64 0)), none⟩] none ⟨[], [], [], []⟩)
 (.block 4
 (.loop
 (.seq (.seq (.reg 12 [] [
 ⟨(.t 43), .mv (.v 7), none⟩,
 ⟨(.t 44), .mv (.v 1), none⟩,
 ⟨(.t 45), .bin .lss (.t 43) (.t 44), none⟩] none ⟨[], [], [], []⟩)
 (.cond (.t 45)
 .skip
 (.exit 4)))
 (.seq (.block 5
 (.reg 14 [] [
 ⟨(.t 48), .mv (.v 6), none⟩,
 ⟨(.t 49), .mv (.v 4), none⟩,
 ⟨(.t 50), .mv (.v 1), none⟩,
 ⟨(.t 51), .bin .mul (.t 49) (.t 50), none⟩,
 ⟨(.t 52), .mv (.v 7), none⟩,
 ⟨(.t 53), .bin .add (.t 51) (.t 52), none⟩,
 ⟨(.t 54), .bin .shl (.c (.int .i64 1)) (.t 53), none⟩,
 ⟨(.t 55), .bin .or (.t 48) (.t 54), none⟩,
 ⟨(.v 6), .asg (.t 55), none⟩] none ⟨[], [], [], []⟩))
 (.reg 13 [] [
 ⟨(.t 46), .mv (.v 7), none⟩,
 ⟨(.t 47), .bin .add (.t 46) (.c (.int .i64 1)), none⟩,
 ⟨(.v 7), .asg (.t 47), none⟩] none ⟨[], [], [], []⟩))))))
 (.seq (.seq (.reg 15 [] [
 ⟨(.v 8), .asg (.c (.int .i64 0)), none⟩] none ⟨[], [], [], []⟩)
 (.block 6
 (.loop
 (.seq (.seq (.reg 16 [] [
 ⟨(.t 56), .mv (.v 8), none⟩,
 ⟨(.t 57), .mv (.v 0), none⟩,
 ⟨(.t 58), .bin .lss (.t 56) (.t 57), none⟩] none ⟨[], [], [], []⟩)
 (.cond (.t 58)
 .skip
 (.exit 6)))
 (.seq (.block 7
 (.reg 18 [] [
 ⟨(.t 61), .mv (.v 6), none⟩,
 ⟨(.t 62), .mv (.v 8), none⟩,
 ⟨(.t 63), .mv (.v 1), none⟩,
 ⟨(.t 64), .bin .mul (.t 62) (.t 63), none⟩,
 ⟨(.t 65), .mv (.v 5), none⟩,
 ⟨(.t 66), .bin .add (.t 64) (.t 65), none⟩,
 ⟨(.t 67), .bin .shl (.c (.int .i64 1)) (.t 66), none⟩,
 ⟨(.t 68), .bin .or (.t 61) (.t 67), none⟩,
 ⟨(.v 6), .asg (.t 68), none⟩] none ⟨[], [], [], []⟩))
 (.reg 17 [] [
 ⟨(.t 59), .mv (.v 8), none⟩,
 ⟨(.t 60), .bin .add (.t 59) (.c (.int .i64 1)), none⟩,
 ⟨(.v 8), .asg (.t 60), none⟩] none ⟨[], [], [], []⟩))))))
 (.reg 19 [.lend (.var 3) 72] [
 ⟨(.t 69), .mv (.v 3), none⟩,
 ⟨(.t 70), .mv (.v 6), none⟩,
 ⟨(.t 71), .bls 3 1 (.int .i64 0) 1 [(0, (.t 70))], none⟩,
 ⟨(.t 72), .app 3 1 8 (.t 69) (.t 71), none⟩,
 ⟨(.v 3), .asg (.t 72), none⟩] none ⟨[], [], [], []⟩)))))
 (.reg 9 [] [
 ⟨(.t 41), .mv (.v 5), none⟩,
 ⟨(.t 42), .bin .add (.t 41) (.c (.int .i64 1)), none⟩,
 ⟨(.v 5), .asg (.t 42), none⟩] none ⟨[], [], [], []⟩)))))))
 (.reg 6 [] [
 ⟨(.t 36), .mv (.v 4), none⟩,
 ⟨(.t 37), .bin .add (.t 36) (.c (.int .i64 1)), none⟩,
 ⟨(.v 4), .asg (.t 37), none⟩] none ⟨[], [], [], []⟩))))))
 (.seq (.reg 20 [.freeze (.var 3)] [
 ⟨(.t 73), .mv (.v 0), none⟩,
 ⟨(.t 74), .mv (.v 1), none⟩,
 ⟨(.t 75), .bin .mul (.t 73) (.t 74), none⟩,
 ⟨(.t 76), .mv (.v 3), none⟩,
 ⟨(.t 77), .call 53 [(.t 75), (.t 76)], none⟩,
 ⟨(.t 78), .ext 77 0, none⟩,
 ⟨(.t 79), .ext 77 1, none⟩,
 ⟨.none, .st 2 (.t 4) (.t 78), none⟩,
 ⟨(.v 2), .asg (.t 79), none⟩] none ⟨[], [], [], []⟩)
 .ret)))))
theorem c30 : compFn Try.prog 30 F30 = some (2, strip a30, [.c 4 2 true, .v 2]) ∧ lexAll a30 = true := ⟨by kernel_rfl, by kernel_rfl⟩
def F31 : Fr := ⟨21, [0, 3, 4]⟩
def a31 : ACode :=
 (.seq (.reg 0 [] [
 ⟨(.t 2), .allo [(.int .i64 0), (.slice none 0 0)], none⟩,
 ⟨(.v 1), .asg (.c (.int .i64 0)), none⟩] none ⟨[], [], [], []⟩)
 (.seq (.seq (.reg 1 [] [
 ⟨(.t 5), .mv (.v 0), none⟩,
 ⟨(.t 6), .bin .lss (.t 5) (.c (.int .i64 1)), none⟩,
 ⟨(.t 7), .mv (.t 6), none⟩,
 ⟨(.t 8), .mv (.v 0), some (7, false)⟩,
 ⟨(.t 9), .bin .gtr (.t 8) (.c (.int .i64 3)), some (7, false)⟩,
 ⟨(.t 10), .pick (.t 7) (.c (.bool true)) (.t 9), none⟩] none ⟨[], [], [], []⟩)
 (.cond (.t 10)
 (.seq (.reg 2 [] [
 ⟨(.t 11), .bld [(.int .i64 0), (.slice none 0 0)] [], none⟩,
 ⟨.none, .st 2 (.t 2) (.t 11), none⟩,
 ⟨(.v 1), .asg (.c (.int .i64 1)), none⟩] none ⟨[], [], [], []⟩)
 .ret)
 .skip))
 (.seq (.reg 3 [] [
 ⟨(.t 12), .mv (.v 0), none⟩,
 ⟨(.t 13), .bin .shl (.c (.int .i64 1)) (.t 12), none⟩,
 ⟨(.t 14), .bin .sub (.t 13) (.c (.int .i64 1)), none⟩,
 ⟨(.v 2), .asg (.t 14), none⟩] none ⟨[], [], [], []⟩)
 (.seq (.reg 4 [] [
 ⟨(.t 15), .mv (.v 2), none⟩,
 ⟨(.t 16), .mv (.v 2), none⟩,
 ⟨(.t 17), .call 54 [(.c (.int .i64 0)), (.t 16)], none⟩,
 ⟨(.t 18), .call 53 [(.t 15), (.t 17)], none⟩,
 ⟨(.t 19), .ext 18 0, none⟩,
 ⟨(.t 20), .ext 18 1, none⟩,
 ⟨.none, .st 2 (.t 2) (.t 19), none⟩,
 ⟨(.v 1), .asg (.t 20), none⟩] none ⟨[], [], [], []⟩)
 .ret))))
theorem c31 : compFn Try.prog 31 F31 = some (1, strip a31, [.c 2 2 true, .v 1]) ∧ lexAll a31 = true := ⟨by kernel_rfl, by kernel_rfl⟩
def F32 : Fr := ⟨13, [0, 2]⟩
def a32 : ACode :=
 (.seq (.reg 0 [] [
 ⟨(.v 1), .asg (.c (.bool false)), none⟩] none ⟨[], [], [], []⟩)
 (.seq (.reg 1 [] [
 ⟨(.t 3), .mv (.v 0), none⟩,
 ⟨(.t 4), .nilck (.t 3), none⟩,
 ⟨(.t 5), .fa 1 (.t 4), none⟩,
 ⟨(.t 6), .ld 1 false (.t 5), none⟩,
 ⟨(.t 7), .mv (.v 0), none⟩,
 ⟨(.t 8), .nilck (.t 7), none⟩,
 ⟨(.t 9), .fa 0 (.t 8), none⟩,
 ⟨(.t 10), .ld 1 false (.t 9), none⟩,
 ⟨(.t 11), .len (.t 10), none⟩,
 ⟨(.t 12), .bin .lss (.t 6) (.t 11), none⟩,
 ⟨(.v 1), .asg (.t 12), none⟩] (some [[], [0], [1], [2], [], [4], [5], [6], [7], [3, 8], [9, 0, 1, 2, 3, 4, 5, 6, 7, 8, 9]]) ⟨[], [], [], []⟩)
 .ret))
theorem c32 : compFn Try.prog 32 F32 = some (1, strip a32, [.v 1]) ∧ lexAll a32 = true := ⟨by kernel_rfl, by kernel_rfl⟩
def F33 : Fr := ⟨35, [0, 1, 4]⟩
def a33 : ACode :=
 (.seq (.reg 0 [] [
 ⟨(.v 2), .asg (.c (.int .i64 0)), none⟩] none ⟨[], [], [], []⟩)
 (.seq (.seq (.reg 1 [] [
 ⟨(.t 5), .mv (.v 0), none⟩,
 ⟨(.t 6), .nilck (.t 5), none⟩,
 ⟨(.t 7), .fa 1 (.t 6), none⟩,
 ⟨(.t 8), .ld 1 false (.t 7), none⟩,
 ⟨(.t 9), .mv (.v 0), none⟩,
 ⟨(.t 10), .nilck (.t 9), none⟩,
 ⟨(.t 11), .fa 0 (.t 10), none⟩,
 ⟨(.t 12), .ld 1 false (.t 11), none⟩,
 ⟨(.t 13), .len (.t 12), none⟩,
 ⟨(.t 14), .bin .geq (.t 8) (.t 13), none⟩] (some [[], [0], [1], [2], [], [4], [5], [6], [7], [3, 8]]) ⟨[], [], [], []⟩)
 (.cond (.t 14)
 (.seq (.reg 2 [] [
 ⟨(.v 2), .asg (.c (.int .i64 0)), none⟩] none ⟨[], [], [], []⟩)
 .ret)
 .skip))
 (.seq (.reg 3 [] [
 ⟨(.t 15), .mv (.v 0), none⟩,
 ⟨(.t 16), .nilck (.t 15), none⟩,
 ⟨(.t 17), .fa 1 (.t 16), none⟩,
 ⟨(.t 18), .ld 1 false (.t 17), none⟩,
 ⟨(.t 19), .bin .add (.t 18) (.c (.int .i64 1)), none⟩,
 ⟨(.t 20), .nilck (.t 15), none⟩,
 ⟨(.t 21), .fa 1 (.t 20), none⟩,
 ⟨.none, .st 1 (.t 21) (.t 19), none⟩] none ⟨[], [], [], []⟩)
 (.seq (.reg 4 [] [
 ⟨(.t 22), .mv (.v 0), none⟩,
 ⟨(.t 23), .nilck (.t 22), none⟩,
 ⟨(.t 24), .fa 0 (.t 23), none⟩,
 ⟨(.t 25), .ld 1 false (.t 24), none⟩,
 ⟨(.t 26), .mv (.v 0), none⟩,
 ⟨(.t 27), .nilck (.t 26), none⟩,
 ⟨(.t 28), .fa 1 (.t 27), none⟩,
 ⟨(.t 29), .ld 1 false (.t 28), none⟩,
 ⟨(.t 30), .bin .sub (.t 29) (.c (.int .i64 1)), none⟩,
 ⟨(.t 31), .ia 1 (.t 25) (.t 30), none⟩,
 ⟨(.t 32), .ld 1 false (.t 31), none⟩,
 ⟨(.t 33), .mv (.v 1), none⟩,
 ⟨(.t 34), .call 11 [(.t 32), (.t 33)], none⟩,
 ⟨(.v 2), .asg (.t 34), none⟩] (some [[], [0], [1], [2], [], [4], [5], [6], [7], [3, 8], [9], [], [10, 11], [12, 12, 0, 1, 2, 3, 4, 5, 6, 7, 8, 9, 10, 11, 12]]) ⟨[], [], [], []⟩)
 .ret))))
theorem c33 : compFn Try.prog 33 F33 = some (2, strip a33, [.v 2]) ∧ lexAll a33 = true := ⟨by kernel_rfl, by kernel_rfl⟩
def F34 : Fr := ⟨23, [0, 1, 4, 5, 7]⟩
def a34 : ACode :=
 (.seq (.reg 0 [] [
 ⟨(.t 2), .box 2 (.v 0), none⟩,
 ⟨(.v 2), .asg (.c (.int .i64 0)), none⟩,
 ⟨(.v 3), .asg (.c (.bool false)), none⟩] none ⟨[], [], [], []⟩)
 (.seq (.seq (.reg 1 [] [
 ⟨(.t 8), .ld 2 true (.t 2), none⟩,
 ⟨(.t 9), .call 55 [(.t 8)], none⟩,
 ⟨(.t 10), .un .not (.t 9), none⟩] none ⟨[], [], [], []⟩)
 (.cond (.t 10)
 (.seq (.reg 2 [] [
 ⟨(.v 2), .asg (.c (.int .i64 0)), none⟩,
 ⟨(.v 3), .asg (.c (.bool false)), none⟩] none ⟨[], [], [], []⟩)
 .ret)
 .skip))
 (.seq (.seq (.reg 3 [] [
 ⟨(.t 11), .fa 1 (.t 2), none⟩,
 ⟨(.t 12), .ld 1 false (.t 11), none⟩,
 ⟨(.t 13), .len (.t 12), none⟩,
 ⟨(.t 14), .mv (.c (.int .i64 0)), none⟩] none ⟨[], [], [], []⟩)
 (.block 0
 (.loop
 (.seq (.reg 4 [] [
 ⟨(.t 15), .bin .lss (.t 14) (.t 13), none⟩] none ⟨[], [], [], []⟩)
 (.seq (.cond (.t 15)
 .skip
 (.exit 0))
 (.seq (.block 1
 (.seq (.reg 5 [] [
 ⟨(.t 16), .ia 1 (.t 12) (.t 14), none⟩,
 ⟨(.t 17), .ld 1 false (.t 16), none⟩,
 ⟨(.v 4), .asg (.t 17), none⟩] none ⟨[], [], [], []⟩)
 (.seq (.reg 6 [] [
 ⟨(.t 18), .mv (.v 4), none⟩,
 ⟨(.t 19), .mv (.v 1), none⟩,
 ⟨(.t 20), .call 56 [(.t 18), (.t 19)], none⟩] none ⟨[], [], [], []⟩)
 (.cond (.t 20)
 (.seq (.reg 7 [] [
 ⟨(.t 21), .mv (.v 4), none⟩,
 ⟨(.v 2), .asg (.t 21), none⟩,
 ⟨(.v 3), .asg (.c (.bool true)), none⟩] none ⟨[], [], [], []⟩)
 .ret)
 .skip))))
 (.reg 8 [] [
 ⟨(.t 22), .bin .add (.t 14) (.c (.int .i64 1)), none⟩,
 ⟨(.t 14), .mv (.t 22), none⟩] none ⟨[], [], [], []⟩)))))))
 (.seq (.reg 9 [] [
 ⟨(.v 2), .asg (.c (.int .i64 0)), none⟩,
 ⟨(.v 3), .asg (.c (.bool false)), none⟩] none ⟨[], [], [], []⟩)
 .ret))))
theorem c34 : compFn Try.prog 34 F34 = some (2, strip a34, [.v 2, .v 3]) ∧ lexAll a34 = true := ⟨by kernel_rfl, by kernel_rfl⟩
def F35 : Fr := ⟨25, [0, 1, 5, 6]⟩
def a35 : ACode :=
 (.seq (.reg 0 [] [
 ⟨(.t 4), .allo [(.string (ByteArray.mk #[])), (.int .i64 0), (.int .i64 0), (.int .i64 0)], none⟩,
 ⟨(.v 2), .asg (.c (.bool false)), none⟩] none ⟨[], [], [], []⟩)
 (.seq (.seq (.reg 1 [] [
 ⟨(.v 3), .asg (.c (.int .i64 0)), none⟩] none ⟨[], [], [], []⟩)
 (.block 0
 (.loop
 (.seq (.seq (.reg 2 [] [
 ⟨(.t 7), .mv (.v 3), none⟩,
 ⟨(.t 8), .mv (.v 0), none⟩,
 ⟨(.t 9), .len (.t 8), none⟩,
 ⟨(.t 10), .bin .lss (.t 7) (.t 9), none⟩] none ⟨[], [], [], []⟩)
 (.cond (.t 10)
 .skip
 (.exit 0)))
 (.seq (.block 1
 (.seq (.reg 4 [] [
 ⟨(.t 13), .mv (.v 0), none⟩,
 ⟨(.t 14), .mv (.v 3), none⟩,
 ⟨(.t 15), .ia 4 (.t 13) (.t 14), none⟩,
 ⟨(.t 16), .fa 0 (.t 15), none⟩,
 ⟨(.t 17), .ld 1 false (.t 16), none⟩,
 ⟨(.t 18), .mv (.v 1), none⟩,
 ⟨(.t 19), .bin .eql (.t 17) (.t 18), none⟩] none ⟨[], [], [], []⟩)
 (.cond (.t 19)
 (.seq (.reg 5 [] [
 ⟨(.t 20), .mv (.v 0), none⟩,
 ⟨(.t 21), .mv (.v 3), none⟩,
 ⟨(.t 22), .ia 4 (.t 20) (.t 21), none⟩,
 ⟨(.t 23), .ld 4 true (.t 22), none⟩,
 ⟨.none, .st 4 (.t 4) (.t 23), none⟩,
 ⟨(.v 2), .asg (.c (.bool true)), none⟩] none ⟨[], [], [], []⟩)
 .ret)
 .skip)))
 (.reg 3 [] [
 ⟨(.t 11), .mv (.v 3), none⟩,
 ⟨(.t 12), .bin .add (.t 11) (.c (.int .i64 1)), none⟩,
 ⟨(.v 3), .asg (.t 12), none⟩] none ⟨[], [], [], []⟩))))))
 (.seq (.reg 6 [] [
 ⟨(.t 24), .bld [(.string (ByteArray.mk #[])), (.int .i64 0), (.int .i64 0), (.int .i64 0)] [], none⟩,
 ⟨.none, .st 4 (.t 4) (.t 24), none⟩,
 ⟨(.v 2), .asg (.c (.bool false)), none⟩] none ⟨[], [], [], []⟩)
 .ret)))
theorem c35 : compFn Try.prog 35 F35 = some (2, strip a35, [.c 4 4 true, .v 2]) ∧ lexAll a35 = true := ⟨by kernel_rfl, by kernel_rfl⟩
def F36 : Fr := ⟨26, [0, 1, 4, 5]⟩
def a36 : ACode :=
 (.seq (.reg 0 [] [
 ⟨(.v 2), .asg (.c (.bool false)), none⟩] none ⟨[], [], [], []⟩)
 (.seq (.seq (.reg 1 [] [
 ⟨(.t 6), .mv (.v 0), none⟩,
 ⟨(.t 7), .len (.t 6), none⟩,
 ⟨(.t 8), .mv (.v 1), none⟩,
 ⟨(.t 9), .len (.t 8), none⟩,
 ⟨(.t 10), .bin .neq (.t 7) (.t 9), none⟩] none ⟨[], [], [], []⟩)
 (.cond (.t 10)
 (.seq (.reg 2 [] [
 ⟨(.v 2), .asg (.c (.bool false)), none⟩] none ⟨[], [], [], []⟩)
 .ret)
 .skip))
 (.seq (.seq (.reg 3 [] [
 ⟨(.v 3), .asg (.c (.int .i64 0)), none⟩] none ⟨[], [], [], []⟩)
 (.block 0
 (.loop
 (.seq (.seq (.reg 4 [] [
 ⟨(.t 11), .mv (.v 3), none⟩,
 ⟨(.t 12), .mv (.v 0), none⟩,
 ⟨(.t 13), .len (.t 12), none⟩,
 ⟨(.t 14), .bin .lss (.t 11) (.t 13), none⟩] none ⟨[], [], [], []⟩)
 (.cond (.t 14)
 .skip
 (.exit 0)))
 (.seq (.block 1
 (.seq (.reg 6 [] [
 ⟨(.t 17), .mv (.v 0), none⟩,
 ⟨(.t 18), .mv (.v 3), none⟩,
 ⟨(.t 19), .ia 4 (.t 17) (.t 18), none⟩,
 ⟨(.t 20), .ld 4 true (.t 19), none⟩,
 ⟨(.t 21), .mv (.v 1), none⟩,
 ⟨(.t 22), .mv (.v 3), none⟩,
 ⟨(.t 23), .ia 4 (.t 21) (.t 22), none⟩,
 ⟨(.t 24), .ld 4 true (.t 23), none⟩,
 ⟨(.t 25), .ex (.eqA true [.str, .int, .int, .int]) (.t 20) (.t 24), none⟩] (some [[], [], [0, 1], [2], [], [], [4, 5], [6], [3, 7]]) ⟨[], [], [], []⟩)
 (.cond (.t 25)
 (.seq (.reg 7 [] [
 ⟨(.v 2), .asg (.c (.bool false)), none⟩] none ⟨[], [], [], []⟩)
 .ret)
 .skip)))
 (.reg 5 [] [
 ⟨(.t 15), .mv (.v 3), none⟩,
 ⟨(.t 16), .bin .add (.t 15) (.c (.int .i64 1)), none⟩,
 ⟨(.v 3), .asg (.t 16), none⟩] none ⟨[], [], [], []⟩))))))
 (.seq (.reg 8 [] [
 ⟨(.v 2), .asg (.c (.bool true)), none⟩] none ⟨[], [], [], []⟩)
 .ret))))
theorem c36 : compFn Try.prog 36 F36 = some (2, strip a36, [.v 2]) ∧ lexAll a36 = true := ⟨by kernel_rfl, by kernel_rfl⟩
def F37 : Fr := ⟨26, [0, 1, 4, 5]⟩
def a37 : ACode :=
 (.seq (.reg 0 [] [
 ⟨(.v 2), .asg (.c (.bool false)), none⟩] none ⟨[], [], [], []⟩)
 (.seq (.seq (.reg 1 [] [
 ⟨(.t 6), .mv (.v 0), none⟩,
 ⟨(.t 7), .len (.t 6), none⟩,
 ⟨(.t 8), .mv (.v 1), none⟩,
 ⟨(.t 9), .len (.t 8), none⟩,
 ⟨(.t 10), .bin .neq (.t 7) (.t 9), none⟩] none ⟨[], [], [], []⟩)
 (.cond (.t 10)
 (.seq (.reg 2 [] [
 ⟨(.v 2), .asg (.c (.bool false)), none⟩] none ⟨[], [], [], []⟩)
 .ret)
 .skip))
 (.seq (.seq (.reg 3 [] [
 ⟨(.t 11), .mv (.v 0), none⟩,
 ⟨(.t 12), .len (.t 11), none⟩,
 ⟨(.t 13), .mv (.c (.int .i64 0)), none⟩] none ⟨[], [], [], []⟩)
 (.block 0
 (.loop
 (.seq (.reg 4 [] [
 ⟨(.t 14), .bin .lss (.t 13) (.t 12), none⟩] none ⟨[], [], [], []⟩)
 (.seq (.cond (.t 14)
 .skip
 (.exit 0))
 (.seq (.block 1
 (.seq (.reg 5 [] [
 ⟨(.t 15), .mv (.t 13), none⟩,
 ⟨(.v 3), .asg (.t 15), none⟩] none ⟨[], [], [], []⟩)
 (.seq (.reg 6 [] [
 ⟨(.t 16), .mv (.v 0), none⟩,
 ⟨(.t 17), .mv (.v 3), none⟩,
 ⟨(.t 18), .ia 4 (.t 16) (.t 17), none⟩,
 ⟨(.t 19), .ld 4 true (.t 18), none⟩,
 ⟨(.t 20), .mv (.v 1), none⟩,
 ⟨(.t 21), .mv (.v 3), none⟩,
 ⟨(.t 22), .ia 4 (.t 20) (.t 21), none⟩,
 ⟨(.t 23), .ld 4 true (.t 22), none⟩,
 ⟨(.t 24), .ex (.eqA true [.str, .int, .int, .int]) (.t 19) (.t 23), none⟩] (some [[], [], [0, 1], [2], [], [], [4, 5], [6], [3, 7]]) ⟨[], [], [], []⟩)
 (.cond (.t 24)
 (.seq (.reg 7 [] [
 ⟨(.v 2), .asg (.c (.bool false)), none⟩] none ⟨[], [], [], []⟩)
 .ret)
 .skip))))
 (.reg 8 [] [
 ⟨(.t 25), .bin .add (.t 13) (.c (.int .i64 1)), none⟩,
 ⟨(.t 13), .mv (.t 25), none⟩] none ⟨[], [], [], []⟩)))))))
 (.seq (.reg 9 [] [
 ⟨(.v 2), .asg (.c (.bool true)), none⟩] none ⟨[], [], [], []⟩)
 .ret))))
theorem c37 : compFn Try.prog 37 F37 = some (2, strip a37, [.v 2]) ∧ lexAll a37 = true := ⟨by kernel_rfl, by kernel_rfl⟩
def F38 : Fr := ⟨9, [0]⟩
def a38 : ACode :=
 (.seq (.reg 0 [] [
 ⟨(.t 1), .box 2 (.v 0), none⟩,
 ⟨(.t 2), .allo [(.int .i64 0), (.slice none 0 0)], none⟩] none ⟨[], [], [], []⟩)
 (.seq (.reg 1 [] [
 ⟨(.t 3), .fa 0 (.t 1), none⟩,
 ⟨(.t 4), .ld 1 false (.t 3), none⟩,
 ⟨(.t 5), .fa 1 (.t 1), none⟩,
 ⟨(.t 6), .ld 1 false (.t 5), none⟩,
 ⟨(.t 7), .call 57 [(.t 6)], none⟩,
 ⟨(.t 8), .bld [(.int .i64 0), (.slice none 0 0)] [(0, 1, (.t 4)), (1, 1, (.t 7))], none⟩,
 ⟨.none, .st 2 (.t 2) (.t 8), none⟩] (some [[], [0], [], [2], [3], [1, 4], [5, 4, 0, 1, 2, 3, 4, 5]]) ⟨[1], [], [], []⟩)
 .ret))
theorem c38 : compFn Try.prog 38 F38 = some (1, strip a38, [.c 2 2 true]) ∧ lexAll a38 = true := ⟨by kernel_rfl, by kernel_rfl⟩
def F40 : Fr := ⟨48, [0, 1, 4, 5, 6, 7, 8]⟩
def a40 : ACode :=
 (.seq (.reg 0 [] [
 ⟨(.t 3), .box 4 (.v 1), none⟩,
 ⟨(.v 2), .asg (.c (.slice none 0 0)), none⟩,
 ⟨(.v 3), .asg (.c (.int .i64 0)), none⟩] none ⟨[], [], [], []⟩)
 (.seq (.seq (.reg 1 [] [
 ⟨(.t 9), .mv (.v 0), none⟩,
 ⟨(.t 10), .call 44 [(.t 9)], none⟩,
 ⟨(.t 11), .un .not (.t 10), none⟩] none ⟨[], [], [], []⟩)
 (.cond (.t 11)
 (.seq (.reg 2 [] [
 ⟨(.v 2), .asg (.c (.slice none 0 0)), none⟩,
 ⟨(.v 3), .asg (.c (.int .i64 2)), none⟩] none ⟨[], [], [], []⟩)
 .ret)
 .skip))
 (.seq (.seq (.reg 3 [] [
 ⟨(.t 12), .fa 0 (.t 3), none⟩,
 ⟨(.t 13), .ld 1 false (.t 12), none⟩,
 ⟨(.t 14), .call 58 [(.t 13)], none⟩,
 ⟨(.t 15), .un .not (.t 14), none⟩] none ⟨[], [], [], []⟩)
 (.cond (.t 15)
 (.seq (.reg 4 [] [
 ⟨(.v 2), .asg (.c (.slice none 0 0)), none⟩,
 ⟨(.v 3), .asg (.c (.int .i64 9)), none⟩] none ⟨[], [], [], []⟩)
 .ret)
 .skip))
 (.seq (.seq (.reg 5 [] [
 ⟨(.t 16), .ld 4 true (.t 3), none⟩,
 ⟨(.t 17), .call 59 [(.t 16)], none⟩,
 ⟨(.t 18), .un .not (.t 17), none⟩] none ⟨[], [], [], []⟩)
 (.cond (.t 18)
 (.seq (.reg 6 [] [
 ⟨(.v 2), .asg (.c (.slice none 0 0)), none⟩,
 ⟨(.v 3), .asg (.c (.int .i64 1)), none⟩] none ⟨[], [], [], []⟩)
 .ret)
 .skip))
 (.seq (.reg 7 [] [
 ⟨(.t 20), .mv (.v 0), none⟩,
 ⟨(.t 21), .fa 0 (.t 3), none⟩,
 ⟨(.t 22), .ld 1 false (.t 21), none⟩,
 ⟨(.t 23), .call 60 [(.t 20), (.t 22)], none⟩,
 ⟨(.t 19), .mv (.t 23), none⟩,
 ⟨(.t 24), .ext 19 0, none⟩,
 ⟨(.t 25), .ext 19 1, none⟩,
 ⟨(.v 4), .asg (.t 24), none⟩,
 ⟨(.v 5), .asg (.t 25), none⟩] none ⟨[], [], [], []⟩)
 (.seq (.seq (.reg 8 [] [
 ⟨(.t 26), .mv (.v 5), none⟩] none ⟨[], [], [], []⟩)
 (.cond (.t 26)
 (.seq (.reg 9 [] [
 ⟨(.v 2), .asg (.c (.slice none 0 0)), none⟩,
 ⟨(.v 3), .asg (.c (.int .i64 11)), none⟩] none ⟨[], [], [], []⟩)
 .ret)
 .skip))
 (.seq (.seq (.reg 10 [] [
 ⟨(.t 27), .mv (.v 0), none⟩,
 ⟨(.t 28), .len (.t 27), none⟩,
 ⟨(.t 29), .bin .eql (.t 28) (.c (.int .i64 8)), none⟩] none ⟨[], [], [], []⟩)
 (.cond (.t 29)
 (.seq (.reg 11 [] [
 ⟨(.v 2), .asg (.c (.slice none 0 0)), none⟩,
 ⟨(.v 3), .asg (.c (.int .i64 4)), none⟩] none ⟨[], [], [], []⟩)
 .ret)
 .skip))
 (.seq (.reg 12 [] [
 ⟨(.t 30), .mv (.v 0), none⟩,
 ⟨(.t 31), .len (.t 30), none⟩,
 ⟨(.t 32), .bin .add (.t 31) (.c (.int .i64 1)), none⟩,
 ⟨(.t 33), .mk 27 4 40 (.agg #[(.string (ByteArray.mk #[])), (.int .i64 0), (.int .i64 0), (.int .i64 0)]) (.c (.int .i64 0)) (.t 32), none⟩,
 ⟨(.v 6), .asg (.t 33), none⟩] none ⟨[], [], [], []⟩)
 (.seq (.reg 13 [.lend (.var 6) 38] [
 ⟨(.t 34), .mv (.v 6), none⟩,
 ⟨(.t 35), .mv (.v 0), none⟩,
 ⟨(.t 36), .mv (.v 4), none⟩,
 ⟨(.t 37), .sl 27 4 (.t 35) none (some (.t 36)) none, none⟩,
 ⟨(.t 38), .app 27 4 40 (.t 34) (.t 37), none⟩,
 ⟨(.v 6), .asg (.t 38), none⟩] none ⟨[], [], [], []⟩)
 (.seq (.reg 14 [.lend (.var 6) 42] [
 ⟨(.t 39), .mv (.v 6), none⟩,
 ⟨(.t 40), .ld 4 true (.t 3), none⟩,
 ⟨(.t 41), .bls 27 4 (.agg #[(.string (ByteArray.mk #[])), (.int .i64 0), (.int .i64 0), (.int .i64 0)]) 1 [(0, (.t 40))], none⟩,
 ⟨(.t 42), .app 27 4 40 (.t 39) (.t 41), none⟩,
 ⟨(.v 6), .asg (.t 42), none⟩] none ⟨[], [], [], []⟩)
 (.seq (.reg 15 [.lend (.var 6) 47] [
 ⟨(.t 43), .mv (.v 6), none⟩,
 ⟨(.t 44), .mv (.v 0), none⟩,
 ⟨(.t 45), .mv (.v 4), none⟩,
 ⟨(.t 46), .sl 27 4 (.t 44) (some (.t 45)) none none, none⟩,
 ⟨(.t 47), .app 27 4 40 (.t 43) (.t 46), none⟩,
 ⟨(.v 2), .asg (.t 47), none⟩,
 ⟨(.v 3), .asg (.c (.int .i64 0)), none⟩] none ⟨[], [], [], []⟩)
 .ret)))))))))))
theorem c40 : compFn Try.prog 40 F40 = some (2, strip a40, [.v 2, .v 3]) ∧ lexAll a40 = true := ⟨by kernel_rfl, by kernel_rfl⟩
def F41 : Fr := ⟨34, [0, 1, 4, 5, 6, 7, 8]⟩
def a41 : ACode :=
 (.seq (.reg 0 [] [
 ⟨(.v 2), .asg (.c (.slice none 0 0)), none⟩,
 ⟨(.v 3), .asg (.c (.int .i64 0)), none⟩] none ⟨[], [], [], []⟩)
 (.seq (.seq (.reg 1 [] [
 ⟨(.t 9), .mv (.v 0), none⟩,
 ⟨(.t 10), .call 44 [(.t 9)], none⟩,
 ⟨(.t 11), .un .not (.t 10), none⟩] none ⟨[], [], [], []⟩)
 (.cond (.t 11)
 (.seq (.reg 2 [] [
 ⟨(.v 2), .asg (.c (.slice none 0 0)), none⟩,
 ⟨(.v 3), .asg (.c (.int .i64 2)), none⟩] none ⟨[], [], [], []⟩)
 .ret)
 .skip))
 (.seq (.reg 3 [] [
 ⟨(.t 13), .mv (.v 0), none⟩,
 ⟨(.t 14), .mv (.v 1), none⟩,
 ⟨(.t 15), .call 60 [(.t 13), (.t 14)], none⟩,
 ⟨(.t 12), .mv (.t 15), none⟩,
 ⟨(.t 16), .ext 12 0, none⟩,
 ⟨(.t 17), .ext 12 1, none⟩,
 ⟨(.v 4), .asg (.t 16), none⟩,
 ⟨(.v 5), .asg (.t 17), none⟩] none ⟨[], [], [], []⟩)
 (.seq (.seq (.reg 4 [] [
 ⟨(.t 18), .mv (.v 5), none⟩,
 ⟨(.t 19), .un .not (.t 18), none⟩] none ⟨[], [], [], []⟩)
 (.cond (.t 19)
 (.seq (.reg 5 [] [
 ⟨(.v 2), .asg (.c (.slice none 0 0)), none⟩,
 ⟨(.v 3), .asg (.c (.int .i64 10)), none⟩] none ⟨[], [], [], []⟩)
 .ret)
 .skip))
 (.seq (.reg 6 [] [
 ⟨(.t 20), .mv (.v 0), none⟩,
 ⟨(.t 21), .len (.t 20), none⟩,
 ⟨(.t 22), .mk 27 4 40 (.agg #[(.string (ByteArray.mk #[])), (.int .i64 0), (.int .i64 0), (.int .i64 0)]) (.c (.int .i64 0)) (.t 21), none⟩,
 ⟨(.v 6), .asg (.t 22), none⟩] none ⟨[], [], [], []⟩)
 (.seq (.reg 7 [.lend (.var 6) 27] [
 ⟨(.t 23), .mv (.v 6), none⟩,
 ⟨(.t 24), .mv (.v 0), none⟩,
 ⟨(.t 25), .mv (.v 4), none⟩,
 ⟨(.t 26), .sl 27 4 (.t 24) none (some (.t 25)) none, none⟩,
 ⟨(.t 27), .app 27 4 40 (.t 23) (.t 26), none⟩,
 ⟨(.v 6), .asg (.t 27), none⟩] none ⟨[], [], [], []⟩)
 (.seq (.reg 8 [.lend (.var 6) 33] [
 ⟨(.t 28), .mv (.v 6), none⟩,
 ⟨(.t 29), .mv (.v 0), none⟩,
 ⟨(.t 30), .mv (.v 4), none⟩,
 ⟨(.t 31), .bin .add (.t 30) (.c (.int .i64 1)), none⟩,
 ⟨(.t 32), .sl 27 4 (.t 29) (some (.t 31)) none none, none⟩,
 ⟨(.t 33), .app 27 4 40 (.t 28) (.t 32), none⟩,
 ⟨(.v 2), .asg (.t 33), none⟩,
 ⟨(.v 3), .asg (.c (.int .i64 0)), none⟩] none ⟨[], [], [], []⟩)
 .ret)))))))
theorem c41 : compFn Try.prog 41 F41 = some (2, strip a41, [.v 2, .v 3]) ∧ lexAll a41 = true := ⟨by kernel_rfl, by kernel_rfl⟩
def F42 : Fr := ⟨68, [0, 1, 4, 5, 7, 8, 9, 10]⟩
def a42 : ACode :=
 (.seq (.reg 0 [] [
 ⟨(.t 3), .box 4 (.v 1), none⟩,
 ⟨(.v 2), .asg (.c (.slice none 0 0)), none⟩,
 ⟨(.v 3), .asg (.c (.int .i64 0)), none⟩] none ⟨[], [], [], []⟩)
 (.seq (.seq (.reg 1 [] [
 ⟨(.t 11), .mv (.v 0), none⟩,
 ⟨(.t 12), .call 45 [(.t 11)], none⟩,
 ⟨(.t 13), .un .not (.t 12), none⟩] none ⟨[], [], [], []⟩)
 (.cond (.t 13)
 (.seq (.reg 2 [] [
 ⟨(.v 2), .asg (.c (.slice none 0 0)), none⟩,
 ⟨(.v 3), .asg (.c (.int .i64 2)), none⟩] none ⟨[], [], [], []⟩)
 .ret)
 .skip))
 (.seq (.seq (.reg 3 [] [
 ⟨(.t 14), .fa 0 (.t 3), none⟩,
 ⟨(.t 15), .ld 1 false (.t 14), none⟩,
 ⟨(.t 16), .call 61 [(.t 15)], none⟩,
 ⟨(.t 17), .un .not (.t 16), none⟩] none ⟨[], [], [], []⟩)
 (.cond (.t 17)
 (.seq (.reg 4 [] [
 ⟨(.v 2), .asg (.c (.slice none 0 0)), none⟩,
 ⟨(.v 3), .asg (.c (.int .i64 9)), none⟩] none ⟨[], [], [], []⟩)
 .ret)
 .skip))
 (.seq (.seq (.reg 5 [] [
 ⟨(.t 18), .ld 4 true (.t 3), none⟩,
 ⟨(.t 19), .call 62 [(.t 18)], none⟩,
 ⟨(.t 20), .un .not (.t 19), none⟩] none ⟨[], [], [], []⟩)
 (.cond (.t 20)
 (.seq (.reg 6 [] [
 ⟨(.v 2), .asg (.c (.slice none 0 0)), none⟩,
 ⟨(.v 3), .asg (.c (.int .i64 1)), none⟩] none ⟨[], [], [], []⟩)
 .ret)
 .skip))
 (.seq (.seq (.reg 7 [] [
 ⟨(.t 22), .mv (.v 0), none⟩,
 ⟨(.t 23), .fa 0 (.t 3), none⟩,
 ⟨(.t 24), .ld 1 false (.t 23), none⟩,
 ⟨(.t 25), .call 35 [(.t 22), (.t 24)], none⟩,
 ⟨(.t 21), .mv (.t 25), none⟩,
 ⟨(.t 26), .ext 21 0, none⟩,
 ⟨(.t 27), .ext 21 1, none⟩,
 ⟨(.t 6), .allo [(.string (ByteArray.mk #[])), (.int .i64 0), (.int .i64 0), (.int .i64 0)], none⟩,
 ⟨.none, .st 4 (.t 6) (.t 26), none⟩,
 ⟨(.v 4), .asg (.t 27), none⟩] none ⟨[], [], [], []⟩)
 (.seq (.reg 8 [] [
 ⟨(.t 28), .mv (.v 4), none⟩] none ⟨[], [], [], []⟩)
 (.cond (.t 28)
 (.seq (.reg 9 [] [
 ⟨(.v 2), .asg (.c (.slice none 0 0)), none⟩,
 ⟨(.v 3), .asg (.c (.int .i64 11)), none⟩] none ⟨[], [], [], []⟩)
 .ret)
 .skip)))
 (.seq (.seq (.reg 10 [] [
 ⟨(.t 29), .mv (.v 0), none⟩,
 ⟨(.t 30), .len (.t 29), none⟩,
 ⟨(.t 31), .bin .eql (.t 30) (.c (.int .i64 8)), none⟩] none ⟨[], [], [], []⟩)
 (.cond (.t 31)
 (.seq (.reg 11 [] [
 ⟨(.v 2), .asg (.c (.slice none 0 0)), none⟩,
 ⟨(.v 3), .asg (.c (.int .i64 4)), none⟩] none ⟨[], [], [], []⟩)
 .ret)
 .skip))
 (.seq (.reg 12 [] [
 ⟨(.v 5), .asg (.c (.slice none 0 0)), none⟩] none ⟨[], [], [], []⟩)
 (.seq (.reg 13 [.own (.var 5) 27 4] [
 ⟨(.v 6), .asg (.c (.bool false)), none⟩] none ⟨[], [], [], []⟩)
 (.seq (.seq (.reg 14 [] [
 ⟨(.v 7), .asg (.c (.int .i64 0)), none⟩] none ⟨[], [], [], []⟩)
 (.block 0
 (.loop
 (.seq (.seq (.reg 15 [] [
 ⟨(.t 32), .mv (.v 7), none⟩,
 ⟨(.t 33), .mv (.v 0), none⟩,
 ⟨(.t 34), .len (.t 33), none⟩,
 ⟨(.t 35), .bin .lss (.t 32) (.t 34), none⟩] none ⟨[], [], [], []⟩)
 (.cond (.t 35)
 .skip
 (.exit 0)))
 (.seq (.block 1
 (.seq (.seq (.reg 17 [] [
 ⟨(.t 38), .mv (.v 6), none⟩,
 ⟨(.t 39), .un .not (.t 38), none⟩,
 ⟨(.t 40), .mv (.t 39), none⟩,
 ⟨(.t 41), .fa 0 (.t 3), some (40, true)⟩,
 ⟨(.t 42), .ld 1 false (.t 41), some (40, true)⟩,
 ⟨(.t 43), .mv (.v 0), some (40, true)⟩,
 ⟨(.t 44), .mv (.v 7), some (40, true)⟩,
 ⟨(.t 45), .ia 4 (.t 43) (.t 44), some (40, true)⟩,
 ⟨(.t 46), .fa 0 (.t 45), some (40, true)⟩,
 ⟨(.t 47), .ld 1 false (.t 46), some (40, true)⟩,
 ⟨(.t 48), .bin .lss (.t 42) (.t 47), some (40, true)⟩,
 ⟨(.t 49), .pick (.t 40) (.t 48) (.c (.bool false)), none⟩] (some [[], [0], [1], [2], [3, 2], [2], [2], [5, 6, 2], [7, 2], [8, 2], [4, 9, 2], [2, 10]]) ⟨[40], [], [], []⟩)
 (.cond (.t 49)
 (.seq (.reg 18 [.lend (.var 5) 53] [
 ⟨(.t 50), .mv (.v 5), none⟩,
 ⟨(.t 51), .ld 4 true (.t 3), none⟩,
 ⟨(.t 52), .bls 27 4 (.agg #[(.string (ByteArray.mk #[])), (.int .i64 0), (.int .i64 0), (.int .i64 0)]) 1 [(0, (.t 51))], none⟩,
 ⟨(.t 53), .app 27 4 40 (.t 50) (.t 52), none⟩,
 ⟨(.v 5), .asg (.t 53), none⟩] none ⟨[], [], [], []⟩)
 (.reg 19 [] [
 ⟨(.v 6), .asg (.c (.bool true)), none⟩] none ⟨[], [], [], []⟩))
 .skip))
 (.reg 20 [.lend (.var 5) 60] [
 ⟨(.t 54), .mv (.v 5), none⟩,
 ⟨(.t 55), .mv (.v 0), none⟩,
 ⟨(.t 56), .mv (.v 7), none⟩,
 ⟨(.t 57), .ia 4 (.t 55) (.t 56), none⟩,
 ⟨(.t 58), .ld 4 true (.t 57), none⟩,
 ⟨(.t 59), .bls 27 4 (.agg #[(.string (ByteArray.mk #[])), (.int .i64 0), (.int .i64 0), (.int .i64 0)]) 1 [(0, (.t 58))], none⟩,
 ⟨(.t 60), .app 27 4 40 (.t 54) (.t 59), none⟩,
 ⟨(.v 5), .asg (.t 60), none⟩] none ⟨[], [], [], []⟩)))
 (.reg 16 [] [
 ⟨(.t 36), .mv (.v 7), none⟩,
 ⟨(.t 37), .bin .add (.t 36) (.c (.int .i64 1)), none⟩,
 ⟨(.v 7), .asg (.t 37), none⟩] none ⟨[], [], [], []⟩))))))
 (.seq (.seq (.reg 21 [] [
 ⟨(.t 61), .mv (.v 6), none⟩,
 ⟨(.t 62), .un .not (.t 61), none⟩] none ⟨[], [], [], []⟩)
 (.cond (.t 62)
 (.reg 22 [.lend (.var 5) 66] [
 ⟨(.t 63), .mv (.v 5), none⟩,
 ⟨(.t 64), .ld 4 true (.t 3), none⟩,
 ⟨(.t 65), .bls 27 4 (.agg #[(.string (ByteArray.mk #[])), (.int .i64 0), (.int .i64 0), (.int .i64 0)]) 1 [(0, (.t 64))], none⟩,
 ⟨(.t 66), .app 27 4 40 (.t 63) (.t 65), none⟩,
 ⟨(.v 5), .asg (.t 66), none⟩] none ⟨[], [], [], []⟩)
 .skip))
 (.seq (.reg 23 [.lend (.var 5) 67] [
 ⟨(.t 67), .mv (.v 5), none⟩,
 ⟨(.v 2), .asg (.t 67), none⟩,
 ⟨(.v 3), .asg (.c (.int .i64 0)), none⟩] none ⟨[], [], [], []⟩)
 .ret)))))))))))
theorem c42 : compFn Try.prog 42 F42 = some (2, strip a42, [.v 2, .v 3]) ∧ lexAll a42 = true := ⟨by kernel_rfl, by kernel_rfl⟩
def F43 : Fr := ⟨42, [0, 1, 4, 5, 7, 8, 9]⟩
def a43 : ACode :=
 (.seq (.reg 0 [] [
 ⟨(.v 2), .asg (.c (.slice none 0 0)), none⟩,
 ⟨(.v 3), .asg (.c (.int .i64 0)), none⟩] none ⟨[], [], [], []⟩)
 (.seq (.seq (.reg 1 [] [
 ⟨(.t 10), .mv (.v 0), none⟩,
 ⟨(.t 11), .call 45 [(.t 10)], none⟩,
 ⟨(.t 12), .un .not (.t 11), none⟩] none ⟨[], [], [], []⟩)
 (.cond (.t 12)
 (.seq (.reg 2 [] [
 ⟨(.v 2), .asg (.c (.slice none 0 0)), none⟩,
 ⟨(.v 3), .asg (.c (.int .i64 2)), none⟩] none ⟨[], [], [], []⟩)
 .ret)
 .skip))
 (.seq (.seq (.reg 3 [] [
 ⟨(.t 14), .mv (.v 0), none⟩,
 ⟨(.t 15), .mv (.v 1), none⟩,
 ⟨(.t 16), .call 35 [(.t 14), (.t 15)], none⟩,
 ⟨(.t 13), .mv (.t 16), none⟩,
 ⟨(.t 17), .ext 13 0, none⟩,
 ⟨(.t 18), .ext 13 1, none⟩,
 ⟨(.t 6), .allo [(.string (ByteArray.mk #[])), (.int .i64 0), (.int .i64 0), (.int .i64 0)], none⟩,
 ⟨.none, .st 4 (.t 6) (.t 17), none⟩,
 ⟨(.v 4), .asg (.t 18), none⟩] none ⟨[], [], [], []⟩)
 (.seq (.reg 4 [] [
 ⟨(.t 19), .mv (.v 4), none⟩,
 ⟨(.t 20), .un .not (.t 19), none⟩] none ⟨[], [], [], []⟩)
 (.cond (.t 20)
 (.seq (.reg 5 [] [
 ⟨(.v 2), .asg (.c (.slice none 0 0)), none⟩,
 ⟨(.v 3), .asg (.c (.int .i64 10)), none⟩] none ⟨[], [], [], []⟩)
 .ret)
 .skip)))
 (.seq (.reg 6 [] [
 ⟨(.v 5), .asg (.c (.slice none 0 0)), none⟩] none ⟨[], [], [], []⟩)
 (.seq (.seq (.reg 7 [.own (.var 5) 27 4] [
 ⟨(.v 6), .asg (.c (.int .i64 0)), none⟩] none ⟨[], [], [], []⟩)
 (.block 0
 (.loop
 (.seq (.seq (.reg 8 [] [
 ⟨(.t 21), .mv (.v 6), none⟩,
 ⟨(.t 22), .mv (.v 0), none⟩,
 ⟨(.t 23), .len (.t 22), none⟩,
 ⟨(.t 24), .bin .lss (.t 21) (.t 23), none⟩] none ⟨[], [], [], []⟩)
 (.cond (.t 24)
 .skip
 (.exit 0)))
 (.seq (.block 1
 (.seq (.reg 10 [] [
 ⟨(.t 27), .mv (.v 0), none⟩,
 ⟨(.t 28), .mv (.v 6), none⟩,
 ⟨(.t 29), .ia 4 (.t 27) (.t 28), none⟩,
 ⟨(.t 30), .fa 0 (.t 29), none⟩,
 ⟨(.t 31), .ld 1 false (.t 30), none⟩,
 ⟨(.t 32), .mv (.v 1), none⟩,
 ⟨(.t 33), .bin .neq (.t 31) (.t 32), none⟩] none ⟨[], [], [], []⟩)
 (.cond (.t 33)
 (.reg 11 [.lend (.var 5) 40] [
 ⟨(.t 34), .mv (.v 5), none⟩,
 ⟨(.t 35), .mv (.v 0), none⟩,
 ⟨(.t 36), .mv (.v 6), none⟩,
 ⟨(.t 37), .ia 4 (.t 35) (.t 36), none⟩,
 ⟨(.t 38), .ld 4 true (.t 37), none⟩,
 ⟨(.t 39), .bls 27 4 (.agg #[(.string (ByteArray.mk #[])), (.int .i64 0), (.int .i64 0), (.int .i64 0)]) 1 [(0, (.t 38))], none⟩,
 ⟨(.t 40), .app 27 4 40 (.t 34) (.t 39), none⟩,
 ⟨(.v 5), .asg (.t 40), none⟩] none ⟨[], [], [], []⟩)
 .skip)))
 (.reg 9 [] [
 ⟨(.t 25), .mv (.v 6), none⟩,
 ⟨(.t 26), .bin .add (.t 25) (.c (.int .i64 1)), none⟩,
 ⟨(.v 6), .asg (.t 26), none⟩] none ⟨[], [], [], []⟩))))))
 (.seq (.reg 12 [.lend (.var 5) 41] [
 ⟨(.t 41), .mv (.v 5), none⟩,
 ⟨(.v 2), .asg (.t 41), none⟩,
 ⟨(.v 3), .asg (.c (.int .i64 0)), none⟩] none ⟨[], [], [], []⟩)
 .ret))))))
theorem c43 : compFn Try.prog 43 F43 = some (2, strip a43, [.v 2, .v 3]) ∧ lexAll a43 = true := ⟨by kernel_rfl, by kernel_rfl⟩
def F44 : Fr := ⟨34, [0, 2, 3]⟩
def a44 : ACode :=
 (.seq (.reg 0 [] [
 ⟨(.v 1), .asg (.c (.bool false)), none⟩] none ⟨[], [], [], []⟩)
 (.seq (.seq (.reg 1 [] [
 ⟨(.t 5), .mv (.v 0), none⟩,
 ⟨(.t 6), .len (.t 5), none⟩,
 ⟨(.t 7), .bin .gtr (.t 6) (.c (.int .i64 8)), none⟩] none ⟨[], [], [], []⟩)
 (.cond (.t 7)
 (.seq (.reg 2 [] [
 ⟨(.v 1), .asg (.c (.bool false)), none⟩] none ⟨[], [], [], []⟩)
 .ret)
 .skip))
 (.seq (.seq (.reg 3 [] [
 ⟨(.t 8), .mv (.v 0), none⟩,
 ⟨(.t 9), .len (.t 8), none⟩,
 ⟨(.t 10), .mv (.c (.int .i64 0)), none⟩] none ⟨[], [], [], []⟩)
 (.block 0
 (.loop
 (.seq (.reg 4 [] [
 ⟨(.t 11), .bin .lss (.t 10) (.t 9), none⟩] none ⟨[], [], [], []⟩)
 (.seq (.cond (.t 11)
 .skip
 (.exit 0))
 (.seq (.block 1
 (.seq (.reg 5 [] [
 ⟨(.t 12), .mv (.t 10), none⟩,
 ⟨(.t 13), .ia 4 (.t 8) (.t 10), none⟩,
 ⟨(.t 14), .ld 4 true (.t 13), none⟩,
 ⟨(.t 4), .allo [(.string (ByteArray.mk #[])), (.int .i64 0), (.int .i64 0), (.int .i64 0)], none⟩,
 ⟨(.v 2), .asg (.t 12), none⟩,
 ⟨.none, .st 4 (.t 4) (.t 14), none⟩] none ⟨[], [], [], []⟩)
 (.seq (.reg 6 [] [
 ⟨(.t 15), .ld 4 true (.t 4), none⟩,
 ⟨(.t 16), .call 59 [(.t 15)], none⟩,
 ⟨(.t 17), .un .not (.t 16), none⟩,
 ⟨(.t 18), .mv (.t 17), none⟩,
 ⟨(.t 19), .mv (.v 2), some (18, false)⟩,
 ⟨(.t 20), .bin .gtr (.t 19) (.c (.int .i64 0)), some (18, false)⟩,
 ⟨(.t 21), .mv (.t 20), some (18, false)⟩,
 ⟨(.t 22), .mv (.v 0), some (21, true)⟩,
 ⟨(.t 23), .mv (.v 2), some (21, true)⟩,
 ⟨(.t 24), .bin .sub (.t 23) (.c (.int .i64 1)), some (21, true)⟩,
 ⟨(.t 25), .ia 4 (.t 22) (.t 24), some (21, true)⟩,
 ⟨(.t 26), .fa 0 (.t 25), some (21, true)⟩,
 ⟨(.t 27), .ld 1 false (.t 26), some (21, true)⟩,
 ⟨(.t 28), .fa 0 (.t 4), some (21, true)⟩,
 ⟨(.t 29), .ld 1 false (.t 28), some (21, true)⟩,
 ⟨(.t 30), .bin .geq (.t 27) (.t 29), some (21, true)⟩,
 ⟨(.t 31), .pick (.t 21) (.t 30) (.c (.bool false)), some (18, false)⟩,
 ⟨(.t 32), .pick (.t 18) (.c (.bool true)) (.t 31), none⟩] (some [[], [0], [1], [2, 1], [3], [4, 3], [5, 3, 3], [6], [6], [8, 6], [7, 9, 6], [10, 6], [11, 6], [6], [13, 6], [12, 14, 6], [6, 15, 3], [3, 16]]) ⟨[21], [], [], []⟩)
 (.cond (.t 32)
 (.seq (.reg 7 [] [
 ⟨(.v 1), .asg (.c (.bool false)), none⟩] none ⟨[], [], [], []⟩)
 .ret)
 .skip))))
 (.reg 8 [] [
 ⟨(.t 33), .bin .add (.t 10) (.c (.int .i64 1)), none⟩,
 ⟨(.t 10), .mv (.t 33), none⟩] none ⟨[], [], [], []⟩)))))))
 (.seq (.reg 9 [] [
 ⟨(.v 1), .asg (.c (.bool true)), none⟩] none ⟨[], [], [], []⟩)
 .ret))))
theorem c44 : compFn Try.prog 44 F44 = some (1, strip a44, [.v 1]) ∧ lexAll a44 = true := ⟨by kernel_rfl, by kernel_rfl⟩
def F45 : Fr := ⟨37, [0, 2, 3]⟩
def a45 : ACode :=
 (.seq (.reg 0 [] [
 ⟨(.v 1), .asg (.c (.bool false)), none⟩] none ⟨[], [], [], []⟩)
 (.seq (.seq (.reg 1 [] [
 ⟨(.t 4), .mv (.v 0), none⟩,
 ⟨(.t 5), .len (.t 4), none⟩,
 ⟨(.t 6), .bin .gtr (.t 5) (.c (.int .i64 8)), none⟩] none ⟨[], [], [], []⟩)
 (.cond (.t 6)
 (.seq (.reg 2 [] [
 ⟨(.v 1), .asg (.c (.bool false)), none⟩] none ⟨[], [], [], []⟩)
 .ret)
 .skip))
 (.seq (.seq (.reg 3 [] [
 ⟨(.v 2), .asg (.c (.int .i64 0)), none⟩] none ⟨[], [], [], []⟩)
 (.block 0
 (.loop
 (.seq (.seq (.reg 4 [] [
 ⟨(.t 7), .mv (.v 2), none⟩,
 ⟨(.t 8), .mv (.v 0), none⟩,
 ⟨(.t 9), .len (.t 8), none⟩,
 ⟨(.t 10), .bin .lss (.t 7) (.t 9), none⟩] none ⟨[], [], [], []⟩)
 (.cond (.t 10)
 .skip
 (.exit 0)))
 (.seq (.block 1
 (.seq (.reg 6 [] [
 ⟨(.t 13), .mv (.v 0), none⟩,
 ⟨(.t 14), .mv (.v 2), none⟩,
 ⟨(.t 15), .ia 4 (.t 13) (.t 14), none⟩,
 ⟨(.t 16), .ld 4 true (.t 15), none⟩,
 ⟨(.t 17), .call 62 [(.t 16)], none⟩,
 ⟨(.t 18), .un .not (.t 17), none⟩,
 ⟨(.t 19), .mv (.t 18), none⟩,
 ⟨(.t 20), .mv (.v 2), some (19, false)⟩,
 ⟨(.t 21), .bin .gtr (.t 20) (.c (.int .i64 0)), some (19, false)⟩,
 ⟨(.t 22), .mv (.t 21), some (19, false)⟩,
 ⟨(.t 23), .mv (.v 0), some (22, true)⟩,
 ⟨(.t 24), .mv (.v 2), some (22, true)⟩,
 ⟨(.t 25), .bin .sub (.t 24) (.c (.int .i64 1)), some (22, true)⟩,
 ⟨(.t 26), .ia 4 (.t 23) (.t 25), some (22, true)⟩,
 ⟨(.t 27), .fa 0 (.t 26), some (22, true)⟩,
 ⟨(.t 28), .ld 1 false (.t 27), some (22, true)⟩,
 ⟨(.t 29), .mv (.v 0), some (22, true)⟩,
 ⟨(.t 30), .mv (.v 2), some (22, true)⟩,
 ⟨(.t 31), .ia 4 (.t 29) (.t 30), some (22, true)⟩,
 ⟨(.t 32), .fa 0 (.t 31), some (22, true)⟩,
 ⟨(.t 33), .ld 1 false (.t 32), some (22, true)⟩,
 ⟨(.t 34), .bin .geq (.t 28) (.t 33), some (22, true)⟩,
 ⟨(.t 35), .pick (.t 22) (.t 34) (.c (.bool false)), some (19, false)⟩,
 ⟨(.t 36), .pick (.t 19) (.c (.bool true)) (.t 35), none⟩] (some [[], [], [0, 1], [2], [3], [4], [5, 4], [6], [7, 6], [8, 6, 6], [9], [9], [11, 9], [10, 12, 9], [13, 9], [14, 9], [9], [9], [16, 17, 9], [18, 9], [19, 9], [15, 20, 9], [9, 21, 6], [6, 22]]) ⟨[22], [], [], []⟩)
 (.cond (.t 36)
 (.seq (.reg 7 [] [
 ⟨(.v 1), .asg (.c (.bool false)), none⟩] none ⟨[], [], [], []⟩)
 .ret)
 .skip)))
 (.reg 5 [] [
 ⟨(.t 11), .mv (.v 2), none⟩,
 ⟨(.t 12), .bin .add (.t 11) (.c (.int .i64 1)), none⟩,
 ⟨(.v 2), .asg (.t 12), none⟩] none ⟨[], [], [], []⟩))))))
 (.seq (.reg 8 [] [
 ⟨(.v 1), .asg (.c (.bool true)), none⟩] none ⟨[], [], [], []⟩)
 .ret))))
theorem c45 : compFn Try.prog 45 F45 = some (1, strip a45, [.v 1]) ∧ lexAll a45 = true := ⟨by kernel_rfl, by kernel_rfl⟩
def F46 : Fr := ⟨27, [0, 1, 4]⟩
def a46 : ACode :=
 (.seq (.reg 0 [] [
 ⟨(.t 3), .box 2 (.v 1), none⟩,
 ⟨(.v 2), .asg (.c (.bool false)), none⟩] none ⟨[], [], [], []⟩)
 (.seq (.seq (.reg 1 [] [
 ⟨(.t 7), .ld 2 true (.t 3), none⟩,
 ⟨(.t 8), .call 63 [(.t 7)], none⟩,
 ⟨(.t 9), .un .not (.t 8), none⟩,
 ⟨(.t 10), .mv (.t 9), none⟩,
 ⟨(.t 11), .mv (.v 0), some (10, false)⟩,
 ⟨(.t 12), .len (.t 11), some (10, false)⟩,
 ⟨(.t 13), .fa 0 (.t 3), some (10, false)⟩,
 ⟨(.t 14), .ld 1 false (.t 13), some (10, false)⟩,
 ⟨(.t 15), .bin .neq (.t 12) (.t 14), some (10, false)⟩,
 ⟨(.t 16), .pick (.t 10) (.c (.bool true)) (.t 15), none⟩] none ⟨[], [], [], []⟩)
 (.cond (.t 16)
 (.seq (.reg 2 [] [
 ⟨(.v 2), .asg (.c (.bool false)), none⟩] none ⟨[], [], [], []⟩)
 .ret)
 .skip))
 (.seq (.seq (.reg 3 [] [
 ⟨(.t 17), .mv (.v 0), none⟩,
 ⟨(.t 18), .len (.t 17), none⟩,
 ⟨(.t 19), .mv (.c (.int .i64 0)), none⟩] none ⟨[], [], [], []⟩)
 (.block 0
 (.loop
 (.seq (.reg 4 [] [
 ⟨(.t 20), .bin .lss (.t 19) (.t 18), none⟩] none ⟨[], [], [], []⟩)
 (.seq (.cond (.t 20)
 .skip
 (.exit 0))
 (.seq (.block 1
 (.seq (.reg 5 [] [
 ⟨(.t 21), .ia 2 (.t 17) (.t 19), none⟩,
 ⟨(.t 22), .ld 2 true (.t 21), none⟩,
 ⟨(.t 6), .allo [(.int .i64 0), (.slice none 0 0)], none⟩,
 ⟨.none, .st 2 (.t 6) (.t 22), none⟩] none ⟨[], [], [], []⟩)
 (.seq (.reg 6 [] [
 ⟨(.t 23), .ld 2 true (.t 6), none⟩,
 ⟨(.t 24), .call 19 [(.t 23)], none⟩,
 ⟨(.t 25), .un .not (.t 24), none⟩] none ⟨[], [], [], []⟩)
 (.cond (.t 25)
 (.seq (.reg 7 [] [
 ⟨(.v 2), .asg (.c (.bool false)), none⟩] none ⟨[], [], [], []⟩)
 .ret)
 .skip))))
 (.reg 8 [] [
 ⟨(.t 26), .bin .add (.t 19) (.c (.int .i64 1)), none⟩,
 ⟨(.t 19), .mv (.t 26), none⟩] none ⟨[], [], [], []⟩)))))))
 (.seq (.reg 9 [] [
 ⟨(.v 2), .asg (.c (.bool true)), none⟩] none ⟨[], [], [], []⟩)
 .ret))))
theorem c46 : compFn Try.prog 46 F46 = some (2, strip a46, [.v 2]) ∧ lexAll a46 = true := ⟨by kernel_rfl, by kernel_rfl⟩
def F47 : Fr := ⟨25, [0, 1, 4, 5, 7]⟩
def a47 : ACode :=
 (.seq (.reg 0 [] [
 ⟨(.t 2), .box 2 (.v 0), none⟩,
 ⟨(.v 2), .asg (.c (.int .i64 0)), none⟩,
 ⟨(.v 3), .asg (.c (.bool false)), none⟩] none ⟨[], [], [], []⟩)
 (.seq (.seq (.reg 1 [] [
 ⟨(.t 8), .ld 2 true (.t 2), none⟩,
 ⟨(.t 9), .call 63 [(.t 8)], none⟩,
 ⟨(.t 10), .un .not (.t 9), none⟩] none ⟨[], [], [], []⟩)
 (.cond (.t 10)
 (.seq (.reg 2 [] [
 ⟨(.v 2), .asg (.c (.int .i64 0)), none⟩,
 ⟨(.v 3), .asg (.c (.bool false)), none⟩] none ⟨[], [], [], []⟩)
 .ret)
 .skip))
 (.seq (.seq (.reg 3 [] [
 ⟨(.t 11), .fa 1 (.t 2), none⟩,
 ⟨(.t 12), .ld 1 false (.t 11), none⟩,
 ⟨(.t 13), .len (.t 12), none⟩,
 ⟨(.t 14), .mv (.c (.int .i64 0)), none⟩] none ⟨[], [], [], []⟩)
 (.block 0
 (.loop
 (.seq (.reg 4 [] [
 ⟨(.t 15), .bin .lss (.t 14) (.t 13), none⟩] none ⟨[], [], [], []⟩)
 (.seq (.cond (.t 15)
 .skip
 (.exit 0))
 (.seq (.block 1
 (.seq (.reg 5 [] [
 ⟨(.t 16), .ia 1 (.t 12) (.t 14), none⟩,
 ⟨(.t 17), .ld 1 false (.t 16), none⟩,
 ⟨(.v 4), .asg (.t 17), none⟩] none ⟨[], [], [], []⟩)
 (.seq (.reg 6 [] [
 ⟨(.t 18), .mv (.v 4), none⟩,
 ⟨(.t 19), .mv (.v 1), none⟩,
 ⟨(.t 20), .bin .and (.t 18) (.t 19), none⟩,
 ⟨(.t 21), .mv (.v 4), none⟩,
 ⟨(.t 22), .bin .eql (.t 20) (.t 21), none⟩] none ⟨[], [], [], []⟩)
 (.cond (.t 22)
 (.seq (.reg 7 [] [
 ⟨(.t 23), .mv (.v 4), none⟩,
 ⟨(.v 2), .asg (.t 23), none⟩,
 ⟨(.v 3), .asg (.c (.bool true)), none⟩] none ⟨[], [], [], []⟩)
 .ret)
 .skip))))
 (.reg 8 [] [
 ⟨(.t 24), .bin .add (.t 14) (.c (.int .i64 1)), none⟩,
 ⟨(.t 14), .mv (.t 24), none⟩] none ⟨[], [], [], []⟩)))))))
 (.seq (.reg 9 [] [
 ⟨(.v 2), .asg (.c (.int .i64 0)), none⟩,
 ⟨(.v 3), .asg (.c (.bool false)), none⟩] none ⟨[], [], [], []⟩)
 .ret))))
theorem c47 : compFn Try.prog 47 F47 = some (2, strip a47, [.v 2, .v 3]) ∧ lexAll a47 = true := ⟨by kernel_rfl, by kernel_rfl⟩
def F49 : Fr := ⟨23, [0, 2]⟩
def a49 : ACode :=
 (.seq (.reg 0 [] [
 ⟨(.v 1), .asg (.c (.int .i64 0)), none⟩] none ⟨[], [], [], []⟩)
 (.seq (.reg 1 [] [
 ⟨(.t 4), .mv (.v 0), none⟩,
 ⟨(.t 5), .mv (.v 0), none⟩,
 ⟨(.t 6), .nilck (.t 5), none⟩,
 ⟨(.t 7), .fa 0 (.t 6), none⟩,
 ⟨(.t 8), .ld 1 false (.t 7), none⟩,
 ⟨(.t 9), .mv (.v 0), none⟩,
 ⟨(.t 10), .nilck (.t 9), none⟩,
 ⟨(.t 11), .fa 1 (.t 10), none⟩,
 ⟨(.t 12), .ld 2 true (.t 11), none⟩,
 ⟨(.t 13), .mv (.v 0), none⟩,
 ⟨(.t 14), .nilck (.t 13), none⟩,
 ⟨(.t 15), .fa 3 (.t 14), none⟩,
 ⟨(.t 16), .ld 1 false (.t 15), none⟩,
 ⟨(.t 17), .call 21 [(.t 8), (.t 12), (.t 16)], none⟩,
 ⟨(.t 3), .mv (.t 17), none⟩,
 ⟨(.t 18), .ext 3 0, none⟩,
 ⟨(.t 19), .ext 3 1, none⟩,
 ⟨(.t 20), .nilck (.t 4), none⟩,
 ⟨(.t 21), .fa 10 (.t 20), none⟩,
 ⟨.none, .st 2 (.t 21) (.t 18), none⟩,
 ⟨(.v 1), .asg (.t 19), none⟩] (some [[], [], [1], [2], [3], [], [5], [6], [7], [], [9], [10], [11], [4, 8, 12], [13], [14], [14], [0, 0, 1, 2, 3, 4, 5, 6, 7, 8, 9, 10, 11, 12, 13, 14, 15], [17, 0, 1, 2, 3, 4, 5, 6, 7, 8, 9, 10, 11, 12, 13, 14, 15], [18, 15, 13, 0, 1, 2, 3, 4, 5, 6, 7, 8, 9, 10, 11, 12, 13, 14, 15], [16, 19, 0, 1, 2, 3, 4, 5, 6, 7, 8, 9, 10, 11, 12, 13, 14, 15, 16, 17, 18, 19]]) ⟨[], [16], [], []⟩)
 (.seq (.reg 2 [] [
 ⟨(.t 22), .mv (.v 1), none⟩,
 ⟨(.v 1), .asg (.t 22), none⟩] none ⟨[], [], [], []⟩)
 .ret)))
theorem c49 : compFn Try.prog 49 F49 = some (1, strip a49, [.v 1]) ∧ lexAll a49 = true := ⟨by kernel_rfl, by kernel_rfl⟩
def F50 : Fr := ⟨23, [0, 2]⟩
def a50 : ACode :=
 (.seq (.reg 0 [] [
 ⟨(.v 1), .asg (.c (.int .i64 0)), none⟩] none ⟨[], [], [], []⟩)
 (.seq (.reg 1 [] [
 ⟨(.t 4), .mv (.v 0), none⟩,
 ⟨(.t 5), .mv (.v 0), none⟩,
 ⟨(.t 6), .nilck (.t 5), none⟩,
 ⟨(.t 7), .fa 10 (.t 6), none⟩,
 ⟨(.t 8), .ld 2 true (.t 7), none⟩,
 ⟨(.t 9), .mv (.v 0), none⟩,
 ⟨(.t 10), .nilck (.t 9), none⟩,
 ⟨(.t 11), .fa 5 (.t 10), none⟩,
 ⟨(.t 12), .ld 1 false (.t 11), none⟩,
 ⟨(.t 13), .mv (.v 0), none⟩,
 ⟨(.t 14), .nilck (.t 13), none⟩,
 ⟨(.t 15), .fa 6 (.t 14), none⟩,
 ⟨(.t 16), .ld 4 true (.t 15), none⟩,
 ⟨(.t 17), .call 14 [(.t 8), (.t 12), (.t 16)], none⟩,
 ⟨(.t 3), .mv (.t 17), none⟩,
 ⟨(.t 18), .ext 3 0, none⟩,
 ⟨(.t 19), .ext 3 1, none⟩,
 ⟨(.t 20), .nilck (.t 4), none⟩,
 ⟨(.t 21), .fa 10 (.t 20), none⟩,
 ⟨.none, .st 2 (.t 21) (.t 18), none⟩,
 ⟨(.v 1), .asg (.t 19), none⟩] (some [[], [], [1], [2], [3], [], [5], [6], [7], [], [9], [10], [11], [4, 8, 12], [13], [14], [14], [0, 0, 1, 2, 3, 4, 5, 6, 7, 8, 9, 10, 11, 12, 13, 14, 15], [17, 0, 1, 2, 3, 4, 5, 6, 7, 8, 9, 10, 11, 12, 13, 14, 15], [18, 15, 13, 0, 1, 2, 3, 4, 5, 6, 7, 8, 9, 10, 11, 12, 13, 14, 15], [16, 19, 0, 1, 2, 3, 4, 5, 6, 7, 8, 9, 10, 11, 12, 13, 14, 15, 16, 17, 18, 19]]) ⟨[], [16], [], []⟩)
 (.seq (.reg 2 [] [
 ⟨(.t 22), .mv (.v 1), none⟩,
 ⟨(.v 1), .asg (.t 22), none⟩] none ⟨[], [], [], []⟩)
 .ret)))
theorem c50 : compFn Try.prog 50 F50 = some (1, strip a50, [.v 1]) ∧ lexAll a50 = true := ⟨by kernel_rfl, by kernel_rfl⟩
def F51 : Fr := ⟨27, [0, 2]⟩
def a51 : ACode :=
 (.seq (.reg 0 [] [
 ⟨(.v 1), .asg (.c (.int .i64 0)), none⟩] none ⟨[], [], [], []⟩)
 (.seq (.reg 1 [] [
 ⟨(.t 4), .mv (.v 0), none⟩,
 ⟨(.t 5), .mv (.v 0), none⟩,
 ⟨(.t 6), .nilck (.t 5), none⟩,
 ⟨(.t 7), .fa 0 (.t 6), none⟩,
 ⟨(.t 8), .ld 1 false (.t 7), none⟩,
 ⟨(.t 9), .mv (.v 0), none⟩,
 ⟨(.t 10), .nilck (.t 9), none⟩,
 ⟨(.t 11), .fa 1 (.t 10), none⟩,
 ⟨(.t 12), .ld 2 true (.t 11), none⟩,
 ⟨(.t 13), .mv (.v 0), none⟩,
 ⟨(.t 14), .nilck (.t 13), none⟩,
 ⟨(.t 15), .fa 4 (.t 14), none⟩,
 ⟨(.t 16), .ld 1 false (.t 15), none⟩,
 ⟨(.t 17), .mv (.v 0), none⟩,
 ⟨(.t 18), .nilck (.t 17), none⟩,
 ⟨(.t 19), .fa 10 (.t 18), none⟩,
 ⟨(.t 20), .ld 2 true (.t 19), none⟩,
 ⟨(.t 21), .call 23 [(.t 8), (.t 12), (.t 16), (.t 20)], none⟩,
 ⟨(.t 3), .mv (.t 21), none⟩,
 ⟨(.t 22), .ext 3 0, none⟩,
 ⟨(.t 23), .ext 3 1, none⟩,
 ⟨(.t 24), .nilck (.t 4), none⟩,
 ⟨(.t 25), .fa 0 (.t 24), none⟩,
 ⟨.none, .st 1 (.t 25) (.t 22), none⟩,
 ⟨(.v 1), .asg (.t 23), none⟩] (some [[], [], [1], [2], [3], [], [5], [6], [7], [], [9], [10], [11], [], [13], [14], [15], [4, 8, 12, 16], [17], [18], [18], [0, 0, 1, 2, 3, 4, 5, 6, 7, 8, 9, 10, 11, 12, 13, 14, 15, 16, 17, 18, 19], [21, 0, 1, 2, 3, 4, 5, 6, 7, 8, 9, 10, 11, 12, 13, 14, 15, 16, 17, 18, 19], [22, 19, 17, 0, 1, 2, 3, 4, 5, 6, 7, 8, 9, 10, 11, 12, 13, 14, 15, 16, 17, 18, 19], [20, 23, 0, 1, 2, 3, 4, 5, 6, 7, 8, 9, 10, 11, 12, 13, 14, 15, 16, 17, 18, 19, 20, 21, 22, 23]]) ⟨[], [20], [], []⟩)
 (.seq (.reg 2 [] [
 ⟨(.t 26), .mv (.v 1), none⟩,
 ⟨(.v 1), .asg (.t 26), none⟩] none ⟨[], [], [], []⟩)
 .ret)))
theorem c51 : compFn Try.prog 51 F51 = some (1, strip a51, [.v 1]) ∧ lexAll a51 = true := ⟨by kernel_rfl, by kernel_rfl⟩
def F52 : Fr := ⟨13, [0, 2, 3]⟩
def a52 : ACode :=
 (.seq (.reg 0 [] [
 ⟨(.v 1), .asg (.c (.int .i64 0)), none⟩] none ⟨[], [], [], []⟩)
 (.seq (.reg 1 [] [
 ⟨(.v 2), .asg (.c (.int .i64 0)), none⟩] none ⟨[], [], [], []⟩)
 (.seq (.block 0
 (.loop
 (.seq (.seq (.reg 2 [] [
 ⟨(.t 4), .mv (.v 0), none⟩,
 ⟨(.t 5), .bin .gtr (.t 4) (.c (.int .i64 0)), none⟩] none ⟨[], [], [], []⟩)
 (.cond (.t 5)
 .skip
 (.exit 0)))
 (.seq (.block 1
 (.reg 4 [] [
 ⟨(.t 8), .mv (.v 2), none⟩,
 ⟨(.t 9), .mv (.v 0), none⟩,
 ⟨(.t 10), .bin .and (.t 9) (.c (.int .i64 1)), none⟩,
 ⟨(.t 11), .bin .add (.t 8) (.t 10), none⟩,
 ⟨(.v 2), .asg (.t 11), none⟩] none ⟨[], [], [], []⟩))
 (.reg 3 [] [
 ⟨(.t 6), .mv (.v 0), none⟩,
 ⟨(.t 7), .bin .shr (.t 6) (.c (.int .u64 1)), none⟩,
 ⟨(.v 0), .asg (.t 7), none⟩] none ⟨[], [], [], []⟩)))))
 (.seq (.reg 5 [] [
 ⟨(.t 12), .mv (.v 2), none⟩,
 ⟨(.v 1), .asg (.t 12), none⟩] none ⟨[], [], [], []⟩)
 .ret))))
theorem c52 : compFn Try.prog 52 F52 = some (1, strip a52, [.v 1]) ∧ lexAll a52 = true := ⟨by kernel_rfl, by kernel_rfl⟩
def F53 : Fr := ⟨71, [0, 1, 5, 7, 9, 11]⟩
def a53 : ACode :=
 (.seq (.reg 0 [] [
 ⟨(.t 4), .allo [(.int .i64 0), (.slice none 0 0)], none⟩,
 ⟨(.v 2), .asg (.c (.int .i64 0)), none⟩] none ⟨[], [], [], []⟩)
 (.seq (.seq (.reg 1 [] [
 ⟨(.t 13), .mv (.v 0), none⟩,
 ⟨(.t 14), .bin .lss (.t 13) (.c (.int .i64 1)), none⟩,
 ⟨(.t 15), .mv (.t 14), none⟩,
 ⟨(.t 16), .mv (.v 0), some (15, false)⟩,
 ⟨(.t 17), .bin .gtr (.t 16) (.c (.int .i64 9)), some (15, false)⟩,
 ⟨(.t 18), .pick (.t 15) (.c (.bool true)) (.t 17), none⟩,
 ⟨(.t 19), .mv (.t 18), none⟩,
 ⟨(.t 20), .mv (.v 1), some (19, false)⟩,
 ⟨(.t 21), .len (.t 20), some (19, false)⟩,
 ⟨(.t 22), .bin .eql (.t 21) (.c (.int .i64 0)), some (19, false)⟩,
 ⟨(.t 23), .pick (.t 19) (.c (.bool true)) (.t 22), none⟩] none ⟨[], [], [], []⟩)
 (.cond (.t 23)
 (.seq (.reg 2 [] [
 ⟨(.t 24), .bld [(.int .i64 0), (.slice none 0 0)] [], none⟩,
 ⟨.none, .st 2 (.t 4) (.t 24), none⟩,
 ⟨(.v 2), .asg (.c (.int .i64 1)), none⟩] none ⟨[], [], [], []⟩)
 .ret)
 .skip))
 (.seq (.seq (.reg 3 [] [
 ⟨(.t 25), .mv (.v 1), none⟩,
 ⟨(.t 26), .len (.t 25), none⟩,
 ⟨(.t 27), .mv (.c (.int .i64 0)), none⟩] none ⟨[], [], [], []⟩)
 (.block 0
 (.loop
 (.seq (.reg 4 [] [
 ⟨(.t 28), .bin .lss (.t 27) (.t 26), none⟩] none ⟨[], [], [], []⟩)
 (.seq (.cond (.t 28)
 .skip
 (.exit 0))
 (.seq (.block 1
 (.seq (.reg 5 [] [
 ⟨(.t 29), .ia 1 (.t 25) (.t 27), none⟩,
 ⟨(.t 30), .ld 1 false (.t 29), none⟩,
 ⟨(.v 3), .asg (.t 30), none⟩] none ⟨[], [], [], []⟩)
 (.seq (.reg 6 [] [
 ⟨(.t 31), .mv (.v 3), none⟩,
 ⟨(.t 32), .bin .lss (.t 31) (.c (.int .i64 1)), none⟩,
 ⟨(.t 33), .mv (.t 32), none⟩,
 ⟨(.t 34), .mv (.v 3), some (33, false)⟩,
 ⟨(.t 35), .mv (.v 0), some (33, false)⟩,
 ⟨(.t 36), .bin .shl (.c (.int .i64 1)) (.t 35), some (33, false)⟩,
 ⟨(.t 37), .bin .geq (.t 34) (.t 36), some (33, false)⟩,
 ⟨(.t 38), .pick (.t 33) (.c (.bool true)) (.t 37), none⟩] none ⟨[], [], [], []⟩)
 (.cond (.t 38)
 (.seq (.reg 7 [] [
 ⟨(.t 39), .bld [(.int .i64 0), (.slice none 0 0)] [], none⟩,
 ⟨.none, .st 2 (.t 4) (.t 39), none⟩,
 ⟨(.v 2), .asg (.c (.int .i64 1)), none⟩] none ⟨[], [], [], []⟩)
 .ret)
 .skip))))
 (.reg 8 [] [
 ⟨(.t 40), .bin .add (.t 27) (.c (.int .i64 1)), none⟩,
 ⟨(.t 27), .mv (.t 40), none⟩] none ⟨[], [], [], []⟩)))))))
 (.seq (.seq (.reg 9 [] [
 ⟨(.t 41), .mv (.v 1), none⟩,
 ⟨(.t 42), .len (.t 41), none⟩,
 ⟨(.t 43), .mv (.c (.int .i64 0)), none⟩] none ⟨[], [], [], []⟩)
 (.block 2
 (.loop
 (.seq (.reg 10 [] [
 ⟨(.t 44), .bin .lss (.t 43) (.t 42), none⟩] none ⟨[], [], [], []⟩)
 (.seq (.cond (.t 44)
 .skip
 (.exit 2))
 (.seq (.block 3
 (.seq (.reg 11 [] [
 ⟨(.t 45), .ia 1 (.t 41) (.t 43), none⟩,
 ⟨(.t 46), .ld 1 false (.t 45), none⟩,
 ⟨(.v 4), .asg (.t 46), none⟩] none ⟨[], [], [], []⟩)
 (.seq (.reg 12 [] [
 ⟨(.t 47), .mv (.v 1), none⟩,
 ⟨(.t 48), .len (.t 47), none⟩,
 ⟨(.t 49), .mv (.c (.int .i64 0)), none⟩] none ⟨[], [], [], []⟩)
 (.block 4
 (.loop
 (.seq (.reg 13 [] [
 ⟨(.t 50), .bin .lss (.t 49) (.t 48), none⟩] none ⟨[], [], [], []⟩)
 (.seq (.cond (.t 50)
 .skip
 (.exit 4))
 (.seq (.block 5
 (.seq (.reg 14 [] [
 ⟨(.t 51), .ia 1 (.t 47) (.t 49), none⟩,
 ⟨(.t 52), .ld 1 false (.t 51), none⟩,
 ⟨(.v 5), .asg (.t 52), none⟩] none ⟨[], [], [], []⟩)
 (.seq (.reg 15 [] [
 ⟨(.t 53), .mv (.v 4), none⟩,
 ⟨(.t 54), .mv (.v 5), none⟩,
 ⟨(.t 55), .bin .and (.t 53) (.t 54), none⟩,
 ⟨(.t 56), .bin .eql (.t 55) (.c (.int .i64 0)), none⟩] none ⟨[], [], [], []⟩)
 (.cond (.t 56)
 (.seq (.reg 16 [] [
 ⟨(.t 57), .bld [(.int .i64 0), (.slice none 0 0)] [], none⟩,
 ⟨.none, .st 2 (.t 4) (.t 57), none⟩,
 ⟨(.v 2), .asg (.c (.int .i64 13)), none⟩] none ⟨[], [], [], []⟩)
 .ret)
 .skip))))
 (.reg 17 [] [
 ⟨(.t 58), .bin .add (.t 49) (.c (.int .i64 1)), none⟩,
 ⟨(.t 49), .mv (.t 58), none⟩] none ⟨[], [], [], []⟩)))))))))
 (.reg 18 [] [
 ⟨(.t 59), .bin .add (.t 43) (.c (.int .i64 1)), none⟩,
 ⟨(.t 43), .mv (.t 59), none⟩] none ⟨[], [], [], []⟩)))))))
 (.seq (.reg 19 [] [
 ⟨(.t 60), .mv (.v 0), none⟩,
 ⟨(.t 61), .mv (.v 0), none⟩,
 ⟨(.t 62), .mv (.v 1), none⟩,
 ⟨(.t 63), .call 64 [(.t 61), (.t 62)], none⟩,
 ⟨(.t 64), .bld [(.int .i64 0), (.slice none 0 0)] [(0, 1, (.t 60)), (1, 1, (.t 63))], none⟩,
 ⟨(.t 12), .allo [(.int .i64 0), (.slice none 0 0)], none⟩,
 ⟨.none, .st 2 (.t 12) (.t 64), none⟩] none ⟨[], [], [], []⟩)
 (.seq (.seq (.reg 20 [] [
 ⟨(.t 65), .fa 1 (.t 12), none⟩,
 ⟨(.t 66), .ld 1 false (.t 65), none⟩,
 ⟨(.t 67), .len (.t 66), none⟩,
 ⟨(.t 68), .bin .gtr (.t 67) (.c (.int .i64 64)), none⟩] none ⟨[], [], [], []⟩)
 (.cond (.t 68)
 (.seq (.reg 21 [] [
 ⟨(.t 69), .bld [(.int .i64 0), (.slice none 0 0)] [], none⟩,
 ⟨.none, .st 2 (.t 4) (.t 69), none⟩,
 ⟨(.v 2), .asg (.c (.int .i64 4)), none⟩] none ⟨[], [], [], []⟩)
 .ret)
 .skip))
 (.seq (.reg 22 [] [
 ⟨(.t 70), .ld 2 true (.t 12), none⟩,
 ⟨.none, .st 2 (.t 4) (.t 70), none⟩,
 ⟨(.v 2), .asg (.c (.int .i64 0)), none⟩] none ⟨[], [], [], []⟩)
 .ret)))))))
theorem c53 : compFn Try.prog 53 F53 = some (2, strip a53, [.c 4 2 true, .v 2]) ∧ lexAll a53 = true := ⟨by kernel_rfl, by kernel_rfl⟩
def F54 : Fr := ⟨70, [0, 1, 4, 5, 6, 7, 9, 11, 13]⟩
def a54 : ACode :=
 (.seq (.reg 0 [] [
 ⟨(.v 2), .asg (.c (.slice none 0 0)), none⟩] none ⟨[], [], [], []⟩)
 (.seq (.seq (.reg 1 [] [
 ⟨(.t 14), .mv (.v 0), none⟩,
 ⟨(.t 15), .bin .mul (.c (.int .i64 2)) (.t 14), none⟩,
 ⟨(.t 16), .bin .add (.t 15) (.c (.int .i64 2)), none⟩,
 ⟨(.t 17), .mv (.v 1), none⟩,
 ⟨(.t 18), .bin .geq (.t 16) (.t 17), none⟩] none ⟨[], [], [], []⟩)
 (.cond (.t 18)
 (.seq (.reg 2 [] [
 ⟨(.t 19), .mv (.v 0), none⟩,
 ⟨(.t 20), .bin .shl (.c (.int .i64 1)) (.t 19), none⟩,
 ⟨(.t 21), .bls 3 1 (.int .i64 0) 1 [(0, (.t 20))], none⟩,
 ⟨(.v 2), .asg (.t 21), none⟩] none ⟨[], [], [], []⟩)
 .ret)
 .skip))
 (.seq (.reg 3 [] [
 ⟨(.t 22), .mv (.v 0), none⟩,
 ⟨(.t 23), .bin .mul (.c (.int .i64 2)) (.t 22), none⟩,
 ⟨(.t 24), .bin .add (.t 23) (.c (.int .i64 1)), none⟩,
 ⟨(.t 25), .mv (.v 1), none⟩,
 ⟨(.t 26), .call 54 [(.t 24), (.t 25)], none⟩,
 ⟨(.t 27), .mv (.v 0), none⟩,
 ⟨(.t 28), .bin .mul (.c (.int .i64 2)) (.t 27), none⟩,
 ⟨(.t 29), .bin .add (.t 28) (.c (.int .i64 2)), none⟩,
 ⟨(.t 30), .mv (.v 1), none⟩,
 ⟨(.t 31), .call 54 [(.t 29), (.t 30)], none⟩,
 ⟨(.v 3), .asg (.t 26), none⟩,
 ⟨(.v 4), .asg (.t 31), none⟩] none ⟨[], [], [], []⟩)
 (.seq (.reg 4 [] [
 ⟨(.v 5), .asg (.c (.slice none 0 0)), none⟩] none ⟨[], [], [], []⟩)
 (.seq (.seq (.reg 5 [.own (.var 5) 3 1] [
 ⟨(.t 32), .mv (.v 3), none⟩,
 ⟨(.t 33), .app 3 1 8 (.c (.slice none 0 0)) (.t 32), none⟩,
 ⟨(.t 34), .mv (.v 4), none⟩,
 ⟨(.t 35), .app 3 1 8 (.t 33) (.t 34), none⟩,
 ⟨(.t 36), .len (.t 35), none⟩,
 ⟨(.t 37), .mv (.c (.int .i64 0)), none⟩] none ⟨[], [], [], []⟩)
 (.block 0
 (.loop
 (.seq (.reg 6 [] [
 ⟨(.t 38), .bin .lss (.t 37) (.t 36), none⟩] none ⟨[], [], [], []⟩)
 (.seq (.cond (.t 38)
 .skip
 (.exit 0))
 (.seq (.block 1
 (.seq (.reg 7 [] [
 ⟨(.t 39), .ia 1 (.t 35) (.t 37), none⟩,
 ⟨(.t 40), .ld 1 false (.t 39), none⟩,
 ⟨(.v 6), .asg (.t 40), none⟩] none ⟨[], [], [], []⟩)
 (.reg 8 [.lend (.var 5) 47] [
 ⟨(.t 41), .mv (.v 5), none⟩,
 ⟨(.t 42), .mv (.v 6), none⟩,
 ⟨(.t 43), .mv (.v 0), none⟩,
 ⟨(.t 44), .bin .shl (.c (.int .i64 1)) (.t 43), none⟩,
 ⟨(.t 45), .bin .or (.t 42) (.t 44), none⟩,
 ⟨(.t 46), .bls 3 1 (.int .i64 0) 1 [(0, (.t 45))], none⟩,
 ⟨(.t 47), .app 3 1 8 (.t 41) (.t 46), none⟩,
 ⟨(.v 5), .asg (.t 47), none⟩] none ⟨[], [], [], []⟩)))
 (.reg 9 [] [
 ⟨(.t 48), .bin .add (.t 37) (.c (.int .i64 1)), none⟩,
 ⟨(.t 37), .mv (.t 48), none⟩] none ⟨[], [], [], []⟩)))))))
 (.seq (.seq (.reg 10 [] [
 ⟨(.t 49), .mv (.v 3), none⟩,
 ⟨(.t 50), .len (.t 49), none⟩,
 ⟨(.t 51), .mv (.c (.int .i64 0)), none⟩] none ⟨[], [], [], []⟩)
 (.block 2
 (.loop
 (.seq (.reg 11 [] [
 ⟨(.t 52), .bin .lss (.t 51) (.t 50), none⟩] none ⟨[], [], [], []⟩)
 (.seq (.cond (.t 52)
 .skip
 (.exit 2))
 (.seq (.block 3
 (.seq (.reg 12 [] [
 ⟨(.t 53), .ia 1 (.t 49) (.t 51), none⟩,
 ⟨(.t 54), .ld 1 false (.t 53), none⟩,
 ⟨(.v 7), .asg (.t 54), none⟩] none ⟨[], [], [], []⟩)
 (.seq (.reg 13 [] [
 ⟨(.t 55), .mv (.v 4), none⟩,
 ⟨(.t 56), .len (.t 55), none⟩,
 ⟨(.t 57), .mv (.c (.int .i64 0)), none⟩] none ⟨[], [], [], []⟩)
 (.block 4
 (.loop
 (.seq (.reg 14 [] [
 ⟨(.t 58), .bin .lss (.t 57) (.t 56), none⟩] none ⟨[], [], [], []⟩)
 (.seq (.cond (.t 58)
 .skip
 (.exit 4))
 (.seq (.block 5
 (.seq (.reg 15 [] [
 ⟨(.t 59), .ia 1 (.t 55) (.t 57), none⟩,
 ⟨(.t 60), .ld 1 false (.t 59), none⟩,
 ⟨(.v 8), .asg (.t 60), none⟩] none ⟨[], [], [], []⟩)
 (.reg 16 [.lend (.var 5) 66] [
 ⟨(.t 61), .mv (.v 5), none⟩,
 ⟨(.t 62), .mv (.v 7), none⟩,
 ⟨(.t 63), .mv (.v 8), none⟩,
 ⟨(.t 64), .bin .or (.t 62) (.t 63), none⟩,
 ⟨(.t 65), .bls 3 1 (.int .i64 0) 1 [(0, (.t 64))], none⟩,
 ⟨(.t 66), .app 3 1 8 (.t 61) (.t 65), none⟩,
 ⟨(.v 5), .asg (.t 66), none⟩] none ⟨[], [], [], []⟩)))
 (.reg 17 [] [
 ⟨(.t 67), .bin .add (.t 57) (.c (.int .i64 1)), none⟩,
 ⟨(.t 57), .mv (.t 67), none⟩] none ⟨[], [], [], []⟩)))))))))
 (.reg 18 [] [
 ⟨(.t 68), .bin .add (.t 51) (.c (.int .i64 1)), none⟩,
 ⟨(.t 51), .mv (.t 68), none⟩] none ⟨[], [], [], []⟩)))))))
 (.seq (.reg 19 [.lend (.var 5) 69] [
 ⟨(.t 69), .mv (.v 5), none⟩,
 ⟨(.v 2), .asg (.t 69), none⟩] none ⟨[], [], [], []⟩)
 .ret)))))))
theorem c54 : compFn Try.prog 54 F54 = some (2, strip a54, [.v 2]) ∧ lexAll a54 = true := ⟨by kernel_rfl, by kernel_rfl⟩
def F55 : Fr := ⟨27, [0, 2]⟩
def a55 : ACode :=
 (.seq (.reg 0 [] [
 ⟨(.t 1), .box 2 (.v 0), none⟩,
 ⟨(.v 1), .asg (.c (.bool false)), none⟩] none ⟨[], [], [], []⟩)
 (.seq (.reg 1 [] [
 ⟨(.t 3), .fa 0 (.t 1), none⟩,
 ⟨(.t 4), .ld 1 false (.t 3), none⟩,
 ⟨(.t 5), .bin .geq (.t 4) (.c (.int .i64 1)), none⟩,
 ⟨(.t 6), .mv (.t 5), none⟩,
 ⟨(.t 7), .fa 0 (.t 1), some (6, true)⟩,
 ⟨(.t 8), .ld 1 false (.t 7), some (6, true)⟩,
 ⟨(.t 9), .bin .leq (.t 8) (.c (.int .i64 9)), some (6, true)⟩,
 ⟨(.t 10), .pick (.t 6) (.t 9) (.c (.bool false)), none⟩,
 ⟨(.t 11), .mv (.t 10), none⟩,
 ⟨(.t 12), .fa 1 (.t 1), some (11, true)⟩,
 ⟨(.t 13), .ld 1 false (.t 12), some (11, true)⟩,
 ⟨(.t 14), .len (.t 13), some (11, true)⟩,
 ⟨(.t 15), .bin .geq (.t 14) (.c (.int .i64 1)), some (11, true)⟩,
 ⟨(.t 16), .pick (.t 11) (.t 15) (.c (.bool false)), none⟩,
 ⟨(.t 17), .mv (.t 16), none⟩,
 ⟨(.t 18), .fa 1 (.t 1), some (17, true)⟩,
 ⟨(.t 19), .ld 1 false (.t 18), some (17, true)⟩,
 ⟨(.t 20), .len (.t 19), some (17, true)⟩,
 ⟨(.t 21), .bin .leq (.t 20) (.c (.int .i64 64)), some (17, true)⟩,
 ⟨(.t 22), .pick (.t 17) (.t 21) (.c (.bool false)), none⟩,
 ⟨(.t 23), .mv (.t 22), none⟩,
 ⟨(.t 24), .ld 2 true (.t 1), some (23, true)⟩,
 ⟨(.t 25), .call 65 [(.t 24)], some (23, true)⟩,
 ⟨(.t 26), .pick (.t 23) (.t 25) (.c (.bool false)), none⟩,
 ⟨(.v 1), .asg (.t 26), none⟩] none ⟨[], [], [], []⟩)
 .ret))
theorem c55 : compFn Try.prog 55 F55 = some (1, strip a55, [.v 1]) ∧ lexAll a55 = true := ⟨by kernel_rfl, by kernel_rfl⟩
def F56 : Fr := ⟨10, [0, 1, 4]⟩
def a56 : ACode :=
 (.seq (.reg 0 [] [
 ⟨(.v 2), .asg (.c (.bool false)), none⟩] none ⟨[], [], [], []⟩)
 (.seq (.reg 1 [] [
 ⟨(.t 5), .mv (.v 0), none⟩,
 ⟨(.t 6), .mv (.v 1), none⟩,
 ⟨(.t 7), .bin .and (.t 5) (.t 6), none⟩,
 ⟨(.t 8), .mv (.v 0), none⟩,
 ⟨(.t 9), .bin .eql (.t 7) (.t 8), none⟩,
 ⟨(.v 2), .asg (.t 9), none⟩] none ⟨[], [], [], []⟩)
 .ret))
theorem c56 : compFn Try.prog 56 F56 = some (2, strip a56, [.v 2]) ∧ lexAll a56 = true := ⟨by kernel_rfl, by kernel_rfl⟩
def F57 : Fr := ⟨8, [0, 2]⟩
def a57 : ACode :=
 (.seq (.reg 0 [] [
 ⟨(.v 1), .asg (.c (.slice none 0 0)), none⟩] none ⟨[], [], [], []⟩)
 (.seq (.seq (.reg 1 [] [
 ⟨(.t 3), .mv (.v 0), none⟩,
 ⟨(.t 4), .isn false (.t 3), none⟩] none ⟨[], [], [], []⟩)
 (.cond (.t 4)
 (.seq (.reg 2 [] [
 ⟨(.v 1), .asg (.c (.slice none 0 0)), none⟩] none ⟨[], [], [], []⟩)
 .ret)
 .skip))
 (.seq (.reg 3 [] [
 ⟨(.t 5), .bls 27 4 (.agg #[(.string (ByteArray.mk #[])), (.int .i64 0), (.int .i64 0), (.int .i64 0)]) 0 [], none⟩,
 ⟨(.t 6), .mv (.v 0), none⟩,
 ⟨(.t 7), .app 27 4 40 (.t 5) (.t 6), none⟩,
 ⟨(.v 1), .asg (.t 7), none⟩] none ⟨[], [], [], []⟩)
 .ret)))
theorem c57 : compFn Try.prog 57 F57 = some (1, strip a57, [.v 1]) ∧ lexAll a57 = true := ⟨by kernel_rfl, by kernel_rfl⟩
def F58 : Fr := ⟨58, [0, 2, 3, 4, 5, 6]⟩
def a58 : ACode :=
 (.seq (.reg 0 [] [
 ⟨(.v 1), .asg (.c (.bool false)), none⟩] none ⟨[], [], [], []⟩)
 (.seq (.seq (.reg 1 [] [
 ⟨(.t 7), .mv (.v 0), none⟩,
 ⟨(.t 8), .slen (.t 7), none⟩,
 ⟨(.t 9), .bin .lss (.t 8) (.c (.int .i64 1)), none⟩,
 ⟨(.t 10), .mv (.t 9), none⟩,
 ⟨(.t 11), .mv (.v 0), some (10, false)⟩,
 ⟨(.t 12), .slen (.t 11), some (10, false)⟩,
 ⟨(.t 13), .bin .gtr (.t 12) (.c (.int .i64 12)), some (10, false)⟩,
 ⟨(.t 14), .pick (.t 10) (.c (.bool true)) (.t 13), none⟩,
 ⟨(.t 15), .mv (.t 14), none⟩,
 ⟨(.t 16), .mv (.v 0), some (15, false)⟩,
 ⟨(.t 17), .call 66 [(.t 16)], some (15, false)⟩,
 ⟨(.t 18), .pick (.t 15) (.c (.bool true)) (.t 17), none⟩] none ⟨[], [], [], []⟩)
 (.cond (.t 18)
 (.seq (.reg 2 [] [
 ⟨(.v 1), .asg (.c (.bool false)), none⟩] none ⟨[], [], [], []⟩)
 .ret)
 .skip))
 (.seq (.seq (.reg 3 [] [
 ⟨(.t 19), .mv (.v 0), none⟩,
 ⟨(.t 20), .slen (.t 19), none⟩,
 ⟨(.t 21), .mv (.c (.int .i64 0)), none⟩] none ⟨[], [], [], []⟩)
 (.block 0
 (.loop
 (.seq (.reg 4 [] [
 ⟨(.t 22), .bin .lss (.t 21) (.t 20), none⟩] none ⟨[], [], [], []⟩)
 (.seq (.cond (.t 22)
 .skip
 (.exit 0))
 (.seq (.block 1
 (.seq (.reg 5 [] [
 ⟨(.t 23), .mv (.t 21), none⟩,
 ⟨(.v 2), .asg (.t 23), none⟩] none ⟨[], [], [], []⟩)
 (.seq (.reg 6 [] [
 ⟨(.t 24), .mv (.v 0), none⟩,
 ⟨(.t 25), .mv (.v 2), none⟩,
 ⟨(.t 26), .ex .sidx (.t 24) (.t 25), none⟩,
 ⟨(.v 3), .asg (.t 26), none⟩] none ⟨[], [], [], []⟩)
 (.seq (.reg 7 [] [
 ⟨(.t 27), .mv (.v 3), none⟩,
 ⟨(.t 28), .bin .geq (.t 27) (.c (.int .u8 97)), none⟩,
 ⟨(.t 29), .mv (.t 28), none⟩,
 ⟨(.t 30), .mv (.v 3), some (29, true)⟩,
 ⟨(.t 31), .bin .leq (.t 30) (.c (.int .u8 122)), some (29, true)⟩,
 ⟨(.t 32), .pick (.t 29) (.t 31) (.c (.bool false)), none⟩,
 ⟨(.v 4), .asg (.t 32), none⟩] none ⟨[], [], [], []⟩)
 (.seq (.reg 8 [] [
 ⟨(.t 33), .mv (.v 3), none⟩,
 ⟨(.t 34), .bin .geq (.t 33) (.c (.int .u8 48)), none⟩,
 ⟨(.t 35), .mv (.t 34), none⟩,
 ⟨(.t 36), .mv (.v 3), some (35, true)⟩,
 ⟨(.t 37), .bin .leq (.t 36) (.c (.int .u8 57)), some (35, true)⟩,
 ⟨(.t 38), .pick (.t 35) (.t 37) (.c (.bool false)), none⟩,
 ⟨(.t 39), .mv (.t 38), none⟩,
 ⟨(.t 40), .mv (.v 3), some (39, false)⟩,
 ⟨(.t 41), .bin .eql (.t 40) (.c (.int .u8 95)), some (39, false)⟩,
 ⟨(.t 42), .pick (.t 39) (.c (.bool true)) (.t 41), none⟩,
 ⟨(.t 43), .mv (.t 42), none⟩,
 ⟨(.t 44), .mv (.v 3), some (43, false)⟩,
 ⟨(.t 45), .bin .eql (.t 44) (.c (.int .u8 45)), some (43, false)⟩,
 ⟨(.t 46), .pick (.t 43) (.c (.bool true)) (.t 45), none⟩,
 ⟨(.v 5), .asg (.t 46), none⟩] none ⟨[], [], [], []⟩)
 (.seq (.reg 9 [] [
 ⟨(.t 47), .mv (.v 4), none⟩,
 ⟨(.t 48), .un .not (.t 47), none⟩,
 ⟨(.t 49), .mv (.t 48), none⟩,
 ⟨(.t 50), .mv (.v 2), some (49, true)⟩,
 ⟨(.t 51), .bin .eql (.t 50) (.c (.int .i64 0)), some (49, true)⟩,
 ⟨(.t 52), .mv (.t 51), some (49, true)⟩,
 ⟨(.t 53), .mv (.v 5), some (52, false)⟩,
 ⟨(.t 54), .un .not (.t 53), some (52, false)⟩,
 ⟨(.t 55), .pick (.t 52) (.c (.bool true)) (.t 54), some (49, true)⟩,
 ⟨(.t 56), .pick (.t 49) (.t 55) (.c (.bool false)), none⟩] none ⟨[], [], [], []⟩)
 (.cond (.t 56)
 (.seq (.reg 10 [] [
 ⟨(.v 1), .asg (.c (.bool false)), none⟩] none ⟨[], [], [], []⟩)
 .ret)
 .skip)))))))
 (.reg 11 [] [
 ⟨(.t 57), .bin .add (.t 21) (.c (.int .i64 1)), none⟩,
 ⟨(.t 21), .mv (.t 57), none⟩] none ⟨[], [], [], []⟩)))))))
 (.seq (.reg 12 [] [
 ⟨(.v 1), .asg (.c (.bool true)), none⟩] none ⟨[], [], [], []⟩)
 .ret))))
theorem c58 : compFn Try.prog 58 F58 = some (1, strip a58, [.v 1]) ∧ lexAll a58 = true := ⟨by kernel_rfl, by kernel_rfl⟩
def F59 : Fr := ⟨20, [0, 2]⟩
def a59 : ACode :=
 (.seq (.reg 0 [] [
 ⟨(.t 1), .box 4 (.v 0), none⟩,
 ⟨(.v 1), .asg (.c (.bool false)), none⟩] none ⟨[], [], [], []⟩)
 (.seq (.reg 1 [] [
 ⟨(.t 3), .fa 0 (.t 1), none⟩,
 ⟨(.t 4), .ld 1 false (.t 3), none⟩,
 ⟨(.t 5), .call 58 [(.t 4)], none⟩,
 ⟨(.t 6), .mv (.t 5), none⟩,
 ⟨(.t 7), .ld 4 true (.t 1), some (6, true)⟩,
 ⟨(.t 8), .call 67 [(.t 7)], some (6, true)⟩,
 ⟨(.t 9), .pick (.t 6) (.t 8) (.c (.bool false)), none⟩,
 ⟨(.t 10), .mv (.t 9), none⟩,
 ⟨(.t 11), .fa 3 (.t 1), some (10, true)⟩,
 ⟨(.t 12), .ld 1 false (.t 11), some (10, true)⟩,
 ⟨(.t 13), .bin .geq (.t 12) (.c (.int .i64 0)), some (10, true)⟩,
 ⟨(.t 14), .pick (.t 10) (.t 13) (.c (.bool false)), none⟩,
 ⟨(.t 15), .mv (.t 14), none⟩,
 ⟨(.t 16), .fa 3 (.t 1), some (15, true)⟩,
 ⟨(.t 17), .ld 1 false (.t 16), some (15, true)⟩,
 ⟨(.t 18), .bin .lss (.t 17) (.c (.int .i64 4)), some (15, true)⟩,
 ⟨(.t 19), .pick (.t 15) (.t 18) (.c (.bool false)), none⟩,
 ⟨(.v 1), .asg (.t 19), none⟩] none ⟨[], [], [], []⟩)
 .ret))
theorem c59 : compFn Try.prog 59 F59 = some (1, strip a59, [.v 1]) ∧ lexAll a59 = true := ⟨by kernel_rfl, by kernel_rfl⟩
def F61 : Fr := ⟨33, [0, 2, 3]⟩
def a61 : ACode :=
 (.seq (.reg 0 [] [
 ⟨(.v 1), .asg (.c (.bool false)), none⟩] none ⟨[], [], [], []⟩)
 (.seq (.seq (.reg 1 [] [
 ⟨(.t 4), .mv (.v 0), none⟩,
 ⟨(.t 5), .slen (.t 4), none⟩,
 ⟨(.t 6), .bin .lss (.t 5) (.c (.int .i64 1)), none⟩,
 ⟨(.t 7), .mv (.t 6), none⟩,
 ⟨(.t 8), .mv (.v 0), some (7, false)⟩,
 ⟨(.t 9), .slen (.t 8), some (7, false)⟩,
 ⟨(.t 10), .bin .gtr (.t 9) (.c (.int .i64 12)), some (7, false)⟩,
 ⟨(.t 11), .pick (.t 7) (.c (.bool true)) (.t 10), none⟩,
 ⟨(.t 12), .mv (.t 11), none⟩,
 ⟨(.t 13), .mv (.v 0), some (12, false)⟩,
 ⟨(.t 14), .ex .sidx (.t 13) (.c (.int .i64 0)), some (12, false)⟩,
 ⟨(.t 15), .call 70 [(.t 14)], some (12, false)⟩,
 ⟨(.t 16), .un .not (.t 15), some (12, false)⟩,
 ⟨(.t 17), .pick (.t 12) (.c (.bool true)) (.t 16), none⟩,
 ⟨(.t 18), .mv (.t 17), none⟩,
 ⟨(.t 19), .mv (.v 0), some (18, false)⟩,
 ⟨(.t 20), .call 71 [(.t 19)], some (18, false)⟩,
 ⟨(.t 21), .pick (.t 18) (.c (.bool true)) (.t 20), none⟩] none ⟨[], [], [], []⟩)
 (.cond (.t 21)
 (.seq (.reg 2 [] [
 ⟨(.v 1), .asg (.c (.bool false)), none⟩] none ⟨[], [], [], []⟩)
 .ret)
 .skip))
 (.seq (.seq (.reg 3 [] [
 ⟨(.v 2), .asg (.c (.int .i64 0)), none⟩] none ⟨[], [], [], []⟩)
 (.block 0
 (.loop
 (.seq (.seq (.reg 4 [] [
 ⟨(.t 22), .mv (.v 2), none⟩,
 ⟨(.t 23), .mv (.v 0), none⟩,
 ⟨(.t 24), .slen (.t 23), none⟩,
 ⟨(.t 25), .bin .lss (.t 22) (.t 24), none⟩] none ⟨[], [], [], []⟩)
 (.cond (.t 25)
 .skip
 (.exit 0)))
 (.seq (.block 1
 (.seq (.reg 6 [] [
 ⟨(.t 28), .mv (.v 0), none⟩,
 ⟨(.t 29), .mv (.v 2), none⟩,
 ⟨(.t 30), .ex .sidx (.t 28) (.t 29), none⟩,
 ⟨(.t 31), .call 72 [(.t 30)], none⟩,
 ⟨(.t 32), .un .not (.t 31), none⟩] none ⟨[], [], [], []⟩)
 (.cond (.t 32)
 (.seq (.reg 7 [] [
 ⟨(.v 1), .asg (.c (.bool false)), none⟩] none ⟨[], [], [], []⟩)
 .ret)
 .skip)))
 (.reg 5 [] [
 ⟨(.t 26), .mv (.v 2), none⟩,
 ⟨(.t 27), .bin .add (.t 26) (.c (.int .i64 1)), none⟩,
 ⟨(.v 2), .asg (.t 27), none⟩] none ⟨[], [], [], []⟩))))))
 (.seq (.reg 8 [] [
 ⟨(.v 1), .asg (.c (.bool true)), none⟩] none ⟨[], [], [], []⟩)
 .ret))))
theorem c61 : compFn Try.prog 61 F61 = some (1, strip a61, [.v 1]) ∧ lexAll a61 = true := ⟨by kernel_rfl, by kernel_rfl⟩
def F62 : Fr := ⟨20, [0, 2]⟩
def a62 : ACode :=
 (.seq (.reg 0 [] [
 ⟨(.t 1), .box 4 (.v 0), none⟩,
 ⟨(.v 1), .asg (.c (.bool false)), none⟩] none ⟨[], [], [], []⟩)
 (.seq (.reg 1 [] [
 ⟨(.t 3), .fa 0 (.t 1), none⟩,
 ⟨(.t 4), .ld 1 false (.t 3), none⟩,
 ⟨(.t 5), .call 61 [(.t 4)], none⟩,
 ⟨(.t 6), .mv (.t 5), none⟩,
 ⟨(.t 7), .ld 4 true (.t 1), some (6, true)⟩,
 ⟨(.t 8), .call 73 [(.t 7)], some (6, true)⟩,
 ⟨(.t 9), .pick (.t 6) (.t 8) (.c (.bool false)), none⟩,
 ⟨(.t 10), .mv (.t 9), none⟩,
 ⟨(.t 11), .fa 3 (.t 1), some (10, true)⟩,
 ⟨(.t 12), .ld 1 false (.t 11), some (10, true)⟩,
 ⟨(.t 13), .bin .geq (.t 12) (.c (.int .i64 0)), some (10, true)⟩,
 ⟨(.t 14), .pick (.t 10) (.t 13) (.c (.bool false)), none⟩,
 ⟨(.t 15), .mv (.t 14), none⟩,
 ⟨(.t 16), .fa 3 (.t 1), some (15, true)⟩,
 ⟨(.t 17), .ld 1 false (.t 16), some (15, true)⟩,
 ⟨(.t 18), .bin .lss (.t 17) (.c (.int .i64 4)), some (15, true)⟩,
 ⟨(.t 19), .pick (.t 15) (.t 18) (.c (.bool false)), none⟩,
 ⟨(.v 1), .asg (.t 19), none⟩] none ⟨[], [], [], []⟩)
 .ret))
theorem c62 : compFn Try.prog 62 F62 = some (1, strip a62, [.v 1]) ∧ lexAll a62 = true := ⟨by kernel_rfl, by kernel_rfl⟩
def F63 : Fr := ⟨71, [0, 2, 3, 4, 6]⟩
def a63 : ACode :=
 (.seq (.reg 0 [] [
 ⟨(.t 1), .box 2 (.v 0), none⟩,
 ⟨(.v 1), .asg (.c (.bool false)), none⟩] none ⟨[], [], [], []⟩)
 (.seq (.seq (.reg 1 [] [
 ⟨(.t 7), .fa 0 (.t 1), none⟩,
 ⟨(.t 8), .ld 1 false (.t 7), none⟩,
 ⟨(.t 9), .call 74 [(.t 8)], none⟩,
 ⟨(.t 10), .un .not (.t 9), none⟩,
 ⟨(.t 11), .mv (.t 10), none⟩,
 ⟨(.t 12), .fa 1 (.t 1), some (11, false)⟩,
 ⟨(.t 13), .ld 1 false (.t 12), some (11, false)⟩,
 ⟨(.t 14), .len (.t 13), some (11, false)⟩,
 ⟨(.t 15), .bin .lss (.t 14) (.c (.int .i64 1)), some (11, false)⟩,
 ⟨(.t 16), .pick (.t 11) (.c (.bool true)) (.t 15), none⟩,
 ⟨(.t 17), .mv (.t 16), none⟩,
 ⟨(.t 18), .fa 1 (.t 1), some (17, false)⟩,
 ⟨(.t 19), .ld 1 false (.t 18), some (17, false)⟩,
 ⟨(.t 20), .len (.t 19), some (17, false)⟩,
 ⟨(.t 21), .bin .gtr (.t 20) (.c (.int .i64 64)), some (17, false)⟩,
 ⟨(.t 22), .pick (.t 17) (.c (.bool true)) (.t 21), none⟩] none ⟨[], [], [], []⟩)
 (.cond (.t 22)
 (.seq (.reg 2 [] [
 ⟨(.v 1), .asg (.c (.bool false)), none⟩] none ⟨[], [], [], []⟩)
 .ret)
 .skip))
 (.seq (.seq (.reg 3 [] [
 ⟨(.t 23), .fa 1 (.t 1), none⟩,
 ⟨(.t 24), .ld 1 false (.t 23), none⟩,
 ⟨(.t 25), .len (.t 24), none⟩,
 ⟨(.t 26), .mv (.c (.int .i64 0)), none⟩] none ⟨[], [], [], []⟩)
 (.block 0
 (.loop
 (.seq (.reg 4 [] [
 ⟨(.t 27), .bin .lss (.t 26) (.t 25), none⟩] none ⟨[], [], [], []⟩)
 (.seq (.cond (.t 27)
 .skip
 (.exit 0))
 (.seq (.block 1
 (.seq (.reg 5 [] [
 ⟨(.t 28), .mv (.t 26), none⟩,
 ⟨(.t 29), .ia 1 (.t 24) (.t 26), none⟩,
 ⟨(.t 30), .ld 1 false (.t 29), none⟩,
 ⟨(.v 2), .asg (.t 28), none⟩,
 ⟨(.v 3), .asg (.t 30), none⟩] none ⟨[], [], [], []⟩)
 (.seq (.reg 6 [] [
 ⟨(.t 31), .mv (.v 3), none⟩,
 ⟨(.t 32), .fa 0 (.t 1), none⟩,
 ⟨(.t 33), .ld 1 false (.t 32), none⟩,
 ⟨(.t 34), .call 75 [(.t 31), (.t 33)], none⟩,
 ⟨(.t 35), .un .not (.t 34), none⟩,
 ⟨(.t 36), .mv (.t 35), none⟩,
 ⟨(.t 37), .mv (.v 2), some (36, false)⟩,
 ⟨(.t 38), .bin .gtr (.t 37) (.c (.int .i64 0)), some (36, false)⟩,
 ⟨(.t 39), .mv (.t 38), some (36, false)⟩,
 ⟨(.t 40), .mv (.v 3), some (39, true)⟩,
 ⟨(.t 41), .fa 1 (.t 1), some (39, true)⟩,
 ⟨(.t 42), .ld 1 false (.t 41), some (39, true)⟩,
 ⟨(.t 43), .mv (.v 2), some (39, true)⟩,
 ⟨(.t 44), .bin .sub (.t 43) (.c (.int .i64 1)), some (39, true)⟩,
 ⟨(.t 45), .ia 1 (.t 42) (.t 44), some (39, true)⟩,
 ⟨(.t 46), .ld 1 false (.t 45), some (39, true)⟩,
 ⟨(.t 47), .bin .leq (.t 40) (.t 46), some (39, true)⟩,
 ⟨(.t 48), .pick (.t 39) (.t 47) (.c (.bool false)), some (36, false)⟩,
 ⟨(.t 49), .pick (.t 36) (.c (.bool true)) (.t 48), none⟩] none ⟨[], [], [], []⟩)
 (.cond (.t 49)
 (.seq (.reg 7 [] [
 ⟨(.v 1), .asg (.c (.bool false)), none⟩] none ⟨[], [], [], []⟩)
 .ret)
 .skip))))
 (.reg 8 [] [
 ⟨(.t 50), .bin .add (.t 26) (.c (.int .i64 1)), none⟩,
 ⟨(.t 26), .mv (.t 50), none⟩] none ⟨[], [], [], []⟩)))))))
 (.seq (.seq (.reg 9 [] [
 ⟨(.t 51), .fa 1 (.t 1), none⟩,
 ⟨(.t 52), .ld 1 false (.t 51), none⟩,
 ⟨(.t 53), .len (.t 52), none⟩,
 ⟨(.t 54), .mv (.c (.int .i64 0)), none⟩] none ⟨[], [], [], []⟩)
 (.block 2
 (.loop
 (.seq (.reg 10 [] [
 ⟨(.t 55), .bin .lss (.t 54) (.t 53), none⟩] none ⟨[], [], [], []⟩)
 (.seq (.cond (.t 55)
 .skip
 (.exit 2))
 (.seq (.block 3
 (.seq (.reg 11 [] [
 ⟨(.t 56), .ia 1 (.t 52) (.t 54), none⟩,
 ⟨(.t 57), .ld 1 false (.t 56), none⟩,
 ⟨(.v 4), .asg (.t 57), none⟩] none ⟨[], [], [], []⟩)
 (.seq (.reg 12 [] [
 ⟨(.t 58), .mv (.v 4), none⟩,
 ⟨(.t 59), .fa 1 (.t 1), none⟩,
 ⟨(.t 60), .ld 1 false (.t 59), none⟩,
 ⟨(.t 61), .call 76 [(.t 58), (.t 60)], none⟩,
 ⟨(.t 62), .un .not (.t 61), none⟩,
 ⟨(.t 63), .mv (.t 62), none⟩,
 ⟨(.t 64), .mv (.v 4), some (63, false)⟩,
 ⟨(.t 65), .fa 1 (.t 1), some (63, false)⟩,
 ⟨(.t 66), .ld 1 false (.t 65), some (63, false)⟩,
 ⟨(.t 67), .call 77 [(.t 64), (.t 66)], some (63, false)⟩,
 ⟨(.t 68), .un .not (.t 67), some (63, false)⟩,
 ⟨(.t 69), .pick (.t 63) (.c (.bool true)) (.t 68), none⟩] none ⟨[], [], [], []⟩)
 (.cond (.t 69)
 (.seq (.reg 13 [] [
 ⟨(.v 1), .asg (.c (.bool false)), none⟩] none ⟨[], [], [], []⟩)
 .ret)
 .skip))))
 (.reg 14 [] [
 ⟨(.t 70), .bin .add (.t 54) (.c (.int .i64 1)), none⟩,
 ⟨(.t 54), .mv (.t 70), none⟩] none ⟨[], [], [], []⟩)))))))
 (.seq (.reg 15 [] [
 ⟨(.v 1), .asg (.c (.bool true)), none⟩] none ⟨[], [], [], []⟩)
 .ret)))))
theorem c63 : compFn Try.prog 63 F63 = some (1, strip a63, [.v 1]) ∧ lexAll a63 = true := ⟨by kernel_rfl, by kernel_rfl⟩
def F64 : Fr := ⟨51, [0, 1, 4, 5, 6, 7, 8, 10]⟩
def a64 : ACode :=
 (.seq (.reg 0 [] [
 ⟨(.v 2), .asg (.c (.slice none 0 0)), none⟩] none ⟨[], [], [], []⟩)
 (.seq (.reg 1 [] [
 ⟨(.v 3), .asg (.c (.slice none 0 0)), none⟩] none ⟨[], [], [], []⟩)
 (.seq (.seq (.reg 2 [.own (.var 3) 3 1] [
 ⟨(.v 4), .asg (.c (.int .i64 0)), none⟩] none ⟨[], [], [], []⟩)
 (.block 0
 (.loop
 (.seq (.seq (.reg 3 [] [
 ⟨(.t 11), .mv (.v 4), none⟩,
 ⟨(.t 12), .mv (.v 0), none⟩,
 ⟨(.t 13), .bin .shl (.c (.int .i64 1)) (.t 12), none⟩,
 ⟨(.t 14), .bin .lss (.t 11) (.t 13), none⟩] none ⟨[], [], [], []⟩)
 (.cond (.t 14)
 .skip
 (.exit 0)))
 (.seq (.block 1
 (.seq (.reg 5 [] [
 ⟨(.v 5), .asg (.c (.bool false)), none⟩,
 ⟨(.v 6), .asg (.c (.bool true)), none⟩] none ⟨[], [], [], []⟩)
 (.seq (.seq (.reg 6 [] [
 ⟨(.t 17), .mv (.v 1), none⟩,
 ⟨(.t 18), .len (.t 17), none⟩,
 ⟨(.t 19), .mv (.c (.int .i64 0)), none⟩] none ⟨[], [], [], []⟩)
 (.block 2
 (.loop
 (.seq (.reg 7 [] [
 ⟨(.t 20), .bin .lss (.t 19) (.t 18), none⟩] none ⟨[], [], [], []⟩)
 (.seq (.cond (.t 20)
 .skip
 (.exit 2))
 (.seq (.block 3
 (.seq (.reg 8 [] [
 ⟨(.t 21), .ia 1 (.t 17) (.t 19), none⟩,
 ⟨(.t 22), .ld 1 false (.t 21), none⟩,
 ⟨(.v 7), .asg (.t 22), none⟩] none ⟨[], [], [], []⟩)
 (.seq (.reg 9 [] [
 ⟨(.t 23), .mv (.v 5), none⟩,
 ⟨(.t 24), .mv (.t 23), none⟩,
 ⟨(.t 25), .mv (.v 7), some (24, false)⟩,
 ⟨(.t 26), .mv (.v 4), some (24, false)⟩,
 ⟨(.t 27), .bin .eql (.t 25) (.t 26), some (24, false)⟩,
 ⟨(.t 28), .pick (.t 24) (.c (.bool true)) (.t 27), none⟩,
 ⟨(.v 5), .asg (.t 28), none⟩] none ⟨[], [], [], []⟩)
 (.reg 10 [] [
 ⟨(.t 29), .mv (.v 6), none⟩,
 ⟨(.t 30), .mv (.t 29), none⟩,
 ⟨(.t 31), .mv (.v 7), some (30, true)⟩,
 ⟨(.t 32), .mv (.v 4), some (30, true)⟩,
 ⟨(.t 33), .bin .eql (.t 31) (.t 32), some (30, true)⟩,
 ⟨(.t 34), .mv (.t 33), some (30, true)⟩,
 ⟨(.t 35), .mv (.v 7), some (34, false)⟩,
 ⟨(.t 36), .mv (.v 4), some (34, false)⟩,
 ⟨(.t 37), .call 56 [(.t 35), (.t 36)], some (34, false)⟩,
 ⟨(.t 38), .un .not (.t 37), some (34, false)⟩,
 ⟨(.t 39), .pick (.t 34) (.c (.bool true)) (.t 38), some (30, true)⟩,
 ⟨(.t 40), .pick (.t 30) (.t 39) (.c (.bool false)), none⟩,
 ⟨(.v 6), .asg (.t 40), none⟩] none ⟨[], [], [], []⟩))))
 (.reg 11 [] [
 ⟨(.t 41), .bin .add (.t 19) (.c (.int .i64 1)), none⟩,
 ⟨(.t 19), .mv (.t 41), none⟩] none ⟨[], [], [], []⟩)))))))
 (.seq (.reg 12 [] [
 ⟨(.t 42), .mv (.v 5), none⟩,
 ⟨(.t 43), .mv (.t 42), none⟩,
 ⟨(.t 44), .mv (.v 6), some (43, true)⟩,
 ⟨(.t 45), .pick (.t 43) (.t 44) (.c (.bool false)), none⟩] none ⟨[], [], [], []⟩)
 (.cond (.t 45)
 (.reg 13 [.lend (.var 3) 49] [
 ⟨(.t 46), .mv (.v 3), none⟩,
 ⟨(.t 47), .mv (.v 4), none⟩,
 ⟨(.t 48), .bls 3 1 (.int .i64 0) 1 [(0, (.t 47))], none⟩,
 ⟨(.t 49), .app 3 1 8 (.t 46) (.t 48), none⟩,
 ⟨(.v 3), .asg (.t 49), none⟩] none ⟨[], [], [], []⟩)
 .skip)))))
 (.reg 4 [] [
 ⟨(.t 15), .mv (.v 4), none⟩,
 ⟨(.t 16), .bin .add (.t 15) (.c (.int .i64 1)), none⟩,
 ⟨(.v 4), .asg (.t 16), none⟩] none ⟨[], [], [], []⟩))))))
 (.seq (.reg 14 [.lend (.var 3) 50] [
 ⟨(.t 50), .mv (.v 3), none⟩,
 ⟨(.v 2), .asg (.t 50), none⟩] none ⟨[], [], [], []⟩)
 .ret))))
theorem c64 : compFn Try.prog 64 F64 = some (2, strip a64, [.v 2]) ∧ lexAll a64 = true := ⟨by kernel_rfl, by kernel_rfl⟩
def F65 : Fr := ⟨63, [0, 2, 3, 4, 6]⟩
def a65 : ACode :=
 (.seq (.reg 0 [] [
 ⟨(.t 1), .box 2 (.v 0), none⟩,
 ⟨(.v 1), .asg (.c (.bool false)), none⟩] none ⟨[], [], [], []⟩)
 (.seq (.seq (.reg 1 [] [
 ⟨(.t 7), .fa 1 (.t 1), none⟩,
 ⟨(.t 8), .ld 1 false (.t 7), none⟩,
 ⟨(.t 9), .len (.t 8), none⟩,
 ⟨(.t 10), .mv (.c (.int .i64 0)), none⟩] none ⟨[], [], [], []⟩)
 (.block 0
 (.loop
 (.seq (.reg 2 [] [
 ⟨(.t 11), .bin .lss (.t 10) (.t 9), none⟩] none ⟨[], [], [], []⟩)
 (.seq (.cond (.t 11)
 .skip
 (.exit 0))
 (.seq (.block 1
 (.seq (.reg 3 [] [
 ⟨(.t 12), .mv (.t 10), none⟩,
 ⟨(.t 13), .ia 1 (.t 8) (.t 10), none⟩,
 ⟨(.t 14), .ld 1 false (.t 13), none⟩,
 ⟨(.v 2), .asg (.t 12), none⟩,
 ⟨(.v 3), .asg (.t 14), none⟩] none ⟨[], [], [], []⟩)
 (.seq (.seq (.reg 4 [] [
 ⟨(.t 15), .mv (.v 3), none⟩,
 ⟨(.t 16), .bin .lss (.t 15) (.c (.int .i64 1)), none⟩,
 ⟨(.t 17), .mv (.t 16), none⟩,
 ⟨(.t 18), .mv (.v 3), some (17, false)⟩,
 ⟨(.t 19), .fa 0 (.t 1), some (17, false)⟩,
 ⟨(.t 20), .ld 1 false (.t 19), some (17, false)⟩,
 ⟨(.t 21), .bin .shl (.c (.int .i64 1)) (.t 20), some (17, false)⟩,
 ⟨(.t 22), .bin .geq (.t 18) (.t 21), some (17, false)⟩,
 ⟨(.t 23), .pick (.t 17) (.c (.bool true)) (.t 22), none⟩,
 ⟨(.t 24), .mv (.t 23), none⟩,
 ⟨(.t 25), .mv (.v 2), some (24, false)⟩,
 ⟨(.t 26), .bin .gtr (.t 25) (.c (.int .i64 0)), some (24, false)⟩,
 ⟨(.t 27), .mv (.t 26), some (24, false)⟩,
 ⟨(.t 28), .mv (.v 3), some (27, true)⟩,
 ⟨(.t 29), .fa 1 (.t 1), some (27, true)⟩,
 ⟨(.t 30), .ld 1 false (.t 29), some (27, true)⟩,
 ⟨(.t 31), .mv (.v 2), some (27, true)⟩,
 ⟨(.t 32), .bin .sub (.t 31) (.c (.int .i64 1)), some (27, true)⟩,
 ⟨(.t 33), .ia 1 (.t 30) (.t 32), some (27, true)⟩,
 ⟨(.t 34), .ld 1 false (.t 33), some (27, true)⟩,
 ⟨(.t 35), .bin .leq (.t 28) (.t 34), some (27, true)⟩,
 ⟨(.t 36), .pick (.t 27) (.t 35) (.c (.bool false)), some (24, false)⟩,
 ⟨(.t 37), .pick (.t 24) (.c (.bool true)) (.t 36), none⟩] none ⟨[], [], [], []⟩)
 (.cond (.t 37)
 (.seq (.reg 5 [] [
 ⟨(.v 1), .asg (.c (.bool false)), none⟩] none ⟨[], [], [], []⟩)
 .ret)
 .skip))
 (.seq (.reg 6 [] [
 ⟨(.t 38), .fa 1 (.t 1), none⟩,
 ⟨(.t 39), .ld 1 false (.t 38), none⟩,
 ⟨(.t 40), .mv (.v 2), none⟩,
 ⟨(.t 41), .sl 3 1 (.t 39) none (some (.t 40)) none, none⟩,
 ⟨(.t 42), .len (.t 41), none⟩,
 ⟨(.t 43), .mv (.c (.int .i64 0)), none⟩] none ⟨[], [], [], []⟩)
 (.block 2
 (.loop
 (.seq (.reg 7 [] [
 ⟨(.t 44), .bin .lss (.t 43) (.t 42), none⟩] none ⟨[], [], [], []⟩)
 (.seq (.cond (.t 44)
 .skip
 (.exit 2))
 (.seq (.block 3
 (.seq (.reg 8 [] [
 ⟨(.t 45), .ia 1 (.t 41) (.t 43), none⟩,
 ⟨(.t 46), .ld 1 false (.t 45), none⟩,
 ⟨(.v 4), .asg (.t 46), none⟩] none ⟨[], [], [], []⟩)
 (.seq (.reg 9 [] [
 ⟨(.t 47), .mv (.v 4), none⟩,
 ⟨(.t 48), .mv (.v 3), none⟩,
 ⟨(.t 49), .bin .and (.t 47) (.t 48), none⟩,
 ⟨(.t 50), .bin .eql (.t 49) (.c (.int .i64 0)), none⟩,
 ⟨(.t 51), .mv (.t 50), none⟩,
 ⟨(.t 52), .mv (.v 4), some (51, false)⟩,
 ⟨(.t 53), .mv (.v 3), some (51, false)⟩,
 ⟨(.t 54), .call 56 [(.t 52), (.t 53)], some (51, false)⟩,
 ⟨(.t 55), .pick (.t 51) (.c (.bool true)) (.t 54), none⟩,
 ⟨(.t 56), .mv (.t 55), none⟩,
 ⟨(.t 57), .mv (.v 3), some (56, false)⟩,
 ⟨(.t 58), .mv (.v 4), some (56, false)⟩,
 ⟨(.t 59), .call 56 [(.t 57), (.t 58)], some (56, false)⟩,
 ⟨(.t 60), .pick (.t 56) (.c (.bool true)) (.t 59), none⟩] none ⟨[], [], [], []⟩)
 (.cond (.t 60)
 (.seq (.reg 10 [] [
 ⟨(.v 1), .asg (.c (.bool false)), none⟩] none ⟨[], [], [], []⟩)
 .ret)
 .skip))))
 (.reg 11 [] [
 ⟨(.t 61), .bin .add (.t 43) (.c (.int .i64 1)), none⟩,
 ⟨(.t 43), .mv (.t 61), none⟩] none ⟨[], [], [], []⟩))))))))))
 (.reg 12 [] [
 ⟨(.t 62), .bin .add (.t 10) (.c (.int .i64 1)), none⟩,
 ⟨(.t 10), .mv (.t 62), none⟩] none ⟨[], [], [], []⟩)))))))
 (.seq (.reg 13 [] [
 ⟨(.v 1), .asg (.c (.bool true)), none⟩] none ⟨[], [], [], []⟩)
 .ret)))
theorem c65 : compFn Try.prog 65 F65 = some (1, strip a65, [.v 1]) ∧ lexAll a65 = true := ⟨by kernel_rfl, by kernel_rfl⟩
def F66 : Fr := ⟨10, [0, 2, 4]⟩
def a66 : ACode :=
 (.seq (.reg 0 [] [
 ⟨(.v 1), .asg (.c (.bool false)), none⟩] none ⟨[], [], [], []⟩)
 (.seq (.seq (.reg 1 [] [
 ⟨(.t 3), .mv (.v 0), none⟩] none ⟨[], [], [], []⟩)
 (.block 0
 (.seq (.seq (.reg 2 [] [
 ⟨(.t 5), .bin .eql (.t 3) (.c (.string (ByteArray.mk #[97, 108, 108]))), none⟩,
 ⟨(.v 2), .asg (.t 5), none⟩] none ⟨[], [], [], []⟩)
 (.cond (.v 2)
 .skip
 (.seq (.reg 3 [] [
 ⟨(.t 6), .bin .eql (.t 3) (.c (.string (ByteArray.mk #[97, 110, 121]))), none⟩,
 ⟨(.v 2), .asg (.t 6), none⟩] none ⟨[], [], [], []⟩)
 (.cond (.v 2)
 .skip
 (.seq (.reg 4 [] [
 ⟨(.t 7), .bin .eql (.t 3) (.c (.string (ByteArray.mk #[111, 102]))), none⟩,
 ⟨(.v 2), .asg (.t 7), none⟩] none ⟨[], [], [], []⟩)
 (.cond (.v 2)
 .skip
 (.seq (.reg 5 [] [
 ⟨(.t 8), .bin .eql (.t 3) (.c (.string (ByteArray.mk #[112, 114, 105, 111]))), none⟩,
 ⟨(.v 2), .asg (.t 8), none⟩] none ⟨[], [], [], []⟩)
 (.cond (.v 2)
 .skip
 (.reg 6 [] [
 ⟨(.t 9), .bin .eql (.t 3) (.c (.string (ByteArray.mk #[108, 105, 109, 105, 116]))), none⟩,
 ⟨(.v 2), .asg (.t 9), none⟩] none ⟨[], [], [], []⟩)))))))))
 (.cond (.v 2)
 (.seq (.reg 7 [] [
 ⟨(.v 1), .asg (.c (.bool true)), none⟩] none ⟨[], [], [], []⟩)
 .ret)
 .skip))))
 (.seq (.reg 8 [] [
 ⟨(.v 1), .asg (.c (.bool false)), none⟩] none ⟨[], [], [], []⟩)
 .ret)))
theorem c66 : compFn Try.prog 66 F66 = some (1, strip a66, [.v 1]) ∧ lexAll a66 = true := ⟨by kernel_rfl, by kernel_rfl⟩
def F67 : Fr := ⟨20, [0, 2, 5, 10]⟩
def a67 : ACode :=
 (.seq (.reg 0 [] [
 ⟨(.t 1), .box 4 (.v 0), none⟩,
 ⟨(.v 1), .asg (.c (.bool false)), none⟩] none ⟨[], [], [], []⟩)
 (.seq (.seq (.reg 1 [] [
 ⟨(.t 3), .fa 1 (.t 1), none⟩,
 ⟨(.t 4), .ld 1 false (.t 3), none⟩] none ⟨[], [], [], []⟩)
 (.block 0
 (.seq (.reg 2 [] [
 ⟨(.t 6), .bin .eql (.t 4) (.c (.int .i64 1)), none⟩,
 ⟨(.v 2), .asg (.t 6), none⟩] none ⟨[], [], [], []⟩)
 (.cond (.v 2)
 (.seq (.reg 3 [] [
 ⟨(.t 7), .fa 2 (.t 1), none⟩,
 ⟨(.t 8), .ld 1 false (.t 7), none⟩,
 ⟨(.t 9), .bin .eql (.t 8) (.c (.int .i64 1)), none⟩,
 ⟨(.v 1), .asg (.t 9), none⟩] none ⟨[], [], [], []⟩)
 .ret)
 (.seq (.reg 4 [] [
 ⟨(.t 11), .bin .eql (.t 4) (.c (.int .i64 2)), none⟩,
 ⟨(.v 3), .asg (.t 11), none⟩] none ⟨[], [], [], []⟩)
 (.cond (.v 3)
 (.seq (.reg 5 [] [
 ⟨(.t 12), .fa 2 (.t 1), none⟩,
 ⟨(.t 13), .ld 1 false (.t 12), none⟩,
 ⟨(.t 14), .bin .geq (.t 13) (.c (.int .i64 1)), none⟩,
 ⟨(.t 15), .mv (.t 14), none⟩,
 ⟨(.t 16), .fa 2 (.t 1), some (15, true)⟩,
 ⟨(.t 17), .ld 1 false (.t 16), some (15, true)⟩,
 ⟨(.t 18), .bin .leq (.t 17) (.c (.int .i64 8)), some (15, true)⟩,
 ⟨(.t 19), .pick (.t 15) (.t 18) (.c (.bool false)), none⟩,
 ⟨(.v 1), .asg (.t 19), none⟩] none ⟨[], [], [], []⟩)
 .ret)
 .skip))))))
 (.seq (.reg 6 [] [
 ⟨(.v 1), .asg (.c (.bool false)), none⟩] none ⟨[], [], [], []⟩)
 .ret)))
theorem c67 : compFn Try.prog 67 F67 = some (1, strip a67, [.v 1]) ∧ lexAll a67 = true := ⟨by kernel_rfl, by kernel_rfl⟩
def F70 : Fr := ⟨9, [0, 2]⟩
def a70 : ACode :=
 (.seq (.reg 0 [] [
 ⟨(.v 1), .asg (.c (.bool false)), none⟩] none ⟨[], [], [], []⟩)
 (.seq (.reg 1 [] [
 ⟨(.t 3), .mv (.v 0), none⟩,
 ⟨(.t 4), .bin .geq (.t 3) (.c (.int .u8 97)), none⟩,
 ⟨(.t 5), .mv (.t 4), none⟩,
 ⟨(.t 6), .mv (.v 0), some (5, true)⟩,
 ⟨(.t 7), .bin .leq (.t 6) (.c (.int .u8 122)), some (5, true)⟩,
 ⟨(.t 8), .pick (.t 5) (.t 7) (.c (.bool false)), none⟩,
 ⟨(.v 1), .asg (.t 8), none⟩] none ⟨[], [], [], []⟩)
 .ret))
theorem c70 : compFn Try.prog 70 F70 = some (1, strip a70, [.v 1]) ∧ lexAll a70 = true := ⟨by kernel_rfl, by kernel_rfl⟩
def F71 : Fr := ⟨21, [0, 2]⟩
def a71 : ACode :=
 (.seq (.reg 0 [] [
 ⟨(.v 1), .asg (.c (.bool false)), none⟩] none ⟨[], [], [], []⟩)
 (.seq (.reg 1 [] [
 ⟨(.t 3), .mv (.v 0), none⟩,
 ⟨(.t 4), .bin .eql (.t 3) (.c (.string (ByteArray.mk #[97, 108, 108]))), none⟩,
 ⟨(.t 5), .mv (.t 4), none⟩,
 ⟨(.t 6), .mv (.v 0), some (5, false)⟩,
 ⟨(.t 7), .bin .eql (.t 6) (.c (.string (ByteArray.mk #[97, 110, 121]))), some (5, false)⟩,
 ⟨(.t 8), .pick (.t 5) (.c (.bool true)) (.t 7), none⟩,
 ⟨(.t 9), .mv (.t 8), none⟩,
 ⟨(.t 10), .mv (.v 0), some (9, false)⟩,
 ⟨(.t 11), .bin .eql (.t 10) (.c (.string (ByteArray.mk #[111, 102]))), some (9, false)⟩,
 ⟨(.t 12), .pick (.t 9) (.c (.bool true)) (.t 11), none⟩,
 ⟨(.t 13), .mv (.t 12), none⟩,
 ⟨(.t 14), .mv (.v 0), some (13, false)⟩,
 ⟨(.t 15), .bin .eql (.t 14) (.c (.string (ByteArray.mk #[112, 114, 105, 111]))), some (13, false)⟩,
 ⟨(.t 16), .pick (.t 13) (.c (.bool true)) (.t 15), none⟩,
 ⟨(.t 17), .mv (.t 16), none⟩,
 ⟨(.t 18), .mv (.v 0), some (17, false)⟩,
 ⟨(.t 19), .bin .eql (.t 18) (.c (.string (ByteArray.mk #[108, 105, 109, 105, 116]))), some (17, false)⟩,
 ⟨(.t 20), .pick (.t 17) (.c (.bool true)) (.t 19), none⟩,
 ⟨(.v 1), .asg (.t 20), none⟩] none ⟨[], [], [], []⟩)
 .ret))
theorem c71 : compFn Try.prog 71 F71 = some (1, strip a71, [.v 1]) ∧ lexAll a71 = true := ⟨by kernel_rfl, by kernel_rfl⟩
def F72 : Fr := ⟨21, [0, 2]⟩
def a72 : ACode :=
 (.seq (.reg 0 [] [
 ⟨(.v 1), .asg (.c (.bool false)), none⟩] none ⟨[], [], [], []⟩)
 (.seq (.reg 1 [] [
 ⟨(.t 3), .mv (.v 0), none⟩,
 ⟨(.t 4), .call 70 [(.t 3)], none⟩,
 ⟨(.t 5), .mv (.t 4), none⟩,
 ⟨(.t 6), .mv (.v 0), some (5, false)⟩,
 ⟨(.t 7), .bin .geq (.t 6) (.c (.int .u8 48)), some (5, false)⟩,
 ⟨(.t 8), .mv (.t 7), some (5, false)⟩,
 ⟨(.t 9), .mv (.v 0), some (8, true)⟩,
 ⟨(.t 10), .bin .leq (.t 9) (.c (.int .u8 57)), some (8, true)⟩,
 ⟨(.t 11), .pick (.t 8) (.t 10) (.c (.bool false)), some (5, false)⟩,
 ⟨(.t 12), .pick (.t 5) (.c (.bool true)) (.t 11), none⟩,
 ⟨(.t 13), .mv (.t 12), none⟩,
 ⟨(.t 14), .mv (.v 0), some (13, false)⟩,
 ⟨(.t 15), .bin .eql (.t 14) (.c (.int .u8 95)), some (13, false)⟩,
 ⟨(.t 16), .pick (.t 13) (.c (.bool true)) (.t 15), none⟩,
 ⟨(.t 17), .mv (.t 16), none⟩,
 ⟨(.t 18), .mv (.v 0), some (17, false)⟩,
 ⟨(.t 19), .bin .eql (.t 18) (.c (.int .u8 45)), some (17, false)⟩,
 ⟨(.t 20), .pick (.t 17) (.c (.bool true)) (.t 19), none⟩,
 ⟨(.v 1), .asg (.t 20), none⟩] none ⟨[], [], [], []⟩)
 .ret))
theorem c72 : compFn Try.prog 72 F72 = some (1, strip a72, [.v 1]) ∧ lexAll a72 = true := ⟨by kernel_rfl, by kernel_rfl⟩
def F73 : Fr := ⟨26, [0, 2]⟩
def a73 : ACode :=
 (.seq (.reg 0 [] [
 ⟨(.t 1), .box 4 (.v 0), none⟩,
 ⟨(.v 1), .asg (.c (.bool false)), none⟩] none ⟨[], [], [], []⟩)
 (.seq (.reg 1 [] [
 ⟨(.t 3), .fa 1 (.t 1), none⟩,
 ⟨(.t 4), .ld 1 false (.t 3), none⟩,
 ⟨(.t 5), .bin .eql (.t 4) (.c (.int .i64 1)), none⟩,
 ⟨(.t 6), .mv (.t 5), none⟩,
 ⟨(.t 7), .fa 2 (.t 1), some (6, true)⟩,
 ⟨(.t 8), .ld 1 false (.t 7), some (6, true)⟩,
 ⟨(.t 9), .bin .eql (.t 8) (.c (.int .i64 1)), some (6, true)⟩,
 ⟨(.t 10), .pick (.t 6) (.t 9) (.c (.bool false)), none⟩,
 ⟨(.t 11), .mv (.t 10), none⟩,
 ⟨(.t 12), .fa 1 (.t 1), some (11, false)⟩,
 ⟨(.t 13), .ld 1 false (.t 12), some (11, false)⟩,
 ⟨(.t 14), .bin .eql (.t 13) (.c (.int .i64 2)), some (11, false)⟩,
 ⟨(.t 15), .mv (.t 14), some (11, false)⟩,
 ⟨(.t 16), .fa 2 (.t 1), some (15, true)⟩,
 ⟨(.t 17), .ld 1 false (.t 16), some (15, true)⟩,
 ⟨(.t 18), .bin .geq (.t 17) (.c (.int .i64 1)), some (15, true)⟩,
 ⟨(.t 19), .pick (.t 15) (.t 18) (.c (.bool false)), some (11, false)⟩,
 ⟨(.t 20), .mv (.t 19), some (11, false)⟩,
 ⟨(.t 21), .fa 2 (.t 1), some (20, true)⟩,
 ⟨(.t 22), .ld 1 false (.t 21), some (20, true)⟩,
 ⟨(.t 23), .bin .leq (.t 22) (.c (.int .i64 8)), some (20, true)⟩,
 ⟨(.t 24), .pick (.t 20) (.t 23) (.c (.bool false)), some (11, false)⟩,
 ⟨(.t 25), .pick (.t 11) (.c (.bool true)) (.t 24), none⟩,
 ⟨(.v 1), .asg (.t 25), none⟩] none ⟨[], [], [], []⟩)
 .ret))
theorem c73 : compFn Try.prog 73 F73 = some (1, strip a73, [.v 1]) ∧ lexAll a73 = true := ⟨by kernel_rfl, by kernel_rfl⟩
def F74 : Fr := ⟨9, [0, 2]⟩
def a74 : ACode :=
 (.seq (.reg 0 [] [
 ⟨(.v 1), .asg (.c (.bool false)), none⟩] none ⟨[], [], [], []⟩)
 (.seq (.reg 1 [] [
 ⟨(.t 3), .mv (.v 0), none⟩,
 ⟨(.t 4), .bin .geq (.t 3) (.c (.int .i64 1)), none⟩,
 ⟨(.t 5), .mv (.t 4), none⟩,
 ⟨(.t 6), .mv (.v 0), some (5, true)⟩,
 ⟨(.t 7), .bin .leq (.t 6) (.c (.int .i64 9)), some (5, true)⟩,
 ⟨(.t 8), .pick (.t 5) (.t 7) (.c (.bool false)), none⟩,
 ⟨(.v 1), .asg (.t 8), none⟩] none ⟨[], [], [], []⟩)
 .ret))
theorem c74 : compFn Try.prog 74 F74 = some (1, strip a74, [.v 1]) ∧ lexAll a74 = true := ⟨by kernel_rfl, by kernel_rfl⟩
def F75 : Fr := ⟨13, [0, 1, 4]⟩
def a75 : ACode :=
 (.seq (.reg 0 [] [
 ⟨(.v 2), .asg (.c (.bool false)), none⟩] none ⟨[], [], [], []⟩)
 (.seq (.reg 1 [] [
 ⟨(.t 5), .mv (.v 0), none⟩,
 ⟨(.t 6), .bin .geq (.t 5) (.c (.int .i64 1)), none⟩,
 ⟨(.t 7), .mv (.t 6), none⟩,
 ⟨(.t 8), .mv (.v 0), some (7, true)⟩,
 ⟨(.t 9), .mv (.v 1), some (7, true)⟩,
 ⟨(.t 10), .bin .shl (.c (.int .i64 1)) (.t 9), some (7, true)⟩,
 ⟨(.t 11), .bin .lss (.t 8) (.t 10), some (7, true)⟩,
 ⟨(.t 12), .pick (.t 7) (.t 11) (.c (.bool false)), none⟩,
 ⟨(.v 2), .asg (.t 12), none⟩] none ⟨[], [], [], []⟩)
 .ret))
theorem c75 : compFn Try.prog 75 F75 = some (2, strip a75, [.v 2]) ∧ lexAll a75 = true := ⟨by kernel_rfl, by kernel_rfl⟩
def F76 : Fr := ⟨18, [0, 1, 4, 6]⟩
def a76 : ACode :=
 (.seq (.reg 0 [] [
 ⟨(.v 2), .asg (.c (.bool false)), none⟩] none ⟨[], [], [], []⟩)
 (.seq (.seq (.reg 1 [] [
 ⟨(.t 7), .mv (.v 1), none⟩,
 ⟨(.t 8), .len (.t 7), none⟩,
 ⟨(.t 9), .mv (.c (.int .i64 0)), none⟩] none ⟨[], [], [], []⟩)
 (.block 0
 (.loop
 (.seq (.reg 2 [] [
 ⟨(.t 10), .bin .lss (.t 9) (.t 8), none⟩] none ⟨[], [], [], []⟩)
 (.seq (.cond (.t 10)
 .skip
 (.exit 0))
 (.seq (.block 1
 (.seq (.reg 3 [] [
 ⟨(.t 11), .ia 1 (.t 7) (.t 9), none⟩,
 ⟨(.t 12), .ld 1 false (.t 11), none⟩,
 ⟨(.v 3), .asg (.t 12), none⟩] none ⟨[], [], [], []⟩)
 (.seq (.reg 4 [] [
 ⟨(.t 13), .mv (.v 0), none⟩,
 ⟨(.t 14), .mv (.v 3), none⟩,
 ⟨(.t 15), .bin .and (.t 13) (.t 14), none⟩,
 ⟨(.t 16), .bin .eql (.t 15) (.c (.int .i64 0)), none⟩] none ⟨[], [], [], []⟩)
 (.cond (.t 16)
 (.seq (.reg 5 [] [
 ⟨(.v 2), .asg (.c (.bool false)), none⟩] none ⟨[], [], [], []⟩)
 .ret)
 .skip))))
 (.reg 6 [] [
 ⟨(.t 17), .bin .add (.t 9) (.c (.int .i64 1)), none⟩,
 ⟨(.t 9), .mv (.t 17), none⟩] none ⟨[], [], [], []⟩)))))))
 (.seq (.reg 7 [] [
 ⟨(.v 2), .asg (.c (.bool true)), none⟩] none ⟨[], [], [], []⟩)
 .ret)))
theorem c76 : compFn Try.prog 76 F76 = some (2, strip a76, [.v 2]) ∧ lexAll a76 = true := ⟨by kernel_rfl, by kernel_rfl⟩
def F77 : Fr := ⟨24, [0, 1, 4, 6]⟩
def a77 : ACode :=
 (.seq (.reg 0 [] [
 ⟨(.v 2), .asg (.c (.bool false)), none⟩] none ⟨[], [], [], []⟩)
 (.seq (.seq (.reg 1 [] [
 ⟨(.t 7), .mv (.v 1), none⟩,
 ⟨(.t 8), .len (.t 7), none⟩,
 ⟨(.t 9), .mv (.c (.int .i64 0)), none⟩] none ⟨[], [], [], []⟩)
 (.block 0
 (.loop
 (.seq (.reg 2 [] [
 ⟨(.t 10), .bin .lss (.t 9) (.t 8), none⟩] none ⟨[], [], [], []⟩)
 (.seq (.cond (.t 10)
 .skip
 (.exit 0))
 (.seq (.block 1
 (.seq (.reg 3 [] [
 ⟨(.t 11), .ia 1 (.t 7) (.t 9), none⟩,
 ⟨(.t 12), .ld 1 false (.t 11), none⟩,
 ⟨(.v 3), .asg (.t 12), none⟩] none ⟨[], [], [], []⟩)
 (.seq (.reg 4 [] [
 ⟨(.t 13), .mv (.v 3), none⟩,
 ⟨(.t 14), .mv (.v 0), none⟩,
 ⟨(.t 15), .bin .neq (.t 13) (.t 14), none⟩,
 ⟨(.t 16), .mv (.t 15), none⟩,
 ⟨(.t 17), .mv (.v 0), some (16, true)⟩,
 ⟨(.t 18), .mv (.v 3), some (16, true)⟩,
 ⟨(.t 19), .bin .and (.t 17) (.t 18), some (16, true)⟩,
 ⟨(.t 20), .mv (.v 3), some (16, true)⟩,
 ⟨(.t 21), .bin .eql (.t 19) (.t 20), some (16, true)⟩,
 ⟨(.t 22), .pick (.t 16) (.t 21) (.c (.bool false)), none⟩] none ⟨[], [], [], []⟩)
 (.cond (.t 22)
 (.seq (.reg 5 [] [
 ⟨(.v 2), .asg (.c (.bool false)), none⟩] none ⟨[], [], [], []⟩)
 .ret)
 .skip))))
 (.reg 6 [] [
 ⟨(.t 23), .bin .add (.t 9) (.c (.int .i64 1)), none⟩,
 ⟨(.t 9), .mv (.t 23), none⟩] none ⟨[], [], [], []⟩)))))))
 (.seq (.reg 7 [] [
 ⟨(.v 2), .asg (.c (.bool true)), none⟩] none ⟨[], [], [], []⟩)
 .ret)))
theorem c77 : compFn Try.prog 77 F77 = some (2, strip a77, [.v 2]) ∧ lexAll a77 = true := ⟨by kernel_rfl, by kernel_rfl⟩
theorem mixed : Try.prog.follows .mixedOrders = true := by kernel_rfl
end Go.Proofs.Ytebibhmjmaomnaa
namespace Go.Proofs.Ytebibhmjmaomnaa
open Go.RowKit Go.Proofs
def a21b : ACode :=
 (.seq (.reg 0 [] [
 ⟨(.t 4), .box 2 (.v 1), none⟩,
 ⟨(.t 6), .allo [(.int .i64 0), (.slice none 0 0)], none⟩,
 ⟨(.v 3), .asg (.c (.int .i64 0)), none⟩] none ⟨[], [], [], []⟩)
 (.seq (.seq (.reg 1 [] [
 ⟨(.t 13), .mv (.v 0), none⟩,
 ⟨(.t 14), .ld 2 true (.t 4), none⟩,
 ⟨(.t 15), .call 46 [(.t 13), (.t 14)], none⟩,
 ⟨(.t 16), .un .not (.t 15), none⟩] none ⟨[], [], [], []⟩)
 (.cond (.t 16)
 (.seq (.reg 2 [] [
 ⟨(.t 17), .bld [(.int .i64 0), (.slice none 0 0)] [], none⟩,
 ⟨.none, .st 2 (.t 6) (.t 17), none⟩,
 ⟨(.v 3), .asg (.c (.int .i64 2)), none⟩] none ⟨[], [], [], []⟩)
 .ret)
 .skip))
 (.seq (.reg 3 [] [
 ⟨(.t 19), .ld 2 true (.t 4), none⟩,
 ⟨(.t 20), .mv (.v 2), none⟩,
 ⟨(.t 21), .call 47 [(.t 19), (.t 20)], none⟩,
 ⟨(.t 18), .mv (.t 21), none⟩,
 ⟨(.t 22), .ext 18 0, none⟩,
 ⟨(.t 23), .ext 18 1, none⟩,
 ⟨(.v 4), .asg (.t 22), none⟩,
 ⟨(.v 5), .asg (.t 23), none⟩] none ⟨[], [], [], []⟩)
 (.seq (.seq (.reg 4 [] [
 ⟨(.t 24), .mv (.v 5), none⟩,
 ⟨(.t 25), .un .not (.t 24), none⟩] none ⟨[], [], [], []⟩)
 (.cond (.t 25)
 (.seq (.reg 5 [] [
 ⟨(.t 26), .bld [(.int .i64 0), (.slice none 0 0)] [], none⟩,
 ⟨.none, .st 2 (.t 6) (.t 26), none⟩,
 ⟨(.v 3), .asg (.c (.int .i64 21)), none⟩] none ⟨[], [], [], []⟩)
 .ret)
 .skip))
 (.seq (.reg 6 [] [
 ⟨(.v 6), .asg (.c (.slice none 0 0)), none⟩] none ⟨[], [], [], []⟩)
 (.seq (.seq (.reg 7 [.own (.var 6) 32 2] [
 ⟨(.t 27), .mv (.v 0), none⟩,
 ⟨(.t 28), .len (.t 27), none⟩,
 ⟨(.t 29), .mv (.c (.int .i64 0)), none⟩] none ⟨[], [], [], []⟩)
 (.block 0
 (.loop
 (.seq (.reg 8 [] [
 ⟨(.t 30), .bin .lss (.t 29) (.t 28), none⟩] none ⟨[], [], [], []⟩)
 (.seq (.cond (.t 30)
 .skip
 (.exit 0))
 (.seq (.block 1
 (.seq (.reg 9 [] [
 ⟨(.t 31), .mv (.t 29), none⟩,
 ⟨(.t 32), .ia 2 (.t 27) (.t 29), none⟩,
 ⟨(.t 33), .ld 2 true (.t 32), none⟩,
 ⟨(.t 12), .allo [(.int .i64 0), (.slice none 0 0)], none⟩,
 ⟨(.v 7), .asg (.t 31), none⟩,
 ⟨.none, .st 2 (.t 12) (.t 33), none⟩] none ⟨[], [], [], []⟩)
 (.seq (.reg 10 [] [
 ⟨(.t 34), .mv (.v 4), none⟩,
 ⟨(.t 35), .mv (.v 7), none⟩,
 ⟨(.t 36), .bin .shl (.c (.int .i64 1)) (.t 35), none⟩,
 ⟨(.t 37), .bin .and (.t 34) (.t 36), none⟩,
 ⟨(.t 38), .bin .neq (.t 37) (.c (.int .i64 0)), none⟩] none ⟨[], [], [], []⟩)
 (.cond (.t 38)
 (.reg 11 [.lend (.var 6) 42] [
 ⟨(.t 39), .mv (.v 6), none⟩,
 ⟨(.t 40), .ld 2 true (.t 12), none⟩,
 ⟨(.t 41), .bls 32 2 (.agg #[(.int .i64 0), (.slice none 0 0)]) 1 [(0, (.t 40))], none⟩,
 ⟨(.t 42), .app 32 2 32 (.t 39) (.t 41), none⟩,
 ⟨(.v 6), .asg (.t 42), none⟩] none ⟨[], [], [], []⟩)
 .skip))))
 (.reg 12 [] [
 ⟨(.t 43), .bin .add (.t 29) (.c (.int .i64 1)), none⟩,
 ⟨(.t 29), .mv (.t 43), none⟩] none ⟨[], [], [], []⟩)))))))
 (.seq (.reg 13 [.freeze (.var 6)] [
 ⟨(.t 44), .mv (.v 6), none⟩,
 ⟨(.t 45), .call 12 [(.t 44)], none⟩,
 ⟨(.t 46), .ext 45 0, none⟩,
 ⟨(.t 47), .ext 45 1, none⟩,
 ⟨.none, .st 2 (.t 6) (.t 46), none⟩,
 ⟨(.v 3), .asg (.t 47), none⟩] none ⟨[], [], [], []⟩)
 .ret)))))))
theorem c21b : compFn Try.prog 21 F21 = some (3, strip a21b, [.c 6 2 true, .v 3]) ∧ lexAll a21b = true := ⟨by kernel_rfl, by kernel_rfl⟩
end Go.Proofs.Ytebibhmjmaomnaa
namespace Go.Proofs.Ytebibhmjmaomnaa
open Go.RowKit Go.Proofs
end Go.Proofs.Ytebibhmjmaomnaa
namespace Go.Proofs.Ytebibhmjmaomnaa
open Go.RowKit Go.Proofs
def a8b : ACode :=
 (.seq (.reg 0 [] [
 ⟨(.v 0), .asg (.c (.bool false)), none⟩] none ⟨[], [], [], []⟩)
 (.seq (.reg 1 [] [
 ⟨(.t 8), .bls 3 1 (.int .i64 0) 3 [(0, (.c (.int .i64 3))), (1, (.c (.int .i64 5))), (2, (.c (.int .i64 6)))], none⟩,
 ⟨(.t 9), .bld [(.int .i64 0), (.slice none 0 0)] [(0, 1, (.c (.int .i64 3))), (1, 1, (.t 8))], none⟩,
 ⟨(.t 1), .allo [(.int .i64 0), (.slice none 0 0)], none⟩,
 ⟨.none, .st 2 (.t 1) (.t 9), none⟩] none ⟨[], [], [], []⟩)
 (.seq (.reg 2 [.freeze (.cell 0 1)] [
 ⟨(.t 11), .mk 32 2 32 (.agg #[(.int .i64 0), (.slice none 0 0)]) (.c (.int .i64 3)) (.c (.int .i64 3)), none⟩,
 ⟨(.t 12), .ld 2 true (.t 1), none⟩,
 ⟨(.t 13), .call 10 [(.c (.string (ByteArray.mk #[97])))], none⟩,
 ⟨(.t 14), .call 25 [(.t 11), (.t 12), (.c (.int .i64 3)), (.c (.int .i64 5)), (.c (.bool true)), (.t 13)], none⟩,
 ⟨(.t 10), .mv (.t 14), none⟩,
 ⟨(.t 15), .ext 10 0, none⟩,
 ⟨(.t 16), .ext 10 1, none⟩,
 ⟨(.v 1), .asg (.t 15), none⟩,
 ⟨(.v 2), .asg (.t 16), none⟩] (some [[], [], [], [0, 1, 2, 2], [3], [4], [4], [5, 3, 0, 1, 2, 3, 4, 5], [6, 7, 0, 1, 2, 3, 4, 5, 6, 7]]) ⟨[], [6], [], []⟩)
 (.seq (.seq (.reg 3 [] [
 ⟨(.t 17), .mv (.v 2), none⟩,
 ⟨(.t 18), .bin .neq (.t 17) (.c (.int .i64 0)), none⟩,
 ⟨(.t 19), .mv (.t 18), none⟩,
 ⟨(.t 20), .mv (.v 1), some (19, false)⟩,
 ⟨(.t 21), .len (.t 20), some (19, false)⟩,
 ⟨(.t 22), .bin .neq (.t 21) (.c (.int .i64 3)), some (19, false)⟩,
 ⟨(.t 23), .pick (.t 19) (.c (.bool true)) (.t 22), none⟩,
 ⟨(.t 24), .mv (.t 23), none⟩,
 ⟨(.t 25), .mv (.v 1), some (24, false)⟩,
 ⟨(.t 26), .ia 2 (.t 25) (.c (.int .i64 0)), some (24, false)⟩,
 ⟨(.t 27), .fa 0 (.t 26), some (24, false)⟩,
 ⟨(.t 28), .ld 1 false (.t 27), some (24, false)⟩,
 ⟨(.t 29), .bin .neq (.t 28) (.c (.int .i64 1)), some (24, false)⟩,
 ⟨(.t 30), .pick (.t 24) (.c (.bool true)) (.t 29), none⟩,
 ⟨(.t 31), .mv (.t 30), none⟩,
 ⟨(.t 32), .mv (.v 1), some (31, false)⟩,
 ⟨(.t 33), .ia 2 (.t 32) (.c (.int .i64 1)), some (31, false)⟩,
 ⟨(.t 34), .fa 0 (.t 33), some (31, false)⟩,
 ⟨(.t 35), .ld 1 false (.t 34), some (31, false)⟩,
 ⟨(.t 36), .bin .neq (.t 35) (.c (.int .i64 0)), some (31, false)⟩,
 ⟨(.t 37), .pick (.t 31) (.c (.bool true)) (.t 36), none⟩,
 ⟨(.t 38), .mv (.t 37), none⟩,
 ⟨(.t 39), .mv (.v 1), some (38, false)⟩,
 ⟨(.t 40), .ia 2 (.t 39) (.c (.int .i64 2)), some (38, false)⟩,
 ⟨(.t 41), .fa 0 (.t 40), some (38, false)⟩,
 ⟨(.t 42), .ld 1 false (.t 41), some (38, false)⟩,
 ⟨(.t 43), .bin .neq (.t 42) (.c (.int .i64 1)), some (38, false)⟩,
 ⟨(.t 44), .pick (.t 38) (.c (.bool true)) (.t 43), none⟩] none ⟨[], [], [], []⟩)
 (.cond (.t 44)
 (.seq (.reg 4 [] [
 ⟨(.v 0), .asg (.c (.bool false)), none⟩] none ⟨[], [], [], []⟩)
 .ret)
 .skip))
 (.seq (.reg 5 [] [
 ⟨(.t 46), .mv (.v 1), none⟩,
 ⟨(.t 47), .ld 2 true (.t 1), none⟩,
 ⟨(.t 48), .call 21 [(.t 46), (.t 47), (.c (.int .i64 6))], none⟩,
 ⟨(.t 45), .mv (.t 48), none⟩,
 ⟨(.t 49), .ext 45 0, none⟩,
 ⟨(.t 50), .ext 45 1, none⟩,
 ⟨(.t 4), .allo [(.int .i64 0), (.slice none 0 0)], none⟩,
 ⟨.none, .st 2 (.t 4) (.t 49), none⟩,
 ⟨(.v 3), .asg (.t 50), none⟩] none ⟨[], [], [], []⟩)
 (.seq (.reg 6 [] [
 ⟨(.t 52), .mv (.v 1), none⟩,
 ⟨(.t 53), .ld 2 true (.t 1), none⟩,
 ⟨(.t 54), .call 21 [(.t 52), (.t 53), (.c (.int .i64 1))], none⟩,
 ⟨(.t 51), .mv (.t 54), none⟩,
 ⟨(.t 55), .ext 51 0, none⟩,
 ⟨(.t 56), .ext 51 1, none⟩,
 ⟨(.t 6), .allo [(.int .i64 0), (.slice none 0 0)], none⟩,
 ⟨.none, .st 2 (.t 6) (.t 55), none⟩,
 ⟨(.v 4), .asg (.t 56), none⟩] none ⟨[], [], [], []⟩)
 (.seq (.reg 7 [] [
 ⟨(.t 57), .mv (.v 3), none⟩,
 ⟨(.t 58), .bin .eql (.t 57) (.c (.int .i64 0)), none⟩,
 ⟨(.t 59), .mv (.t 58), none⟩,
 ⟨(.t 60), .fa 0 (.t 4), some (59, true)⟩,
 ⟨(.t 61), .ld 1 false (.t 60), some (59, true)⟩,
 ⟨(.t 62), .bin .eql (.t 61) (.c (.int .i64 1)), some (59, true)⟩,
 ⟨(.t 63), .pick (.t 59) (.t 62) (.c (.bool false)), none⟩,
 ⟨(.t 64), .mv (.t 63), none⟩,
 ⟨(.t 65), .fa 1 (.t 4), some (64, true)⟩,
 ⟨(.t 66), .ld 1 false (.t 65), some (64, true)⟩,
 ⟨(.t 67), .len (.t 66), some (64, true)⟩,
 ⟨(.t 68), .bin .eql (.t 67) (.c (.int .i64 1)), some (64, true)⟩,
 ⟨(.t 69), .pick (.t 64) (.t 68) (.c (.bool false)), none⟩,
 ⟨(.t 70), .mv (.t 69), none⟩,
 ⟨(.t 71), .mv (.v 4), some (70, true)⟩,
 ⟨(.t 72), .bin .eql (.t 71) (.c (.int .i64 21)), some (70, true)⟩,
 ⟨(.t 73), .pick (.t 70) (.t 72) (.c (.bool false)), none⟩,
 ⟨(.t 74), .mv (.t 73), none⟩,
 ⟨(.t 75), .ld 2 true (.t 4), some (74, true)⟩,
 ⟨(.t 76), .call 19 [(.t 75)], some (74, true)⟩,
 ⟨(.t 77), .pick (.t 74) (.t 76) (.c (.bool false)), none⟩,
 ⟨(.v 0), .asg (.t 77), none⟩] none ⟨[], [], [], []⟩)
 .ret)))))))
theorem c8b : compFn Try.prog 8 F8 = some (0, strip a8b, [.v 0]) ∧ lexAll a8b = true := ⟨by kernel_rfl, by kernel_rfl⟩
end Go.Proofs.Ytebibhmjmaomnaa
namespace Go.Proofs.Ytebibhmjmaomnaa
open Go.RowKit Go.Proofs
def F4 : Fr := ⟨220, [0, 1, 4, 6, 40, 46, 52, 7, 9, 10, 11, 12, 13, 14, 15, 16, 17, 19, 20, 21, 23, 24, 25, 27, 28, 29]⟩
def a4sw : ACode :=
 (.seq (.reg 4 [] [
 ⟨(.t 38), .mv (.v 1), none⟩,
 ⟨(.t 39), .bin .rem (.t 38) (.c (.int .u8 4)), none⟩] none ⟨[], [], [], []⟩)
 (.block 0
 (.seq (.reg 5 [] [
 ⟨(.t 41), .bin .eql (.t 39) (.c (.int .u8 1)), none⟩,
 ⟨(.v 4), .asg (.t 41), none⟩] none ⟨[], [], [], []⟩)
 (.cond (.v 4)
 (.reg 6 [] [
 ⟨(.t 43), .call 30 [(.c (.int .i64 2)), (.c (.int .i64 2))], none⟩,
 ⟨(.t 42), .mv (.t 43), none⟩,
 ⟨(.t 44), .ext 42 0, none⟩,
 ⟨(.t 45), .ext 42 1, none⟩,
 ⟨.none, .st 2 (.t 5) (.t 44), none⟩] none ⟨[], [], [], []⟩)
 (.seq (.reg 7 [] [
 ⟨(.t 47), .bin .eql (.t 39) (.c (.int .u8 2)), none⟩,
 ⟨(.v 5), .asg (.t 47), none⟩] none ⟨[], [], [], []⟩)
 (.cond (.v 5)
 (.reg 8 [] [
 ⟨(.t 49), .call 31 [(.c (.int .i64 3))], none⟩,
 ⟨(.t 48), .mv (.t 49), none⟩,
 ⟨(.t 50), .ext 48 0, none⟩,
 ⟨(.t 51), .ext 48 1, none⟩,
 ⟨.none, .st 2 (.t 5) (.t 50), none⟩] none ⟨[], [], [], []⟩)
 (.seq (.reg 9 [] [
 ⟨(.t 53), .bin .eql (.t 39) (.c (.int .u8 3)), none⟩,
 ⟨(.v 6), .asg (.t 53), none⟩] none ⟨[], [], [], []⟩)
 (.cond (.v 6)
 (.reg 10 [] [
 ⟨(.t 55), .call 29 [(.c (.int .i64 4))], none⟩,
 ⟨(.t 54), .mv (.t 55), none⟩,
 ⟨(.t 56), .ext 54 0, none⟩,
 ⟨(.t 57), .ext 54 1, none⟩,
 ⟨.none, .st 2 (.t 5) (.t 56), none⟩] none ⟨[], [], [], []⟩)
 .skip))))))))
def a4md : ACode :=
 (.seq (.reg 16 [] [
 ⟨(.t 85), .mv (.v 8), none⟩,
 ⟨(.t 86), .call 33 [(.t 85), (.c (.int .i64 2))], none⟩,
 ⟨(.t 87), .bin .eql (.t 86) (.c (.int .i64 0)), none⟩] none ⟨[], [], [], []⟩)
 (.cond (.t 87)
 (.reg 17 [] [
 ⟨(.t 88), .fa 0 (.t 5), none⟩,
 ⟨(.t 89), .ld 1 false (.t 88), none⟩,
 ⟨(.t 90), .bin .shl (.c (.int .i64 1)) (.t 89), none⟩,
 ⟨(.t 91), .bin .sub (.t 90) (.c (.int .i64 1)), none⟩,
 ⟨(.t 92), .fa 0 (.t 5), none⟩,
 ⟨(.t 93), .ld 1 false (.t 92), none⟩,
 ⟨(.t 94), .bin .shl (.c (.int .i64 1)) (.t 93), none⟩,
 ⟨(.t 95), .bin .sub (.t 94) (.c (.int .i64 1)), none⟩,
 ⟨(.t 96), .mv (.v 8), none⟩,
 ⟨(.t 97), .fa 0 (.t 5), none⟩,
 ⟨(.t 98), .ld 1 false (.t 97), none⟩,
 ⟨(.t 99), .call 33 [(.t 96), (.t 98)], none⟩,
 ⟨(.t 100), .bin .shl (.c (.int .i64 1)) (.t 99), none⟩,
 ⟨(.t 101), .bin .andNot (.t 95) (.t 100), none⟩,
 ⟨(.v 9), .asg (.t 91), none⟩,
 ⟨(.v 10), .asg (.t 101), none⟩] (some [[], [0], [1], [2], [], [4], [5], [6], [], [], [9], [8, 10], [11], [7, 12], [3, 11, 0, 1, 2, 3], [13, 14, 0, 1, 2, 3, 4, 5, 6, 7, 8, 9, 10, 11, 12, 13, 14]]) ⟨[5], [0, 2, 3, 4, 6, 7, 12, 13], [11], [(11, 5, 1), (11, 5, 5), (14, 5, 5)]⟩)
 .skip))
def a4cg : ACode :=
 (.reg 20 [] [
 ⟨(.t 115), .ld 2 true (.t 8), none⟩,
 ⟨(.t 116), .mv (.v 11), none⟩,
 ⟨(.t 117), .mv (.v 12), none⟩,
 ⟨(.t 118), .call 10 [(.t 117)], none⟩,
 ⟨(.t 119), .call 15 [(.t 115), (.t 116), (.t 118)], none⟩,
 ⟨(.t 114), .mv (.t 119), none⟩,
 ⟨(.t 120), .ext 114 0, none⟩,
 ⟨(.t 121), .ext 114 1, none⟩,
 ⟨(.t 18), .allo [(.int .i64 0), (.slice none 0 0)], none⟩,
 ⟨.none, .st 2 (.t 18) (.t 120), none⟩,
 ⟨(.v 17), .asg (.t 121), none⟩] (some [[], [], [], [2], [0, 1, 3, 3], [4], [5], [5], [], [8, 6, 4, 0, 1, 2, 3, 4, 5, 6, 8], [7, 9, 0, 1, 2, 3, 4, 5, 6, 7, 8, 9]]) ⟨[], [7], [], []⟩)
def a4ck : ACode :=
 (.seq (.reg 22 [] [
 ⟨(.t 133), .mv (.v 19), none⟩,
 ⟨(.t 134), .bin .eql (.t 133) (.c (.int .i64 0)), none⟩,
 ⟨(.t 135), .mv (.v 14), none⟩,
 ⟨(.t 136), .mv (.t 135), none⟩,
 ⟨(.t 137), .mv (.v 16), some (136, true)⟩,
 ⟨(.t 138), .pick (.t 136) (.t 137) (.c (.bool false)), none⟩,
 ⟨(.t 139), .mv (.t 138), none⟩,
 ⟨(.t 140), .mv (.v 17), some (139, true)⟩,
 ⟨(.t 141), .bin .eql (.t 140) (.c (.int .i64 0)), some (139, true)⟩,
 ⟨(.t 142), .pick (.t 139) (.t 141) (.c (.bool false)), none⟩,
 ⟨(.t 143), .bib .neq (.t 134) (.t 142), none⟩] none ⟨[], [], [], []⟩)
 (.cond (.t 143)
 (.seq (.reg 23 [] [
 ⟨(.v 2), .asg (.c (.bool false)), none⟩] none ⟨[], [], [], []⟩)
 .ret)
 .skip))
def a4up : ACode :=
 (.seq (.reg 24 [] [
 ⟨(.t 144), .mv (.v 19), none⟩,
 ⟨(.t 145), .bin .eql (.t 144) (.c (.int .i64 0)), none⟩] none ⟨[], [], [], []⟩)
 (.cond (.t 145)
 (.reg 25 [.lend (.cell 3 0) 147, .lend (.cell 3 1) 147] [
 ⟨(.t 146), .mv (.v 18), none⟩,
 ⟨(.t 147), .ld 2 true (.t 18), none⟩,
 ⟨(.v 7), .asg (.t 146), none⟩,
 ⟨.none, .st 2 (.t 8) (.t 147), none⟩] (some [[], [], [0, 0], [1, 2, 0, 1, 2]]) ⟨[18], [], [], [(2, 18, 1)]⟩)
 .skip))
def a4sm : ACode :=
 (.seq (.reg 32 [] [
 ⟨(.t 175), .mv (.v 23), none⟩,
 ⟨(.t 176), .bin .neq (.t 175) (.c (.int .i64 0)), none⟩,
 ⟨(.t 177), .mv (.t 176), none⟩,
 ⟨(.t 178), .ld 2 true (.t 26), some (177, false)⟩,
 ⟨(.t 179), .ld 2 true (.t 8), some (177, false)⟩,
 ⟨(.t 180), .call 18 [(.t 178), (.t 179)], some (177, false)⟩,
 ⟨(.t 181), .un .not (.t 180), some (177, false)⟩,
 ⟨(.t 182), .pick (.t 177) (.c (.bool true)) (.t 181), none⟩] none ⟨[], [], [], []⟩)
 (.cond (.t 182)
 (.seq (.reg 33 [] [
 ⟨(.v 2), .asg (.c (.bool false)), none⟩] none ⟨[], [], [], []⟩)
 .ret)
 .skip))
def a4eq : ACode :=
 (.seq (.reg 41 [] [
 ⟨(.t 194), .mv (.v 7), none⟩,
 ⟨(.t 195), .mv (.v 24), none⟩,
 ⟨(.t 196), .ia 2 (.t 194) (.t 195), none⟩,
 ⟨(.t 197), .fa 0 (.t 196), none⟩,
 ⟨(.t 198), .ld 1 false (.t 197), none⟩,
 ⟨(.t 199), .mv (.v 7), none⟩,
 ⟨(.t 200), .mv (.v 25), none⟩,
 ⟨(.t 201), .ia 2 (.t 199) (.t 200), none⟩,
 ⟨(.t 202), .fa 0 (.t 201), none⟩,
 ⟨(.t 203), .ld 1 false (.t 202), none⟩,
 ⟨(.t 204), .bin .eql (.t 198) (.t 203), none⟩,
 ⟨(.t 205), .mv (.t 204), none⟩,
 ⟨(.t 206), .mv (.v 7), some (205, true)⟩,
 ⟨(.t 207), .mv (.v 24), some (205, true)⟩,
 ⟨(.t 208), .ia 2 (.t 206) (.t 207), some (205, true)⟩,
 ⟨(.t 209), .ld 2 true (.t 208), some (205, true)⟩,
 ⟨(.t 210), .mv (.v 7), some (205, true)⟩,
 ⟨(.t 211), .mv (.v 25), some (205, true)⟩,
 ⟨(.t 212), .ia 2 (.t 210) (.t 211), some (205, true)⟩,
 ⟨(.t 213), .ld 2 true (.t 212), some (205, true)⟩,
 ⟨(.t 214), .call 18 [(.t 209), (.t 213)], some (205, true)⟩,
 ⟨(.t 215), .un .not (.t 214), some (205, true)⟩,
 ⟨(.t 216), .pick (.t 205) (.t 215) (.c (.bool false)), none⟩] (some [[], [], [0, 1], [2], [3], [], [], [5, 6], [7], [8], [4, 9], [10], [11], [11], [12, 13, 11], [14, 11], [11], [11], [16, 17, 11], [18, 11], [15, 19, 11, 11], [20, 11], [11, 21]]) ⟨[205], [], [], []⟩)
 (.cond (.t 216)
 (.seq (.reg 42 [] [
 ⟨(.v 2), .asg (.c (.bool false)), none⟩] none ⟨[], [], [], []⟩)
 .ret)
 .skip))
def a4b : ACode :=
 (.seq (.reg 0 [] [
 ⟨(.v 2), .asg (.c (.bool false)), none⟩] none ⟨[], [], [], []⟩)
 (.seq (.seq (.reg 1 [] [
 ⟨(.t 30), .mv (.v 0), none⟩,
 ⟨(.t 31), .call 28 [(.t 30)], none⟩,
 ⟨(.t 32), .un .not (.t 31), none⟩] none ⟨[], [], [], []⟩)
 (.cond (.t 32)
 (.seq (.reg 2 [] [
 ⟨(.t 33), .call 8 [], none⟩,
 ⟨(.v 2), .asg (.t 33), none⟩] none ⟨[], [], [], []⟩)
 .ret)
 .skip))
 (.seq (.reg 3 [] [
 ⟨(.t 35), .call 29 [(.c (.int .i64 3))], none⟩,
 ⟨(.t 34), .mv (.t 35), none⟩,
 ⟨(.t 36), .ext 34 0, none⟩,
 ⟨(.t 37), .ext 34 1, none⟩,
 ⟨(.t 5), .allo [(.int .i64 0), (.slice none 0 0)], none⟩,
 ⟨.none, .st 2 (.t 5) (.t 36), none⟩,
 ⟨(.v 3), .asg (.t 37), none⟩] none ⟨[], [], [], []⟩)
 (.seq a4sw
 (.seq (.reg 11 [] [
 ⟨(.t 58), .fa 0 (.t 5), none⟩,
 ⟨(.t 59), .ld 1 false (.t 58), none⟩,
 ⟨(.t 60), .mk 32 2 32 (.agg #[(.int .i64 0), (.slice none 0 0)]) (.t 59) (.t 59), none⟩,
 ⟨(.v 7), .asg (.t 60), none⟩] none ⟨[], [], [], []⟩)
 (.seq (.reg 12 [.freeze (.var 7)] [
 ⟨(.t 61), .bld [(.int .i64 0), (.slice none 0 0)] [], none⟩,
 ⟨(.t 8), .allo [(.int .i64 0), (.slice none 0 0)], none⟩,
 ⟨.none, .st 2 (.t 8) (.t 61), none⟩] none ⟨[], [], [], []⟩)
 (.seq (.reg 13 [] [
 ⟨(.t 62), .mv (.v 0), none⟩,
 ⟨(.t 63), .bld [(.slice none 0 0), (.int .i64 0)] [(0, 1, (.t 62))], none⟩,
 ⟨(.t 64), .box 2 (.t 63), none⟩,
 ⟨(.v 8), .asg (.t 64), none⟩] none ⟨[], [], [], []⟩)
 (.seq (.block 1
 (.loop
 (.seq (.seq (.reg 14 [] [
 ⟨(.t 65), .mv (.v 8), none⟩,
 ⟨(.t 66), .call 32 [(.t 65)], none⟩] none ⟨[], [], [], []⟩)
 (.cond (.t 66)
 .skip
 (.exit 1)))
 (.block 2
 (.seq (.reg 15 [] [
 ⟨(.t 67), .mv (.v 8), none⟩,
 ⟨(.t 68), .fa 0 (.t 5), none⟩,
 ⟨(.t 69), .ld 1 false (.t 68), none⟩,
 ⟨(.t 70), .bin .shl (.c (.int .i64 1)) (.t 69), none⟩,
 ⟨(.t 71), .call 33 [(.t 67), (.t 70)], none⟩,
 ⟨(.t 72), .mv (.v 8), none⟩,
 ⟨(.t 73), .fa 0 (.t 5), none⟩,
 ⟨(.t 74), .ld 1 false (.t 73), none⟩,
 ⟨(.t 75), .bin .shl (.c (.int .i64 1)) (.t 74), none⟩,
 ⟨(.t 76), .call 33 [(.t 72), (.t 75)], none⟩,
 ⟨(.t 77), .mv (.v 8), none⟩,
 ⟨(.t 78), .call 33 [(.t 77), (.c (.int .i64 3))], none⟩,
 ⟨(.t 79), .bin .gtr (.t 78) (.c (.int .i64 0)), none⟩,
 ⟨(.t 80), .bls 9 1 (.string (ByteArray.mk #[])) 4 [(0, (.c (.string (ByteArray.mk #[97])))), (1, (.c (.string (ByteArray.mk #[98])))), (2, (.c (.string (ByteArray.mk #[99])))), (3, (.c (.string (ByteArray.mk #[100]))))], none⟩,
 ⟨(.t 81), .mv (.v 8), none⟩,
 ⟨(.t 82), .call 33 [(.t 81), (.c (.int .i64 4))], none⟩,
 ⟨(.t 83), .ia 1 (.t 80) (.t 82), none⟩,
 ⟨(.t 84), .ld 1 false (.t 83), none⟩,
 ⟨(.v 9), .asg (.t 71), none⟩,
 ⟨(.v 10), .asg (.t 76), none⟩,
 ⟨(.v 11), .asg (.t 79), none⟩,
 ⟨(.v 12), .asg (.t 84), none⟩] (some [[], [], [1], [2], [0, 3], [], [], [6], [7], [5, 8, 4], [], [10, 9], [11], [], [], [14, 11], [13, 15], [16], [4, 15, 0, 1, 2, 3, 4], [9, 18, 0, 1, 2, 3, 4, 5, 6, 7, 8, 9, 18], [12, 19, 0, 1, 2, 3, 4, 5, 6, 7, 8, 9, 10, 11, 12, 18, 19], [17, 20, 0, 1, 2, 3, 4, 5, 6, 7, 8, 9, 10, 11, 12, 13, 14, 15, 16, 17, 18, 19, 20]]) ⟨[], [], [1000000], []⟩)
 (.seq a4md
 (.seq (.reg 18 [] [
 ⟨(.t 103), .ld 2 true (.t 5), none⟩,
 ⟨(.t 104), .mv (.v 9), none⟩,
 ⟨(.t 105), .call 34 [(.t 103), (.t 104)], none⟩,
 ⟨(.t 102), .mv (.t 105), none⟩,
 ⟨(.t 106), .ext 102 0, none⟩,
 ⟨(.t 107), .ext 102 1, none⟩,
 ⟨(.v 13), .asg (.t 106), none⟩,
 ⟨(.v 14), .asg (.t 107), none⟩] none ⟨[], [], [], []⟩)
 (.seq (.reg 19 [] [
 ⟨(.t 109), .ld 2 true (.t 5), none⟩,
 ⟨(.t 110), .mv (.v 10), none⟩,
 ⟨(.t 111), .call 34 [(.t 109), (.t 110)], none⟩,
 ⟨(.t 108), .mv (.t 111), none⟩,
 ⟨(.t 112), .ext 108 0, none⟩,
 ⟨(.t 113), .ext 108 1, none⟩,
 ⟨(.v 15), .asg (.t 112), none⟩,
 ⟨(.v 16), .asg (.t 113), none⟩] none ⟨[], [], [], []⟩)
 (.seq a4cg
 (.seq (.reg 21 [] [
 ⟨(.t 123), .mv (.v 7), none⟩,
 ⟨(.t 124), .ld 2 true (.t 5), none⟩,
 ⟨(.t 125), .mv (.v 9), none⟩,
 ⟨(.t 126), .mv (.v 10), none⟩,
 ⟨(.t 127), .mv (.v 11), none⟩,
 ⟨(.t 128), .mv (.v 12), none⟩,
 ⟨(.t 129), .call 10 [(.t 128)], none⟩,
 ⟨(.t 130), .call 25 [(.t 123), (.t 124), (.t 125), (.t 126), (.t 127), (.t 129)], none⟩,
 ⟨(.t 122), .mv (.t 130), none⟩,
 ⟨(.t 131), .ext 122 0, none⟩,
 ⟨(.t 132), .ext 122 1, none⟩,
 ⟨(.v 18), .asg (.t 131), none⟩,
 ⟨(.v 19), .asg (.t 132), none⟩] (some [[], [], [], [], [], [], [5], [0, 1, 2, 3, 4, 6, 6], [7], [8], [8], [9, 7, 0, 1, 2, 3, 4, 5, 6, 7, 8, 9], [10, 11, 0, 1, 2, 3, 4, 5, 6, 7, 8, 9, 10, 11]]) ⟨[], [10], [], []⟩)
 (.seq a4ck
 (.seq a4up
 (.seq (.seq (.reg 26 [] [
 ⟨(.t 148), .fa 0 (.t 5), none⟩,
 ⟨(.t 149), .ld 1 false (.t 148), none⟩,
 ⟨(.t 150), .bin .shl (.c (.int .i64 1)) (.t 149), none⟩,
 ⟨(.t 151), .bin .sub (.t 150) (.c (.int .i64 1)), none⟩,
 ⟨(.t 152), .mv (.v 9), none⟩,
 ⟨(.t 153), .mv (.v 10), none⟩,
 ⟨(.t 154), .bls 3 1 (.int .i64 0) 3 [(0, (.t 151)), (1, (.t 152)), (2, (.t 153))], none⟩,
 ⟨(.t 155), .len (.t 154), none⟩,
 ⟨(.t 156), .mv (.c (.int .i64 0)), none⟩] none ⟨[], [], [], []⟩)
 (.block 3
 (.loop
 (.seq (.reg 27 [] [
 ⟨(.t 157), .bin .lss (.t 156) (.t 155), none⟩] none ⟨[], [], [], []⟩)
 (.seq (.cond (.t 157)
 .skip
 (.exit 3))
 (.seq (.block 4
 (.seq (.reg 28 [] [
 ⟨(.t 158), .ia 1 (.t 154) (.t 156), none⟩,
 ⟨(.t 159), .ld 1 false (.t 158), none⟩,
 ⟨(.v 20), .asg (.t 159), none⟩] none ⟨[], [], [], []⟩)
 (.seq (.seq (.reg 29 [] [
 ⟨(.t 161), .ld 2 true (.t 5), none⟩,
 ⟨(.t 162), .mv (.v 20), none⟩,
 ⟨(.t 163), .call 34 [(.t 161), (.t 162)], none⟩,
 ⟨(.t 160), .mv (.t 163), none⟩,
 ⟨(.t 164), .ext 160 0, none⟩,
 ⟨(.t 165), .ext 160 1, none⟩,
 ⟨(.v 21), .asg (.t 164), none⟩,
 ⟨(.v 22), .asg (.t 165), none⟩] none ⟨[], [], [], []⟩)
 (.seq (.reg 30 [] [
 ⟨(.t 166), .mv (.v 22), none⟩,
 ⟨(.t 167), .un .not (.t 166), none⟩] none ⟨[], [], [], []⟩)
 (.cond (.t 167)
 (.exit 4)
 .skip)))
 (.seq (.reg 31 [] [
 ⟨(.t 169), .mv (.v 7), none⟩,
 ⟨(.t 170), .ld 2 true (.t 5), none⟩,
 ⟨(.t 171), .mv (.v 20), none⟩,
 ⟨(.t 172), .call 21 [(.t 169), (.t 170), (.t 171)], none⟩,
 ⟨(.t 168), .mv (.t 172), none⟩,
 ⟨(.t 173), .ext 168 0, none⟩,
 ⟨(.t 174), .ext 168 1, none⟩,
 ⟨(.t 26), .allo [(.int .i64 0), (.slice none 0 0)], none⟩,
 ⟨.none, .st 2 (.t 26) (.t 173), none⟩,
 ⟨(.v 23), .asg (.t 174), none⟩] none ⟨[], [], [], []⟩)
 a4sm))))
 (.reg 34 [] [
 ⟨(.t 183), .bin .add (.t 156) (.c (.int .i64 1)), none⟩,
 ⟨(.t 156), .mv (.t 183), none⟩] none ⟨[], [], [], []⟩)))))))
 (.seq (.reg 35 [] [
 ⟨(.t 184), .mv (.v 7), none⟩,
 ⟨(.t 185), .len (.t 184), none⟩,
 ⟨(.t 186), .mv (.c (.int .i64 0)), none⟩] none ⟨[], [], [], []⟩)
 (.block 5
 (.loop
 (.seq (.reg 36 [] [
 ⟨(.t 187), .bin .lss (.t 186) (.t 185), none⟩] none ⟨[], [], [], []⟩)
 (.seq (.cond (.t 187)
 .skip
 (.exit 5))
 (.seq (.block 6
 (.seq (.reg 37 [] [
 ⟨(.t 188), .mv (.t 186), none⟩,
 ⟨(.v 24), .asg (.t 188), none⟩] none ⟨[], [], [], []⟩)
 (.seq (.reg 38 [] [
 ⟨(.t 189), .mv (.v 7), none⟩,
 ⟨(.t 190), .len (.t 189), none⟩,
 ⟨(.t 191), .mv (.c (.int .i64 0)), none⟩] none ⟨[], [], [], []⟩)
 (.block 7
 (.loop
 (.seq (.reg 39 [] [
 ⟨(.t 192), .bin .lss (.t 191) (.t 190), none⟩] none ⟨[], [], [], []⟩)
 (.seq (.cond (.t 192)
 .skip
 (.exit 7))
 (.seq (.block 8
 (.seq (.reg 40 [] [
 ⟨(.t 193), .mv (.t 191), none⟩,
 ⟨(.v 25), .asg (.t 193), none⟩] none ⟨[], [], [], []⟩)
 a4eq))
 (.reg 43 [] [
 ⟨(.t 217), .bin .add (.t 191) (.c (.int .i64 1)), none⟩,
 ⟨(.t 191), .mv (.t 217), none⟩] none ⟨[], [], [], []⟩)))))))))
 (.reg 44 [] [
 ⟨(.t 218), .bin .add (.t 186) (.c (.int .i64 1)), none⟩,
 ⟨(.t 186), .mv (.t 218), none⟩] none ⟨[], [], [], []⟩))))))))))))))))))))
 (.seq (.reg 45 [] [
 ⟨(.t 219), .call 8 [], none⟩,
 ⟨(.v 2), .asg (.t 219), none⟩] none ⟨[], [], [], []⟩)
 .ret)))))))))
theorem c4b : compFn Try.prog 4 F4 = some (2, strip a4b, [.v 2]) ∧ lexAll a4b = true := ⟨by kernel_rfl, by kernel_rfl⟩
end Go.Proofs.Ytebibhmjmaomnaa
