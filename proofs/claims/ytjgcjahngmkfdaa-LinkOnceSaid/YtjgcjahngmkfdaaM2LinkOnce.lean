/- link: the law LinkOnce. -/
import Derived.Test.YtjgcjahngmkfdaaZU
import Derived.Test.YtjgcjahngmkfdaaZK
set_option linter.unusedVariables false
set_option linter.unusedSimpArgs false
namespace Go.Proofs.Ytjgcjahngmkfdaa
open Go.RowKit Go.Proofs

theorem hand0 {bx : List (List V)} {z : Nat} {xs : List V} : handOk bx [.list z xs] [] [] [.list z xs] [] :=
  ⟨by simp [ren, renA, renL, fzs], rfl, rfl, rfl, by simp, by simp, by simp⟩
set_option maxHeartbeats 16000000 in
set_option maxRecDepth 10000 in
theorem LinkOnce_pc (l : List Int) : PC Try.prog 5 [.list 1 (iv l)] (fun r => r = .s (.bool true)) := by
  refine pc_end c5 mixed rfl ?_
  simp -implicitDefEqProofs [a5, F5]
  refine wk_take ?_
  simp -implicitDefEqProofs
  refine wc_of (Light_pc (iv l)) (by simp) (by simp) ?_
  rintro _ rfl
  by_cases hl : l.length ≤ 400
  case neg =>
    simp -implicitDefEqProofs [hl]
    refine wk_take ?_
    simp -implicitDefEqProofs
    refine wc_of awake_pc (by simp) (by simp) ?_
    rintro _ rfl
    simp -implicitDefEqProofs
  simp -implicitDefEqProofs [hl]
  refine wk_hand ?_
  simp -implicitDefEqProofs
  refine wa_of (play_ac l hl) hand0 ?_
  rintro _ _ ⟨E, hE, rfl, rfl⟩
  refine ⟨by simp -implicitDefEqProofs [Es.cells], ?_⟩
  have v0 := E.lk_valid hE (by omega) false
  have v1 := E.lk_valid hE (by omega) true
  simp -implicitDefEqProofs
  refine wk_take ?_
  simp -implicitDefEqProofs
  refine wc_of awake_pc (by simp) (by simp) ?_
  rintro _ rfl
  simp -implicitDefEqProofs [Es.cells]
  refine wk_take ?_
  simp -implicitDefEqProofs
  refine wc_of (Valid_pc (E.lk false)) (by simp [Lnk.v, Es.lk]) (by simp [Lnk.v]) ?_
  rintro _ rfl
  simp -implicitDefEqProofs [v0]
  refine wk_take ?_
  simp -implicitDefEqProofs
  refine wc_of (Valid_pc (E.lk true)) (by simp [Lnk.v, Es.lk]) (by simp [Lnk.v]) ?_
  rintro _ rfl
  simp -implicitDefEqProofs [v1]
end Go.Proofs.Ytjgcjahngmkfdaa
