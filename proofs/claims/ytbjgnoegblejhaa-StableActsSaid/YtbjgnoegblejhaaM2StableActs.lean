/- stable: the laws StableActs, StableLong, StableDamage. -/
import Derived.Test.YtbjgnoegblejhaaM1
set_option linter.unusedVariables false
set_option linter.unusedSimpArgs false
namespace Go.Proofs.Ytbjgnoegblejhaa
open Go.RowKit Go.Proofs

theorem sameSelf (a b : List UInt8) : PC Try.prog 14 [storeV a b, storeV a b] (fun r => r = .s (.bool true)) := by
  have := Same_pc a b a b
  simpa using this
theorem sameNil : PC Try.prog 14 [.agg [.s (.slice none 0 0), .s (.slice none 0 0)], .agg [.s (.slice none 0 0), .s (.slice none 0 0)]] (fun r => r = .s (.bool true)) := by
  refine pc_nil (ys := [storeV [] [], storeV [] []]) ?_ (by simp [storeV, bv]) (by simp [storeV])
  exact sameSelf [] []
theorem torn_err (a b rec : List UInt8) (n m : Nat) : (tornR a b rec n).2 = (tornR a b rec m).2 := by
  unfold tornR
  repeat' split
  all_goals rfl
theorem torn_len (a b rec : List UInt8) (n : Nat) : (tornR a b rec n).2 = 0 ∨ (tornR a b rec n).2 = 3 ∨ (tornR a b rec n).2 = 16 := by
  unfold tornR
  repeat' split
  all_goals simp
set_option maxHeartbeats 4000000 in
theorem StableActs_pc (a b rec : List UInt8) (n : Int) : PC Try.prog 3 [storeV a b, .list 1 (bv rec), .s (.int .i64 n)] (fun r => r = .s (.bool true)) := by
  refine pc_end c3 mixed rfl ?_
  by_cases h1 : (a.length : Int) > 5000
  · simp -implicitDefEqProofs [a3, F3, storeV, h1]
    refine wk_take ?_
    simp -implicitDefEqProofs
    refine wc_of awake_pc (by simp) (by simp) ?_
    rintro _ rfl
    simp -implicitDefEqProofs
  by_cases h2 : (b.length : Int) > 5000
  · simp -implicitDefEqProofs [a3, F3, storeV, h1, h2]
    refine wk_take ?_
    simp -implicitDefEqProofs
    refine wc_of awake_pc (by simp) (by simp) ?_
    rintro _ rfl
    simp -implicitDefEqProofs
  by_cases h3 : (rec.length : Int) > 5000
  · simp -implicitDefEqProofs [a3, F3, storeV, h1, h2, h3]
    refine wk_take ?_
    simp -implicitDefEqProofs
    refine wc_of awake_pc (by simp) (by simp) ?_
    rintro _ rfl
    simp -implicitDefEqProofs
  simp -implicitDefEqProofs [a3, F3, storeV, h1, h2, h3]
  refine wk_take ?_
  simp -implicitDefEqProofs
  refine wc_of (Read_pc a b (by omega) (by omega)) (by simp [storeV]) (by simp [storeV]) ?_
  rintro _ rfl
  have hE := torn_err a b rec big n.toNat
  have hc0 : ∀ own, readV own (presR a b).2 = .tup [.s (.slice none 0 0), .s (.int .i64 0), .s (.int .i64 10)] ∨ readV own (presR a b).2 = .tup [if own then .own true 5 1 (bv (presR a b).2.1) else .list 1 (bv (presR a b).2.1), .s (.int .i64 (presR a b).2.2), .s (.int .i64 0)] := by
    intro own
    unfold readV
    split
    · exact .inl rfl
    · exact .inr rfl
  by_cases hv : (presR a b).2.2 = 0
  all_goals
    simp -implicitDefEqProofs [readV, hv]
    refine wk_take ?_
    simp -implicitDefEqProofs
    refine wc_of (rRead_pc a b (by omega) (by omega)) (by simp [storeV]) (by simp [storeV]) ?_
    rintro _ rfl
    simp -implicitDefEqProofs [readV, hv]
    refine wk_take ?_
    simp -implicitDefEqProofs
    refine wc_of (Write_pc a b rec (by omega) (by omega)) (by simp [storeV]) (by simp [storeV]) ?_
    rintro _ rfl
    by_cases he : (tornR a b rec big).2 = 0
    · have he' : (tornR a b rec n.toNat).2 = 0 := by omega
      simp -implicitDefEqProofs [tornV, he, storeV]
      refine wk_take ?_
      simp -implicitDefEqProofs
      refine wc_of (rWrite_pc a b rec (by omega) (by omega)) (by simp [storeV]) (by simp [storeV]) ?_
      rintro _ rfl
      simp -implicitDefEqProofs [tornV, he, storeV]
      refine wk_take ?_
      simp -implicitDefEqProofs
      refine wc_of (Torn_pc a b rec n (by omega) (by omega)) (by simp [storeV]) (by simp [storeV]) ?_
      rintro _ rfl
      simp -implicitDefEqProofs [tornV, he', storeV]
      refine wk_take ?_
      simp -implicitDefEqProofs
      refine wc_of (rTorn_pc a b rec n (by omega) (by omega)) (by simp [storeV]) (by simp [storeV]) ?_
      rintro _ rfl
      simp -implicitDefEqProofs [tornV, he', storeV]
      refine wk_take ?_
      simp -implicitDefEqProofs
      refine wc_of awake_pc (by simp) (by simp) ?_
      rintro _ rfl
      simp -implicitDefEqProofs
      refine wk_take ?_
      simp -implicitDefEqProofs
      refine wc_of (sameSelf _ _) (by simp [storeV]; exact ⟨rfl, rfl⟩) (by simp [storeV]) ?_
      rintro _ rfl
      simp -implicitDefEqProofs
      refine wk_take ?_
      simp -implicitDefEqProofs
      refine wc_of (sameSelf _ _) (by simp [storeV]; exact ⟨rfl, rfl⟩) (by simp [storeV]) ?_
      rintro _ rfl
      simp -implicitDefEqProofs
    · have he' : ¬ (tornR a b rec n.toNat).2 = 0 := by omega
      simp -implicitDefEqProofs [tornV, he]
      refine wk_take ?_
      simp -implicitDefEqProofs
      refine wc_of (rWrite_pc a b rec (by omega) (by omega)) (by simp [storeV]) (by simp [storeV]) ?_
      rintro _ rfl
      simp -implicitDefEqProofs [tornV, he]
      refine wk_take ?_
      simp -implicitDefEqProofs
      refine wc_of (Torn_pc a b rec n (by omega) (by omega)) (by simp [storeV]) (by simp [storeV]) ?_
      rintro _ rfl
      simp -implicitDefEqProofs [tornV, he']
      refine wk_take ?_
      simp -implicitDefEqProofs
      refine wc_of (rTorn_pc a b rec n (by omega) (by omega)) (by simp [storeV]) (by simp [storeV]) ?_
      rintro _ rfl
      simp -implicitDefEqProofs [tornV, he']
      refine wk_take ?_
      simp -implicitDefEqProofs
      refine wc_of awake_pc (by simp) (by simp) ?_
      rintro _ rfl
      simp -implicitDefEqProofs
      refine wk_take ?_
      simp -implicitDefEqProofs
      refine wc_of sameNil (by simp) (by simp) ?_
      rintro _ rfl
      simp -implicitDefEqProofs
      refine wk_take ?_
      simp -implicitDefEqProofs
      refine wc_of sameNil (by simp) (by simp) ?_
      rintro _ rfl
      simp -implicitDefEqProofs
end Go.Proofs.Ytbjgnoegblejhaa
