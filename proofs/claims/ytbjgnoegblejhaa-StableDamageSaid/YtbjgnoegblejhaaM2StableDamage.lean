/- Texts put behind one another: S7, S8. -/
import Derived.Test.YtbjgnoegblejhaaM1
set_option linter.unusedVariables false
set_option linter.unusedSimpArgs false
namespace Go.Proofs.Ytbjgnoegblejhaa
open Go.RowKit Go.Proofs

theorem sameSelf (a b : List UInt8) : PC Try.prog 14 [storeV a b, storeV a b] (fun r => r = .s (.bool true)) := by
  have := Same_pc a b a b
  simpa using this
theorem sameNil : PC Try.prog 14 [.agg [.s (.slice none 0 0), .s (.slice none 0 0)], .agg [.s (.slice none 0 0), .s (.slice none 0 0)]] (fun r => r = .s (.bool true)) := by
  refine pc_nil (ys := [storeV [] [], storeV [] []]) ?_ (by simp [storeV, bv]) (by simp [storeV])
  exact sameSelf [] []
theorem torn_err (a b rec : List UInt8) (n m : Nat) : (tornR a b rec n).2 = (tornR a b rec m).2 := by
  unfold tornR
  repeat' split
  all_goals rfl
theorem torn_len (a b rec : List UInt8) (n : Nat) : (tornR a b rec n).2 = 0 ∨ (tornR a b rec n).2 = 3 ∨ (tornR a b rec n).2 = 16 := by
  unfold tornR
  repeat' split
  all_goals simp
set_option maxHeartbeats 4000000 in
theorem StableActs_pc (a b rec : List UInt8) (n : Int) : PC Try.prog 3 [storeV a b, .list 1 (bv rec), .s (.int .i64 n)] (fun r => r = .s (.bool true)) := by
  refine pc_end c3 mixed rfl ?_
  by_cases h1 : (a.length : Int) > 5000
  · simp -implicitDefEqProofs [a3, F3, storeV, h1]
    refine wk_take ?_
    simp -implicitDefEqProofs
    refine wc_of awake_pc (by simp) (by simp) ?_
    rintro _ rfl
    simp -implicitDefEqProofs
  by_cases h2 : (b.length : Int) > 5000
  · simp -implicitDefEqProofs [a3, F3, storeV, h1, h2]
    refine wk_take ?_
    simp -implicitDefEqProofs
    refine wc_of awake_pc (by simp) (by simp) ?_
    rintro _ rfl
    simp -implicitDefEqProofs
  by_cases h3 : (rec.length : Int) > 5000
  · simp -implicitDefEqProofs [a3, F3, storeV, h1, h2, h3]
    refine wk_take ?_
    simp -implicitDefEqProofs
    refine wc_of awake_pc (by simp) (by simp) ?_
    rintro _ rfl
    simp -implicitDefEqProofs
  simp -implicitDefEqProofs [a3, F3, storeV, h1, h2, h3]
  refine wk_take ?_
  simp -implicitDefEqProofs
  refine wc_of (Read_pc a b (by omega) (by omega)) (by simp [storeV]) (by simp [storeV]) ?_
  rintro _ rfl
  have hE := torn_err a b rec big n.toNat
  have hc0 : ∀ own, readV own (presR a b).2 = .tup [.s (.slice none 0 0), .s (.int .i64 0), .s (.int .i64 10)] ∨ readV own (presR a b).2 = .tup [if own then .own true 5 1 (bv (presR a b).2.1) else .list 1 (bv (presR a b).2.1), .s (.int .i64 (presR a b).2.2), .s (.int .i64 0)] := by
    intro own
    unfold readV
    split
    · exact .inl rfl
    · exact .inr rfl
  by_cases hv : (presR a b).2.2 = 0
  all_goals
    simp -implicitDefEqProofs [readV, hv]
    refine wk_take ?_
    simp -implicitDefEqProofs
    refine wc_of (rRead_pc a b (by omega) (by omega)) (by simp [storeV]) (by simp [storeV]) ?_
    rintro _ rfl
    simp -implicitDefEqProofs [readV, hv]
    refine wk_take ?_
    simp -implicitDefEqProofs
    refine wc_of (Write_pc a b rec (by omega) (by omega)) (by simp [storeV]) (by simp [storeV]) ?_
    rintro _ rfl
    by_cases he : (tornR a b rec big).2 = 0
    · have he' : (tornR a b rec n.toNat).2 = 0 := by omega
      simp -implicitDefEqProofs [tornV, he, storeV]
      refine wk_take ?_
      simp -implicitDefEqProofs
      refine wc_of (rWrite_pc a b rec (by omega) (by omega)) (by simp [storeV]) (by simp [storeV]) ?_
      rintro _ rfl
      simp -implicitDefEqProofs [tornV, he, storeV]
      refine wk_take ?_
      simp -implicitDefEqProofs
      refine wc_of (Torn_pc a b rec n (by omega) (by omega)) (by simp [storeV]) (by simp [storeV]) ?_
      rintro _ rfl
      simp -implicitDefEqProofs [tornV, he', storeV]
      refine wk_take ?_
      simp -implicitDefEqProofs
      refine wc_of (rTorn_pc a b rec n (by omega) (by omega)) (by simp [storeV]) (by simp [storeV]) ?_
      rintro _ rfl
      simp -implicitDefEqProofs [tornV, he', storeV]
      refine wk_take ?_
      simp -implicitDefEqProofs
      refine wc_of awake_pc (by simp) (by simp) ?_
      rintro _ rfl
      simp -implicitDefEqProofs
      refine wk_take ?_
      simp -implicitDefEqProofs
      refine wc_of (sameSelf _ _) (by simp [storeV]; exact ⟨rfl, rfl⟩) (by simp [storeV]) ?_
      rintro _ rfl
      simp -implicitDefEqProofs
      refine wk_take ?_
      simp -implicitDefEqProofs
      refine wc_of (sameSelf _ _) (by simp [storeV]; exact ⟨rfl, rfl⟩) (by simp [storeV]) ?_
      rintro _ rfl
      simp -implicitDefEqProofs
    · have he' : ¬ (tornR a b rec n.toNat).2 = 0 := by omega
      simp -implicitDefEqProofs [tornV, he]
      refine wk_take ?_
      simp -implicitDefEqProofs
      refine wc_of (rWrite_pc a b rec (by omega) (by omega)) (by simp [storeV]) (by simp [storeV]) ?_
      rintro _ rfl
      simp -implicitDefEqProofs [tornV, he]
      refine wk_take ?_
      simp -implicitDefEqProofs
      refine wc_of (Torn_pc a b rec n (by omega) (by omega)) (by simp [storeV]) (by simp [storeV]) ?_
      rintro _ rfl
      simp -implicitDefEqProofs [tornV, he']
      refine wk_take ?_
      simp -implicitDefEqProofs
      refine wc_of (rTorn_pc a b rec n (by omega) (by omega)) (by simp [storeV]) (by simp [storeV]) ?_
      rintro _ rfl
      simp -implicitDefEqProofs [tornV, he']
      refine wk_take ?_
      simp -implicitDefEqProofs
      refine wc_of awake_pc (by simp) (by simp) ?_
      rintro _ rfl
      simp -implicitDefEqProofs
      refine wk_take ?_
      simp -implicitDefEqProofs
      refine wc_of sameNil (by simp) (by simp) ?_
      rintro _ rfl
      simp -implicitDefEqProofs
      refine wk_take ?_
      simp -implicitDefEqProofs
      refine wc_of sameNil (by simp) (by simp) ?_
      rintro _ rfl
      simp -implicitDefEqProofs
end Go.Proofs.Ytbjgnoegblejhaa

namespace Go.Proofs.Ytbjgnoegblejhaa
open Go.RowKit Go.Proofs

theorem StableDamage_pc (a b : List UInt8) (cut : Int) : PC Try.prog 6 [.list 1 (bv a), .list 1 (bv b), .s (.int .i64 cut)] (fun r => r = .s (.bool true)) := by
  refine pc_end c6 mixed rfl ?_
  by_cases h1 : (a.length : Int) > 512
  · simp -implicitDefEqProofs [a6, F6, h1]
    refine wk_take ?_
    simp -implicitDefEqProofs
    refine wc_of awake_pc (by simp) (by simp) ?_
    rintro _ rfl
    simp -implicitDefEqProofs
  by_cases h2 : (b.length : Int) > 512
  · simp -implicitDefEqProofs [a6, F6, h1, h2]
    refine wk_take ?_
    simp -implicitDefEqProofs
    refine wc_of awake_pc (by simp) (by simp) ?_
    rintro _ rfl
    simp -implicitDefEqProofs
  have f1 := recF_len a 1 (by omega)
  have f2 := recF_len b 2 (by omega)
  have hm0 := Int.emod_nonneg cut (b := ((recF b 2).length : Int)) (by omega)
  have hm1 := Int.emod_lt_of_pos cut (b := ((recF b 2).length : Int)) (by omega)
  simp -implicitDefEqProofs [a6, F6, h1, h2]
  refine wk_take ?_
  simp -implicitDefEqProofs
  refine wc_of New_pc (by simp) (by simp) ?_
  rintro _ rfl
  simp -implicitDefEqProofs
  refine wk_take ?_
  simp -implicitDefEqProofs
  refine wc_of (Write_new a) (by simp) (by simp) ?_
  rintro _ rfl
  rw [(write1 (rec := a) (by omega)).1]
  simp -implicitDefEqProofs [tornV, storeV]
  refine wk_take ?_
  simp -implicitDefEqProofs
  refine wc_of (Write_pc (recF a 1) [] b (by omega) (by simp)) (by simp [storeV]) (by simp [storeV]) ?_
  rintro _ rfl
  rw [write2 (by omega) (by omega), List.take_of_length_le (show (recF b 2).length ≤ big by unfold big; omega)]
  generalize hF : recF b 2 = F at *
  obtain ⟨k, hk⟩ : ∃ k : Nat, cut % (F.length : Int) = (k : Int) := ⟨(cut % (F.length : Int)).toNat, by omega⟩
  have hn0 : ((F.length : Int) == 0) = false := by simp; intro h; subst h; simp at f2
  have k0 : ¬ (k : Int) < 0 := by omega
  have k1 : k ≤ F.length := by omega
  simp -implicitDefEqProofs [tornV, storeV, hn0]
  refine wkd_take ?_
  simp -implicitDefEqProofs
  refine wcd_of (Mod_pc cut F.length (by omega) (by omega)) (by simp) (by simp) ?_
  rw [hk]
  simp -implicitDefEqProofs [k0, k1, bv_take]
  refine wk_take ?_
  simp -implicitDefEqProofs
  refine wc_of (Read_pc (recF a 1) (F.take k) (by omega) (by simp; omega)) (by simp [storeV]) (by simp [storeV]) ?_
  rintro _ rfl
  have hd := damaged (a := a) (rec := b) (cut := k) (by omega) (by omega) (by rw [hF]; omega)
  rw [hF] at hd
  rw [hd]
  simp -implicitDefEqProofs [readV]
  refine wk_take ?_
  simp -implicitDefEqProofs
  refine wc_of awake_pc (by simp) (by simp) ?_
  rintro _ rfl
  simp -implicitDefEqProofs
/-- a row that is filled with a byte -/
def fillL (N : Nat) (c : UInt8) (i : Nat) : List UInt8 := List.replicate i c ++ List.replicate (N - i) 0
theorem fill_len {N : Nat} {c : UInt8} {i : Nat} (h : i ≤ N) : (fillL N c i).length = N := by simp [fillL]; omega
theorem fill_set {N : Nat} {c : UInt8} {i : Nat} (h : i < N) : (bv (fillL N c i)).set i (.s (.int .u8 c.toNat)) = bv (fillL N c (i + 1)) := by
  have : (fillL N c i).set i c = fillL N c (i + 1) := by
    unfold fillL
    rw [List.set_append_right _ _ (by simp)]
    simp only [List.length_replicate, Nat.sub_self]
    rw [show N - i = (N - (i + 1)) + 1 by omega, List.replicate_succ, List.set_cons_zero, List.replicate_succ', List.append_assoc]
    rfl
  rw [← this]
  simp [bv, List.map_set]
theorem fill_end (N : Nat) (c : UInt8) : fillL N c N = List.replicate N c := by simp [fillL]
theorem bv_rep (N : Nat) : List.replicate N (V.s (.int .u8 0)) = bv (fillL N 0 0) := by simp [fillL, bv]
def slInv (k : Nat) (c : UInt8) (m : Nat) (S : St) : Prop := ∃ i, i + m = 510 + k ∧
  S = ⟨tmL [(18, .s (.int .i64 ((510 + k : Nat) : Int))), (19, .s (.int .i64 i))], [.s (.int .i64 k), .s (.int .u8 c.toNat), .s (.bool false), .own true 5 1 (bv (fillL (510 + k) c i)), .no, .no, .no, .no, .no], [], 0⟩
theorem StableLong_pc (n : Int) (c : UInt8) : PC Try.prog 5 [.s (.int .i64 n), .s (.int .u8 c.toNat)] (fun r => r = .s (.bool true)) := by
  refine pc_end c5 mixed rfl ?_
  simp -implicitDefEqProofs [a5, F5]
  refine wk_take ?_
  simp -implicitDefEqProofs
  refine wc_of (Mod_pc n 4 (by omega) (by omega)) (by simp) (by simp) ?_
  rintro _ rfl
  obtain ⟨k, hk, hk4⟩ : ∃ k : Nat, n % 4 = (k : Int) ∧ k < 4 := ⟨(n % 4).toNat, by omega, by omega⟩
  rw [hk]
  have w1 : IntKind.i64.wrap (510 + (k : Int)) = 510 + (k : Int) := wrap64 (by omega)
  have n0 : (0 : Int) ≤ 510 + (k : Int) := by omega
  have t0 : (510 + (k : Int)).toNat = 510 + k := by omega
  have hml : 510 + k ≤ maxLen ∧ 510 + k ≤ 140737488355328 := by simp [maxLen]; omega
  have hz : zeroV (.int .u8 0) = .s (.int .u8 0) := rfl
  simp -implicitDefEqProofs [w1, n0, t0, hml]
  refine w_rounds [18, 19] [4, 5, 6, 7, 8] 0 (Nat.le_refl _) (slInv k c) (510 + k) ⟨by simp, 0, by omega, ?_⟩ ?_
  · simp -implicitDefEqProofs [bv_rep, fillL]
  rintro m S ⟨i, hi, rfl⟩
  have hlen : (fillL (510 + k) c i).length = 510 + k := fill_len (by omega)
  by_cases hik : i < 510 + k
  · have h1 : (i : Int) < 510 + (k : Int) := by omega
    have h0 : ¬ (i : Int) < 0 := by omega
    have hwp : IntKind.i64.wrap ((i : Int) + 1) = (i : Int) + 1 := wrap64 (by omega)
    have hg : (bv (fillL (510 + k) c i))[i]'(by rw [bv_length]; omega) = .s (.int .u8 ((fillL (510 + k) c i)[i]'(by omega)).toNat) := List.getElem_map _
    simp -implicitDefEqProofs [h1, h0, hwp, hlen, hik, hg, fill_set hik]
    exact ⟨m - 1, by omega, i + 1, by omega, rfl⟩
  · have h1 : ¬ (i : Int) < 510 + (k : Int) := by omega
    have hie : i = 510 + k := by omega
    subst hie
    rw [fill_end]
    simp -implicitDefEqProofs [h1]
    refine wk_take ?_
    simp -implicitDefEqProofs
    refine wc_of New_pc (by simp) (by simp) ?_
    rintro _ rfl
    simp -implicitDefEqProofs
    refine wk_take ?_
    simp -implicitDefEqProofs
    refine wc_of (Write_new (List.replicate (510 + k) c)) (by simp) (by simp) ?_
    rintro _ rfl
    have hrl : (List.replicate (510 + k) c).length = 510 + k := by simp
    generalize List.replicate (510 + k) c = rec at *
    by_cases hk3 : k = 3
    · subst hk3
      have ht : tornR [] [] rec big = (([], []), 3) := by unfold tornR; rw [if_pos (by omega)]
      rw [ht]
      simp -implicitDefEqProofs [tornV]
      refine wk_take ?_
      simp -implicitDefEqProofs
      refine wc_of awake_pc (by simp) (by simp) ?_
      rintro _ rfl
      simp -implicitDefEqProofs
    · have hk3' : ((k : Int) == 3) = false := by simp; omega
      have f1 := recF_len rec 1 (by omega)
      rw [(write1 (rec := rec) (by omega)).1]
      simp -implicitDefEqProofs [tornV, storeV, hk3']
      refine wk_take ?_
      simp -implicitDefEqProofs
      refine wc_of (Read_pc (recF rec 1) [] (by omega) (by simp)) (by simp [storeV]) (by simp [storeV]) ?_
      rintro _ rfl
      rw [(write1 (rec := rec) (by omega)).2]
      simp -implicitDefEqProofs [readV]
      refine wk_take ?_
      simp -implicitDefEqProofs
      refine wc_of awake_pc (by simp) (by simp) ?_
      rintro _ rfl
      simp -implicitDefEqProofs
end Go.Proofs.Ytbjgnoegblejhaa
