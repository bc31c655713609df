/- Texts put behind one another: S7, S8, S9, S10, Sh2. -/
import Derived.Test.YtbjgnoegblejhaaM1
set_option linter.unusedVariables false
set_option linter.unusedSimpArgs false
namespace Go.Proofs.Ytbjgnoegblejhaa
open Go.RowKit Go.Proofs

theorem sameSelf (a b : List UInt8) : PC Try.prog 14 [storeV a b, storeV a b] (fun r => r = .s (.bool true)) := by
  have := Same_pc a b a b
  simpa using this
theorem sameNil : PC Try.prog 14 [.agg [.s (.slice none 0 0), .s (.slice none 0 0)], .agg [.s (.slice none 0 0), .s (.slice none 0 0)]] (fun r => r = .s (.bool true)) := by
  refine pc_nil (ys := [storeV [] [], storeV [] []]) ?_ (by simp [storeV, bv]) (by simp [storeV])
  exact sameSelf [] []
theorem torn_err (a b rec : List UInt8) (n m : Nat) : (tornR a b rec n).2 = (tornR a b rec m).2 := by
  unfold tornR
  repeat' split
  all_goals rfl
theorem torn_len (a b rec : List UInt8) (n : Nat) : (tornR a b rec n).2 = 0 ∨ (tornR a b rec n).2 = 3 ∨ (tornR a b rec n).2 = 16 := by
  unfold tornR
  repeat' split
  all_goals simp
set_option maxHeartbeats 4000000 in
theorem StableActs_pc (a b rec : List UInt8) (n : Int) : PC Try.prog 3 [storeV a b, .list 1 (bv rec), .s (.int .i64 n)] (fun r => r = .s (.bool true)) := by
  refine pc_end c3 mixed rfl ?_
  by_cases h1 : (a.length : Int) > 5000
  · simp -implicitDefEqProofs [a3, F3, storeV, h1]
    refine wk_take ?_
    simp -implicitDefEqProofs
    refine wc_of awake_pc (by simp) (by simp) ?_
    rintro _ rfl
    simp -implicitDefEqProofs
  by_cases h2 : (b.length : Int) > 5000
  · simp -implicitDefEqProofs [a3, F3, storeV, h1, h2]
    refine wk_take ?_
    simp -implicitDefEqProofs
    refine wc_of awake_pc (by simp) (by simp) ?_
    rintro _ rfl
    simp -implicitDefEqProofs
  by_cases h3 : (rec.length : Int) > 5000
  · simp -implicitDefEqProofs [a3, F3, storeV, h1, h2, h3]
    refine wk_take ?_
    simp -implicitDefEqProofs
    refine wc_of awake_pc (by simp) (by simp) ?_
    rintro _ rfl
    simp -implicitDefEqProofs
  simp -implicitDefEqProofs [a3, F3, storeV, h1, h2, h3]
  refine wk_take ?_
  simp -implicitDefEqProofs
  refine wc_of (Read_pc a b (by omega) (by omega)) (by simp [storeV]) (by simp [storeV]) ?_
  rintro _ rfl
  have hE := torn_err a b rec big n.toNat
  have hc0 : ∀ own, readV own (presR a b).2 = .tup [.s (.slice none 0 0), .s (.int .i64 0), .s (.int .i64 10)] ∨ readV own (presR a b).2 = .tup [if own then .own true 5 1 (bv (presR a b).2.1) else .list 1 (bv (presR a b).2.1), .s (.int .i64 (presR a b).2.2), .s (.int .i64 0)] := by
    intro own
    unfold readV
    split
    · exact .inl rfl
    · exact .inr rfl
  by_cases hv : (presR a b).2.2 = 0
  all_goals
    simp -implicitDefEqProofs [readV, hv]
    refine wk_take ?_
    simp -implicitDefEqProofs
    refine wc_of (rRead_pc a b (by omega) (by omega)) (by simp [storeV]) (by simp [storeV]) ?_
    rintro _ rfl
    simp -implicitDefEqProofs [readV, hv]
    refine wk_take ?_
    simp -implicitDefEqProofs
    refine wc_of (Write_pc a b rec (by omega) (by omega)) (by simp [storeV]) (by simp [storeV]) ?_
    rintro _ rfl
    by_cases he : (tornR a b rec big).2 = 0
    · have he' : (tornR a b rec n.toNat).2 = 0 := by omega
      simp -implicitDefEqProofs [tornV, he, storeV]
      refine wk_take ?_
      simp -implicitDefEqProofs
      refine wc_of (rWrite_pc a b rec (by omega) (by omega)) (by simp [storeV]) (by simp [storeV]) ?_
      rintro _ rfl
      simp -implicitDefEqProofs [tornV, he, storeV]
      refine wk_take ?_
      simp -implicitDefEqProofs
      refine wc_of (Torn_pc a b rec n (by omega) (by omega)) (by simp [storeV]) (by simp [storeV]) ?_
      rintro _ rfl
      simp -implicitDefEqProofs [tornV, he', storeV]
      refine wk_take ?_
      simp -implicitDefEqProofs
      refine wc_of (rTorn_pc a b rec n (by omega) (by omega)) (by simp [storeV]) (by simp [storeV]) ?_
      rintro _ rfl
      simp -implicitDefEqProofs [tornV, he', storeV]
      refine wk_take ?_
      simp -implicitDefEqProofs
      refine wc_of awake_pc (by simp) (by simp) ?_
      rintro _ rfl
      simp -implicitDefEqProofs
      refine wk_take ?_
      simp -implicitDefEqProofs
      refine wc_of (sameSelf _ _) (by simp [storeV]; exact ⟨rfl, rfl⟩) (by simp [storeV]) ?_
      rintro _ rfl
      simp -implicitDefEqProofs
      refine wk_take ?_
      simp -implicitDefEqProofs
      refine wc_of (sameSelf _ _) (by simp [storeV]; exact ⟨rfl, rfl⟩) (by simp [storeV]) ?_
      rintro _ rfl
      simp -implicitDefEqProofs
    · have he' : ¬ (tornR a b rec n.toNat).2 = 0 := by omega
      simp -implicitDefEqProofs [tornV, he]
      refine wk_take ?_
      simp -implicitDefEqProofs
      refine wc_of (rWrite_pc a b rec (by omega) (by omega)) (by simp [storeV]) (by simp [storeV]) ?_
      rintro _ rfl
      simp -implicitDefEqProofs [tornV, he]
      refine wk_take ?_
      simp -implicitDefEqProofs
      refine wc_of (Torn_pc a b rec n (by omega) (by omega)) (by simp [storeV]) (by simp [storeV]) ?_
      rintro _ rfl
      simp -implicitDefEqProofs [tornV, he']
      refine wk_take ?_
      simp -implicitDefEqProofs
      refine wc_of (rTorn_pc a b rec n (by omega) (by omega)) (by simp [storeV]) (by simp [storeV]) ?_
      rintro _ rfl
      simp -implicitDefEqProofs [tornV, he']
      refine wk_take ?_
      simp -implicitDefEqProofs
      refine wc_of awake_pc (by simp) (by simp) ?_
      rintro _ rfl
      simp -implicitDefEqProofs
      refine wk_take ?_
      simp -implicitDefEqProofs
      refine wc_of sameNil (by simp) (by simp) ?_
      rintro _ rfl
      simp -implicitDefEqProofs
      refine wk_take ?_
      simp -implicitDefEqProofs
      refine wc_of sameNil (by simp) (by simp) ?_
      rintro _ rfl
      simp -implicitDefEqProofs
end Go.Proofs.Ytbjgnoegblejhaa

namespace Go.Proofs.Ytbjgnoegblejhaa
open Go.RowKit Go.Proofs

theorem StableDamage_pc (a b : List UInt8) (cut : Int) : PC Try.prog 6 [.list 1 (bv a), .list 1 (bv b), .s (.int .i64 cut)] (fun r => r = .s (.bool true)) := by
  refine pc_end c6 mixed rfl ?_
  by_cases h1 : (a.length : Int) > 512
  · simp -implicitDefEqProofs [a6, F6, h1]
    refine wk_take ?_
    simp -implicitDefEqProofs
    refine wc_of awake_pc (by simp) (by simp) ?_
    rintro _ rfl
    simp -implicitDefEqProofs
  by_cases h2 : (b.length : Int) > 512
  · simp -implicitDefEqProofs [a6, F6, h1, h2]
    refine wk_take ?_
    simp -implicitDefEqProofs
    refine wc_of awake_pc (by simp) (by simp) ?_
    rintro _ rfl
    simp -implicitDefEqProofs
  have f1 := recF_len a 1 (by omega)
  have f2 := recF_len b 2 (by omega)
  have hm0 := Int.emod_nonneg cut (b := ((recF b 2).length : Int)) (by omega)
  have hm1 := Int.emod_lt_of_pos cut (b := ((recF b 2).length : Int)) (by omega)
  simp -implicitDefEqProofs [a6, F6, h1, h2]
  refine wk_take ?_
  simp -implicitDefEqProofs
  refine wc_of New_pc (by simp) (by simp) ?_
  rintro _ rfl
  simp -implicitDefEqProofs
  refine wk_take ?_
  simp -implicitDefEqProofs
  refine wc_of (Write_new a) (by simp) (by simp) ?_
  rintro _ rfl
  rw [(write1 (rec := a) (by omega)).1]
  simp -implicitDefEqProofs [tornV, storeV]
  refine wk_take ?_
  simp -implicitDefEqProofs
  refine wc_of (Write_pc (recF a 1) [] b (by omega) (by simp)) (by simp [storeV]) (by simp [storeV]) ?_
  rintro _ rfl
  rw [write2 (by omega) (by omega), List.take_of_length_le (show (recF b 2).length ≤ big by unfold big; omega)]
  generalize hF : recF b 2 = F at *
  obtain ⟨k, hk⟩ : ∃ k : Nat, cut % (F.length : Int) = (k : Int) := ⟨(cut % (F.length : Int)).toNat, by omega⟩
  have hn0 : ((F.length : Int) == 0) = false := by simp; intro h; subst h; simp at f2
  have k0 : ¬ (k : Int) < 0 := by omega
  have k1 : k ≤ F.length := by omega
  simp -implicitDefEqProofs [tornV, storeV, hn0]
  refine wkd_take ?_
  simp -implicitDefEqProofs
  refine wcd_of (Mod_pc cut F.length (by omega) (by omega)) (by simp) (by simp) ?_
  rw [hk]
  simp -implicitDefEqProofs [k0, k1, bv_take]
  refine wk_take ?_
  simp -implicitDefEqProofs
  refine wc_of (Read_pc (recF a 1) (F.take k) (by omega) (by simp; omega)) (by simp [storeV]) (by simp [storeV]) ?_
  rintro _ rfl
  have hd := damaged (a := a) (rec := b) (cut := k) (by omega) (by omega) (by rw [hF]; omega)
  rw [hF] at hd
  rw [hd]
  simp -implicitDefEqProofs [readV]
  refine wk_take ?_
  simp -implicitDefEqProofs
  refine wc_of awake_pc (by simp) (by simp) ?_
  rintro _ rfl
  simp -implicitDefEqProofs
/-- a row that is filled with a byte -/
def fillL (N : Nat) (c : UInt8) (i : Nat) : List UInt8 := List.replicate i c ++ List.replicate (N - i) 0
theorem fill_len {N : Nat} {c : UInt8} {i : Nat} (h : i ≤ N) : (fillL N c i).length = N := by simp [fillL]; omega
theorem fill_set {N : Nat} {c : UInt8} {i : Nat} (h : i < N) : (bv (fillL N c i)).set i (.s (.int .u8 c.toNat)) = bv (fillL N c (i + 1)) := by
  have : (fillL N c i).set i c = fillL N c (i + 1) := by
    unfold fillL
    rw [List.set_append_right _ _ (by simp)]
    simp only [List.length_replicate, Nat.sub_self]
    rw [show N - i = (N - (i + 1)) + 1 by omega, List.replicate_succ, List.set_cons_zero, List.replicate_succ', List.append_assoc]
    rfl
  rw [← this]
  simp [bv, List.map_set]
theorem fill_end (N : Nat) (c : UInt8) : fillL N c N = List.replicate N c := by simp [fillL]
theorem bv_rep (N : Nat) : List.replicate N (V.s (.int .u8 0)) = bv (fillL N 0 0) := by simp [fillL, bv]
def slInv (k : Nat) (c : UInt8) (m : Nat) (S : St) : Prop := ∃ i, i + m = 510 + k ∧
  S = ⟨tmL [(18, .s (.int .i64 ((510 + k : Nat) : Int))), (19, .s (.int .i64 i))], [.s (.int .i64 k), .s (.int .u8 c.toNat), .s (.bool false), .own true 5 1 (bv (fillL (510 + k) c i)), .no, .no, .no, .no, .no], [], 0⟩
theorem StableLong_pc (n : Int) (c : UInt8) : PC Try.prog 5 [.s (.int .i64 n), .s (.int .u8 c.toNat)] (fun r => r = .s (.bool true)) := by
  refine pc_end c5 mixed rfl ?_
  simp -implicitDefEqProofs [a5, F5]
  refine wk_take ?_
  simp -implicitDefEqProofs
  refine wc_of (Mod_pc n 4 (by omega) (by omega)) (by simp) (by simp) ?_
  rintro _ rfl
  obtain ⟨k, hk, hk4⟩ : ∃ k : Nat, n % 4 = (k : Int) ∧ k < 4 := ⟨(n % 4).toNat, by omega, by omega⟩
  rw [hk]
  have w1 : IntKind.i64.wrap (510 + (k : Int)) = 510 + (k : Int) := wrap64 (by omega)
  have n0 : (0 : Int) ≤ 510 + (k : Int) := by omega
  have t0 : (510 + (k : Int)).toNat = 510 + k := by omega
  have hml : 510 + k ≤ maxLen ∧ 510 + k ≤ 140737488355328 := by simp [maxLen]; omega
  have hz : zeroV (.int .u8 0) = .s (.int .u8 0) := rfl
  simp -implicitDefEqProofs [w1, n0, t0, hml]
  refine w_rounds [18, 19] [4, 5, 6, 7, 8] 0 (Nat.le_refl _) (slInv k c) (510 + k) ⟨by simp, 0, by omega, ?_⟩ ?_
  · simp -implicitDefEqProofs [bv_rep, fillL]
  rintro m S ⟨i, hi, rfl⟩
  have hlen : (fillL (510 + k) c i).length = 510 + k := fill_len (by omega)
  by_cases hik : i < 510 + k
  · have h1 : (i : Int) < 510 + (k : Int) := by omega
    have h0 : ¬ (i : Int) < 0 := by omega
    have hwp : IntKind.i64.wrap ((i : Int) + 1) = (i : Int) + 1 := wrap64 (by omega)
    have hg : (bv (fillL (510 + k) c i))[i]'(by rw [bv_length]; omega) = .s (.int .u8 ((fillL (510 + k) c i)[i]'(by omega)).toNat) := List.getElem_map _
    simp -implicitDefEqProofs [h1, h0, hwp, hlen, hik, hg, fill_set hik]
    exact ⟨m - 1, by omega, i + 1, by omega, rfl⟩
  · have h1 : ¬ (i : Int) < 510 + (k : Int) := by omega
    have hie : i = 510 + k := by omega
    subst hie
    rw [fill_end]
    simp -implicitDefEqProofs [h1]
    refine wk_take ?_
    simp -implicitDefEqProofs
    refine wc_of New_pc (by simp) (by simp) ?_
    rintro _ rfl
    simp -implicitDefEqProofs
    refine wk_take ?_
    simp -implicitDefEqProofs
    refine wc_of (Write_new (List.replicate (510 + k) c)) (by simp) (by simp) ?_
    rintro _ rfl
    have hrl : (List.replicate (510 + k) c).length = 510 + k := by simp
    generalize List.replicate (510 + k) c = rec at *
    by_cases hk3 : k = 3
    · subst hk3
      have ht : tornR [] [] rec big = (([], []), 3) := by unfold tornR; rw [if_pos (by omega)]
      rw [ht]
      simp -implicitDefEqProofs [tornV]
      refine wk_take ?_
      simp -implicitDefEqProofs
      refine wc_of awake_pc (by simp) (by simp) ?_
      rintro _ rfl
      simp -implicitDefEqProofs
    · have hk3' : ((k : Int) == 3) = false := by simp; omega
      have f1 := recF_len rec 1 (by omega)
      rw [(write1 (rec := rec) (by omega)).1]
      simp -implicitDefEqProofs [tornV, storeV, hk3']
      refine wk_take ?_
      simp -implicitDefEqProofs
      refine wc_of (Read_pc (recF rec 1) [] (by omega) (by simp)) (by simp [storeV]) (by simp [storeV]) ?_
      rintro _ rfl
      rw [(write1 (rec := rec) (by omega)).2]
      simp -implicitDefEqProofs [readV]
      refine wk_take ?_
      simp -implicitDefEqProofs
      refine wc_of awake_pc (by simp) (by simp) ?_
      rintro _ rfl
      simp -implicitDefEqProofs
end Go.Proofs.Ytbjgnoegblejhaa

namespace Go.Proofs.Ytbjgnoegblejhaa
open Go.RowKit Go.Proofs

def iv (xs : List Int) : List V := xs.map fun n => .s (.int .i64 n)
@[simp] theorem iv_length (xs : List Int) : (iv xs).length = xs.length := by simp [iv]
theorem iv_get {xs : List Int} {i : Nat} (h : i < xs.length) : (iv xs)[i]? = some (.s (.int .i64 xs[i])) := by simp [iv, h]
/-- a tape in a box -/
def tapeB (xs : List Int) (k : Nat) : List V := [.list 1 (iv xs), .s (.int .i64 k)]
/-- what Next returns, and where the tape is then -/
def nx (xs : List Int) (k : Nat) (m : Int) : Int := if h : k < xs.length then xs[k] % m else 0
def nat1 (xs : List Int) (k : Nat) : Nat := if k < xs.length then k + 1 else k
theorem nx_bd (xs : List Int) (k : Nat) {m : Int} (h : 0 < m) : 0 ≤ nx xs k m ∧ nx xs k m < m := by
  unfold nx
  split
  · exact ⟨Int.emod_nonneg _ (by omega), Int.emod_lt_of_pos _ h⟩
  · exact ⟨Int.le_refl _, h⟩
theorem nat1_le {xs : List Int} {k : Nat} (h : k ≤ xs.length) : nat1 xs k ≤ xs.length ∧ k ≤ nat1 xs k := by unfold nat1; split <;> omega
theorem More_ac (xs : List Int) (k : Nat) : AC Try.prog 18 [.ptr 0 0] [tapeB xs k] (fun r bs => r = .s (.bool (decide (k < xs.length))) ∧ bs = [tapeB xs k]) := by
  refine ac_end c18 mixed rfl ?_
  simp -implicitDefEqProofs [a18, F18, tapeB]
  refine retA_of 1 ?_
  simp -implicitDefEqProofs [tapeB]
theorem Next_ac (xs : List Int) (k : Nat) (m : Int) (h1 : 1 ≤ m) (h2 : m ≤ 4611686018427387904) (hk : k ≤ 1000000) : AC Try.prog 19 [.ptr 0 0, .s (.int .i64 m)] [tapeB xs k] (fun r bs => r = .s (.int .i64 (nx xs k m)) ∧ bs = [tapeB xs (nat1 xs k)]) := by
  refine ac_end c19 mixed rfl ?_
  by_cases h : k < xs.length
  · have g1 : ¬ (k : Int) ≥ xs.length := by omega
    have w1 : IntKind.i64.wrap ((k : Int) + 1) = (k : Int) + 1 := wrap64 (by omega)
    have w2 : IntKind.i64.wrap ((k : Int) + 1 - 1) = (k : Int) := by rw [wrap64 (by omega)]; omega
    have w3 : IntKind.i64.wrap (k : Int) = (k : Int) := wrap64 (by omega)
    have k0 : ¬ (k : Int) < 0 := by omega
    simp -implicitDefEqProofs [a19, F19, tapeB, g1, w1, w2, w3, k0, iv_get h]
    refine wkd_take ?_
    simp -implicitDefEqProofs
    refine wcd_of (Mod_pc xs[k] m h1 h2) (by simp) (by simp) ?_
    simp -implicitDefEqProofs
    refine retA_of 1 ?_
    simp -implicitDefEqProofs [tapeB, nx, nat1, h]
  · have g1 : (k : Int) ≥ xs.length := by omega
    simp -implicitDefEqProofs [a19, F19, tapeB, g1]
    refine retA_of 1 ?_
    simp -implicitDefEqProofs [tapeB, nx, nat1, h]
end Go.Proofs.Ytbjgnoegblejhaa

namespace Go.Proofs.Ytbjgnoegblejhaa
open Go.RowKit Go.Proofs

def fillF (N : Nat) (f : Nat → UInt8) (i : Nat) : List UInt8 := (List.range i).map f ++ List.replicate (N - i) 0
theorem fillF_len {N : Nat} {f : Nat → UInt8} {i : Nat} (h : i ≤ N) : (fillF N f i).length = N := by simp [fillF]; omega
theorem fillF_set {N : Nat} {f : Nat → UInt8} {i : Nat} (h : i < N) : (bv (fillF N f i)).set i (.s (.int .u8 (f i).toNat)) = bv (fillF N f (i + 1)) := by
  have : (fillF N f i).set i (f i) = fillF N f (i + 1) := by
    unfold fillF
    rw [List.set_append_right _ _ (by simp)]
    simp only [List.length_map, List.length_range, Nat.sub_self]
    rw [show N - i = (N - (i + 1)) + 1 by omega, List.replicate_succ, List.set_cons_zero, List.range_succ, List.map_append, List.append_assoc]
    rfl
  rw [← this]
  simp [bv, List.map_set]
/-- a store's cell: nil in a new store -/
def cellA (c0 : Bool) (a : List UInt8) : V := if c0 then .list 1 (bv a) else .s (.slice none 0 0)
def lastV (ver : Nat) (last : List UInt8) : V := if ver = 0 then .s (.slice none 0 0) else .list 1 (bv last)
structure srOk (xs : List Int) (k : Nat) (a b last : List UInt8) (ver : Nat) (c0 : Bool) : Prop where
  le : k ≤ xs.length
  nil : c0 = false → a = [] ∧ b = []
  la : a.length ≤ 536
  lb : b.length ≤ 536
  pv : (presR a b).2.2 = ver
  pl : ver ≠ 0 → (presR a b).2.1 = last
  few : ver ≤ k
def srInv (xs : List Int) (size : Int) (m : Nat) (S : St) : Prop := ∃ k a b last ver c0, k + m = xs.length ∧ srOk xs k a b last ver c0 ∧
  S = ⟨tmL [(6, .ptr 1 0), (7, .ptr 2 0)], [.list 1 (iv xs), .s (.int .i64 size), .s (.bool false), .ptr 0 0, lastV ver last, .s (.int .i64 ver), .no, .no, .no, .no, .no, .no, .no, .no, .no, .no, .no, .no],
    [tapeB xs k, [cellA c0 a, cellA c0 b], [cellA c0 a, cellA c0 b]], 0⟩
def rfInv (xs : List Int) (size : Int) (k ver : Nat) (LV ca cb : V) (n kk cc : Int) (N : Nat) (f : Nat → UInt8) (m : Nat) (S : St) : Prop := ∃ i, i + m = N ∧
  S = ⟨tmL [(6, .ptr 1 0), (7, .ptr 2 0), (49, .s (.int .i64 N)), (50, .s (.int .i64 i))], [.list 1 (iv xs), .s (.int .i64 size), .s (.bool false), .ptr 0 0, LV, .s (.int .i64 ver), .s (.int .i64 n), .s (.int .i64 kk), .s (.int .i64 cc), .own true 5 1 (bv (fillF N f i)), .no, .no, .no, .no, .no, .no, .no, .no],
    [tapeB xs k, [ca, cb], [ca, cb]], 0⟩
theorem tape1 {bx : List (List V)} {B : List V} (h : bx[0]? = some B) (hc : B.all cellB = true) : handOk bx [.ptr 0 0] [] [0] [.ptr 0 0] [B] :=
  ⟨by simp [ren, renA, renL, fzs], rfl, rfl, rfl, by simp [(List.getElem?_eq_some_iff.1 h).1], by simp [h], by simpa using hc⟩
theorem tape2 {bx : List (List V)} {B : List V} {v : Value} (h : bx[0]? = some B) (hc : B.all cellB = true) : handOk bx [.ptr 0 0, .s v] [] [0] [.ptr 0 0, .s v] [B] :=
  ⟨by simp [ren, renA, renL, fzs], rfl, rfl, rfl, by simp [(List.getElem?_eq_some_iff.1 h).1], by simp [h], by simpa using hc⟩
theorem tapeB_ok (xs : List Int) (k : Nat) : (tapeB xs k).all cellB = true := rfl
/-- the next state of a store that is written -/
theorem srOk_step {xs : List Int} {k k' : Nat} {a b last a' b' rec : List UInt8} {ver : Nat} {c0 : Bool} (h : srOk xs k a b last ver c0) (hk : k < k') (hk' : k' ≤ xs.length) (hr : rec.length ≤ 512) {cut : Nat} (ht : tornR a b rec cut = ((a', b'), 0)) (hv : ver < 1073741824) :
    (a'.length ≤ 536 ∧ b'.length ≤ 536) ∧
    ((recF rec (ver + 1)).length ≤ cut → srOk xs k' a' b' rec (ver + 1) true ∧ (presR a' b').2 = (rec, ver + 1)) ∧ (cut < (recF rec (ver + 1)).length → srOk xs k' a' b' last ver true ∧ (presR a' b').2.2 = ver ∧ (ver ≠ 0 → (presR a' b').2 = (last, ver))) := by
  have hF := recF_len rec (ver + 1) hr
  have hv' : (presR a b).2.2 < 1073741824 := by rw [h.pv]; exact hv
  have hlen : a'.length ≤ 536 ∧ b'.length ≤ 536 := by
    have ht0 := ht
    unfold tornR at ht0
    rw [if_neg (by omega), if_neg (by omega), h.pv] at ht0
    have h1 := h.la
    have h2 := h.lb
    split at ht0
    · cases ht0
      exact ⟨by simp; omega, h2⟩
    · cases ht0
      exact ⟨h1, by simp; omega⟩
  refine ⟨hlen, fun hc => ?_, fun hc => ?_⟩
  · obtain ⟨a2, b2, e1, e2⟩ := torn_full (a := a) (b := b) (cut := cut) hr hv' (by rw [h.pv]; exact hc)
    rw [ht] at e1
    cases e1
    rw [h.pv] at e2
    have := h.few
    exact ⟨⟨hk', by simp, hlen.1, hlen.2, by rw [e2], fun _ => by rw [e2], by omega⟩, e2⟩
  · obtain ⟨a2, b2, e1, e2, e3⟩ := torn_part (a := a) (b := b) (cut := cut) hr hv' (by rw [h.pv]; exact hc)
    rw [ht] at e1
    cases e1
    rw [h.pv] at e2 e3
    have := h.few
    have e4 : ver ≠ 0 → (presR a' b').2 = (last, ver) := fun q => by
      rw [e3 q, ← h.pl q, ← h.pv]
    exact ⟨⟨hk', by simp, hlen.1, hlen.2, e2, fun q => by rw [e4 q], by omega⟩, e2, e4⟩
theorem recF_ne {a b rec : List UInt8} {v : Nat} (hr : rec.length ≤ 512) (hp : (presR a b).2.2 = v) (hv : v < 1073741824) : (recF rec (v + 1) == a) = false ∧ (recF rec (v + 1) == b) = false := by
  have hw := wholeR_frame rec (v + 1) hr ⟨by omega, by omega⟩
  have ha : (wholeR a).2 ≤ (presR a b).2.2 := by
    unfold presR
    split
    · exact Nat.le_of_lt (by assumption)
    · exact Nat.le_refl _
  have hb : (wholeR b).2 ≤ (presR a b).2.2 := by
    unfold presR
    split
    · exact Nat.le_refl _
    · show (wholeR b).2 ≤ (wholeR a).2
      omega
  constructor
  · rw [beq_eq_false_iff_ne]
    intro e
    rw [e] at hw
    rw [hw] at ha
    simp only at ha
    omega
  · rw [beq_eq_false_iff_ne]
    intro e
    rw [e] at hw
    rw [hw] at hb
    simp only at hb
    omega
theorem torn_tgt0 {a b rec : List UInt8} (hr : rec.length ≤ 512) (hp : (presR a b).2.2 = 0) (hv : 0 < 1073741824) : ∀ cut, tornR a b rec cut = (((recF rec (0 + 1)).take cut, b), 0) := by
  intro cut
  unfold tornR
  rw [if_neg (by omega), if_neg (by omega), hp, if_pos (.inl rfl)]
theorem torn_tgt3 {a b rec : List UInt8} {v : Nat} (hr : rec.length ≤ 512) (hp : (presR a b).2.2 = v) (hv : v < 1073741824) : (∀ cut, tornR a b rec cut = (((recF rec (v + 1)).take cut, b), 0)) ∨ (∀ cut, tornR a b rec cut = ((a, (recF rec (v + 1)).take cut), 0)) := by
  by_cases h : (presR a b).2.2 = 0 ∨ (presR a b).1 = true
  · refine .inl fun cut => ?_
    unfold tornR
    rw [if_neg (by omega), if_neg (by omega), if_pos h, hp]
  · refine .inr fun cut => ?_
    unfold tornR
    rw [if_neg (by omega), if_neg (by omega), if_neg h, hp]
set_option maxHeartbeats 20000000 in
set_option maxRecDepth 10000 in
theorem StableRuns_pc (xs : List Int) (size : Int) : PC Try.prog 4 [.list 1 (iv xs), .s (.int .i64 size)] (fun r => r = .s (.bool true)) := by
  refine pc_end c4 mixed rfl ?_
  simp -implicitDefEqProofs [a4, F4]
  refine wk_take ?_
  simp -implicitDefEqProofs
  refine wc_of (Light_pc (iv xs)) (by simp) (by simp) ?_
  rintro _ rfl
  by_cases hl : xs.length ≤ 400
  case neg =>
    simp -implicitDefEqProofs [hl]
    refine wk_take ?_
    simp -implicitDefEqProofs
    refine wc_of awake_pc (by simp) (by simp) ?_
    rintro _ rfl
    simp -implicitDefEqProofs
  simp -implicitDefEqProofs [hl]
  refine wk_take ?_
  simp -implicitDefEqProofs
  refine wc_of New_pc (by simp) (by simp) ?_
  rintro _ rfl
  simp -implicitDefEqProofs
  refine wk_take ?_
  simp -implicitDefEqProofs
  refine wc_of rNew_pc (by simp) (by simp) ?_
  rintro _ rfl
  simp -implicitDefEqProofs
  refine w_rounds [6, 7] [6, 7, 8, 9, 10, 11, 12, 13, 14, 15, 16, 17] 3 (Nat.zero_le _) (srInv xs size) xs.length ⟨by simp, 0, [], [], [], 0, false, by simp, ⟨by omega, fun _ => ⟨rfl, rfl⟩, by simp, by simp, rfl, fun q => absurd rfl q, by omega⟩, by simp [lastV, cellA, tapeB]⟩ ?_
  rintro m S ⟨k, a, b, last, ver, c0, hkm, hok, rfl⟩
  have hkle := hok.le
  have hfew := hok.few
  have hla := hok.la
  have hlb := hok.lb
  simp -implicitDefEqProofs
  refine wk_hand ?_
  simp -implicitDefEqProofs
  refine wa_of (More_ac xs k) (tape1 rfl (tapeB_ok _ _)) ?_
  rintro _ _ ⟨rfl, rfl⟩
  refine ⟨rfl, ?_⟩
  by_cases hlt : k < xs.length
  case neg =>
    simp -implicitDefEqProofs [hlt]
    refine wk_take ?_
    simp -implicitDefEqProofs
    refine wc_of awake_pc (by simp) (by simp) ?_
    rintro _ rfl
    simp -implicitDefEqProofs
  have hn1 := nat1_le (xs := xs) (k := k) (by omega)
  have hn1' : nat1 xs k = k + 1 := by unfold nat1; rw [if_pos hlt]
  have hn2 := nat1_le (xs := xs) (k := nat1 xs k) (by omega)
  have hn3 := nat1_le (xs := xs) (k := nat1 xs (nat1 xs k)) (by omega)
  have hn4 := nat1_le (xs := xs) (k := nat1 xs (nat1 xs (nat1 xs k))) (by omega)
  simp -implicitDefEqProofs [hlt]
  refine wk_hand ?_
  simp -implicitDefEqProofs
  refine wa_of (Next_ac xs k 3 (by omega) (by omega) (by omega)) (tape2 rfl (tapeB_ok _ _)) ?_
  rintro _ _ ⟨rfl, rfl⟩
  refine ⟨rfl, ?_⟩
  simp -implicitDefEqProofs
  refine wk_hand ?_
  simp -implicitDefEqProofs
  refine wa_of (Next_ac xs (nat1 xs k) 40 (by omega) (by omega) (by omega)) (tape2 rfl (tapeB_ok _ _)) ?_
  rintro _ _ ⟨rfl, rfl⟩
  refine ⟨rfl, ?_⟩
  have b1 := nx_bd xs k (m := 3) (by omega)
  have b2 := nx_bd xs (nat1 xs k) (m := 40) (by omega)
  have b3 := nx_bd xs (nat1 xs (nat1 xs k)) (m := 256) (by omega)
  have b4 := nx_bd xs (nat1 xs (nat1 xs (nat1 xs k))) (m := 3) (by omega)
  have w1 : IntKind.i64.wrap (nx xs (nat1 xs k) 40 - 1) = nx xs (nat1 xs k) 40 - 1 := wrap64 (by omega)
  simp -implicitDefEqProofs [w1]
  refine wk_hand ?_
  simp -implicitDefEqProofs
  refine wa_of (Next_ac xs (nat1 xs (nat1 xs k)) 256 (by omega) (by omega) (by omega)) (tape2 rfl (tapeB_ok _ _)) ?_
  rintro _ _ ⟨rfl, rfl⟩
  refine ⟨rfl, ?_⟩
  simp -implicitDefEqProofs
  refine wk_take ?_
  simp -implicitDefEqProofs
  refine wc_of (Mod_pc size 30 (by omega) (by omega)) (by simp) (by simp) ?_
  rintro _ rfl
  simp -implicitDefEqProofs
  refine wk_hand ?_
  simp -implicitDefEqProofs
  refine wa_of (Next_ac xs (nat1 xs (nat1 xs (nat1 xs k))) 3 (by omega) (by omega) (by omega)) (tape2 rfl (tapeB_ok _ _)) ?_
  rintro _ _ ⟨rfl, rfl⟩
  refine ⟨rfl, ?_⟩
  obtain ⟨k4, hk4⟩ : ∃ k4, k4 = nat1 xs (nat1 xs (nat1 xs (nat1 xs k))) := ⟨_, rfl⟩
  have hk4a : k < k4 := by omega
  have hk4b : k4 ≤ xs.length := by omega
  rw [← hk4]
  generalize nx xs k 3 = n at *
  generalize nx xs (nat1 xs k) 40 = kk at *
  generalize nx xs (nat1 xs (nat1 xs k)) 256 = cc at *
  generalize nx xs (nat1 xs (nat1 xs (nat1 xs k))) 3 = q at *
  clear hn1 hn1' hn2 hn3 hn4 hk4
  have hs0 := Int.emod_nonneg size (b := 30) (by omega)
  have hs1 := Int.emod_lt_of_pos size (b := 30) (by omega)
  obtain ⟨N, hN, hN32⟩ : ∃ N : Nat, size % 30 + q = (N : Int) ∧ N ≤ 31 := ⟨(size % 30 + q).toNat, by omega, by omega⟩
  have w2 : IntKind.i64.wrap (N : Int) = (N : Int) := wrap64 (by omega)
  have hNm : N ≤ maxLen ∧ N ≤ 140737488355328 := by simp [maxLen]; omega
  obtain ⟨f, hf⟩ : ∃ f : Nat → UInt8, ∀ i : Nat, IntKind.u8.wrap (cc + (i : Int)) = ((f i).toNat : Int) :=
    ⟨fun i => UInt8.ofNat ((cc.toNat + i) % 256), fun i => by rw [toNat_ofNat _ (by omega), IntKind.wrap_u8']; omega⟩
  have hrep0 : List.replicate N (V.s (.int .u8 0)) = bv (fillF N f 0) := by simp [fillF, bv]
  simp -implicitDefEqProofs [hN, w2, hNm, hrep0]
  obtain ⟨kq, hkq⟩ : ∃ kq, kk - 1 = kq := ⟨_, rfl⟩
  rw [hkq]
  have hkq0 : -1 ≤ kq ∧ kq < 39 := by omega
  obtain ⟨rec, hrec, hrecl⟩ : ∃ rec : List UInt8, fillF N f N = rec ∧ rec.length = N := ⟨_, rfl, fillF_len (Nat.le_refl _)⟩
  have hver : ver < 1073741824 := by omega
  have w3 : IntKind.i64.wrap ((ver : Int) + 1) = (ver : Int) + 1 := wrap64 (by omega)
  have hv1 : ver ≠ 0 → ((ver : Int) == 0) = false := by intro h; simp; omega
  have hv2 : ver ≠ 0 → 0 < ver := by omega
  have hvA : ((ver : Int) + 1 == 0) = false := by simp; omega
  have hvB : (0 : Int) < (ver : Int) + 1 := by omega
  have hcase : (c0 = false ∧ a = [] ∧ b = [] ∧ ver = 0) ∨ (c0 = true ∧ ver = 0) ∨ (c0 = true ∧ ver ≠ 0) := by
    cases c0
    · obtain ⟨rfl, rfl⟩ := hok.nil rfl
      exact .inl ⟨rfl, rfl, rfl, by rw [← hok.pv]; rfl⟩
    · by_cases hv : ver = 0
      · exact .inr (.inl ⟨rfl, hv⟩)
      · exact .inr (.inr ⟨rfl, hv⟩)
  rcases hcase with ⟨rfl, rfl, rfl, rfl⟩ | ⟨rfl, rfl⟩ | ⟨rfl, hv0⟩
  · -- a new store
    have hFl := recF_len rec (0 + 1) (by omega)
    obtain ⟨hFA, hFB⟩ := recF_ne (a := []) (b := []) (rec := rec) (v := 0) (by omega) hok.pv (by omega)
    have hlA : ([] : List UInt8).length ≤ 1000000 := by omega
    have hlB : ([] : List UInt8).length ≤ 1000000 := by omega
    have hl0 : (fillF N f 0).length = N := fillF_len (Nat.zero_le N)
    refine w_rounds [6, 7, 49, 50] [10, 11, 12, 13, 14, 15, 16, 17] 3 (Nat.zero_le _) (rfInv xs size k4 0 (.s (.slice none 0 0)) (.s (.slice none 0 0)) (.s (.slice none 0 0)) n kq cc N f) N ⟨by simp [cellA, lastV, tapeB], 0, by omega, by simp [cellA, lastV, tapeB, hl0]⟩ ?_
    rintro j S ⟨i, hi, rfl⟩
    have hlen : (fillF N f i).length = N := fillF_len (by omega)
    by_cases hiN : i < N
    · have h1 : (i : Int) < (N : Int) := by omega
      have h0 : ¬ (i : Int) < 0 := by omega
      have hwp : IntKind.i64.wrap ((i : Int) + 1) = (i : Int) + 1 := wrap64 (by omega)
      have hwc : IntKind.i64.wrap (cc + (i : Int)) = cc + (i : Int) := wrap64 (by omega)
      have hg : (bv (fillF N f i))[i]'(by rw [bv_length]; omega) = .s (.int .u8 ((fillF N f i)[i]'(by omega)).toNat) := List.getElem_map _
      simp -implicitDefEqProofs [h1, h0, hwp, hwc, hf, hlen, hiN, hg, fillF_set hiN, tapeB]
      exact ⟨j - 1, by omega, i + 1, by omega, rfl⟩
    have h1 : ¬ (i : Int) < (N : Int) := by omega
    have hie : i = N := by omega
    subst hie
    rw [hrec]
    by_cases hn : n = 0
    · have hnb : (n == 0) = true := by simp [hn]
      have htg : (∀ cut, tornR [] [] rec cut = (((recF rec (0 + 1)).take cut, []), 0)) := torn_tgt0 (by omega) hok.pv (by omega)
      have htb : (recF rec (0 + 1)).take big = recF rec (0 + 1) := List.take_of_length_le (by unfold big; omega)
      rcases htg with htg
      · have hstep := fun cut => srOk_step hok hk4a hk4b (by omega) (htg cut) (by omega)
        by_cases hw : ((recF rec (0 + 1)).length : Int) ≤ kq
        · obtain ⟨hL, hS1, hS2⟩ := hstep kq.toNat
          obtain ⟨hS, hp⟩ := hS1 (by omega)
          have htk : (recF rec (0 + 1)).take kq.toNat = recF rec (0 + 1) := List.take_of_length_le (by omega)
          rw [htk] at hL hS hp
          clear hS1 hS2
          have hL1 : ((recF rec (0 + 1)) : List UInt8).length ≤ 1000000 := by omega
          have hL2 : ([] : List UInt8).length ≤ 1000000 := by omega
          simp -implicitDefEqProofs [h1, hnb]
          refine wk_take ?_
          simp -implicitDefEqProofs
          refine wc_nil (args := [storeV [] [], .list 1 (bv rec), .s (.int .i64 kq)]) (Torn_pc [] [] rec kq hlA hlB) (by simp [storeV, bv]) (by simp [storeV]) (by simp) ?_
          rintro _ rfl
          rw [htg, htk]
          simp -implicitDefEqProofs [tornV, storeV]
          refine wk_take ?_
          simp -implicitDefEqProofs
          refine wc_nil (args := [storeV [] [], .list 1 (bv rec), .s (.int .i64 kq)]) (rTorn_pc [] [] rec kq hlA hlB) (by simp [storeV, bv]) (by simp [storeV]) (by simp) ?_
          rintro _ rfl
          rw [htg, htk]
          simp -implicitDefEqProofs [tornV, storeV]
          refine wk_take ?_
          simp -implicitDefEqProofs
          refine wc_nil (args := [storeV [] [], .list 1 (bv rec)]) (Write_pc [] [] rec hlA hlB) (by simp [storeV, bv]) (by simp [storeV]) (by simp) ?_
          rintro _ rfl
          rw [htg, htb]
          generalize hFF : recF rec (0 + 1) = F at *
          by_cases hoo : (0 : Int) ≤ kq
          all_goals
            simp -implicitDefEqProofs [tornV, storeV, hw, hoo, toList_mk, hFA, hFB]
            refine wk_take ?_
            simp -implicitDefEqProofs
            refine wc_of (sameSelf F []) (by simp [storeV]) (by simp [storeV]) ?_
            rintro _ rfl
            simp -implicitDefEqProofs [w3]
            refine wk_take ?_
            simp -implicitDefEqProofs
            refine wc_of (Read_pc F [] hL1 hL2) (by simp [storeV]) (by simp [storeV]) ?_
            rintro _ rfl
            rw [hp]
            simp -implicitDefEqProofs [readV, toList_mk, tapeB]
            exact ⟨xs.length - k4, by omega, k4, F, [], rec, 0 + 1, true, by omega, hS, by simp [lastV, cellA, tapeB]⟩
        · obtain ⟨hL, hS1, hS2⟩ := hstep kq.toNat
          obtain ⟨hS, hp1, hp⟩ := hS2 (by omega)
          clear hS1
          have hL1 : (((recF rec (0 + 1)).take kq.toNat) : List UInt8).length ≤ 1000000 := by omega
          have hL2 : ([] : List UInt8).length ≤ 1000000 := by omega
          simp -implicitDefEqProofs [h1, hnb]
          refine wk_take ?_
          simp -implicitDefEqProofs
          refine wc_nil (args := [storeV [] [], .list 1 (bv rec), .s (.int .i64 kq)]) (Torn_pc [] [] rec kq hlA hlB) (by simp [storeV, bv]) (by simp [storeV]) (by simp) ?_
          rintro _ rfl
          rw [htg]
          simp -implicitDefEqProofs [tornV, storeV]
          refine wk_take ?_
          simp -implicitDefEqProofs
          refine wc_nil (args := [storeV [] [], .list 1 (bv rec), .s (.int .i64 kq)]) (rTorn_pc [] [] rec kq hlA hlB) (by simp [storeV, bv]) (by simp [storeV]) (by simp) ?_
          rintro _ rfl
          rw [htg]
          simp -implicitDefEqProofs [tornV, storeV]
          refine wk_take ?_
          simp -implicitDefEqProofs
          refine wc_nil (args := [storeV [] [], .list 1 (bv rec)]) (Write_pc [] [] rec hlA hlB) (by simp [storeV, bv]) (by simp [storeV]) (by simp) ?_
          rintro _ rfl
          rw [htg, htb]
          generalize hFF : recF rec (0 + 1) = F at *
          by_cases hoo : (0 : Int) ≤ kq
          all_goals
            simp -implicitDefEqProofs [tornV, storeV, hw, hoo, toList_mk, hFA, hFB]
            refine wk_take ?_
            simp -implicitDefEqProofs
            refine wc_of (sameSelf (F.take kq.toNat) []) (by simp [storeV]) (by simp [storeV]) ?_
            rintro _ rfl
            simp -implicitDefEqProofs [w3]
            refine wk_take ?_
            simp -implicitDefEqProofs
            refine wc_of (Read_pc (F.take kq.toNat) [] hL1 hL2) (by simp [storeV]) (by simp [storeV]) ?_
            rintro _ rfl
            simp -implicitDefEqProofs [readV, hp1, tapeB]
            exact ⟨xs.length - k4, by omega, k4, (F.take kq.toNat), [], last, 0, true, by omega, hS, by simp [lastV, cellA, tapeB]⟩
    · have hnb : (n == 0) = false := by simp [hn]
      obtain ⟨a', b', ht, hp⟩ := torn_full (a := []) (b := []) (rec := rec) (cut := big) (by omega) (by rw [hok.pv]; omega) (by rw [hok.pv]; unfold big; omega)
      rw [hok.pv] at hp
      obtain ⟨hL, hS, _⟩ := srOk_step hok hk4a hk4b (by omega) ht (by omega)
      obtain ⟨hS1, _⟩ := hS (by unfold big; omega)
      simp -implicitDefEqProofs [h1, hnb]
      refine wk_take ?_
      simp -implicitDefEqProofs
      refine wc_nil (args := [storeV [] [], .list 1 (bv rec)]) (Write_pc [] [] rec hlA hlB) (by simp [storeV, bv]) (by simp [storeV]) (by simp) ?_
      rintro _ rfl
      rw [ht]
      simp -implicitDefEqProofs [tornV, storeV]
      refine wk_take ?_
      simp -implicitDefEqProofs
      refine wc_nil (args := [storeV [] [], .list 1 (bv rec)]) (rWrite_pc [] [] rec hlA hlB) (by simp [storeV, bv]) (by simp [storeV]) (by simp) ?_
      rintro _ rfl
      rw [ht]
      simp -implicitDefEqProofs [tornV, storeV]
      refine wk_take ?_
      simp -implicitDefEqProofs
      refine wc_of (sameSelf a' b') (by simp [storeV]) (by simp [storeV]) ?_
      rintro _ rfl
      simp -implicitDefEqProofs [w3]
      refine wk_take ?_
      simp -implicitDefEqProofs
      refine wc_of (Read_pc a' b' (by omega) (by omega)) (by simp [storeV]) (by simp [storeV]) ?_
      rintro _ rfl
      rw [hp]
      simp -implicitDefEqProofs [readV, toList_mk, tapeB]
      exact ⟨xs.length - k4, by omega, k4, a', b', rec, 0 + 1, true, by omega, hS1, by simp [lastV, cellA, tapeB]⟩
  · -- nothing was written whole
    have hFl := recF_len rec (0 + 1) (by omega)
    obtain ⟨hFA, hFB⟩ := recF_ne (a := a) (b := b) (rec := rec) (v := 0) (by omega) hok.pv (by omega)
    have hlA : (a : List UInt8).length ≤ 1000000 := by omega
    have hlB : (b : List UInt8).length ≤ 1000000 := by omega
    have hl0 : (fillF N f 0).length = N := fillF_len (Nat.zero_le N)
    refine w_rounds [6, 7, 49, 50] [10, 11, 12, 13, 14, 15, 16, 17] 3 (Nat.zero_le _) (rfInv xs size k4 0 (.s (.slice none 0 0)) (.list 1 (bv a)) (.list 1 (bv b)) n kq cc N f) N ⟨by simp [cellA, lastV, tapeB], 0, by omega, by simp [cellA, lastV, tapeB, hl0]⟩ ?_
    rintro j S ⟨i, hi, rfl⟩
    have hlen : (fillF N f i).length = N := fillF_len (by omega)
    by_cases hiN : i < N
    · have h1 : (i : Int) < (N : Int) := by omega
      have h0 : ¬ (i : Int) < 0 := by omega
      have hwp : IntKind.i64.wrap ((i : Int) + 1) = (i : Int) + 1 := wrap64 (by omega)
      have hwc : IntKind.i64.wrap (cc + (i : Int)) = cc + (i : Int) := wrap64 (by omega)
      have hg : (bv (fillF N f i))[i]'(by rw [bv_length]; omega) = .s (.int .u8 ((fillF N f i)[i]'(by omega)).toNat) := List.getElem_map _
      simp -implicitDefEqProofs [h1, h0, hwp, hwc, hf, hlen, hiN, hg, fillF_set hiN, tapeB]
      exact ⟨j - 1, by omega, i + 1, by omega, rfl⟩
    have h1 : ¬ (i : Int) < (N : Int) := by omega
    have hie : i = N := by omega
    subst hie
    rw [hrec]
    by_cases hn : n = 0
    · have hnb : (n == 0) = true := by simp [hn]
      have htg : (∀ cut, tornR a b rec cut = (((recF rec (0 + 1)).take cut, b), 0)) := torn_tgt0 (by omega) hok.pv (by omega)
      have htb : (recF rec (0 + 1)).take big = recF rec (0 + 1) := List.take_of_length_le (by unfold big; omega)
      rcases htg with htg
      · have hstep := fun cut => srOk_step hok hk4a hk4b (by omega) (htg cut) (by omega)
        by_cases hw : ((recF rec (0 + 1)).length : Int) ≤ kq
        · obtain ⟨hL, hS1, hS2⟩ := hstep kq.toNat
          obtain ⟨hS, hp⟩ := hS1 (by omega)
          have htk : (recF rec (0 + 1)).take kq.toNat = recF rec (0 + 1) := List.take_of_length_le (by omega)
          rw [htk] at hL hS hp
          clear hS1 hS2
          have hL1 : ((recF rec (0 + 1)) : List UInt8).length ≤ 1000000 := by omega
          have hL2 : (b : List UInt8).length ≤ 1000000 := by omega
          simp -implicitDefEqProofs [h1, hnb]
          refine wk_take ?_
          simp -implicitDefEqProofs
          refine wc_nil (args := [storeV a b, .list 1 (bv rec), .s (.int .i64 kq)]) (Torn_pc a b rec kq hlA hlB) (by simp [storeV, bv]) (by simp [storeV]) (by simp) ?_
          rintro _ rfl
          rw [htg, htk]
          simp -implicitDefEqProofs [tornV, storeV]
          refine wk_take ?_
          simp -implicitDefEqProofs
          refine wc_nil (args := [storeV a b, .list 1 (bv rec), .s (.int .i64 kq)]) (rTorn_pc a b rec kq hlA hlB) (by simp [storeV, bv]) (by simp [storeV]) (by simp) ?_
          rintro _ rfl
          rw [htg, htk]
          simp -implicitDefEqProofs [tornV, storeV]
          refine wk_take ?_
          simp -implicitDefEqProofs
          refine wc_nil (args := [storeV a b, .list 1 (bv rec)]) (Write_pc a b rec hlA hlB) (by simp [storeV, bv]) (by simp [storeV]) (by simp) ?_
          rintro _ rfl
          rw [htg, htb]
          generalize hFF : recF rec (0 + 1) = F at *
          by_cases hoo : ((b : List UInt8).length : Int) ≤ kq
          all_goals
            simp -implicitDefEqProofs [tornV, storeV, hw, hoo, toList_mk, hFA, hFB]
            refine wk_take ?_
            simp -implicitDefEqProofs
            refine wc_of (sameSelf F b) (by simp [storeV]) (by simp [storeV]) ?_
            rintro _ rfl
            simp -implicitDefEqProofs [w3]
            refine wk_take ?_
            simp -implicitDefEqProofs
            refine wc_of (Read_pc F b hL1 hL2) (by simp [storeV]) (by simp [storeV]) ?_
            rintro _ rfl
            rw [hp]
            simp -implicitDefEqProofs [readV, toList_mk, tapeB]
            exact ⟨xs.length - k4, by omega, k4, F, b, rec, 0 + 1, true, by omega, hS, by simp [lastV, cellA, tapeB]⟩
        · obtain ⟨hL, hS1, hS2⟩ := hstep kq.toNat
          obtain ⟨hS, hp1, hp⟩ := hS2 (by omega)
          clear hS1
          have hL1 : (((recF rec (0 + 1)).take kq.toNat) : List UInt8).length ≤ 1000000 := by omega
          have hL2 : (b : List UInt8).length ≤ 1000000 := by omega
          simp -implicitDefEqProofs [h1, hnb]
          refine wk_take ?_
          simp -implicitDefEqProofs
          refine wc_nil (args := [storeV a b, .list 1 (bv rec), .s (.int .i64 kq)]) (Torn_pc a b rec kq hlA hlB) (by simp [storeV, bv]) (by simp [storeV]) (by simp) ?_
          rintro _ rfl
          rw [htg]
          simp -implicitDefEqProofs [tornV, storeV]
          refine wk_take ?_
          simp -implicitDefEqProofs
          refine wc_nil (args := [storeV a b, .list 1 (bv rec), .s (.int .i64 kq)]) (rTorn_pc a b rec kq hlA hlB) (by simp [storeV, bv]) (by simp [storeV]) (by simp) ?_
          rintro _ rfl
          rw [htg]
          simp -implicitDefEqProofs [tornV, storeV]
          refine wk_take ?_
          simp -implicitDefEqProofs
          refine wc_nil (args := [storeV a b, .list 1 (bv rec)]) (Write_pc a b rec hlA hlB) (by simp [storeV, bv]) (by simp [storeV]) (by simp) ?_
          rintro _ rfl
          rw [htg, htb]
          generalize hFF : recF rec (0 + 1) = F at *
          by_cases hoo : ((b : List UInt8).length : Int) ≤ kq
          all_goals
            simp -implicitDefEqProofs [tornV, storeV, hw, hoo, toList_mk, hFA, hFB]
            refine wk_take ?_
            simp -implicitDefEqProofs
            refine wc_of (sameSelf (F.take kq.toNat) b) (by simp [storeV]) (by simp [storeV]) ?_
            rintro _ rfl
            simp -implicitDefEqProofs [w3]
            refine wk_take ?_
            simp -implicitDefEqProofs
            refine wc_of (Read_pc (F.take kq.toNat) b hL1 hL2) (by simp [storeV]) (by simp [storeV]) ?_
            rintro _ rfl
            simp -implicitDefEqProofs [readV, hp1, tapeB]
            exact ⟨xs.length - k4, by omega, k4, (F.take kq.toNat), b, last, 0, true, by omega, hS, by simp [lastV, cellA, tapeB]⟩
    · have hnb : (n == 0) = false := by simp [hn]
      obtain ⟨a', b', ht, hp⟩ := torn_full (a := a) (b := b) (rec := rec) (cut := big) (by omega) (by rw [hok.pv]; omega) (by rw [hok.pv]; unfold big; omega)
      rw [hok.pv] at hp
      obtain ⟨hL, hS, _⟩ := srOk_step hok hk4a hk4b (by omega) ht (by omega)
      obtain ⟨hS1, _⟩ := hS (by unfold big; omega)
      simp -implicitDefEqProofs [h1, hnb]
      refine wk_take ?_
      simp -implicitDefEqProofs
      refine wc_nil (args := [storeV a b, .list 1 (bv rec)]) (Write_pc a b rec hlA hlB) (by simp [storeV, bv]) (by simp [storeV]) (by simp) ?_
      rintro _ rfl
      rw [ht]
      simp -implicitDefEqProofs [tornV, storeV]
      refine wk_take ?_
      simp -implicitDefEqProofs
      refine wc_nil (args := [storeV a b, .list 1 (bv rec)]) (rWrite_pc a b rec hlA hlB) (by simp [storeV, bv]) (by simp [storeV]) (by simp) ?_
      rintro _ rfl
      rw [ht]
      simp -implicitDefEqProofs [tornV, storeV]
      refine wk_take ?_
      simp -implicitDefEqProofs
      refine wc_of (sameSelf a' b') (by simp [storeV]) (by simp [storeV]) ?_
      rintro _ rfl
      simp -implicitDefEqProofs [w3]
      refine wk_take ?_
      simp -implicitDefEqProofs
      refine wc_of (Read_pc a' b' (by omega) (by omega)) (by simp [storeV]) (by simp [storeV]) ?_
      rintro _ rfl
      rw [hp]
      simp -implicitDefEqProofs [readV, toList_mk, tapeB]
      exact ⟨xs.length - k4, by omega, k4, a', b', rec, 0 + 1, true, by omega, hS1, by simp [lastV, cellA, tapeB]⟩
  · -- a version is there
    have hFl := recF_len rec (ver + 1) (by omega)
    obtain ⟨hFA, hFB⟩ := recF_ne (a := a) (b := b) (rec := rec) (v := ver) (by omega) hok.pv (by omega)
    have hlA : (a : List UInt8).length ≤ 1000000 := by omega
    have hlB : (b : List UInt8).length ≤ 1000000 := by omega
    have hl0 : (fillF N f 0).length = N := fillF_len (Nat.zero_le N)
    refine w_rounds [6, 7, 49, 50] [10, 11, 12, 13, 14, 15, 16, 17] 3 (Nat.zero_le _) (rfInv xs size k4 ver (.list 1 (bv last)) (.list 1 (bv a)) (.list 1 (bv b)) n kq cc N f) N ⟨by simp [cellA, lastV, tapeB, hv0], 0, by omega, by simp [cellA, lastV, tapeB, hl0, hv0]⟩ ?_
    rintro j S ⟨i, hi, rfl⟩
    have hlen : (fillF N f i).length = N := fillF_len (by omega)
    by_cases hiN : i < N
    · have h1 : (i : Int) < (N : Int) := by omega
      have h0 : ¬ (i : Int) < 0 := by omega
      have hwp : IntKind.i64.wrap ((i : Int) + 1) = (i : Int) + 1 := wrap64 (by omega)
      have hwc : IntKind.i64.wrap (cc + (i : Int)) = cc + (i : Int) := wrap64 (by omega)
      have hg : (bv (fillF N f i))[i]'(by rw [bv_length]; omega) = .s (.int .u8 ((fillF N f i)[i]'(by omega)).toNat) := List.getElem_map _
      simp -implicitDefEqProofs [h1, h0, hwp, hwc, hf, hlen, hiN, hg, fillF_set hiN, tapeB]
      exact ⟨j - 1, by omega, i + 1, by omega, rfl⟩
    have h1 : ¬ (i : Int) < (N : Int) := by omega
    have hie : i = N := by omega
    subst hie
    rw [hrec]
    by_cases hn : n = 0
    · have hnb : (n == 0) = true := by simp [hn]
      have htg : (∀ cut, tornR a b rec cut = (((recF rec (ver + 1)).take cut, b), 0)) ∨ (∀ cut, tornR a b rec cut = ((a, (recF rec (ver + 1)).take cut), 0)) := torn_tgt3 (by omega) hok.pv (by omega)
      have htb : (recF rec (ver + 1)).take big = recF rec (ver + 1) := List.take_of_length_le (by unfold big; omega)
      rcases htg with htg | htg
      · have hstep := fun cut => srOk_step hok hk4a hk4b (by omega) (htg cut) (by omega)
        by_cases hw : ((recF rec (ver + 1)).length : Int) ≤ kq
        · obtain ⟨hL, hS1, hS2⟩ := hstep kq.toNat
          obtain ⟨hS, hp⟩ := hS1 (by omega)
          have htk : (recF rec (ver + 1)).take kq.toNat = recF rec (ver + 1) := List.take_of_length_le (by omega)
          rw [htk] at hL hS hp
          clear hS1 hS2
          have hL1 : ((recF rec (ver + 1)) : List UInt8).length ≤ 1000000 := by omega
          have hL2 : (b : List UInt8).length ≤ 1000000 := by omega
          simp -implicitDefEqProofs [h1, hnb]
          refine wk_take ?_
          simp -implicitDefEqProofs
          refine wc_nil (args := [storeV a b, .list 1 (bv rec), .s (.int .i64 kq)]) (Torn_pc a b rec kq hlA hlB) (by simp [storeV, bv]) (by simp [storeV]) (by simp) ?_
          rintro _ rfl
          rw [htg, htk]
          simp -implicitDefEqProofs [tornV, storeV]
          refine wk_take ?_
          simp -implicitDefEqProofs
          refine wc_nil (args := [storeV a b, .list 1 (bv rec), .s (.int .i64 kq)]) (rTorn_pc a b rec kq hlA hlB) (by simp [storeV, bv]) (by simp [storeV]) (by simp) ?_
          rintro _ rfl
          rw [htg, htk]
          simp -implicitDefEqProofs [tornV, storeV]
          refine wk_take ?_
          simp -implicitDefEqProofs
          refine wc_nil (args := [storeV a b, .list 1 (bv rec)]) (Write_pc a b rec hlA hlB) (by simp [storeV, bv]) (by simp [storeV]) (by simp) ?_
          rintro _ rfl
          rw [htg, htb]
          generalize hFF : recF rec (ver + 1) = F at *
          by_cases hoo : ((b : List UInt8).length : Int) ≤ kq
          all_goals
            simp -implicitDefEqProofs [tornV, storeV, hw, hoo, toList_mk, hFA, hFB]
            refine wk_take ?_
            simp -implicitDefEqProofs
            refine wc_of (sameSelf F b) (by simp [storeV]) (by simp [storeV]) ?_
            rintro _ rfl
            simp -implicitDefEqProofs [w3]
            refine wk_take ?_
            simp -implicitDefEqProofs
            refine wc_of (Read_pc F b hL1 hL2) (by simp [storeV]) (by simp [storeV]) ?_
            rintro _ rfl
            rw [hp]
            simp -implicitDefEqProofs [readV, toList_mk, tapeB, hvA, hvB]
            exact ⟨xs.length - k4, by omega, k4, F, b, rec, ver + 1, true, by omega, hS, by simp [lastV, cellA, tapeB]⟩
        · obtain ⟨hL, hS1, hS2⟩ := hstep kq.toNat
          obtain ⟨hS, hp1, hp⟩ := hS2 (by omega)
          clear hS1
          have hL1 : (((recF rec (ver + 1)).take kq.toNat) : List UInt8).length ≤ 1000000 := by omega
          have hL2 : (b : List UInt8).length ≤ 1000000 := by omega
          simp -implicitDefEqProofs [h1, hnb]
          refine wk_take ?_
          simp -implicitDefEqProofs
          refine wc_nil (args := [storeV a b, .list 1 (bv rec), .s (.int .i64 kq)]) (Torn_pc a b rec kq hlA hlB) (by simp [storeV, bv]) (by simp [storeV]) (by simp) ?_
          rintro _ rfl
          rw [htg]
          simp -implicitDefEqProofs [tornV, storeV]
          refine wk_take ?_
          simp -implicitDefEqProofs
          refine wc_nil (args := [storeV a b, .list 1 (bv rec), .s (.int .i64 kq)]) (rTorn_pc a b rec kq hlA hlB) (by simp [storeV, bv]) (by simp [storeV]) (by simp) ?_
          rintro _ rfl
          rw [htg]
          simp -implicitDefEqProofs [tornV, storeV]
          refine wk_take ?_
          simp -implicitDefEqProofs
          refine wc_nil (args := [storeV a b, .list 1 (bv rec)]) (Write_pc a b rec hlA hlB) (by simp [storeV, bv]) (by simp [storeV]) (by simp) ?_
          rintro _ rfl
          rw [htg, htb]
          generalize hFF : recF rec (ver + 1) = F at *
          by_cases hoo : ((b : List UInt8).length : Int) ≤ kq
          all_goals
            simp -implicitDefEqProofs [tornV, storeV, hw, hoo, toList_mk, hFA, hFB]
            refine wk_take ?_
            simp -implicitDefEqProofs
            refine wc_of (sameSelf (F.take kq.toNat) b) (by simp [storeV]) (by simp [storeV]) ?_
            rintro _ rfl
            simp -implicitDefEqProofs [w3]
            refine wk_take ?_
            simp -implicitDefEqProofs
            refine wc_of (Read_pc (F.take kq.toNat) b hL1 hL2) (by simp [storeV]) (by simp [storeV]) ?_
            rintro _ rfl
            rw [hp hv0]
            simp -implicitDefEqProofs [readV, hv0, hv1 hv0, hv2 hv0, toList_mk, tapeB]
            exact ⟨xs.length - k4, by omega, k4, (F.take kq.toNat), b, last, ver, true, by omega, hS, by simp [lastV, cellA, tapeB, hv0]⟩
      · have hstep := fun cut => srOk_step hok hk4a hk4b (by omega) (htg cut) (by omega)
        by_cases hw : ((recF rec (ver + 1)).length : Int) ≤ kq
        · obtain ⟨hL, hS1, hS2⟩ := hstep kq.toNat
          obtain ⟨hS, hp⟩ := hS1 (by omega)
          have htk : (recF rec (ver + 1)).take kq.toNat = recF rec (ver + 1) := List.take_of_length_le (by omega)
          rw [htk] at hL hS hp
          clear hS1 hS2
          have hL1 : (a : List UInt8).length ≤ 1000000 := by omega
          have hL2 : ((recF rec (ver + 1)) : List UInt8).length ≤ 1000000 := by omega
          simp -implicitDefEqProofs [h1, hnb]
          refine wk_take ?_
          simp -implicitDefEqProofs
          refine wc_nil (args := [storeV a b, .list 1 (bv rec), .s (.int .i64 kq)]) (Torn_pc a b rec kq hlA hlB) (by simp [storeV, bv]) (by simp [storeV]) (by simp) ?_
          rintro _ rfl
          rw [htg, htk]
          simp -implicitDefEqProofs [tornV, storeV]
          refine wk_take ?_
          simp -implicitDefEqProofs
          refine wc_nil (args := [storeV a b, .list 1 (bv rec), .s (.int .i64 kq)]) (rTorn_pc a b rec kq hlA hlB) (by simp [storeV, bv]) (by simp [storeV]) (by simp) ?_
          rintro _ rfl
          rw [htg, htk]
          simp -implicitDefEqProofs [tornV, storeV]
          refine wk_take ?_
          simp -implicitDefEqProofs
          refine wc_nil (args := [storeV a b, .list 1 (bv rec)]) (Write_pc a b rec hlA hlB) (by simp [storeV, bv]) (by simp [storeV]) (by simp) ?_
          rintro _ rfl
          rw [htg, htb]
          generalize hFF : recF rec (ver + 1) = F at *
          by_cases hoo : ((a : List UInt8).length : Int) ≤ kq
          all_goals
            simp -implicitDefEqProofs [tornV, storeV, hw, hoo, toList_mk, hFA, hFB]
            refine wk_take ?_
            simp -implicitDefEqProofs
            refine wc_of (sameSelf a F) (by simp [storeV]) (by simp [storeV]) ?_
            rintro _ rfl
            simp -implicitDefEqProofs [w3]
            refine wk_take ?_
            simp -implicitDefEqProofs
            refine wc_of (Read_pc a F hL1 hL2) (by simp [storeV]) (by simp [storeV]) ?_
            rintro _ rfl
            rw [hp]
            simp -implicitDefEqProofs [readV, toList_mk, tapeB, hvA, hvB]
            exact ⟨xs.length - k4, by omega, k4, a, F, rec, ver + 1, true, by omega, hS, by simp [lastV, cellA, tapeB]⟩
        · obtain ⟨hL, hS1, hS2⟩ := hstep kq.toNat
          obtain ⟨hS, hp1, hp⟩ := hS2 (by omega)
          clear hS1
          have hL1 : (a : List UInt8).length ≤ 1000000 := by omega
          have hL2 : (((recF rec (ver + 1)).take kq.toNat) : List UInt8).length ≤ 1000000 := by omega
          simp -implicitDefEqProofs [h1, hnb]
          refine wk_take ?_
          simp -implicitDefEqProofs
          refine wc_nil (args := [storeV a b, .list 1 (bv rec), .s (.int .i64 kq)]) (Torn_pc a b rec kq hlA hlB) (by simp [storeV, bv]) (by simp [storeV]) (by simp) ?_
          rintro _ rfl
          rw [htg]
          simp -implicitDefEqProofs [tornV, storeV]
          refine wk_take ?_
          simp -implicitDefEqProofs
          refine wc_nil (args := [storeV a b, .list 1 (bv rec), .s (.int .i64 kq)]) (rTorn_pc a b rec kq hlA hlB) (by simp [storeV, bv]) (by simp [storeV]) (by simp) ?_
          rintro _ rfl
          rw [htg]
          simp -implicitDefEqProofs [tornV, storeV]
          refine wk_take ?_
          simp -implicitDefEqProofs
          refine wc_nil (args := [storeV a b, .list 1 (bv rec)]) (Write_pc a b rec hlA hlB) (by simp [storeV, bv]) (by simp [storeV]) (by simp) ?_
          rintro _ rfl
          rw [htg, htb]
          generalize hFF : recF rec (ver + 1) = F at *
          by_cases hoo : ((a : List UInt8).length : Int) ≤ kq
          all_goals
            simp -implicitDefEqProofs [tornV, storeV, hw, hoo, toList_mk, hFA, hFB]
            refine wk_take ?_
            simp -implicitDefEqProofs
            refine wc_of (sameSelf a (F.take kq.toNat)) (by simp [storeV]) (by simp [storeV]) ?_
            rintro _ rfl
            simp -implicitDefEqProofs [w3]
            refine wk_take ?_
            simp -implicitDefEqProofs
            refine wc_of (Read_pc a (F.take kq.toNat) hL1 hL2) (by simp [storeV]) (by simp [storeV]) ?_
            rintro _ rfl
            rw [hp hv0]
            simp -implicitDefEqProofs [readV, hv0, hv1 hv0, hv2 hv0, toList_mk, tapeB]
            exact ⟨xs.length - k4, by omega, k4, a, (F.take kq.toNat), last, ver, true, by omega, hS, by simp [lastV, cellA, tapeB, hv0]⟩
    · have hnb : (n == 0) = false := by simp [hn]
      obtain ⟨a', b', ht, hp⟩ := torn_full (a := a) (b := b) (rec := rec) (cut := big) (by omega) (by rw [hok.pv]; omega) (by rw [hok.pv]; unfold big; omega)
      rw [hok.pv] at hp
      obtain ⟨hL, hS, _⟩ := srOk_step hok hk4a hk4b (by omega) ht (by omega)
      obtain ⟨hS1, _⟩ := hS (by unfold big; omega)
      simp -implicitDefEqProofs [h1, hnb]
      refine wk_take ?_
      simp -implicitDefEqProofs
      refine wc_nil (args := [storeV a b, .list 1 (bv rec)]) (Write_pc a b rec hlA hlB) (by simp [storeV, bv]) (by simp [storeV]) (by simp) ?_
      rintro _ rfl
      rw [ht]
      simp -implicitDefEqProofs [tornV, storeV]
      refine wk_take ?_
      simp -implicitDefEqProofs
      refine wc_nil (args := [storeV a b, .list 1 (bv rec)]) (rWrite_pc a b rec hlA hlB) (by simp [storeV, bv]) (by simp [storeV]) (by simp) ?_
      rintro _ rfl
      rw [ht]
      simp -implicitDefEqProofs [tornV, storeV]
      refine wk_take ?_
      simp -implicitDefEqProofs
      refine wc_of (sameSelf a' b') (by simp [storeV]) (by simp [storeV]) ?_
      rintro _ rfl
      simp -implicitDefEqProofs [w3]
      refine wk_take ?_
      simp -implicitDefEqProofs
      refine wc_of (Read_pc a' b' (by omega) (by omega)) (by simp [storeV]) (by simp [storeV]) ?_
      rintro _ rfl
      rw [hp]
      simp -implicitDefEqProofs [readV, toList_mk, tapeB, hvA, hvB]
      exact ⟨xs.length - k4, by omega, k4, a', b', rec, ver + 1, true, by omega, hS1, by simp [lastV, cellA, tapeB]⟩
end Go.Proofs.Ytbjgnoegblejhaa

namespace Go.Proofs.Ytbjgnoegblejhaa
open Go.RowKit Go.Proofs

theorem sh_ints {dep : Nat} {x : V} (h : ArgShape Try.prog (dep + 2) 34 x) : ∃ l : List Int, x = .list 1 (iv l) := by
  unfold ArgShape at h
  rw [Try.underlying34] at h
  simp only at h
  unfold Shape at h
  rw [Try.underlying34] at h
  obtain ⟨els, hx, _, hb⟩ := h
  have e1 : Try.prog.cellsOf 3 = 1 := by kernel_rfl
  have e2 : aggT Try.prog 3 = some false := by kernel_rfl
  rw [e1] at hx
  have : ∀ els : List (List V), (∀ el ∈ els, Shape Try.prog (dep + 1) 3 el) → ∃ m : List Int, els.map (elemD Try.prog 3) = iv m := by
    intro els
    induction els with
    | nil => intro _; exact ⟨[], rfl⟩
    | cons x r ih =>
      intro h
      obtain ⟨m, hm⟩ := ih (fun el hel => h el (by simp [hel]))
      have hx := h x (by simp)
      unfold Shape at hx
      rw [Try.underlying3] at hx
      obtain ⟨n, _, rfl⟩ := hx
      refine ⟨n :: m, ?_⟩
      rw [List.map_cons, hm]
      simp [elemD, e2, iv]
  obtain ⟨m, hm⟩ := this els hb
  rw [hm] at hx
  exact ⟨m, by simpa using hx⟩
end Go.Proofs.Ytbjgnoegblejhaa
