/- Texts put behind one another: K20, K21, K22, K23, K24, K25, Sh. -/
import Derived.Test.YtgaihedboifjoaaZM
import Derived.Test.YtgaihedboifjoaaZE
set_option linter.unusedVariables false
set_option linter.unusedSimpArgs false
namespace Go.Proofs.Ytgaihedboifjoaa
open Go.RowKit Go.Proofs

def siInv (l k : List Int) (m : Nat) (S : St) : Prop := ∃ i : Nat, i + m = l.length ∧ l.take i = k.take i ∧ S = ⟨tmL [], [.list 1 (iv l), .list 1 (iv k), .s (.bool false), .s (.int .i64 i)], [], 0⟩
theorem SameInts_pc (l k : List Int) (hl : l.length ≤ 1000000) : PC Try.prog 24 [.list 1 (iv l), .list 1 (iv k)] (fun r => r = .s (.bool (decide (l = k)))) := by
  refine pc_end c24 mixed rfl ?_
  cases h : ((l.length : Int) != (k.length : Int))
  case' true =>
    have : ¬ l = k := fun q => by subst q; simp at h
    simp -implicitDefEqProofs [a24, F24, h, this]
  have hlk : l.length = k.length := by simp at h; omega
  simp -implicitDefEqProofs [a24, F24, h]
  refine w_rounds [] [] 0 (Nat.le_refl _) (siInv l k) l.length ⟨by simp, 0, by simp, by simp, by simp⟩ ?_
  rintro m S ⟨i, hi, hx, rfl⟩
  by_cases hm : i < l.length
  · have h1 : (i : Int) < l.length := by omega
    have h0 : ¬ (i : Int) < 0 := by omega
    have hm2 : i < k.length := by omega
    have hw := wrap64 (n := (i : Int) + 1) (by omega)
    cases he : (l[i] != k[i])
    · simp -implicitDefEqProofs [h1, h0, iv_get hm, iv_get hm2, he, hw]
      exact ⟨m - 1, by omega, i + 1, by omega, take_eq1 hm hm2 hx (by simpa using he), by simp⟩
    · have : ¬ l = k := fun q => by subst q; simp at he
      simp -implicitDefEqProofs [h1, h0, iv_get hm, iv_get hm2, he, this]
  · have h2 : i = l.length := by omega
    rw [List.take_of_length_le (by omega), List.take_of_length_le (by omega)] at hx
    simp -implicitDefEqProofs [h2, hx]
theorem Same_pc (a b : Int) (l k : List Int) (hl : l.length ≤ 1000000) : PC Try.prog 18 [cP a l, cP b k] (fun r => r = .s (.bool (decide (a = b ∧ l = k)))) := by
  refine pc_end c18 mixed rfl ?_
  cases h : (a == b)
  · have : ¬ (a = b ∧ l = k) := fun q => by rw [q.1] at h; simp at h
    simp -implicitDefEqProofs [a18, F18, cP, h, this]
  · have hab : a = b := by simpa using h
    simp -implicitDefEqProofs [a18, F18, cP, h]
    refine wk_take ?_
    simp -implicitDefEqProofs
    refine wc_of (SameInts_pc l k hl) (by simp) (by simp) ?_
    rintro _ rfl
    simp -implicitDefEqProofs [hab]
theorem cV_cP (n : Int) (q : List Nat) : cV n q = cP n (zi q) := rfl
/-- a made coterie -/
structure Md (k : Nat) (Q : List Nat) : Prop where
  k1 : 1 ≤ k ∧ k ≤ 9
  cot : Cot k Q
  l64 : Q.length ≤ 64
section
variable {k : Nat} {Q : List Nat}
theorem Md.ok (h : Md k Q) : okB k (zi Q) = true := okB_t (cot_ok h.k1 h.cot h.l64)
theorem Md.cv (h : Md k Q) : Cv (k : Int) (zi Q) k Q := ⟨rfl, rfl, h.k1, h.cot, h.l64⟩
theorem Md.trZ (h : Md k Q) : trZ k (zi Q) = zi (trans k Q) := trZ_t (cot_ok h.k1 h.cot h.l64) h.cv
theorem zi_inj {A B : List Nat} (h : zi A = zi B) : A = B := by
  have := congrArg (List.map Int.toNat) h
  rwa [zi_toNat, zi_toNat] at this
theorem Md.dom (h : Md k Q) : domB k (zi Q) = !decide (trans k Q = Q) := by
  unfold domB
  rw [h.ok, h.trZ, Bool.true_and]
  congr 1
  by_cases e : trans k Q = Q
  · simp [e]
  · have : ¬ zi (trans k Q) = zi Q := fun q => e (zi_inj q)
    simp [e, this]
end
theorem trans_len {k : Nat} {Q : List Nat} (hk : k ≤ 9) : (trans k Q).length ≤ 512 := Nat.le_trans (List.length_filter_le _ _) (mall_len hk)
theorem trZ_len (n : Int) (q : List Int) : (trZ n q).length ≤ 1000 := by
  unfold trZ
  split
  · next h =>
    have := (okB_iff.1 h).n1
    rw [zi_length]
    have := trans_len (k := n.toNat) (Q := q.map Int.toNat) (by omega)
    omega
  · simp
theorem major_len64 : ∀ {n : Nat}, n ≤ 8 → (major n).length ≤ 64 := by
  intro n h
  have key : ∀ n : Fin 9, (majB n.val).length ≤ 64 := by decide +kernel
  have := key ⟨n, by omega⟩
  rwa [majB_eq] at this
theorem major_md {n : Nat} (h1 : 1 ≤ n) (h8 : n ≤ 8) : Md n (major n) := ⟨⟨h1, by omega⟩, major_cot h1, major_len64 h8⟩
theorem majE_0 {n : Nat} (h1 : 1 ≤ n) (h8 : n ≤ 8) : majE n = 0 := by
  unfold majE
  rw [if_pos (by omega), Int.toNat_natCast, if_pos (major_len64 h8)]
theorem Maj_pc {n : Nat} (h1 : 1 ≤ n) (h8 : n ≤ 8) : PC Try.prog 10 [.s (.int .i64 n)] (fun r => r = .tup [cP n (zi (major n)), .s (.int .i64 0)]) := by
  have := Majority_pc n
  rw [majE_0 h1 h8, Int.toNat_natCast] at this
  exact this
theorem rMaj_pc {n : Nat} (h1 : 1 ≤ n) (h8 : n ≤ 8) : PC Try.prog 11 [.s (.int .i64 n)] (fun r => r = .tup [cP n (zi (major n)), .s (.int .i64 0)]) := by
  have := rMajority_pc n
  rw [majE_0 h1 h8, Int.toNat_natCast] at this
  exact this
theorem redQ_md {k : Nat} (hk : 1 ≤ k ∧ k ≤ 9) {L : List Nat} (hp : properB k L = true) (hl : L.length ≤ 64) : Md k (reduce k L) := by
  obtain ⟨h1, h2, h3⟩ := properB_iff hp
  exact ⟨hk, reduce_cot h1 h2 h3, Nat.le_trans reduce_len hl⟩
theorem gridp {r c : Nat} (hr : 1 ≤ r ∧ r ≤ 3) (hc : 1 ≤ c ∧ c ≤ 2) : 1 ≤ r * c ∧ r * c ≤ 9 := by
  have h1 := Nat.mul_le_mul hr.2 hc.2
  have h2 := Nat.mul_le_mul hr.1 hc.1
  omega
theorem gr_0 {r c : Nat} (hr : 1 ≤ r ∧ r ≤ 3) (hc : 1 ≤ c ∧ c ≤ 2) : grE r c = 0 ∧ grQ r c = reduce (r * c) (grid r c) := by
  obtain ⟨h1, h2⟩ := grid_proper hr hc
  have h3 := gridp hr hc
  have h4 : ((r * c : Nat) : Int) ≤ 9 := by omega
  rw [Int.natCast_mul] at h4
  unfold grE grQ
  rw [if_pos ⟨by omega, by omega, h4⟩, Int.toNat_natCast, Int.toNat_natCast, ← Int.natCast_mul]
  exact ⟨redE_zi h3 h1 (by omega), redQ_zi _ _⟩
theorem Gr_pc {r c : Nat} (hr : 1 ≤ r ∧ r ≤ 3) (hc : 1 ≤ c ∧ c ≤ 2) : PC Try.prog 12 [.s (.int .i64 r), .s (.int .i64 c)] (fun q => q = .tup [cP ((r * c : Nat) : Int) (zi (reduce (r * c) (grid r c))), .s (.int .i64 0)]) := by
  have := Grid_pc r c
  rw [(gr_0 hr hc).1, (gr_0 hr hc).2, ← Int.natCast_mul] at this
  exact this
theorem rGr_pc {r c : Nat} (hr : 1 ≤ r ∧ r ≤ 3) (hc : 1 ≤ c ∧ c ≤ 2) : PC Try.prog 13 [.s (.int .i64 r), .s (.int .i64 c)] (fun q => q = .tup [cP ((r * c : Nat) : Int) (zi (reduce (r * c) (grid r c))), .s (.int .i64 0)]) := by
  have := rGrid_pc r c
  rw [(gr_0 hr hc).1, (gr_0 hr hc).2, ← Int.natCast_mul] at this
  exact this
theorem gr_md {r c : Nat} (hr : 1 ≤ r ∧ r ≤ 3) (hc : 1 ≤ c ∧ c ≤ 2) : Md (r * c) (reduce (r * c) (grid r c)) := by
  obtain ⟨h1, h2⟩ := grid_proper hr hc
  exact redQ_md (gridp hr hc) h1 (by omega)
def tQ (k : Nat) : List Nat := reduce (2 ^ k - 1) (below 3 0 (2 ^ k - 1))
theorem Tr_pc {k : Nat} (h : k = 1 ∨ k = 2 ∨ k = 3) : PC Try.prog 14 [.s (.int .i64 k)] (fun q => q = .tup [cP ((2 ^ k - 1 : Nat) : Int) (zi (tQ k)), .s (.int .i64 0)]) := by
  have := Tree_pc k
  have e1 : trE k = 0 := by unfold trE; rw [if_pos (by omega)]
  have e2 : trN k = 2 ^ k - 1 := by unfold trN; rw [Int.toNat_natCast]
  have e3 : trQ k = tQ k := by unfold trQ trL tQ; rw [e2]
  rw [e1, e2, e3] at this
  exact this
theorem rTr_pc {k : Nat} (h : k = 1 ∨ k = 2 ∨ k = 3) : PC Try.prog 15 [.s (.int .i64 k)] (fun q => q = .tup [cP ((2 ^ k - 1 : Nat) : Int) (zi (tQ k)), .s (.int .i64 0)]) := by
  have := rTree_pc k
  have e1 : trE k = 0 := by unfold trE; rw [if_pos (by omega)]
  have e2 : trN k = 2 ^ k - 1 := by unfold trN; rw [Int.toNat_natCast]
  have e3 : trQ k = tQ k := by unfold trQ trL tQ; rw [e2]
  rw [e1, e2, e3] at this
  exact this
theorem tr_md {k : Nat} (h : k = 1 ∨ k = 2 ∨ k = 3) : Md (2 ^ k - 1) (tQ k) := by
  have := tree_len h
  exact redQ_md (by rcases h with rfl | rfl | rfl <;> decide) (tree_proper h) (by omega)
theorem major3 : major 3 = [3, 5, 6] := by rw [← majB_eq]; decide +kernel
theorem grid22 : reduce (2 * 2) (grid 2 2) = [7, 11, 13, 14] := by rw [← redB_eq]; decide +kernel
theorem tree2 : tQ 2 = [3, 5, 6] := by unfold tQ; rw [← redB_eq]; decide +kernel
end Go.Proofs.Ytgaihedboifjoaa

namespace Go.Proofs.Ytgaihedboifjoaa
open Go.RowKit Go.Proofs

def e3 : List Int := zi [3, 5, 6]
theorem maj3_pc : PC Try.prog 10 [.s (.int .i64 3)] (fun r => r = .tup [cP 3 e3, .s (.int .i64 0)]) := by
  have := Maj_pc (n := 3) (by omega) (by omega)
  rw [major3] at this
  exact this
theorem gr22_pc : PC Try.prog 12 [.s (.int .i64 2), .s (.int .i64 2)] (fun r => r = .tup [cP 4 (zi [7, 11, 13, 14]), .s (.int .i64 0)]) := by
  have := Gr_pc (r := 2) (c := 2) (by omega) (by omega)
  rw [grid22] at this
  exact this
theorem tr2_pc : PC Try.prog 14 [.s (.int .i64 2)] (fun r => r = .tup [cP 3 e3, .s (.int .i64 0)]) := by
  have := Tr_pc (k := 2) (by omega)
  rw [tree2] at this
  exact this
theorem maj4_pc : PC Try.prog 10 [.s (.int .i64 4)] (fun r => r = .tup [cP 4 (zi (major 4)), .s (.int .i64 0)]) := Maj_pc (n := 4) (by omega) (by omega)
theorem md3 : Md 3 [3, 5, 6] := by have := major_md (n := 3) (by omega) (by omega); rwa [major3] at this
theorem dom3 : domB 3 e3 = false := by
  have h := md3.dom
  have e : trans 3 [3, 5, 6] = [3, 5, 6] := by have := (major_nd (n := 3) (by omega) (by omega)).2 (by omega); rwa [major3] at this
  rw [e] at h
  exact h.trans (by simp)
theorem dom4 : domB 4 (zi (major 4)) = true := by
  have h := (major_md (n := 4) (by omega) (by omega)).dom
  have e : ¬ trans 4 (major 4) = major 4 := fun q => by have := (major_nd (n := 4) (by omega) (by omega)).1 q; omega
  have h2 : domB 4 (zi (major 4)) = !decide (trans 4 (major 4) = major 4) := h
  rw [h2]
  simp [e]
theorem ok3 : okB 3 e3 = true := md3.ok
theorem av3 : availE 3 e3 6 = some 6 := by
  unfold availE
  rw [if_pos ok3]
  decide +kernel
set_option maxHeartbeats 16000000 in
theorem awake_pc : PC Try.prog 8 [] (fun r => r = .s (.bool true)) := by
  refine pc_end c8 mixed rfl ?_
  have z4 : ((zi (major 4)).length : Int) = (zi (major 4)).length := rfl
  have hV := Avail_pc 3 e3 6 (by decide)
  rw [av3] at hV
  have hS1 := SameInts_pc e3 [3, 5, 6] (by decide)
  rw [show decide (e3 = [3, 5, 6]) = true by decide] at hS1
  have hS2 := SameInts_pc (zi [7, 11, 13, 14]) [7, 11, 13, 14] (by decide)
  rw [show decide (zi [7, 11, 13, 14] = [7, 11, 13, 14]) = true by decide] at hS2
  have hS3 := SameInts_pc e3 e3 (by decide)
  rw [show decide (e3 = e3) = true by simp] at hS3
  have hD4 := Dom_pc 4 (zi (major 4)) (by have := major_len64 (n := 4) (by omega); rw [zi_length]; omega) (trZ_len _ _)
  rw [dom4] at hD4
  have hD3 := Dom_pc 3 e3 (by decide) (trZ_len _ _)
  rw [dom3] at hD3
  have hK := Valid_pc 3 e3 (by decide)
  rw [ok3] at hK
  have hM3 := maj3_pc
  have hT2 := tr2_pc
  have hM4 := maj4_pc
  have hG := gr22_pc
  generalize e3 = E at *
  generalize zi (major 4) = Q4 at *
  generalize zi [7, 11, 13, 14] = G at *
  simp -implicitDefEqProofs [a8, F8]
  refine wk_take ?_
  simp -implicitDefEqProofs
  refine wc_of hM3 (by simp) (by simp) ?_
  rintro _ rfl
  simp -implicitDefEqProofs [cP]
  refine wk_take ?_
  simp -implicitDefEqProofs
  refine wc_of hG (by simp) (by simp) ?_
  rintro _ rfl
  simp -implicitDefEqProofs [cP]
  refine wk_take ?_
  simp -implicitDefEqProofs
  refine wc_of hT2 (by simp) (by simp) ?_
  rintro _ rfl
  simp -implicitDefEqProofs [cP]
  refine wk_take ?_
  simp -implicitDefEqProofs
  refine wc_of hM4 (by simp) (by simp) ?_
  rintro _ rfl
  simp -implicitDefEqProofs [cP]
  refine wk_take ?_
  simp -implicitDefEqProofs
  refine wc_of hV (by simp [cP]) (by simp [cP]) ?_
  rintro _ rfl
  simp -implicitDefEqProofs [avR]
  refine wk_take ?_
  simp -implicitDefEqProofs
  refine wc_of hS1 (by simp [iv]) (by simp) ?_
  rintro _ rfl
  simp -implicitDefEqProofs
  refine wk_take ?_
  simp -implicitDefEqProofs
  refine wc_of hS2 (by simp [iv]) (by simp) ?_
  rintro _ rfl
  simp -implicitDefEqProofs
  refine wk_take ?_
  simp -implicitDefEqProofs
  refine wc_of hS3 (by simp) (by simp) ?_
  rintro _ rfl
  simp -implicitDefEqProofs
  refine wk_take ?_
  simp -implicitDefEqProofs
  refine wc_of hD4 (by simp [cP]) (by simp [cP]) ?_
  rintro _ rfl
  simp -implicitDefEqProofs
  refine wk_take ?_
  simp -implicitDefEqProofs
  refine wc_of hD3 (by simp [cP]) (by simp [cP]) ?_
  rintro _ rfl
  simp -implicitDefEqProofs
  refine wk_take ?_
  simp -implicitDefEqProofs
  refine wc_of hK (by simp [cP]) (by simp [cP]) ?_
  rintro _ rfl
  simp -implicitDefEqProofs
set_option maxHeartbeats 16000000 in
theorem Odd_pc (n : Nat) (hn : n < 256) : PC Try.prog 7 [.s (.int .u8 n)] (fun r => r = .s (.bool true)) := by
  refine pc_end c7 mixed rfl ?_
  obtain ⟨k, hk⟩ : ∃ k, k = 1 + n % 8 := ⟨_, rfl⟩
  obtain ⟨j, hj⟩ : ∃ j, j = 1 + n % 3 := ⟨_, rfl⟩
  have w0 : IntKind.i64.wrap (n : Int) = (n : Int) := wrap64 (by omega)
  have w1 : IntKind.i64.wrap (1 + (n : Int) % 8) = (k : Int) := by rw [wrap64 (by omega)]; omega
  have w2 : IntKind.i64.wrap (1 + (n : Int) % 3) = (j : Int) := by rw [wrap64 (by omega)]; omega
  have hM := Maj_pc (n := k) (by omega) (by omega)
  have hj3 : j = 1 ∨ j = 2 ∨ j = 3 := by omega
  have hT := Tr_pc hj3
  have hmd := major_md (n := k) (by omega) (by omega)
  have hD1 := Dom_pc k (zi (major k)) (by rw [zi_length]; have := hmd.l64; omega) (trZ_len _ _)
  have hnd := major_nd (n := k) (by omega) (by omega)
  have hd1 : domB k (zi (major k)) = (((k : Int) % 2) == 0) := by
    rw [hmd.dom]
    by_cases e : k % 2 = 1
    · have : ¬ (k : Int) % 2 = 0 := by omega
      rw [hnd.2 e]
      simp [this]
    · have h2 : (k : Int) % 2 = 0 := by omega
      have h3 : ¬ trans k (major k) = major k := fun q => e (hnd.1 q)
      simp [h2, h3]
  rw [hd1] at hD1
  have htd := tr_md hj3
  have hD2 := Dom_pc ((2 ^ j - 1 : Nat) : Int) (zi (tQ j)) (by rw [zi_length]; have := htd.l64; omega) (trZ_len _ _)
  have hd2 : domB ((2 ^ j - 1 : Nat) : Int) (zi (tQ j)) = false := by
    rw [htd.dom]
    have : trans (2 ^ j - 1) (tQ j) = tQ j := tree_nd hj3
    simp [this]
  rw [hd2] at hD2
  generalize zi (major k) = QA at *
  generalize zi (tQ j) = QB at *
  generalize ((2 ^ j - 1 : Nat) : Int) = J at *
  have m1 : Int.tmod (n : Int) 8 = (n : Int) % 8 := by rw [Int.tmod_eq_emod_of_nonneg (by omega)]
  have m2 : Int.tmod (n : Int) 3 = (n : Int) % 3 := by rw [Int.tmod_eq_emod_of_nonneg (by omega)]
  have m3 : Int.tmod (k : Int) 2 = (k : Int) % 2 := by rw [Int.tmod_eq_emod_of_nonneg (by omega)]
  have hA := awake_pc
  simp -implicitDefEqProofs [a7, F7, w0, m1, w1]
  refine wk_take ?_
  simp -implicitDefEqProofs
  refine wc_of hM (by simp) (by simp) ?_
  rintro _ rfl
  simp -implicitDefEqProofs [cP, w0, m2, w2]
  refine wk_take ?_
  simp -implicitDefEqProofs
  refine wc_of hT (by simp) (by simp) ?_
  rintro _ rfl
  simp -implicitDefEqProofs [cP]
  refine wk_take ?_
  simp -implicitDefEqProofs
  refine wc_of hA (by simp) (by simp) ?_
  rintro _ rfl
  simp -implicitDefEqProofs
  refine wk_take ?_
  simp -implicitDefEqProofs
  refine wc_of hD1 (by simp [cP]) (by simp [cP]) ?_
  rintro _ rfl
  simp -implicitDefEqProofs [m3]
  refine wk_take ?_
  simp -implicitDefEqProofs
  refine wc_of hD2 (by simp [cP]) (by simp [cP]) ?_
  rintro _ rfl
  simp -implicitDefEqProofs
end Go.Proofs.Ytgaihedboifjoaa

namespace Go.Proofs.Ytgaihedboifjoaa
open Go.RowKit Go.Proofs

/-- sets of some of v voters that meet -/
structure Mt (v : Nat) (L : List Nat) : Prop where
  r : ∀ s ∈ L, 1 ≤ s ∧ s < 2 ^ v
  m : ∀ s ∈ L, ∀ t ∈ L, s &&& t ≠ 0
theorem redE_mt {v : Nat} (hv : 1 ≤ v ∧ v ≤ 9) {L : List Nat} (h : Mt v L) (hne : L ≠ []) (hl : L.length ≤ 64) : redE v (zi L) = 0 := by
  unfold redE
  rw [if_pos ⟨by omega, by omega, fun e => hne (by
    have := congrArg List.length e
    simp at this
    exact this)⟩, zi_toNat, Int.toNat_natCast]
  rw [if_pos, if_pos, if_pos (Nat.le_trans reduce_len hl)]
  · unfold meetAll
    rw [List.all_eq_true]
    exact fun s hs => meets_iff.2 fun t ht => h.m s hs t ht
  · rw [List.all_eq_true]
    intro s hs
    simp only [zi, List.mem_map] at hs
    obtain ⟨a, ha, rfl⟩ := hs
    have := h.r a ha
    unfold inR
    exact decide_eq_true (by omega)
theorem mt_md {v : Nat} (hv : 1 ≤ v ∧ v ≤ 9) {L : List Nat} (h : Mt v L) (hne : L ≠ []) (hl : L.length ≤ 64) : Md v (reduce v L) := ⟨hv, reduce_cot h.r h.m hne, Nat.le_trans reduce_len hl⟩
theorem mt_snoc {v : Nat} {L : List Nat} (h : Mt v L) {s : Nat} (hs : 1 ≤ s ∧ s < 2 ^ v) (hm : ∀ t ∈ L, t &&& s ≠ 0) : Mt v (L ++ [s]) := by
  refine ⟨fun x hx => ?_, fun x hx y hy => ?_⟩
  · rcases List.mem_append.1 hx with q | q
    · exact h.r x q
    · simp at q; subst q; exact hs
  · rcases List.mem_append.1 hx with q | q <;> rcases List.mem_append.1 hy with q' | q'
    · exact h.m x q y q'
    · simp at q'; subst q'; exact hm x q
    · simp at q; subst q; rw [Nat.and_comm]; exact hm y q'
    · simp at q q'; subst q; subst q'; rw [Nat.and_self]; omega
def setS (v : Nat) (x : Int) : Nat := 1 + (x % ((2 ^ v - 1 : Nat) : Int)).toNat
def mtB (s t : Nat) : Bool := decide (t &&& s ≠ 0)
def stepS (v : Nat) (L : List Nat) (x : Int) : List Nat := if L.all (mtB (setS v x)) = true then L ++ [setS v x] else L
def setsOf (v : Nat) (l : List Int) : List Nat := (l.take 12).foldl (stepS v) []
theorem setS_rng {v : Nat} (hv : 2 ≤ v) (x : Int) : 1 ≤ setS v x ∧ setS v x < 2 ^ v := by
  have h1 : 2 ^ 2 ≤ 2 ^ v := Nat.pow_le_pow_right (by omega) hv
  unfold setS
  have h2 := Int.emod_nonneg x (b := ((2 ^ v - 1 : Nat) : Int)) (by omega)
  have h3 := Int.emod_lt_of_pos x (b := ((2 ^ v - 1 : Nat) : Int)) (by omega)
  omega
theorem stepS_mt {v : Nat} (hv : 2 ≤ v) {L : List Nat} (h : Mt v L) (x : Int) : Mt v (stepS v L x) := by
  unfold stepS
  split
  · next ha =>
    refine mt_snoc h (setS_rng hv x) fun t ht => ?_
    have := List.all_eq_true.1 ha t ht
    simpa [mtB] using this
  · exact h
theorem stepS_len (v : Nat) (L : List Nat) (x : Int) : (stepS v L x).length ≤ L.length + 1 := by unfold stepS; split <;> simp
theorem foldS {v : Nat} (hv : 2 ≤ v) : ∀ (l : List Int) (L : List Nat), Mt v L → Mt v (l.foldl (stepS v) L) ∧ (l.foldl (stepS v) L).length ≤ L.length + l.length
  | [], L, h => ⟨h, by simp⟩
  | x :: r, L, h => by
    obtain ⟨a, b⟩ := foldS hv r (stepS v L x) (stepS_mt hv h x)
    have := stepS_len v L x
    refine ⟨a, ?_⟩
    simp only [List.foldl_cons, List.length_cons]
    omega
theorem fold_take1 {l : List Int} {i : Nat} (h : i < l.length) (v : Nat) : (l.take (i + 1)).foldl (stepS v) [] = stepS v ((l.take i).foldl (stepS v) []) l[i] := by
  rw [List.take_add_one, List.getElem?_eq_getElem h, List.foldl_append]; rfl
theorem mt_nil (v : Nat) : Mt v [] := ⟨fun _ h => by simp at h, fun _ h => by simp at h⟩
theorem mt_one {v : Nat} (hv : 2 ≤ v) : Mt v [1] := mt_snoc (mt_nil v) ⟨Nat.le_refl _, by have : 2 ^ 2 ≤ 2 ^ v := Nat.pow_le_pow_right (by omega) hv; omega⟩ fun t h => by simp at h
def setsE (v : Nat) (l : List Int) : List Nat := if setsOf v l = [] then [1] else setsOf v l
theorem setsE_mt {v : Nat} (hv : 2 ≤ v) (l : List Int) : Mt v (setsE v l) ∧ setsE v l ≠ [] ∧ (setsE v l).length ≤ 12 := by
  obtain ⟨a, b⟩ := foldS hv (l.take 12) [] (mt_nil v)
  unfold setsE
  split
  · exact ⟨mt_one hv, by simp, by simp⟩
  · next h => exact ⟨a, h, by have : (l.take 12).length ≤ 12 := by simp; omega
                              have h2 : (setsOf v l).length ≤ ([] : List Nat).length + (l.take 12).length := b
                              simp only [List.length_nil] at h2
                              omega⟩
/-- what made makes of numbers -/
def mdP (n : Int) (l : List Int) : Nat × List Nat :=
  let k := (n % 24).toNat
  if k < 8 then (1 + k, major (1 + k))
  else if k < 14 then ((1 + k % 3) * (1 + k % 2), reduce ((1 + k % 3) * (1 + k % 2)) (grid (1 + k % 3) (1 + k % 2)))
  else if k < 17 then (2 ^ (k - 13) - 1, tQ (k - 13))
  else (2 + k % 5, reduce (2 + k % 5) (setsE (2 + k % 5) l))
theorem mdP_md (n : Int) (l : List Int) : Md (mdP n l).1 (mdP n l).2 := by
  unfold mdP
  have h1 := Int.emod_nonneg n (b := 24) (by omega)
  have h2 := Int.emod_lt_of_pos n (b := 24) (by omega)
  generalize hk : (n % 24).toNat = k
  have hk' : k < 24 := by omega
  simp only
  split
  · exact major_md (by omega) (by omega)
  · split
    · exact gr_md (by omega) (by omega)
    · split
      · exact tr_md (by omega)
      · obtain ⟨a, b, c⟩ := setsE_mt (v := 2 + k % 5) (by omega) l
        exact mt_md (by omega) a b (by omega)
def maS (n k v : Nat) (l : List Int) (i : Nat) : List Nat := (l.take i).foldl (stepS v) []
def maO (n : Int) (k v : Nat) (l : List Int) (m : Nat) (S : St) : Prop := ∃ i : Nat, i + m = 12 ∧ i ≤ l.length ∧ S = ⟨tmL [(4, .ptr 0 0), (6, .ptr 1 0)], [.s (.int .i64 n), .list 1 (iv l), .s (.int .i64 k), .s (.bool false), .s (.bool false), .s (.bool false), .s (.int .i64 v), .own true 3 1 (iv (zi ((l.take i).foldl (stepS v) []))), .s (.int .i64 i), .no, .no, .no], [[.s (.int .i64 0), .s (.slice none 0 0)], [.s (.int .i64 0), .s (.slice none 0 0)]], 0⟩
def maI (n : Int) (k v : Nat) (l : List Int) (i s : Nat) (L : List Nat) (m : Nat) (S : St) : Prop := ∃ j : Nat, j + m = L.length ∧ S = ⟨tmL [(4, .ptr 0 0), (6, .ptr 1 0), (38, .view (.var 7) 0), (39, .s (.int .i64 L.length)), (40, .s (.int .i64 j))], [.s (.int .i64 n), .list 1 (iv l), .s (.int .i64 k), .s (.bool false), .s (.bool false), .s (.bool false), .s (.int .i64 v), .own true 3 1 (iv (zi L)), .s (.int .i64 i), .s (.int .i64 s), .s (.bool ((L.take j).all (mtB s))), .no], [[.s (.int .i64 0), .s (.slice none 0 0)], [.s (.int .i64 0), .s (.slice none 0 0)]], 0⟩
set_option maxHeartbeats 16000000 in
theorem made_pc (n : Int) (l : List Int) (hl : l.length ≤ 1000) : PC Try.prog 21 [.s (.int .i64 n), .list 1 (iv l)] (fun r => r = cP (mdP n l).1 (zi (mdP n l).2)) := by
  refine pc_end c21 mixed rfl ?_
  have h1 := Int.emod_nonneg n (b := 24) (by omega)
  have h2 := Int.emod_lt_of_pos n (b := 24) (by omega)
  have hMod := Mod_pc n 24 (by omega) (by omega)
  unfold mdP
  obtain ⟨k, hk⟩ : ∃ k : Nat, n % 24 = k := ⟨(n % 24).toNat, by omega⟩
  rw [hk] at hMod
  have hkk : (n % 24).toNat = k := by omega
  simp only [hkk]
  have hk24 : k < 24 := by omega
  simp -implicitDefEqProofs [a21, F21]
  refine wk_take ?_
  simp -implicitDefEqProofs
  refine wc_of hMod (by simp) (by simp) ?_
  rintro _ rfl
  by_cases c1 : k < 8
  · have g1 : (k : Int) < 8 := by omega
    have w1 : IntKind.i64.wrap (1 + (k : Int)) = ((1 + k : Nat) : Int) := by rw [wrap64 (by omega)]; omega
    have hM := rMaj_pc (n := 1 + k) (by omega) (by omega)
    rw [if_pos c1]
    generalize zi (major (1 + k)) = Q at hM ⊢
    generalize ((1 + k : Nat) : Int) = K at w1 hM ⊢
    simp -implicitDefEqProofs [g1, w1]
    refine wk_take ?_
    simp -implicitDefEqProofs
    refine wc_of hM (by simp) (by simp) ?_
    rintro _ rfl
    simp -implicitDefEqProofs [cP]
  have g1 : ¬ (k : Int) < 8 := by omega
  rw [if_neg c1]
  by_cases c2 : k < 14
  · have g2 : (k : Int) < 14 := by omega
    have w1 : IntKind.i64.wrap (1 + (k : Int) % 3) = ((1 + k % 3 : Nat) : Int) := by rw [wrap64 (by omega)]; omega
    have w2 : IntKind.i64.wrap (1 + (k : Int) % 2) = ((1 + k % 2 : Nat) : Int) := by rw [wrap64 (by omega)]; omega
    have m1 : Int.tmod (k : Int) 3 = (k : Int) % 3 := by rw [Int.tmod_eq_emod_of_nonneg (by omega)]
    have m2 : Int.tmod (k : Int) 2 = (k : Int) % 2 := by rw [Int.tmod_eq_emod_of_nonneg (by omega)]
    have hM := rGr_pc (r := 1 + k % 3) (c := 1 + k % 2) (by omega) (by omega)
    rw [if_pos c2]
    generalize zi (reduce ((1 + k % 3) * (1 + k % 2)) (grid (1 + k % 3) (1 + k % 2))) = Q at hM ⊢
    generalize (((1 + k % 3) * (1 + k % 2) : Nat) : Int) = K at hM ⊢
    generalize ((1 + k % 3 : Nat) : Int) = A at w1 hM ⊢
    generalize ((1 + k % 2 : Nat) : Int) = B at w2 hM ⊢
    simp -implicitDefEqProofs [g1, g2, m1, m2, w1, w2]
    refine wk_take ?_
    simp -implicitDefEqProofs
    refine wc_of hM (by simp) (by simp) ?_
    rintro _ rfl
    simp -implicitDefEqProofs [cP]
  have g2 : ¬ (k : Int) < 14 := by omega
  rw [if_neg c2]
  by_cases c3 : k < 17
  · have g3 : (k : Int) < 17 := by omega
    have w1 : IntKind.i64.wrap ((k : Int) - 13) = ((k - 13 : Nat) : Int) := by rw [wrap64 (by omega)]; omega
    have hM := rTr_pc (k := k - 13) (by omega)
    rw [if_pos c3]
    generalize zi (tQ (k - 13)) = Q at hM ⊢
    generalize ((2 ^ (k - 13) - 1 : Nat) : Int) = K at hM ⊢
    generalize ((k - 13 : Nat) : Int) = A at w1 hM
    simp -implicitDefEqProofs [g1, g2, g3, w1]
    refine wk_take ?_
    simp -implicitDefEqProofs
    refine wc_of hM (by simp) (by simp) ?_
    rintro _ rfl
    simp -implicitDefEqProofs [cP]
  have g3 : ¬ (k : Int) < 17 := by omega
  rw [if_neg c3]
  obtain ⟨v, hv⟩ : ∃ v, v = 2 + k % 5 := ⟨_, rfl⟩
  rw [← hv]
  have w1 : IntKind.i64.wrap (2 + (k : Int) % 5) = (v : Int) := by rw [wrap64 (by omega)]; omega
  have m1 : Int.tmod (k : Int) 5 = (k : Int) % 5 := by rw [Int.tmod_eq_emod_of_nonneg (by omega)]
  have hv2 : 2 ≤ v := by omega
  have hv6 : v ≤ 6 := by omega
  obtain ⟨eM, eN, eL⟩ := setsE_mt hv2 l
  have hR := rReduce_pc v (zi (setsE v l)) (by rw [zi_length]; omega)
  rw [redE_mt (by omega) eM eN (by omega), redQ_zi] at hR
  have es := shl1 (n := v) (by omega)
  have v0 : ¬ (v : Int) < 0 := by omega
  have hp4 : 2 ^ 2 ≤ 2 ^ v := Nat.pow_le_pow_right (by omega) hv2
  have hp6 : 2 ^ v ≤ 2 ^ 6 := Nat.pow_le_pow_right (by omega) hv6
  have ws : IntKind.i64.wrap (((2 ^ v : Nat) : Int) - 1) = ((2 ^ v - 1 : Nat) : Int) := by rw [wrap64 (by omega)]; omega
  have hR : PC Try.prog 17 [.s (.int .i64 v), .list 1 (iv (zi (setsE v l)))] (fun r => r = .tup [cP v (zi (reduce v (setsE v l))), .s (.int .i64 0)]) := hR
  generalize zi (reduce v (setsE v l)) = Q at hR ⊢
  obtain ⟨y, hy⟩ : ∃ y : Int, y = ((2 ^ v : Nat) : Int) := ⟨_, rfl⟩
  obtain ⟨z, hz⟩ : ∃ z : Int, z = ((2 ^ v - 1 : Nat) : Int) := ⟨_, rfl⟩
  rw [← hy] at es ws
  rw [← hz] at ws
  simp -implicitDefEqProofs [g1, g2, g3, m1, w1]
  refine w_rounds [4, 6] [9, 10, 11] 2 (by decide) (maO n k v l) 12 ⟨by simp, 0, by simp, by omega, by simp⟩ ?_
  rintro m S ⟨i, hi, hil, rfl⟩
  have hLl := (foldS hv2 (l.take i) [] (mt_nil v)).2
  have hLm := (foldS hv2 (l.take i) [] (mt_nil v)).1
  generalize hL : (l.take i).foldl (stepS v) [] = L at hLl hLm ⊢
  have hL := hL.symm
  have hL12 : L.length ≤ 12 := by simp at hLl; omega
  by_cases e1 : i < l.length
  case neg =>
    have x1 : ¬ (i : Int) < (l.length : Int) := by omega
    have hso : setsOf v l = L := by
      rw [hL]
      unfold setsOf
      congr 1
      rw [List.take_of_length_le (by omega), List.take_of_length_le (by omega)]
    have hse : setsE v l = if L = [] then [1] else L := by unfold setsE; rw [hso]
    rw [hse] at hR
    by_cases h0 : L = []
    · rw [if_pos h0] at hR
      simp -implicitDefEqProofs [x1, h0]
      refine wk_take ?_
      simp -implicitDefEqProofs
      refine wc_of hR (by simp [iv, zi]) (by simp [iv, zi]) ?_
      rintro _ rfl
      simp -implicitDefEqProofs [cP]
    · rw [if_neg h0] at hR
      have h0' : ((L.length : Int) == 0) = false := by
        have : L.length ≠ 0 := fun h => h0 (List.eq_nil_of_length_eq_zero h)
        simp; exact h0
      simp -implicitDefEqProofs [x1, h0, h0']
      refine wk_take ?_
      simp -implicitDefEqProofs
      refine wc_of hR (by simp) (by simp) ?_
      rintro _ rfl
      simp -implicitDefEqProofs [cP]
  have x1 : (i : Int) < (l.length : Int) := by omega
  by_cases e2 : i < 12
  case neg =>
    have x2 : ¬ (i : Int) < 12 := by omega
    have hso : setsOf v l = L := by
      rw [hL]
      unfold setsOf
      congr 1
      rw [show i = 12 by omega]
    have hse : setsE v l = if L = [] then [1] else L := by unfold setsE; rw [hso]
    rw [hse] at hR
    by_cases h0 : L = []
    · rw [if_pos h0] at hR
      simp -implicitDefEqProofs [x1, x2, h0]
      refine wk_take ?_
      simp -implicitDefEqProofs
      refine wc_of hR (by simp [iv, zi]) (by simp [iv, zi]) ?_
      rintro _ rfl
      simp -implicitDefEqProofs [cP]
    · rw [if_neg h0] at hR
      have h0' : ((L.length : Int) == 0) = false := by
        have : L.length ≠ 0 := fun h => h0 (List.eq_nil_of_length_eq_zero h)
        simp; exact h0
      simp -implicitDefEqProofs [x1, x2, h0, h0']
      refine wk_take ?_
      simp -implicitDefEqProofs
      refine wc_of hR (by simp) (by simp) ?_
      rintro _ rfl
      simp -implicitDefEqProofs [cP]
  have x2 : (i : Int) < 12 := by omega
  have i0 : ¬ (i : Int) < 0 := by omega
  have wi := wrap64 (n := (i : Int) + 1) (by omega)
  obtain ⟨s, hs⟩ : ∃ s, s = setS v l[i] := ⟨_, rfl⟩
  have hsr := setS_rng hv2 l[i]
  rw [← hs] at hsr
  have hz3 : 3 ≤ z := by omega
  have hMd := Mod_pc l[i] z (by omega) (by omega)
  have b1 := Int.emod_nonneg l[i] (b := z) (by omega)
  have b2 := Int.emod_lt_of_pos l[i] (b := z) (by omega)
  have w5 : IntKind.i64.wrap (1 + l[i] % z) = (s : Int) := by
    rw [wrap64 (by omega), hs]
    unfold setS
    rw [← hz]
    omega
  have hft := fold_take1 e1 v
  rw [← hL] at hft
  have hst : stepS v L l[i] = if L.all (mtB s) = true then L ++ [s] else L := by unfold stepS; rw [← hs]
  rw [hst] at hft
  simp -implicitDefEqProofs [x1, x2, i0, iv_get e1, v0, es, ws]
  refine wkd_take ?_
  simp -implicitDefEqProofs
  refine wcd_of hMd (by simp) (by simp) ?_
  simp -implicitDefEqProofs [w5]
  refine w_roundsx [4, 6, 38, 39, 40] [11] 2 (by decide) (maI n k v l i s L) L.length ⟨by simp, 0, by simp, by simp⟩ ?_
  rintro m2 S ⟨j, hj, rfl⟩
  by_cases hjm : j < L.length
  · have j1 : (j : Int) < (L.length : Int) := by omega
    have j0 : ¬ (j : Int) < 0 := by omega
    have wj := wrap64 (n := (j : Int) + 1) (by omega)
    have hlt : L[j] < 512 := by have := hLm.r L[j] (List.getElem_mem hjm); omega
    have ha : bits .and .i64 (L[j] : Int) (s : Int) = ((L[j] &&& s : Nat) : Int) := band_nat hlt (by omega)
    have ht := all_take1 hjm (mtB s)
    have hmt : mtB s L[j] = !(((L[j] &&& s : Nat) : Int) == 0) := by
      unfold mtB
      by_cases h : L[j] &&& s = 0
      · simp [h]
      · have : ¬ ((L[j] &&& s : Nat) : Int) = 0 := by omega
        simp [h]
    rw [hmt] at ht
    generalize L[j] &&& s = w at ha ht
    have hwj : (iv (zi L))[j]'(by simpa using hjm) = .s (.int .i64 (L[j] : Int)) := by simp [iv, zi]
    cases bb : (L.take j).all (mtB s)
    · rw [bb, Bool.false_and] at ht
      simp -implicitDefEqProofs [j1, j0, hjm, hwj, wj]
      exact ⟨m2 - 1, by omega, j + 1, by omega, by rw [ht]; simp⟩
    · rw [bb, Bool.true_and] at ht
      simp -implicitDefEqProofs [j1, j0, hjm, hwj, ↓binS_and, ha, wj]
      exact ⟨m2 - 1, by omega, j + 1, by omega, by rw [ht]; simp [bne]⟩
  · have h6 : j = L.length := by omega
    subst h6
    have b5 : L.length + 1 ≤ maxLen ∧ (L.length + 1) * 8 ≤ maxBytes := by simp [maxLen, maxBytes]; omega
    rw [List.take_of_length_le (Nat.le_refl _)]
    cases bb : L.all (mtB s)
    · rw [bb, if_neg (by simp)] at hft
      simp -implicitDefEqProofs [wi]
      exact ⟨m - 1, by omega, i + 1, by omega, by omega, by rw [hft]; simp⟩
    · rw [bb, if_pos rfl] at hft
      simp -implicitDefEqProofs [wi, b5]
      exact ⟨m - 1, by omega, i + 1, by omega, by omega, by rw [hft]; simp [iv, zi]⟩
end Go.Proofs.Ytgaihedboifjoaa

namespace Go.Proofs.Ytgaihedboifjoaa
open Go.RowKit Go.Proofs

def anN (k : IntKind) (a b : Int) : Int := k.wrap (BitVec.ofInt k.bits a &&& ~~~ BitVec.ofInt k.bits b).toNat
theorem binS_andNot (k : IntKind) (a b : Int) : binS .andNot (.int k a) (.int k b) = some (.int k (anN k a b)) := by simp only [binS, if_true]; rfl
theorem anN_all : ∀ k : Fin 10, ∀ s : Fin 512, s.val < 2 ^ k.val → anN .i64 ((2 ^ k.val - 1 : Nat) : Int) ((s.val : Nat) : Int) = ((compl k.val s.val : Nat) : Int) := by decide +kernel
theorem compl_lt {k s : Nat} (h : s < 2 ^ k) : compl k s < 2 ^ k := by
  unfold compl
  exact Nat.xor_lt_two_pow (by have : 1 ≤ 2 ^ k := Nat.pow_pos (by omega); omega) h
theorem avail_some {up : Nat} (hu : up < 512) {Q : List Nat} (hQ : ∀ t ∈ Q, t < 512) : (avail up (zi Q)).isSome = true ↔ ∃ q ∈ Q, Sub q up := by
  induction Q with
  | nil => simp [avail, zi]
  | cons x l ih =>
    have ih := ih fun t ht => hQ t (by simp [ht])
    have hx := hQ x (by simp)
    have e : zi (x :: l) = (x : Int) :: zi l := rfl
    rw [e]
    simp only [avail]
    rw [band_nat hx hu]
    by_cases h : x &&& up = x
    · simp [h, Sub]
    · have : ¬ (((x &&& up : Nat) : Int) == (x : Int)) = true := by simp; omega
      rw [if_neg this, ih]
      simp [Sub, h]
theorem dec_of {p : Prop} [Decidable p] {b : Bool} (h : b = true ↔ p) : b = decide p := by
  by_cases q : p
  · rw [h.2 q]; simp [q]
  · cases b
    · simp [q]
    · exact absurd (h.1 rfl) q
set_option maxHeartbeats 16000000 in
theorem Halves_pc (n up : Int) (l : List Int) : PC Try.prog 6 [.s (.int .i64 n), .s (.int .i64 up), .list 1 (iv l)] (fun r => r = .s (.bool true)) := by
  refine pc_end c6 mixed rfl ?_
  by_cases h30 : (30 : Int) < (l.length : Int)
  · simp -implicitDefEqProofs [a6, F6, h30]
    refine wk_take ?_
    simp -implicitDefEqProofs
    refine wc_of awake_pc (by simp) (by simp) ?_
    rintro _ rfl
    simp -implicitDefEqProofs
  have hmd := mdP_md n l
  have hmade := made_pc n l (by omega)
  generalize (mdP n l).1 = k at *
  generalize (mdP n l).2 = Q at *
  have hk := hmd.k1
  have hk9 : 2 ^ k ≤ 2 ^ 9 := Nat.pow_le_pow_right (by omega) hk.2
  have hk1 : 1 ≤ 2 ^ k := Nat.pow_pos (by omega)
  have es := shl1 (n := k) (by omega)
  have k0 : ¬ (k : Int) < 0 := by omega
  have ws : IntKind.i64.wrap (((2 ^ k : Nat) : Int) - 1) = ((2 ^ k - 1 : Nat) : Int) := by rw [wrap64 (by omega)]; omega
  have wt : IntKind.i64.wrap (((2 ^ k - 1 : Nat) : Int) + 1) = ((2 ^ k : Nat) : Int) := by rw [wrap64 (by omega)]; omega
  have hM := Mod_pc up ((2 ^ k : Nat) : Int) (by omega) (by omega)
  obtain ⟨s, hs⟩ : ∃ s : Nat, up % ((2 ^ k : Nat) : Int) = s := ⟨(up % ((2 ^ k : Nat) : Int)).toNat, by
    have := Int.emod_nonneg up (b := ((2 ^ k : Nat) : Int)) (by omega); omega⟩
  have hsk : s < 2 ^ k := by
    have := Int.emod_lt_of_pos up (b := ((2 ^ k : Nat) : Int)) (by omega)
    omega
  rw [hs] at hM
  have hc := hmd.cv
  have hA1 := Avail_pc k (zi Q) s (by rw [zi_length]; have := hmd.l64; omega)
  have hcl := compl_lt hsk
  have hA2 := Avail_pc k (zi Q) (compl k s) (by rw [zi_length]; have := hmd.l64; omega)
  have hE1 : availE k (zi Q) s = avail s (zi Q) := by unfold availE; rw [if_pos hmd.ok]
  have hE2 : availE k (zi Q) (compl k s) = avail (compl k s) (zi Q) := by unfold availE; rw [if_pos hmd.ok]
  rw [hE1] at hA1
  rw [hE2] at hA2
  have hS1 := avail_some (up := s) (by omega) hc.lt
  have hS2 := avail_some (up := compl k s) (by omega) hc.lt
  have han := anN_all ⟨k, by omega⟩ ⟨s, by omega⟩ hsk
  have hD := Dom_pc k (zi Q) (by rw [zi_length]; have := hmd.l64; omega) (trZ_len _ _)
  rw [hmd.dom] at hD
  have hhalf := hmd.cot.half hsk
  have hhalf' := fun h => hmd.cot.half' h hsk
  have hnb : ¬ ((avail s (zi Q)).isSome = true ∧ (avail (compl k s) (zi Q)).isSome = true) := fun h => hhalf ⟨hS1.1 h.1, hS2.1 h.2⟩
  have hor : trans k Q = Q → (avail s (zi Q)).isSome = true ∨ (avail (compl k s) (zi Q)).isSome = true := fun h => (hhalf' h).elim (fun q => .inl (hS1.2 q)) (fun q => .inr (hS2.2 q))
  clear hS1 hS2 hhalf hhalf' hE1 hE2 hc
  simp only [avR] at hA1 hA2
  generalize hdd : decide (trans k Q = Q) = dd at hD
  have hor : dd = true → (avail s (zi Q)).isSome = true ∨ (avail (compl k s) (zi Q)).isSome = true := fun h => hor (by rw [← hdd] at h; simpa using h)
  generalize (avail s (zi Q)).isSome = A at *
  generalize (avail (compl k s) (zi Q)).isSome = B at *
  generalize (avail s (zi Q)).getD 0 = a0 at *
  generalize (avail (compl k s) (zi Q)).getD 0 = b0 at *
  have han' : anN .i64 ((2 ^ k - 1 : Nat) : Int) (s : Int) = ((compl k s : Nat) : Int) := han
  clear han
  generalize ((compl k s : Nat) : Int) = cs at *
  generalize ((2 ^ k - 1 : Nat) : Int) = z at *
  generalize ((2 ^ k : Nat) : Int) = y at *
  generalize zi Q = qs at *
  simp -implicitDefEqProofs [a6, F6, h30]
  refine wk_take ?_
  simp -implicitDefEqProofs
  refine wc_of hmade (by simp) (by simp) ?_
  rintro _ rfl
  simp -implicitDefEqProofs [cP, k0, es, ws, wt]
  refine wk_take ?_
  simp -implicitDefEqProofs
  refine wc_of hM (by simp) (by simp) ?_
  rintro _ rfl
  simp -implicitDefEqProofs
  refine wk_take ?_
  simp -implicitDefEqProofs
  refine wc_of hA1 (by simp [cP]) (by simp [cP]) ?_
  rintro _ rfl
  simp -implicitDefEqProofs [↓binS_andNot, han']
  refine wk_take ?_
  simp -implicitDefEqProofs
  refine wc_of hA2 (by simp [cP]) (by simp [cP]) ?_
  rintro _ rfl
  have hawake := awake_pc
  cases A <;> cases B
  case true.true => exact absurd ⟨rfl, rfl⟩ hnb
  all_goals
    simp -implicitDefEqProofs
    refine wk_take ?_
    simp -implicitDefEqProofs
    refine wc_of hawake (by simp) (by simp) ?_
    rintro _ rfl
    simp -implicitDefEqProofs
    refine wk_take ?_
    simp -implicitDefEqProofs
    refine wc_of hD (by simp [cP]) (by simp [cP]) ?_
    rintro _ rfl
    cases dd
    · simp -implicitDefEqProofs
    · first
      | (simp -implicitDefEqProofs; done)
      | exact absurd (hor rfl) (by simp)
def seO (n : Int) (k : Nat) (l q t : List Int) (m : Nat) (S : St) : Prop := ∃ i : Nat, i + m = q.length ∧ S = ⟨tmL [(5, .ptr 0 0), (25, .list 1 (iv q)), (26, .s (.int .i64 q.length)), (27, .s (.int .i64 i))], [.s (.int .i64 n), .list 1 (iv l), .s (.bool false), .list 1 (iv t), .no, .no, .no], [[.s (.int .i64 k), .list 1 (iv q)]], 0⟩
def seI (n : Int) (k : Nat) (l q t : List Int) (i : Nat) (x : Int) (m : Nat) (S : St) : Prop := ∃ j : Nat, j + m = t.length ∧ S = ⟨tmL [(5, .ptr 0 0), (25, .list 1 (iv q)), (26, .s (.int .i64 q.length)), (27, .s (.int .i64 i)), (31, .list 1 (iv t)), (32, .s (.int .i64 t.length)), (33, .s (.int .i64 j))], [.s (.int .i64 n), .list 1 (iv l), .s (.bool false), .list 1 (iv t), .s (.int .i64 x), .s (.bool ((t.take j).any (inA x))), .no], [[.s (.int .i64 k), .list 1 (iv q)]], 0⟩
set_option maxHeartbeats 16000000 in
theorem Self_pc (n : Int) (l : List Int) : PC Try.prog 5 [.s (.int .i64 n), .list 1 (iv l)] (fun r => r = .s (.bool true)) := by
  refine pc_end c5 mixed rfl ?_
  have hawake := awake_pc
  by_cases h30 : (30 : Int) < (l.length : Int)
  · simp -implicitDefEqProofs [a5, F5, h30]
    refine wk_take ?_
    simp -implicitDefEqProofs
    refine wc_of hawake (by simp) (by simp) ?_
    rintro _ rfl
    simp -implicitDefEqProofs
  have hmd := mdP_md n l
  have hmade := made_pc n l (by omega)
  generalize (mdP n l).1 = k at *
  generalize (mdP n l).2 = Q at *
  have hk := hmd.k1
  have hql : (zi Q).length ≤ 64 := by rw [zi_length]; exact hmd.l64
  have hV := Valid_pc k (zi Q) (by omega)
  rw [hmd.ok] at hV
  have hT := Trans_pc k (zi Q) (by omega)
  rw [hmd.trZ] at hT
  have hD := Dom_pc k (zi Q) (by omega) (trZ_len _ _)
  rw [hmd.dom] at hD
  have htl : (zi (trans k Q)).length ≤ 512 := by rw [zi_length]; exact trans_len hk.2
  have hS := SameInts_pc (zi (trans k Q)) (zi Q) (by omega)
  have hlt := hmd.cv.lt
  have hany : ∀ x ∈ zi Q, (zi (trans k Q)).any (inA x) = true := fun x hx => by
    obtain ⟨q, hq, rfl⟩ := List.mem_map.1 hx
    obtain ⟨t, ht, hsub⟩ := has_trans (hmd.cot.self hq)
    have ht5 := (mall_lt hk.2 (trans_mem.1 ht).1).2
    rw [List.any_eq_true]
    refine ⟨(t : Int), zi_mem.2 ht, ?_⟩
    unfold inA
    rw [band_nat ht5 (hlt q hq)]
    unfold Sub at hsub
    simp [hsub]
  have hde : decide (zi (trans k Q) = zi Q) = decide (trans k Q = Q) := by
    by_cases e : trans k Q = Q
    · simp [e]
    · have : ¬ zi (trans k Q) = zi Q := fun q => e (zi_inj q)
      simp [e, this]
  rw [hde] at hS
  generalize decide (trans k Q = Q) = dd at *
  clear hde hlt
  generalize zi (trans k Q) = t at *
  generalize zi Q = q at *
  simp -implicitDefEqProofs [a5, F5, h30]
  refine wk_take ?_
  simp -implicitDefEqProofs
  refine wc_of hmade (by simp) (by simp) ?_
  rintro _ rfl
  simp -implicitDefEqProofs [cP]
  refine wk_take ?_
  simp -implicitDefEqProofs
  refine wc_of hV (by simp [cP]) (by simp [cP]) ?_
  rintro _ rfl
  simp -implicitDefEqProofs
  refine wk_take ?_
  simp -implicitDefEqProofs
  refine wc_of hT (by simp [cP]) (by simp [cP]) ?_
  rintro _ rfl
  simp -implicitDefEqProofs
  refine w_rounds [5, 25, 26, 27] [4, 5, 6] 1 (by decide) (seO n k l q t) q.length ⟨by simp, 0, by simp, by simp⟩ ?_
  rintro m S ⟨i, hi, rfl⟩
  by_cases hm : i < q.length
  · have i1 : (i : Int) < (q.length : Int) := by omega
    have i0 : ¬ (i : Int) < 0 := by omega
    have wi := wrap64 (n := (i : Int) + 1) (by omega)
    have hA := hany q[i] (List.getElem_mem hm)
    simp -implicitDefEqProofs [i1, i0, iv_get hm]
    refine w_rounds [5, 25, 26, 27, 31, 32, 33] [6] 1 (by decide) (seI n k l q t i q[i]) t.length ⟨by simp, 0, by simp, by simp⟩ ?_
    rintro m2 S ⟨j, hj, rfl⟩
    by_cases hjm : j < t.length
    · have j1 : (j : Int) < (t.length : Int) := by omega
      have j0 : ¬ (j : Int) < 0 := by omega
      have wj := wrap64 (n := (j : Int) + 1) (by omega)
      have ht := any_take1 hjm (inA q[i])
      have hin : inA q[i] t[j] = (bits .and .i64 t[j] q[i] == t[j]) := rfl
      cases b1 : (t.take j).any (inA q[i]) <;> cases b2 : (bits .and .i64 t[j] q[i] == t[j]) <;> rw [b1, hin, b2] at ht <;> simp -implicitDefEqProofs [j1, j0, iv_get hjm, ↓binS_and, b2, wj] <;> exact ⟨m2 - 1, by omega, j + 1, by omega, by rw [ht]; simp⟩
    · have h6 : j = t.length := by omega
      subst h6
      rw [List.take_of_length_le (Nat.le_refl _), hA]
      simp -implicitDefEqProofs [wi]
      exact ⟨m - 1, by omega, i + 1, by omega, by simp⟩
  have h6 : i = q.length := by omega
  subst h6
  simp -implicitDefEqProofs
  refine wkd_take ?_
  simp -implicitDefEqProofs
  refine wcd_of hawake (by simp) (by simp) ?_
  simp -implicitDefEqProofs
  refine wkd_take ?_
  simp -implicitDefEqProofs
  refine wcd_of hD (by simp [cP]) (by simp [cP]) ?_
  simp -implicitDefEqProofs
  refine wkd_take ?_
  simp -implicitDefEqProofs
  refine wcd_of hS (by simp) (by simp) ?_
  cases dd <;> simp -implicitDefEqProofs
end Go.Proofs.Ytgaihedboifjoaa

namespace Go.Proofs.Ytgaihedboifjoaa
open Go.RowKit Go.Proofs

theorem redE_len {n : Int} {l : List Int} (h : redE n l = 0) : (redQ n l).length ≤ 64 := by
  unfold redE at h
  split at h
  · split at h
    · split at h
      · split at h
        · next q => exact q
        · cases h
      · cases h
    · cases h
  · cases h
theorem rq_len {e : Int} {q : List Nat} (h : e = 0 → q.length ≤ 64) : (zi (rq e q)).length ≤ 1000000 := by
  rw [zi_length]
  unfold rq
  split
  · next he => have := h he; omega
  · simp
theorem maj_l (n : Int) : majE n = 0 → (major n.toNat).length ≤ 64 := fun h => by
  unfold majE at h
  split at h
  · split at h
    · next q => exact q
    · cases h
  · cases h
theorem gr_l (a b : Int) : grE a b = 0 → (grQ a b).length ≤ 64 := fun h => by
  unfold grE at h
  split at h
  · exact redE_len h
  · cases h
theorem tr_l (n : Int) : trE n = 0 → (trQ n).length ≤ 64 := fun h => by
  unfold trE at h
  split at h
  · next q =>
    obtain ⟨k, rfl, hk⟩ := tree_k q
    have := (tr_md hk).l64
    have e2 : trN (k : Int) = 2 ^ k - 1 := by unfold trN; rw [Int.toNat_natCast]
    have e3 : trQ (k : Int) = tQ k := by unfold trQ trL tQ; rw [e2]
    rw [e3]; exact this
  · cases h
/-- two makers that make the same -/
theorem res_form {f : Nat} {args : List V} {e n : Int} {q : List Nat} (h : PC Try.prog f args (fun r => r = res e n q)) : PC Try.prog f args (fun r => r = .tup [cP (rn e n) (zi (rq e q)), .s (.int .i64 e)]) := by
  rw [res_eq] at h
  exact h
theorem same_self (a : Int) (l : List Int) (hl : l.length ≤ 1000000) : PC Try.prog 18 [cP a l, cP a l] (fun r => r = .s (.bool true)) := by
  have := Same_pc a a l l hl
  simpa using this
def prV (ps : List (Int × Int)) : List V := ps.map fun p => .agg [.s (.int .i64 p.1), .s (.int .i64 p.2)]
theorem prV_get {ps : List (Int × Int)} {i : Nat} (h : i < ps.length) : (prV ps)[i]? = some (.agg [.s (.int .i64 ps[i].1), .s (.int .i64 ps[i].2)]) := by simp [prV, h]
def mkO (n m : Int) (l : List Int) (cn : Int) (cq : List Int) (ps : List (Int × Int)) (k : Nat) (S : St) : Prop := ∃ i : Nat, i + k = 2 ∧ S = ⟨tmL [(7, .ptr 0 0), (47, .list 2 (prV ps)), (48, .s (.int .i64 2)), (49, .s (.int .i64 i))], [.s (.int .i64 n), .s (.int .i64 m), .list 1 (iv l), .agg [.s (.int .i64 cn), .list 1 (iv cq)], .s (.bool false), .no, .no, .no, .no, .no, .no, .no, .no], [[.s (.int .i64 cn), .list 1 (iv cq)]], 0⟩
set_option maxHeartbeats 32000000 in
theorem Makes_pc (n m : Int) (l : List Int) (cn : Int) (cq : List Int) : PC Try.prog 3 [.s (.int .i64 n), .s (.int .i64 m), .list 1 (iv l), cP cn cq] (fun r => r = .s (.bool true)) := by
  refine pc_end c3 mixed rfl ?_
  have hawake := awake_pc
  by_cases h30 : (30 : Int) < (l.length : Int)
  · simp -implicitDefEqProofs [a3, F3, cP, h30]
    refine wk_take ?_
    simp -implicitDefEqProofs
    refine wc_of hawake (by simp) (by simp) ?_
    rintro _ rfl
    simp -implicitDefEqProofs
  by_cases h80 : (80 : Int) < (cq.length : Int)
  · simp -implicitDefEqProofs [a3, F3, cP, h30, h80]
    refine wk_take ?_
    simp -implicitDefEqProofs
    refine wc_of hawake (by simp) (by simp) ?_
    rintro _ rfl
    simp -implicitDefEqProofs
  have hM1 := Mod_pc n 12 (by omega) (by omega)
  have hM2 := Mod_pc m 6 (by omega) (by omega)
  have w1 := wrap64 (n := n % 12 - 1) (by omega)
  have w2 := wrap64 (n := m % 6 - 1) (by omega)
  simp -implicitDefEqProofs [a3, F3, cP, h30, h80]
  refine wk_take ?_
  simp -implicitDefEqProofs
  refine wc_of hM1 (by simp) (by simp) ?_
  rintro _ rfl
  simp -implicitDefEqProofs [w1]
  refine wk_take ?_
  simp -implicitDefEqProofs
  refine wc_of hM2 (by simp) (by simp) ?_
  rintro _ rfl
  simp -implicitDefEqProofs [w2]
  refine w_rounds [7, 47, 48, 49] [5, 6, 7, 8, 9, 10, 11, 12] 1 (by decide) (mkO n m l cn cq [(n, m), (n % 12 - 1, m % 6 - 1)]) 2 ⟨by simp, 0, by simp, by simp [prV]⟩ ?_
  rintro k S ⟨i, hi, rfl⟩
  generalize hps : [(n, m), (n % 12 - 1, m % 6 - 1)] = ps
  have hpl : ps.length = 2 := by rw [← hps]; rfl
  by_cases hm : i < 2
  · have i1 : (i : Int) < 2 := by omega
    have i0 : ¬ (i : Int) < 0 := by omega
    have wi := wrap64 (n := (i : Int) + 1) (by omega)
    have hg := prV_get (ps := ps) (i := i) (by omega)
    generalize (ps[i]'(by omega)).1 = a at hg
    generalize (ps[i]'(by omega)).2 = b at hg
    have c1 := res_form (Majority_pc a)
    have c2 := res_form (rMajority_pc a)
    have d1 := same_self (rn (majE a) a) (zi (rq (majE a) (major a.toNat))) (rq_len (maj_l a))
    have c3 := res_form (Grid_pc a b)
    have c4 := res_form (rGrid_pc a b)
    have d2 := same_self (rn (grE a b) (a * b)) (zi (rq (grE a b) (grQ a b))) (rq_len (gr_l a b))
    have c5 := res_form (Tree_pc b)
    have c6 := res_form (rTree_pc b)
    have d3 := same_self (rn (trE b) (trN b)) (zi (rq (trE b) (trQ b))) (rq_len (tr_l b))
    have c7 := res_form (Reduce_pc a l (by omega))
    have c8 := res_form (rReduce_pc a l (by omega))
    have d4 := same_self (rn (redE a l) a) (zi (rq (redE a l) (redQ a l))) (rq_len redE_len)
    generalize zi (rq (majE a) (major a.toNat)) = q1 at c1 c2 d1
    generalize rn (majE a) a = n1 at c1 c2 d1
    generalize majE a = e1 at c1 c2
    generalize zi (rq (grE a b) (grQ a b)) = q2 at c3 c4 d2
    generalize rn (grE a b) (a * b) = n2 at c3 c4 d2
    generalize grE a b = e2 at c3 c4
    generalize zi (rq (trE b) (trQ b)) = q3 at c5 c6 d3
    generalize rn (trE b) (trN b) = n3 at c5 c6 d3
    generalize trE b = e3 at c5 c6
    generalize zi (rq (redE a l) (redQ a l)) = q4 at c7 c8 d4
    generalize rn (redE a l) a = n4 at c7 c8 d4
    generalize redE a l = e4 at c7 c8
    simp -implicitDefEqProofs [i1, i0, hg]
    refine wk_take ?_
    simp -implicitDefEqProofs
    refine wc_of c1 (by simp) (by simp) ?_
    rintro _ rfl
    simp -implicitDefEqProofs [cP]
    refine wk_take ?_
    simp -implicitDefEqProofs
    refine wc_of c2 (by simp) (by simp) ?_
    rintro _ rfl
    simp -implicitDefEqProofs [cP]
    refine wk_take ?_
    simp -implicitDefEqProofs
    refine wc_of c3 (by simp) (by simp) ?_
    rintro _ rfl
    simp -implicitDefEqProofs [cP]
    refine wk_take ?_
    simp -implicitDefEqProofs
    refine wc_of c4 (by simp) (by simp) ?_
    rintro _ rfl
    simp -implicitDefEqProofs [cP]
    refine wk_take ?_
    simp -implicitDefEqProofs
    refine wc_of c5 (by simp) (by simp) ?_
    rintro _ rfl
    simp -implicitDefEqProofs [cP]
    refine wk_take ?_
    simp -implicitDefEqProofs
    refine wc_of c6 (by simp) (by simp) ?_
    rintro _ rfl
    simp -implicitDefEqProofs [cP]
    refine wk_take ?_
    simp -implicitDefEqProofs
    refine wc_of c7 (by simp) (by simp) ?_
    rintro _ rfl
    simp -implicitDefEqProofs [cP]
    refine wk_take ?_
    simp -implicitDefEqProofs
    refine wc_of c8 (by simp) (by simp) ?_
    rintro _ rfl
    simp -implicitDefEqProofs [cP]
    refine wk_take ?_
    simp -implicitDefEqProofs
    refine wc_of d1 (by simp [cP]) (by simp [cP]) ?_
    rintro _ rfl
    simp -implicitDefEqProofs
    refine wk_take ?_
    simp -implicitDefEqProofs
    refine wc_of d2 (by simp [cP]) (by simp [cP]) ?_
    rintro _ rfl
    simp -implicitDefEqProofs
    refine wk_take ?_
    simp -implicitDefEqProofs
    refine wc_of d3 (by simp [cP]) (by simp [cP]) ?_
    rintro _ rfl
    simp -implicitDefEqProofs
    refine wk_take ?_
    simp -implicitDefEqProofs
    refine wc_of d4 (by simp [cP]) (by simp [cP]) ?_
    rintro _ rfl
    simp -implicitDefEqProofs [wi]
    exact ⟨k - 1, by omega, i + 1, by omega, by simp⟩
  have h6 : i = 2 := by omega
  subst h6
  have hV1 := Valid_pc cn cq (by omega)
  have hV2 := rValid_pc cn cq (by omega)
  have hmd := mdP_md n l
  have hmade := made_pc n l (by omega)
  generalize (mdP n l).1 = k at *
  generalize (mdP n l).2 = Q at *
  have hql : (zi Q).length ≤ 64 := by rw [zi_length]; exact hmd.l64
  have hV3 := Valid_pc k (zi Q) (by omega)
  have hV4 := rValid_pc k (zi Q) (by omega)
  generalize okB k (zi Q) = B2 at *
  generalize okB cn cq = B1 at *
  generalize zi Q = qs at *
  simp -implicitDefEqProofs
  refine wkd_take ?_
  simp -implicitDefEqProofs
  refine wcd_of hawake (by simp) (by simp) ?_
  simp -implicitDefEqProofs
  refine wkd_take ?_
  simp -implicitDefEqProofs
  refine wcd_of hV1 (by simp [cP]) (by simp [cP]) ?_
  simp -implicitDefEqProofs
  refine wkd_take ?_
  simp -implicitDefEqProofs
  refine wcd_of hV2 (by simp [cP]) (by simp [cP]) ?_
  simp -implicitDefEqProofs
  refine wkd_take ?_
  simp -implicitDefEqProofs
  refine wcd_of hmade (by simp) (by simp) ?_
  simp -implicitDefEqProofs [cP]
  refine wkd_take ?_
  simp -implicitDefEqProofs
  refine wcd_of hV3 (by simp [cP]) (by simp [cP]) ?_
  simp -implicitDefEqProofs
  refine wkd_take ?_
  simp -implicitDefEqProofs
  refine wcd_of hmade (by simp) (by simp) ?_
  simp -implicitDefEqProofs [cP]
  refine wkd_take ?_
  simp -implicitDefEqProofs
  refine wcd_of hV4 (by simp [cP]) (by simp [cP]) ?_
  simp -implicitDefEqProofs
end Go.Proofs.Ytgaihedboifjoaa

namespace Go.Proofs.Ytgaihedboifjoaa
open Go.RowKit Go.Proofs

def cqV (cs : List (Int × List Int)) : List V := cs.map fun c => cP c.1 c.2
theorem cqV_get {cs : List (Int × List Int)} {i : Nat} (h : i < cs.length) : (cqV cs)[i]? = some (.agg [.s (.int .i64 cs[i].1), .list 1 (iv cs[i].2)]) := by simp [cqV, h, cP]
def asO (cn : Int) (cq : List Int) (n up : Int) (l : List Int) (cs : List (Int × List Int)) (k : Nat) (S : St) : Prop := ∃ i : Nat, i + k = 2 ∧ S = ⟨tmL [(4, .ptr 0 0), (31, .list 2 (cqV cs)), (32, .s (.int .i64 2)), (33, .s (.int .i64 i))], [.agg [.s (.int .i64 cn), .list 1 (iv cq)], .s (.int .i64 n), .s (.int .i64 up), .list 1 (iv l), .s (.bool false), .no, .no, .no, .no, .no], [[.s (.int .i64 cn), .list 1 (iv cq)]], 0⟩
def asI (cn : Int) (cq : List Int) (n up : Int) (l : List Int) (cs : List (Int × List Int)) (i : Nat) (a : Int) (q us : List Int) (k : Nat) (S : St) : Prop := ∃ j : Nat, j + k = 2 ∧ S = ⟨tmL [(4, .ptr 0 0), (31, .list 2 (cqV cs)), (32, .s (.int .i64 2)), (33, .s (.int .i64 i)), (10, .ptr 1 0), (40, .list 1 (iv us)), (41, .s (.int .i64 2)), (42, .s (.int .i64 j))], [.agg [.s (.int .i64 cn), .list 1 (iv cq)], .s (.int .i64 n), .s (.int .i64 up), .list 1 (iv l), .s (.bool false), .no, .no, .no, .no, .no], [[.s (.int .i64 cn), .list 1 (iv cq)], [.s (.int .i64 a), .list 1 (iv q)]], 0⟩
set_option maxHeartbeats 32000000 in
theorem Asks_pc (cn : Int) (cq : List Int) (n up : Int) (l : List Int) : PC Try.prog 4 [cP cn cq, .s (.int .i64 n), .s (.int .i64 up), .list 1 (iv l)] (fun r => r = .s (.bool true)) := by
  refine pc_end c4 mixed rfl ?_
  have hawake := awake_pc
  by_cases h80 : (80 : Int) < (cq.length : Int)
  · simp -implicitDefEqProofs [a4, F4, cP, h80]
    refine wk_take ?_
    simp -implicitDefEqProofs
    refine wc_of hawake (by simp) (by simp) ?_
    rintro _ rfl
    simp -implicitDefEqProofs
  by_cases h30 : (30 : Int) < (l.length : Int)
  · simp -implicitDefEqProofs [a4, F4, cP, h80, h30]
    refine wk_take ?_
    simp -implicitDefEqProofs
    refine wc_of hawake (by simp) (by simp) ?_
    rintro _ rfl
    simp -implicitDefEqProofs
  have hM := Mod_pc up 512 (by omega) (by omega)
  have hmd := mdP_md n l
  have hmade := made_pc n l (by omega)
  generalize (mdP n l).1 = k at *
  generalize (mdP n l).2 = Q at *
  have hql : (zi Q).length ≤ 64 := by rw [zi_length]; exact hmd.l64
  clear hmd
  generalize zi Q = qs at *
  simp -implicitDefEqProofs [a4, F4, cP, h80, h30]
  refine wkd_take ?_
  simp -implicitDefEqProofs
  refine wcd_of hmade (by simp) (by simp) ?_
  simp -implicitDefEqProofs [cP]
  refine w_rounds [4, 31, 32, 33] [5, 6, 7, 8, 9] 1 (by decide) (asO cn cq n up l [(cn, cq), (k, qs)]) 2 ⟨by simp, 0, by simp, by simp [cqV, cP]⟩ ?_
  rintro kk S ⟨i, hi, rfl⟩
  generalize hcs : [(cn, cq), ((k : Int), qs)] = cs
  have hcl : cs.length = 2 := by rw [← hcs]; rfl
  have hc80 : ∀ c ∈ cs, c.2.length ≤ 80 := by
    rw [← hcs]
    intro c hc
    simp at hc
    rcases hc with rfl | rfl
    · show cq.length ≤ 80
      omega
    · show qs.length ≤ 80
      omega
  by_cases hm : i < 2
  · have i1 : (i : Int) < 2 := by omega
    have i0 : ¬ (i : Int) < 0 := by omega
    have wi := wrap64 (n := (i : Int) + 1) (by omega)
    have hg := cqV_get (cs := cs) (i := i) (by omega)
    have hq80 := hc80 (cs[i]'(by omega)) (List.getElem_mem _)
    generalize (cs[i]'(by omega)).1 = a at hg
    generalize (cs[i]'(by omega)).2 = q at hg hq80
    have hA : ∀ u, PC Try.prog 22 [cP a q, .s (.int .i64 u)] (fun r => r = avR (availE a q u)) := fun u => Avail_pc a q u (by omega)
    have hB : ∀ u, PC Try.prog 23 [cP a q, .s (.int .i64 u)] (fun r => r = avR (availE a q u)) := fun u => rAvail_pc a q u (by omega)
    have hT1 := Trans_pc a q (by omega)
    have hT2 := rTrans_pc a q (by omega)
    have hS := SameInts_pc (trZ a q) (trZ a q) (by have := trZ_len a q; omega)
    have hD1 := Dom_pc a q (by omega) (trZ_len a q)
    have hD2 := rDom_pc a q (by omega)
    generalize trZ a q = t at *
    generalize domB a q = dd at *
    simp -implicitDefEqProofs [i1, i0, hg]
    refine wk_take ?_
    simp -implicitDefEqProofs
    refine wc_of hM (by simp) (by simp) ?_
    rintro _ rfl
    simp -implicitDefEqProofs
    refine w_rounds [4, 31, 32, 33, 10, 40, 41, 42] [5, 6, 7, 8, 9] 2 (by decide) (asI cn cq n up l cs i a q [up, up % 512]) 2 ⟨by simp, 0, by simp, by simp [iv]⟩ ?_
    rintro k2 S ⟨j, hj, rfl⟩
    generalize hus : [up, up % 512] = us
    have hul : us.length = 2 := by rw [← hus]; rfl
    by_cases hjm : j < 2
    · have j1 : (j : Int) < 2 := by omega
      have j0 : ¬ (j : Int) < 0 := by omega
      have wj := wrap64 (n := (j : Int) + 1) (by omega)
      have hgu := iv_get (xs := us) (i := j) (by omega)
      generalize us[j]'(by omega) = u at hgu
      have hA := hA u
      have hB := hB u
      simp only [avR] at hA hB
      generalize (availE a q u).getD 0 = x at *
      generalize (availE a q u).isSome = y at *
      simp -implicitDefEqProofs [j1, j0, hgu]
      refine wk_take ?_
      simp -implicitDefEqProofs
      refine wc_of hA (by simp [cP]) (by simp [cP]) ?_
      rintro _ rfl
      simp -implicitDefEqProofs
      refine wk_take ?_
      simp -implicitDefEqProofs
      refine wc_of hB (by simp [cP]) (by simp [cP]) ?_
      rintro _ rfl
      simp -implicitDefEqProofs [wj]
      exact ⟨k2 - 1, by omega, j + 1, by omega, by simp⟩
    · have h6 : j = 2 := by omega
      subst h6
      simp -implicitDefEqProofs
      refine wkd_take ?_
      simp -implicitDefEqProofs
      refine wcd_of hT1 (by simp [cP]) (by simp [cP]) ?_
      simp -implicitDefEqProofs
      refine wkd_take ?_
      simp -implicitDefEqProofs
      refine wcd_of hT2 (by simp [cP]) (by simp [cP]) ?_
      simp -implicitDefEqProofs
      refine wkd_take ?_
      simp -implicitDefEqProofs
      refine wcd_of hS (by simp) (by simp) ?_
      simp -implicitDefEqProofs
      refine wkd_take ?_
      simp -implicitDefEqProofs
      refine wcd_of hD1 (by simp [cP]) (by simp [cP]) ?_
      simp -implicitDefEqProofs
      refine wkd_take ?_
      simp -implicitDefEqProofs
      refine wcd_of hD2 (by simp [cP]) (by simp [cP]) ?_
      simp -implicitDefEqProofs [wi]
      exact ⟨kk - 1, by omega, i + 1, by omega, by simp⟩
  have h6 : i = 2 := by omega
  subst h6
  simp -implicitDefEqProofs
  refine wk_take ?_
  simp -implicitDefEqProofs
  refine wc_of hawake (by simp) (by simp) ?_
  rintro _ rfl
  simp -implicitDefEqProofs
end Go.Proofs.Ytgaihedboifjoaa

namespace Go.Proofs.Ytgaihedboifjoaa
open Go.RowKit Go.Proofs

theorem sh_int0 {dep : Nat} {el : List V} (h : Shape Try.prog (dep + 1) 3 el) : ∃ n : Int, el = [.s (.int .i64 n)] := by
  unfold Shape at h
  rw [Try.underlying3] at h
  obtain ⟨n, _, hn⟩ := h
  exact ⟨n, by simpa using hn⟩
theorem sh_els {α : Type} {dep : Nat} {t : TypeId} {f : α → V} (hf : ∀ el, Shape Try.prog dep t el → ∃ a, elemD Try.prog t el = f a) : ∀ (els : List (List V)), (∀ el ∈ els, Shape Try.prog dep t el) → ∃ m : List α, els.map (elemD Try.prog t) = m.map f
  | [], _ => ⟨[], rfl⟩
  | x :: r, h => by
    obtain ⟨m, hm⟩ := sh_els hf r (fun el hel => h el (by simp [hel]))
    obtain ⟨a, ha⟩ := hf x (h x (by simp))
    exact ⟨a :: m, by rw [List.map_cons, hm, ha]; rfl⟩
theorem sh_ints0 {dep : Nat} {el : List V} (h : Shape Try.prog (dep + 2) 22 el) : ∃ l : List Int, el = [.list 1 (iv l)] := by
  unfold Shape at h
  rw [Try.underlying22] at h
  obtain ⟨els, hx, _, hb⟩ := h
  have e1 : Try.prog.cellsOf 3 = 1 := by kernel_rfl
  have e2 : aggT Try.prog 3 = some false := by kernel_rfl
  rw [e1] at hx
  obtain ⟨m, hm⟩ := sh_els (f := fun n : Int => V.s (.int .i64 n)) (fun el hel => by
    obtain ⟨n, rfl⟩ := sh_int0 hel
    exact ⟨n, by simp [elemD, e2]⟩) els hb
  rw [hm] at hx
  exact ⟨m, hx⟩
theorem sh_int {dep : Nat} {x : V} (h : ArgShape Try.prog (dep + 1) 3 x) : ∃ n : Int, x = .s (.int .i64 n) := by
  unfold ArgShape at h
  rw [Try.underlying3] at h
  simp only at h
  obtain ⟨n, hn⟩ := sh_int0 h
  exact ⟨n, by simpa using hn⟩
theorem sh_byte {dep : Nat} {x : V} (h : ArgShape Try.prog (dep + 1) 5 x) : ∃ n : Nat, n < 256 ∧ x = .s (.int .u8 n) := by
  unfold ArgShape at h
  rw [Try.underlying5] at h
  simp only at h
  unfold Shape at h
  rw [Try.underlying5] at h
  obtain ⟨n, hn, hx⟩ := h
  have hb : 0 ≤ n ∧ n ≤ 255 := by simpa [Lit.wf, IntKind.min, IntKind.max, IntKind.signed, IntKind.bits] using hn
  exact ⟨n.toNat, by omega, by rw [show ((n.toNat : Nat) : Int) = n by omega]; simpa using hx⟩
theorem sh_ints {dep : Nat} {x : V} (h : ArgShape Try.prog (dep + 2) 22 x) : ∃ l : List Int, x = .list 1 (iv l) := by
  unfold ArgShape at h
  rw [Try.underlying22] at h
  simp only at h
  obtain ⟨l, hl⟩ := sh_ints0 h
  exact ⟨l, by simpa using hl⟩
theorem parts2 {P : Program} {dep : Nat} {fs : Array Field} {parts : List (List V)} {f0 f1 : Field} (e : fs = #[f0, f1]) (hl : parts.length = fs.size)
    (h : ∀ (i : Nat) (fl : Field) (p : List V), fs[i]? = some fl → parts[i]? = some p → Shape P dep fl.type p) :
    ∃ a b, parts = [a, b] ∧ Shape P dep f0.type a ∧ Shape P dep f1.type b := by
  subst e
  match parts, hl with
  | [a, b], _ => exact ⟨a, b, rfl, h 0 f0 a rfl rfl, h 1 f1 b rfl rfl⟩
theorem sh_cot {dep : Nat} {x : V} (h : ArgShape Try.prog (dep + 3) 24 x) : ∃ (n : Int) (q : List Int), x = cP n q := by
  unfold ArgShape at h
  rw [Try.underlying24] at h
  simp only at h
  obtain ⟨xs, rfl, h⟩ := h
  unfold Shape at h
  rw [Try.underlying24] at h
  obtain ⟨parts, rfl, hl, hp⟩ := h
  obtain ⟨a, b, rfl, ha, hb⟩ := parts2 rfl hl hp
  obtain ⟨n, rfl⟩ := sh_int0 ha
  obtain ⟨q, rfl⟩ := sh_ints0 hb
  exact ⟨n, q, rfl⟩
end Go.Proofs.Ytgaihedboifjoaa
