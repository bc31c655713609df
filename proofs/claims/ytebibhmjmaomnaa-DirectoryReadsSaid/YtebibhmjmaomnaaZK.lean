/- Texts put behind one another: Y1, Y2, Y3, Y4, Y5, Y6, Y7, Y8, Y9, Y10, Y11, Y12, Y13, Y14, Y15, Y16, Y17, Y18, Y19. -/
import Derived.Test.YtebibhmjmaomnaaZL
import Derived.Test.YtebibhmjmaomnaaZE
import Derived.Test.YtebibhmjmaomnaaZT
set_option linter.unusedVariables false
set_option linter.unusedSimpArgs false
namespace Go.Proofs.Ytebibhmjmaomnaa
open Go.RowKit Go.Proofs
theorem binS_and (k : IntKind) (a b : Int) : binS .and (.int k a) (.int k b) = some (.int k (bits .and k a b)) := by simp only [binS, if_true]; rfl
theorem binS_or (k : IntKind) (a b : Int) : binS .or (.int k a) (.int k b) = some (.int k (bits .or k a b)) := by simp only [binS, if_true]; rfl
theorem wrap64 {n : Int} (h : -9223372036854775808 ≤ n ∧ n < 9223372036854775808) : IntKind.i64.wrap n = n := by rw [IntKind.wrap_i64]; omega
def iv (xs : List Int) : List V := xs.map fun n => .s (.int .i64 n)
@[simp] theorem iv_length (xs : List Int) : (iv xs).length = xs.length := by simp [iv]
@[simp] theorem iv_nil : iv [] = [] := rfl
theorem iv_get {xs : List Int} {i : Nat} (h : i < xs.length) : (iv xs)[i]? = some (.s (.int .i64 xs[i])) := by simp [iv, h]
theorem all_take1 {α : Type} {l : List α} {i : Nat} (h : i < l.length) (p : α → Bool) : (l.take (i + 1)).all p = ((l.take i).all p && p l[i]) := by
  rw [List.take_add_one, List.getElem?_eq_getElem h, List.all_append]; simp
theorem all_false {α : Type} {l : List α} {i : Nat} (h : i < l.length) (p : α → Bool) (hp : p l[i] = false) : l.all p = false := by
  rw [List.all_eq_false]
  exact ⟨l[i], List.getElem_mem h, by simp [hp]⟩
theorem take_eq1 {α : Type} {l k : List α} {i : Nat} (h1 : i < l.length) (h2 : i < k.length) (ht : l.take i = k.take i) (h : l[i] = k[i]) : l.take (i + 1) = k.take (i + 1) := by
  rw [List.take_add_one, List.take_add_one, ht, List.getElem?_eq_getElem h1, List.getElem?_eq_getElem h2, h]
def band (a b : Int) : Int := bits .and .i64 a b
theorem tmod_pos {n m : Int} (h : 0 < m) : (n.tmod m < 0 ∧ n.tmod m + m = n % m) ∨ (¬ n.tmod m < 0 ∧ n.tmod m = n % m) := by
  rw [Int.tmod_eq_emod]
  have hb := Int.emod_nonneg n (b := m) (by omega)
  have hc := Int.emod_lt_of_pos n h
  split
  · right; omega
  · left; omega
theorem Mod_pc (n m : Int) (h1 : 1 ≤ m) (h2 : m ≤ 4611686018427387904) : PC Try.prog 11 [.s (.int .i64 n), .s (.int .i64 m)] (fun r => r = .s (.int .i64 (n % m))) := by
  refine pc_end c11 mixed rfl ?_
  have e1 : ¬ m < 1 := by omega
  have e2 : ¬ m = 0 := by omega
  have hb := Int.emod_nonneg n (b := m) (by omega)
  have hc := Int.emod_lt_of_pos n (b := m) (by omega)
  rcases tmod_pos (n := n) (m := m) (by omega) with ⟨h3, h4⟩ | ⟨h3, h4⟩
  · have e3 : IntKind.i64.wrap (n % m) = n % m := wrap64 (by omega)
    simp -implicitDefEqProofs [a11, F11, e1, e2, h3, h4, e3]
  · have h5 : ¬ n % m < 0 := by omega
    simp -implicitDefEqProofs [a11, F11, e1, e2, h4, h5]
theorem voters_pc (n : Int) : PC Try.prog 74 [.s (.int .i64 n)] (fun r => r = .s (.bool (decide (1 ≤ n ∧ n ≤ 9)))) := by
  refine pc_end c74 mixed rfl ?_
  by_cases h1 : n ≥ 1
  · by_cases h2 : n ≤ 9
    · have : 1 ≤ n ∧ n ≤ 9 := ⟨h1, h2⟩
      simp -implicitDefEqProofs [a74, F74, h1, h2, this]
    · have : ¬ (1 ≤ n ∧ n ≤ 9) := fun q => h2 q.2
      simp -implicitDefEqProofs [a74, F74, h1, h2, this]
  · have : ¬ (1 ≤ n ∧ n ≤ 9) := fun q => h1 q.1
    simp -implicitDefEqProofs [a74, F74, h1, this]
theorem shl1 {n : Nat} (h : n ≤ 12) : IntKind.i64.wrap (2 ^ min n IntKind.i64.bits) = ((2 ^ n : Nat) : Int) := by
  have h1 : 2 ^ n ≤ 2 ^ 12 := Nat.pow_le_pow_right (by omega) h
  have e : (2 : Int) ^ min n IntKind.i64.bits = ((2 ^ n : Nat) : Int) := by
    rw [show min n IntKind.i64.bits = n by simp [IntKind.bits]; omega]; simp
  rw [e]
  generalize 2 ^ n = p at h1
  exact wrap64 (by omega)
theorem isSet_pc (s : Int) (n : Nat) (hn : n ≤ 12) : PC Try.prog 75 [.s (.int .i64 s), .s (.int .i64 n)] (fun r => r = .s (.bool (decide (1 ≤ s ∧ s < ((2 ^ n : Nat) : Int))))) := by
  refine pc_end c75 mixed rfl ?_
  have h0 : ¬ (n : Int) < 0 := by omega
  have e := shl1 hn
  generalize ((2 ^ n : Nat) : Int) = p at e ⊢
  by_cases h1 : s ≥ 1
  · by_cases h2 : s < p
    · have : 1 ≤ s ∧ s < p := ⟨h1, h2⟩
      simp -implicitDefEqProofs [a75, F75, h0, h1, h2, e, this]
    · have : ¬ (1 ≤ s ∧ s < p) := fun q => h2 q.2
      simp -implicitDefEqProofs [a75, F75, h0, h1, h2, e, this]
  · have : ¬ (1 ≤ s ∧ s < p) := fun q => h1 q.1
    simp -implicitDefEqProofs [a75, F75, h1, this]
theorem inside_pc (a b : Int) : PC Try.prog 56 [.s (.int .i64 a), .s (.int .i64 b)] (fun r => r = .s (.bool (band a b == a))) := by
  refine pc_end c56 mixed rfl ?_
  simp -implicitDefEqProofs [a56, F56, ↓binS_and, band]
def pMeet (s t : Int) : Bool := !(band s t == 0)
def meetInv (s : Int) (l : List Int) (m : Nat) (S : St) : Prop := ∃ i, i + m = l.length ∧ (l.take i).all (pMeet s) = true ∧ S = ⟨tmL [(7, .list 1 (iv l)), (8, .s (.int .i64 l.length)), (9, .s (.int .i64 i))], [.s (.int .i64 s), .list 1 (iv l), .s (.bool false), .no], [], 0⟩
theorem meet_pc (s : Int) (l : List Int) (hl : l.length ≤ 1000000) : PC Try.prog 76 [.s (.int .i64 s), .list 1 (iv l)] (fun r => r = .s (.bool (l.all (pMeet s)))) := by
  refine pc_end c76 mixed rfl ?_
  simp -implicitDefEqProofs [a76, F76]
  refine w_rounds [7, 8, 9] [3] 0 (Nat.le_refl _) (meetInv s l) l.length ⟨by simp, 0, by simp, by simp, by simp⟩ ?_
  rintro m S ⟨i, hi, hx, rfl⟩
  by_cases hm : i < l.length
  · have h1 : (i : Int) < l.length := by omega
    have h0 : ¬ (i : Int) < 0 := by omega
    have hw := wrap64 (n := (i : Int) + 1) (by omega)
    cases he : (bits .and .i64 s l[i] == 0)
    · have hp : pMeet s l[i] = true := by simp [pMeet, band, he]
      simp -implicitDefEqProofs [h1, h0, ↓binS_and, iv_get hm, he, hw]
      exact ⟨m - 1, by omega, i + 1, by omega, by rw [all_take1 hm, hx, hp]; rfl, by simp⟩
    · have hp : pMeet s l[i] = false := by simp [pMeet, band, he]
      simp -implicitDefEqProofs [h1, h0, ↓binS_and, iv_get hm, he, all_false hm _ hp]
  · have h2 : i = l.length := by omega
    rw [List.take_of_length_le (by omega)] at hx
    simp -implicitDefEqProofs [h2, hx]
def pMin (s t : Int) : Bool := !((t != s) && (band s t == t))
def minInv (s : Int) (l : List Int) (m : Nat) (S : St) : Prop := ∃ i, i + m = l.length ∧ (l.take i).all (pMin s) = true ∧ S = ⟨tmL [(7, .list 1 (iv l)), (8, .s (.int .i64 l.length)), (9, .s (.int .i64 i))], [.s (.int .i64 s), .list 1 (iv l), .s (.bool false), .no], [], 0⟩
theorem minimal_pc (s : Int) (l : List Int) (hl : l.length ≤ 1000000) : PC Try.prog 77 [.s (.int .i64 s), .list 1 (iv l)] (fun r => r = .s (.bool (l.all (pMin s)))) := by
  refine pc_end c77 mixed rfl ?_
  simp -implicitDefEqProofs [a77, F77]
  refine w_rounds [7, 8, 9] [3] 0 (Nat.le_refl _) (minInv s l) l.length ⟨by simp, 0, by simp, by simp, by simp⟩ ?_
  rintro m S ⟨i, hi, hx, rfl⟩
  by_cases hm : i < l.length
  · have h1 : (i : Int) < l.length := by omega
    have h0 : ¬ (i : Int) < 0 := by omega
    have hw := wrap64 (n := (i : Int) + 1) (by omega)
    have hp : pMin s l[i] = !((l[i] != s) && (bits .and .i64 s l[i] == l[i])) := rfl
    cases he : (l[i] != s)
    · rw [he, Bool.false_and] at hp
      simp -implicitDefEqProofs [h1, h0, ↓binS_and, iv_get hm, he, hw]
      exact ⟨m - 1, by omega, i + 1, by omega, by rw [all_take1 hm, hx, hp]; rfl, by simp⟩
    cases he2 : (bits .and .i64 s l[i] == l[i])
    · rw [he, he2] at hp
      simp -implicitDefEqProofs [h1, h0, ↓binS_and, iv_get hm, he, he2, hw]
      exact ⟨m - 1, by omega, i + 1, by omega, by rw [all_take1 hm, hx, hp]; rfl, by simp⟩
    · rw [he, he2] at hp
      simp -implicitDefEqProofs [h1, h0, ↓binS_and, iv_get hm, he, he2, all_false hm _ hp]
  · have h2 : i = l.length := by omega
    rw [List.take_of_length_le (by omega)] at hx
    simp -implicitDefEqProofs [h2, hx]
end Go.Proofs.Ytebibhmjmaomnaa
namespace Go.Proofs.Ytebibhmjmaomnaa
open Go.RowKit Go.Proofs
def upto (k : Nat) : List Int := (List.range (k - 1)).map fun i => ((i + 1 : Nat) : Int)
theorem upto_succ {i : Nat} (h : 1 ≤ i) : upto (i + 1) = upto i ++ [(i : Int)] := by
  unfold upto
  obtain ⟨j, rfl⟩ : ∃ j, i = j + 1 := ⟨i - 1, by omega⟩
  simp only [Nat.add_sub_cancel]
  rw [List.range_succ, List.map_append]
  rfl
@[simp] theorem upto_length (k : Nat) : (upto k).length = k - 1 := by simp [upto]
end Go.Proofs.Ytebibhmjmaomnaa
namespace Go.Proofs.Ytebibhmjmaomnaa
open Go.RowKit Go.Proofs
def pMaj (n : Nat) (s : Int) : Bool := decide (pop s.toNat = n / 2 + 1)
theorem half_i (n : Nat) (h : n ≤ 9) : IntKind.i64.wrap ((n : Int) / 2) = (n : Int) / 2 ∧ IntKind.i64.wrap ((n : Int) / 2 + 1) = (n : Int) / 2 + 1 := ⟨wrap64 (by omega), wrap64 (by omega)⟩
theorem and1i (s : Nat) (h : s < 512) : bits .and .i64 (s : Int) 1 = (s : Int) % 2 := by
  have := i64_and_nat s 1 (by omega) (by omega)
  rw [show ((1 : Nat) : Int) = 1 from rfl] at this
  rw [this, show (1 : Nat) = 2 ^ 1 - 1 from rfl, Nat.and_two_pow_sub_one_eq_mod]
  omega
theorem shr1 (s : Nat) : (s : Int).fdiv (2 ^ min 1 IntKind.i64.bits) = ((s / 2 : Nat) : Int) := by
  show (s : Int).fdiv 2 = _
  rw [Int.fdiv_eq_ediv_of_nonneg _ (by omega)]
  omega
def sizeInv (s : Nat) (m : Nat) (S : St) : Prop := ∃ c t, t = m ∧ t < 512 ∧ c ≤ 512 ∧ c + pop t = pop s ∧ S = ⟨tmL [], [.s (.int .i64 t), .s (.int .i64 0), .s (.int .i64 c)], [], 0⟩
theorem pop_le9 {s : Nat} (h : s < 512) : pop s ≤ 9 := pop_le 9 s (by omega)
theorem size_pc (s : Nat) (hs : s < 512) : PC Try.prog 52 [.s (.int .i64 s)] (fun r => r = .s (.int .i64 (pop s))) := by
  refine pc_end c52 mixed rfl ?_
  simp -implicitDefEqProofs [a52, F52]
  refine w_rounds [] [] 0 (Nat.le_refl _) (sizeInv s) s ⟨by simp, 0, s, rfl, hs, by omega, by omega, by simp⟩ ?_
  rintro m S ⟨c, t, rfl, ht, hc, hp, rfl⟩
  have h9 := pop_le9 hs
  by_cases h : 0 < t
  · have e1 := and1i t ht
    have e2 := shr1 t
    have e3 := wrap64 (n := (c : Int) + (t : Int) % 2) (by omega)
    have e4 := wrap64 (n := ((t / 2 : Nat) : Int)) (by omega)
    rw [pop_eq t] at hp
    simp -implicitDefEqProofs [h, ↓binS_and, e1, e2, e3, e4]
    exact ⟨t / 2, by omega, c + t % 2, t / 2, rfl, by omega, by omega, by omega, by simp⟩
  · have h1 : t = 0 := by omega
    subst h1
    rw [pop_zero] at hp
    have : c = pop s := by omega
    simp -implicitDefEqProofs [this]
end Go.Proofs.Ytebibhmjmaomnaa
namespace Go.Proofs.Ytebibhmjmaomnaa
open Go.RowKit Go.Proofs
def zi (q : List Nat) : List Int := q.map fun n : Nat => (n : Int)
@[simp] theorem zi_length (q : List Nat) : (zi q).length = q.length := by simp [zi]
@[simp] theorem zi_nil : zi [] = [] := rfl
def cV (n : Int) (q : List Nat) : V := .agg [.s (.int .i64 n), .list 1 (iv (zi q))]
def rV (n : Int) (q : List Nat) (e : Int) : V := .tup [cV n q, .s (.int .i64 e)]
def eV (e : Int) : V := .tup [.agg [.s (.int .i64 0), .s (.slice none 0 0)], .s (.int .i64 e)]
def raw (e n : Int) (q : List Nat) : V := if e = 0 then rV n q 0 else eV e
def res (e n : Int) (q : List Nat) : V := if e = 0 then rV n q 0 else rV 0 [] e
theorem raw_fr (e n : Int) (q : List Nat) : frT (raw e n q) (res e n q) := by
  unfold raw res
  split
  · simp [rV, cV, frT, frAs, frA, frLs, frL, immC]
  · simp [rV, cV, eV, frT, frAs, frA, frLs, frL, immC]
theorem res_ok (e n : Int) (q : List Nat) : okV (res e n q) = true := by unfold res; split <;> rfl
theorem pc_res {f : Nat} {args : List V} {e n : Int} {q : List Nat} (h : PC Try.prog f args (fun r => r = raw e n q)) : PC Try.prog f args (fun r => r = res e n q) :=
  pc_list h fun x hx _ => ⟨_, hx ▸ raw_fr e n q, res_ok e n q, rfl⟩
theorem upto_subs (n : Nat) : upto (2 ^ n) = zi (subs n) := by
  have h1 : 1 ≤ 2 ^ n := Nat.pow_pos (by omega)
  unfold subs zi
  generalize 2 ^ n = k at h1
  induction k with
  | zero => omega
  | succ k ih =>
    rcases Nat.eq_zero_or_pos k with h | h
    · subst h; simp [upto]
    · rw [upto_succ h, ih h, List.range_succ, List.filter_append, List.map_append]
      have : decide (1 ≤ k) = true := decide_eq_true h
      simp [List.filter, this]
theorem filter_zi (l : List Nat) (p : Int → Bool) (q : Nat → Bool) (h : ∀ s ∈ l, p (s : Int) = q s) : (zi l).filter p = zi (l.filter q) := by
  induction l with
  | nil => rfl
  | cons x l ih =>
    have h1 := h x (by simp)
    have h2 := ih fun s hs => h s (by simp [hs])
    simp only [zi, List.map_cons, List.filter_cons] at h2 ⊢
    rw [h1]
    split <;> simp [h2]
def majE (n : Int) : Int := if 1 ≤ n ∧ n ≤ 9 then (if (major n.toNat).length ≤ 64 then 0 else 4) else 1
theorem maj_filter (n : Nat) : (upto (2 ^ n)).filter (pMaj n) = zi (major n) := by
  rw [upto_subs]
  exact filter_zi _ _ _ fun s hs => by simp [pMaj]
end Go.Proofs.Ytebibhmjmaomnaa
namespace Go.Proofs.Ytebibhmjmaomnaa
open Go.RowKit Go.Proofs
theorem upto_filter_succ {i : Nat} (h : 1 ≤ i) (p : Int → Bool) : (upto (i + 1)).filter p = (upto i).filter p ++ (if p i then [(i : Int)] else []) := by
  rw [upto_succ h, List.filter_append]
  congr 1
  simp [List.filter]
  split <;> simp_all
def rmInv (n : Nat) (m : Nat) (S : St) : Prop := ∃ i, 1 ≤ i ∧ i + m = 2 ^ n ∧ S = ⟨tmL [(2, .ptr 0 0), (4, .ptr 1 0)], [.s (.int .i64 n), .s (.int .i64 0), .s (.int .i64 i)], [[.s (.int .i64 0), .s (.slice none 0 0)], [.s (.int .i64 n), .own true 3 1 (iv ((upto i).filter (pMaj n)))]], 0⟩
set_option maxHeartbeats 4000000 in
theorem rMajority_pc0 (n : Int) : PC Try.prog 29 [.s (.int .i64 n)] (fun r => r = raw (majE n) n (major n.toNat)) := by
  refine pc_end c29 mixed rfl ?_
  by_cases h1 : n < 1
  · have e : majE n = 1 := by simp only [majE]; rw [if_neg (by omega)]
    simp -implicitDefEqProofs [a29, F29, h1, e, raw, eV]
  by_cases h2 : 9 < n
  · have e : majE n = 1 := by simp only [majE]; rw [if_neg (by omega)]
    simp -implicitDefEqProofs [a29, F29, h1, h2, e, raw, eV]
  have h : 1 ≤ n ∧ n ≤ 9 := by omega
  obtain ⟨k, rfl⟩ : ∃ k : Nat, n = k := ⟨n.toNat, by omega⟩
  have hk : k ≤ 9 := by omega
  have h512 : 2 ^ k ≤ 2 ^ 9 := Nat.pow_le_pow_right (by omega) hk
  have h1n : 1 ≤ 2 ^ k := Nat.pow_pos (by omega)
  have e := shl1 (n := k) (by omega)
  have hn0 : ¬ (k : Int) < 0 := by omega
  have hfil := maj_filter k
  have hinv : rmInv k = fun m S => ∃ i : Nat, 1 ≤ i ∧ i + m = 2 ^ k ∧ S = ⟨tmL [(2, .ptr 0 0), (4, .ptr 1 0)], [.s (.int .i64 k), .s (.int .i64 0), .s (.int .i64 i)], [[.s (.int .i64 0), .s (.slice none 0 0)], [.s (.int .i64 k), .own true 3 1 (iv ((upto i).filter (pMaj k)))]], 0⟩ := rfl
  generalize 2 ^ k = K at *
  simp -implicitDefEqProofs [a29, F29, h1, h2]
  refine w_rounds [2, 4] [] 2 (by decide) (rmInv k) (K - 1) ⟨by simp, ?_⟩ ?_
  · rw [hinv]
    exact ⟨1, by omega, by omega, by simp [upto]⟩
  rintro m S hS
  rw [hinv] at hS
  obtain ⟨i, hi1, hi, rfl⟩ := hS
  obtain ⟨w2, w3⟩ := half_i k hk
  by_cases hm : i < K
  · have g1 : (i : Int) < K := by omega
    have hw := wrap64 (n := (i : Int) + 1) (by omega)
    have hfl : ((upto i).filter (pMaj k)).length ≤ i - 1 := Nat.le_trans (List.length_filter_le _ _) (by simp)
    have b1 : ((upto i).filter (pMaj k)).length + 1 ≤ maxLen ∧ (((upto i).filter (pMaj k)).length + 1) * 8 ≤ maxBytes := by simp [maxLen, maxBytes]; omega
    have hs := upto_filter_succ hi1 (pMaj k)
    simp -implicitDefEqProofs [g1, hn0, e]
    refine wk_take ?_
    simp -implicitDefEqProofs
    refine wc_of (size_pc i (by omega)) (by simp) (by simp) ?_
    rintro _ rfl
    cases hp : pMaj k (i : Int)
    · have hp' : ((pop i : Int) == (k : Int) / 2 + 1) = false := by simp [pMaj] at hp; simp; omega
      rw [hp] at hs
      simp -implicitDefEqProofs [w2, w3, hp', hw]
      refine ⟨m - 1, by omega, ?_⟩
      rw [hinv]
      exact ⟨i + 1, by omega, by omega, by rw [hs]; simp⟩
    · have hp' : ((pop i : Int) == (k : Int) / 2 + 1) = true := by simp [pMaj] at hp; simp; omega
      rw [hp] at hs
      simp -implicitDefEqProofs [w2, w3, hp', hw, b1]
      refine ⟨m - 1, by omega, ?_⟩
      rw [hinv]
      exact ⟨i + 1, by omega, by omega, by rw [hs]; simp [iv]⟩
  · have h2 : i = K := by omega
    subst h2
    rw [hfil]
    by_cases h2 : (major k).length ≤ 64
    · have g1 : ¬ (64 : Int) < ((major k).length : Int) := by omega
      have e' : majE k = 0 := by simp [majE, h, h2]
      simp -implicitDefEqProofs [hn0, e, g1, e', raw, rV, cV]
    · have g1 : (64 : Int) < ((major k).length : Int) := by omega
      have e' : majE k = 4 := by simp [majE, h, h2]
      simp -implicitDefEqProofs [hn0, e, g1, e', raw, eV]
theorem rMajority_pc (n : Int) : PC Try.prog 29 [.s (.int .i64 n)] (fun r => r = res (majE n) n (major n.toNat)) := pc_res (rMajority_pc0 n)
end Go.Proofs.Ytebibhmjmaomnaa
namespace Go.Proofs.Ytebibhmjmaomnaa
open Go.RowKit Go.Proofs
def ascP (k : Nat) (q : List Int) (i : Nat) : Prop := (1 ≤ q.getD i 0 ∧ q.getD i 0 < ((2 ^ k : Nat) : Int)) ∧ (0 < i → q.getD (i - 1) 0 < q.getD i 0)
structure okC (n : Int) (q : List Int) : Prop where
  n1 : 1 ≤ n ∧ n ≤ 9
  l1 : 1 ≤ q.length
  l2 : q.length ≤ 64
  asc : ∀ i, i < q.length → ascP n.toNat q i
  mm : ∀ s ∈ q, q.all (pMeet s) = true ∧ q.all (pMin s) = true
noncomputable def okB (n : Int) (q : List Int) : Bool := @decide (okC n q) (Classical.propDecidable _)
theorem okB_t {n : Int} {q : List Int} (h : okC n q) : okB n q = true := by unfold okB; exact @decide_eq_true _ (Classical.propDecidable _) h
theorem okB_f {n : Int} {q : List Int} (h : ¬ okC n q) : okB n q = false := by unfold okB; exact @decide_eq_false _ (Classical.propDecidable _) h
theorem okB_iff {n : Int} {q : List Int} : okB n q = true ↔ okC n q := by
  by_cases h : okC n q
  · simp [okB_t h, h]
  · simp [okB_f h, h]
def cP (n : Int) (q : List Int) : V := .agg [.s (.int .i64 n), .list 1 (iv q)]
theorem getD_of {q : List Int} {i : Nat} (h : i < q.length) : q.getD i 0 = q[i] := by simp [List.getD_eq_getElem?_getD, h]
theorem mem_take1 {α : Type} {l : List α} {i : Nat} (h : i < l.length) (x : α) : x ∈ l.take (i + 1) ↔ x ∈ l.take i ∨ x = l[i] := by
  rw [List.take_add_one, List.getElem?_eq_getElem h, List.mem_append]; simp
def va1 (k : Nat) (q : List Int) (m : Nat) (S : St) : Prop := ∃ i : Nat, i + m = q.length ∧ (∀ j, j < i → ascP k q j) ∧ S = ⟨tmL [(1, .ptr 0 0), (24, .list 1 (iv q)), (25, .s (.int .i64 q.length)), (26, .s (.int .i64 i))], [.agg [.s (.int .i64 k), .list 1 (iv q)], .s (.bool false), .no, .no, .no], [[.s (.int .i64 k), .list 1 (iv q)]], 0⟩
def va2 (k : Nat) (q : List Int) (m : Nat) (S : St) : Prop := ∃ i : Nat, i + m = q.length ∧ (∀ s ∈ q.take i, q.all (pMeet s) = true ∧ q.all (pMin s) = true) ∧ S = ⟨tmL [(1, .ptr 0 0), (52, .list 1 (iv q)), (53, .s (.int .i64 q.length)), (54, .s (.int .i64 i))], [.agg [.s (.int .i64 k), .list 1 (iv q)], .s (.bool false), .no, .no, .no], [[.s (.int .i64 k), .list 1 (iv q)]], 0⟩
set_option maxHeartbeats 8000000 in
theorem Valid_pc (n : Int) (q : List Int) (hq : q.length ≤ 1000000) : PC Try.prog 63 [cP n q] (fun r => r = .s (.bool (okB n q))) := by
  refine pc_end c63 mixed rfl ?_
  simp -implicitDefEqProofs [a63, F63, cP]
  refine wk_take ?_
  simp -implicitDefEqProofs
  refine wc_of (voters_pc n) (by simp) (by simp) ?_
  rintro _ rfl
  by_cases h1 : 1 ≤ n ∧ n ≤ 9
  case neg =>
    have e := okB_f (n := n) (q := q) fun h => h1 h.n1
    simp -implicitDefEqProofs [h1, e]
  obtain ⟨k, rfl⟩ : ∃ k : Nat, n = k := ⟨n.toNat, by omega⟩
  have hk : k ≤ 9 := by omega
  by_cases h2 : (q.length : Int) < 1
  · have e := okB_f (n := k) (q := q) fun h => by have := h.l1; omega
    simp -implicitDefEqProofs [h1, h2, e]
  by_cases h3 : (64 : Int) < (q.length : Int)
  · have e := okB_f (n := k) (q := q) fun h => by have := h.l2; omega
    simp -implicitDefEqProofs [h1, h2, h3, e]
  simp -implicitDefEqProofs [h1, h2, h3]
  refine w_rounds [1, 24, 25, 26] [2, 3, 4] 1 (by decide) (va1 k q) q.length ⟨by simp, 0, by simp, by simp, by simp⟩ ?_
  rintro m S ⟨i, hi, hx, rfl⟩
  by_cases hm : i < q.length
  · have g1 : (i : Int) < q.length := by omega
    have g0 : ¬ (i : Int) < 0 := by omega
    have hw := wrap64 (n := (i : Int) + 1) (by omega)
    have bad : ¬ ascP k q i → okB k q = false := fun hb => okB_f fun h => hb (h.asc i hm)
    have hgi := getD_of hm
    simp -implicitDefEqProofs [g1, g0, iv_get hm]
    refine wk_take ?_
    simp -implicitDefEqProofs
    refine wc_of (isSet_pc q[i] k (by omega)) (by simp) (by simp) ?_
    rintro _ rfl
    by_cases h4 : 1 ≤ q[i] ∧ q[i] < ((2 ^ k : Nat) : Int)
    case neg =>
      have e := bad fun h => h4 (by rw [← hgi]; exact h.1)
      rw [decide_eq_false h4]
      simp -implicitDefEqProofs [e]
    rw [decide_eq_true h4]
    rcases Nat.eq_zero_or_pos i with hz | hz
    · have hz' : ¬ 0 < i := by omega
      simp -implicitDefEqProofs [hz', hw]
      refine ⟨m - 1, by omega, i + 1, by omega, fun j hj => ?_, by simp⟩
      rcases Nat.lt_succ_iff_lt_or_eq.1 hj with h | rfl
      · exact hx j h
      · exact ⟨by rw [hgi]; exact h4, fun h => by omega⟩
    · have hp : i - 1 < q.length := by omega
      have w2 : IntKind.i64.wrap ((i : Int) - 1) = ((i - 1 : Nat) : Int) := by rw [wrap64 (by omega)]; omega
      have g2 : ¬ ((i - 1 : Nat) : Int) < 0 := by omega
      have hgp := getD_of hp
      by_cases h5 : q[i] ≤ q[i - 1]
      · have e := bad fun h => by have := h.2 hz; rw [hgi, hgp] at this; omega
        simp -implicitDefEqProofs [hz, w2, g2, iv_get hp, h5, e]
      · simp -implicitDefEqProofs [hz, w2, g2, iv_get hp, h5, hw]
        refine ⟨m - 1, by omega, i + 1, by omega, fun j hj => ?_, by simp⟩
        rcases Nat.lt_succ_iff_lt_or_eq.1 hj with h | rfl
        · exact hx j h
        · exact ⟨by rw [hgi]; exact h4, fun _ => by rw [hgi, hgp]; omega⟩
  have h6 : i = q.length := by omega
  subst h6
  simp -implicitDefEqProofs
  refine w_rounds [1, 52, 53, 54] [2, 3, 4] 1 (by decide) (va2 k q) q.length ⟨by simp, 0, by simp, by simp, by simp⟩ ?_
  rintro m S ⟨i, hi, hy, rfl⟩
  by_cases hm : i < q.length
  · have g1 : (i : Int) < q.length := by omega
    have g0 : ¬ (i : Int) < 0 := by omega
    have hw := wrap64 (n := (i : Int) + 1) (by omega)
    have bad : ¬ (q.all (pMeet q[i]) = true ∧ q.all (pMin q[i]) = true) → okB k q = false := fun hb => okB_f fun h => hb (h.mm _ (List.getElem_mem hm))
    simp -implicitDefEqProofs [g1, g0, iv_get hm]
    refine wk_take ?_
    simp -implicitDefEqProofs
    refine wc_of (meet_pc q[i] q hq) (by simp) (by simp) ?_
    rintro _ rfl
    cases h7 : q.all (pMeet q[i])
    · have e := bad fun h => by rw [h7] at h; cases h.1
      simp -implicitDefEqProofs [e]
    simp -implicitDefEqProofs
    refine wk_take ?_
    simp -implicitDefEqProofs
    refine wc_of (minimal_pc q[i] q hq) (by simp) (by simp) ?_
    rintro _ rfl
    cases h8 : q.all (pMin q[i])
    · have e := bad fun h => by rw [h8] at h; cases h.2
      simp -implicitDefEqProofs [e]
    · simp -implicitDefEqProofs [hw]
      refine ⟨m - 1, by omega, i + 1, by omega, fun s hs => ?_, by simp⟩
      rw [mem_take1 hm] at hs
      rcases hs with h | rfl
      · exact hy s h
      · exact ⟨h7, h8⟩
  have h6 : i = q.length := by omega
  rw [List.take_of_length_le (by omega)] at hy
  have e := okB_t (n := k) (q := q) ⟨h1, by omega, by omega, fun i hi => hx i (by omega), hy⟩
  simp -implicitDefEqProofs [h6, e]
end Go.Proofs.Ytebibhmjmaomnaa
namespace Go.Proofs.Ytebibhmjmaomnaa
open Go.RowKit Go.Proofs
theorem band_comm (a b : Int) : band a b = band b a := i64_and_comm a b
def prP (p q : Int) : Bool := !(band p q == 0) && !(band p q == p) && !(band q p == q)
structure rowP (k : Nat) (q : List Int) (i : Nat) : Prop where
  asc : ascP k q i
  pr : (q.take i).all (fun p => prP p (q.getD i 0)) = true
theorem asc_lt {k : Nat} {q : List Int} (h : ∀ i, i < q.length → ascP k q i) : ∀ {i j : Nat}, i < j → j < q.length → q.getD i 0 < q.getD j 0 := by
  intro i j hij
  induction j with
  | zero => omega
  | succ j ih =>
    intro hj
    have h1 := (h (j + 1) hj).2 (by omega)
    rw [Nat.add_sub_cancel] at h1
    rcases Nat.lt_succ_iff_lt_or_eq.1 hij with h2 | rfl
    · have := ih h2 (by omega); omega
    · exact h1
theorem band_self {k : Nat} {s : Int} (hk : k ≤ 9) (h : 1 ≤ s ∧ s < ((2 ^ k : Nat) : Int)) : band s s = s := by
  have h2 : 2 ^ k ≤ 2 ^ 9 := Nat.pow_le_pow_right (by omega) hk
  generalize 2 ^ k = K at *
  obtain ⟨a, rfl⟩ : ∃ a : Nat, s = a := ⟨s.toNat, by omega⟩
  unfold band
  rw [i64_and_nat a a (by omega) (by omega), Nat.and_self]
theorem row_iff {k : Nat} {q : List Int} (hk : k ≤ 9) (h : ∀ i, i < q.length → ascP k q i) : (∀ i, i < q.length → rowP k q i) ↔ ∀ s ∈ q, q.all (pMeet s) = true ∧ q.all (pMin s) = true := by
  have hget : ∀ {i : Nat} (hi : i < q.length), q.getD i 0 = q[i] := fun hi => getD_of hi
  constructor
  · intro hr s hs
    obtain ⟨i, hi, rfl⟩ := List.getElem_of_mem hs
    have key : ∀ j (hj : j < q.length), pMeet q[i] q[j] = true ∧ pMin q[i] q[j] = true := by
      intro j hj
      have hpair : ∀ a b (ha : a < q.length) (hb : b < q.length), a < b → band q[a] q[b] ≠ 0 ∧ band q[a] q[b] ≠ q[a] ∧ band q[a] q[b] ≠ q[b] := by
        intro a b ha hb hab
        have := (hr b hb).pr
        rw [List.all_eq_true] at this
        have h2 := this q[a] (List.mem_take_iff_getElem.2 ⟨a, by omega, rfl⟩)
        rw [hget hb] at h2
        simp only [prP, Bool.and_eq_true, Bool.not_eq_true', beq_eq_false_iff_ne] at h2
        rw [band_comm q[b] q[a]] at h2
        exact ⟨h2.1.1, h2.1.2, h2.2⟩
      rcases Nat.lt_trichotomy i j with hij | rfl | hij
      · obtain ⟨a1, a2, a3⟩ := hpair i j hi hj hij
        exact ⟨by simp [pMeet, a1], by simp [pMin, a3]⟩
      · have hs := band_self hk (by have := (h i hi).1; rw [hget hi] at this; exact this)
        have h1 := (h i hi).1
        rw [hget hi] at h1
        exact ⟨by simp [pMeet, hs]; omega, by simp [pMin]⟩
      · obtain ⟨a1, a2, a3⟩ := hpair j i hj hi hij
        rw [band_comm] at a1 a2
        exact ⟨by simp [pMeet, a1], by simp [pMin, a2]⟩
    constructor <;> rw [List.all_eq_true] <;> intro t ht <;> obtain ⟨j, hj, rfl⟩ := List.getElem_of_mem ht
    · exact (key j hj).1
    · exact (key j hj).2
  · intro hm i hi
    refine ⟨h i hi, ?_⟩
    rw [List.all_eq_true]
    intro p hp
    obtain ⟨j, hj, rfl⟩ := List.mem_take_iff_getElem.1 hp
    have hjl : j < q.length := by omega
    have hne : q[j] ≠ q[i] := by
      have := asc_lt h (show j < i by omega) hi
      rw [hget hjl, hget hi] at this
      omega
    have m1 := hm q[i] (List.getElem_mem hi)
    have m2 := hm q[j] (List.getElem_mem hjl)
    simp only [List.all_eq_true] at m1 m2
    have a1 := m2.1 q[i] (List.getElem_mem hi)
    have a2 := m1.2 q[j] (List.getElem_mem hjl)
    have a3 := m2.2 q[i] (List.getElem_mem hi)
    rw [hget hi]
    simp only [pMeet, Bool.not_eq_true', beq_eq_false_iff_ne] at a1
    have a2' : band q[i] q[j] ≠ q[j] := by
      intro e
      simp [pMin, hne, e] at a2
    have a3' : band q[j] q[i] ≠ q[i] := by
      intro e
      simp [pMin, Ne.symm hne, e] at a3
    rw [band_comm] at a2'
    have a3'' := a3'
    rw [band_comm] at a3''
    simp [prP, a1, a2', a3'']
def rv1 (k : Nat) (q : List Int) (m : Nat) (S : St) : Prop := ∃ i : Nat, i + m = q.length ∧ (∀ j, j < i → rowP k q j) ∧ S = ⟨tmL [(1, .ptr 0 0), (8, .list 1 (iv q)), (9, .s (.int .i64 q.length)), (10, .s (.int .i64 i))], [.agg [.s (.int .i64 k), .list 1 (iv q)], .s (.bool false), .no, .no, .no], [[.s (.int .i64 k), .list 1 (iv q)]], 0⟩
def rv2 (k : Nat) (q : List Int) (i : Nat) (m : Nat) (S : St) : Prop := ∃ j : Nat, j + m = i ∧ (q.take j).all (fun p => prP p (q.getD i 0)) = true ∧ S = ⟨tmL [(1, .ptr 0 0), (8, .list 1 (iv q)), (9, .s (.int .i64 q.length)), (10, .s (.int .i64 i)), (41, .list 1 (iv (q.take i))), (42, .s (.int .i64 i)), (43, .s (.int .i64 j))], [.agg [.s (.int .i64 k), .list 1 (iv q)], .s (.bool false), .s (.int .i64 i), .s (.int .i64 (q.getD i 0)), .no], [[.s (.int .i64 k), .list 1 (iv q)]], 0⟩
theorem iv_take (q : List Int) (i : Nat) : (iv q).take i = iv (q.take i) := by simp [iv, List.map_take]
noncomputable def rowB (k : Nat) (q : List Int) : Bool := @decide (∀ i, i < q.length → rowP k q i) (Classical.propDecidable _)
theorem rowB_t {k : Nat} {q : List Int} (h : ∀ i, i < q.length → rowP k q i) : rowB k q = true := by unfold rowB; exact @decide_eq_true _ (Classical.propDecidable _) h
theorem rowB_f {k : Nat} {q : List Int} (h : ¬ ∀ i, i < q.length → rowP k q i) : rowB k q = false := by unfold rowB; exact @decide_eq_false _ (Classical.propDecidable _) h
set_option maxHeartbeats 8000000 in
theorem rows_pc (k : Nat) (hk : k ≤ 9) (q : List Int) (hq : q.length ≤ 1000000) : PC Try.prog 65 [cP k q] (fun r => r = .s (.bool (rowB k q))) := by
  refine pc_end c65 mixed rfl ?_
  have es := shl1 (n := k) (by omega)
  obtain ⟨K, hK⟩ : ∃ K : Nat, K = 2 ^ k := ⟨_, rfl⟩
  rw [← hK] at es
  have k0 : ¬ (k : Int) < 0 := by omega
  simp -implicitDefEqProofs [a65, F65, cP]
  refine w_rounds [1, 8, 9, 10] [2, 3, 4] 1 (by decide) (rv1 k q) q.length ⟨by simp, 0, by simp, by simp, by simp⟩ ?_
  rintro m S ⟨i, hi, hx, rfl⟩
  by_cases hm : i < q.length
  case neg =>
    have h6 : i = q.length := by omega
    have e := rowB_t fun j hj => hx j (by omega)
    simp -implicitDefEqProofs [h6, e]
  have g1 : (i : Int) < q.length := by omega
  have g0 : ¬ (i : Int) < 0 := by omega
  have hw := wrap64 (n := (i : Int) + 1) (by omega)
  have bad : ¬ ascP k q i → rowB k q = false := fun hb => rowB_f fun h => hb (h i hm).asc
  have bad2 : ¬ rowP k q i → rowB k q = false := fun hb => rowB_f fun h => hb (h i hm)
  have hgi := getD_of hm
  have hgd : q[i]?.getD 0 = q[i] := by simp [hm]
  have hile : i ≤ q.length := by omega
  have hmin : min i q.length = i := by omega
  by_cases c1 : q[i] < 1
  · have e := bad fun h => by have := h.1.1; omega
    simp -implicitDefEqProofs [g1, g0, iv_get hm, c1, e]
  by_cases c2 : (K : Int) ≤ q[i]
  · have e := bad fun h => by have := h.1.2; rw [← hK] at this; omega
    simp -implicitDefEqProofs [g1, g0, iv_get hm, c1, k0, es, c2, e]
  rcases Nat.eq_zero_or_pos i with hz | hz
  · have hz' : ¬ 0 < i := by omega
    have hasc : ascP k q i := ⟨by rw [hgi, ← hK]; omega, fun h => by omega⟩
    simp -implicitDefEqProofs [g1, g0, iv_get hm, c1, k0, es, c2, hz', hile, iv_take, hmin]
    refine w_rounds [1, 8, 9, 10, 41, 42, 43] [4] 1 (by decide) (rv2 k q i) i ⟨by simp, 0, by simp, by simp, by simp [iv_take, hgd]⟩ ?_
    rintro m' S ⟨j, hj, hpr, rfl⟩
    by_cases hj2 : j < i
    case neg =>
      have h6 : j = i := by omega
      subst h6
      simp -implicitDefEqProofs [hw]
      refine ⟨m - 1, by omega, j + 1, by omega, fun j' hj' => ?_, by simp⟩
      rcases Nat.lt_succ_iff_lt_or_eq.1 hj' with h | rfl
      · exact hx _ h
      · exact ⟨hasc, hpr⟩
    have j1 : (j : Int) < (i : Int) := by omega
    have j0 : ¬ (j : Int) < 0 := by omega
    have hjt : j < (q.take i).length := by simp; omega
    have hjq : j < q.length := by omega
    have hgt : (q.take i)[j]'hjt = q[j] := by simp
    have hgj : (iv (q.take i))[j]? = some (.s (.int .i64 q[j])) := by rw [iv_get hjt, hgt]
    have hwj := wrap64 (n := (j : Int) + 1) (by omega)
    have hpr1 : prP q[j] q[i] = (!(bits .and .i64 q[j] q[i] == 0) && !(band q[j] q[i] == q[j]) && !(band q[i] q[j] == q[i])) := rfl
    have stop : prP q[j] q[i] = false → rowB k q = false := fun hb => bad2 fun h => by
      have := h.pr
      rw [List.all_eq_true] at this
      have := this q[j] (List.mem_take_iff_getElem.2 ⟨j, by omega, rfl⟩)
      rw [hgi, hb] at this
      cases this
    cases d1 : (bits .and .i64 q[j] q[i] == 0)
    case true =>
      have e := stop (by rw [hpr1, d1]; rfl)
      simp -implicitDefEqProofs [j1, j0, hgj, hgd, ↓binS_and, d1, e]
    simp -implicitDefEqProofs [j1, j0, hgj, hgd, ↓binS_and, d1]
    refine wk_take ?_
    simp -implicitDefEqProofs
    refine wc_of (inside_pc q[j] q[i]) (by simp) (by simp) ?_
    rintro _ rfl
    cases d2 : (band q[j] q[i] == q[j])
    case true =>
      have e := stop (by rw [hpr1, d1, d2]; rfl)
      simp -implicitDefEqProofs [e]
    simp -implicitDefEqProofs
    refine wk_take ?_
    simp -implicitDefEqProofs
    refine wc_of (inside_pc q[i] q[j]) (by simp) (by simp) ?_
    rintro _ rfl
    cases d3 : (band q[i] q[j] == q[i])
    case true =>
      have e := stop (by rw [hpr1, d1, d2, d3]; rfl)
      simp -implicitDefEqProofs [e]
    simp -implicitDefEqProofs [hwj]
    refine ⟨m' - 1, by omega, j + 1, by omega, ?_, by simp [hgd]⟩
    have hpt : prP q[j] (q.getD i 0) = true := by rw [hgi, hpr1, d1, d2, d3]; rfl
    rw [all_take1 hjq, hpr, hpt]; rfl
  · have hp : i - 1 < q.length := by omega
    have w2 : IntKind.i64.wrap ((i : Int) - 1) = ((i - 1 : Nat) : Int) := by rw [wrap64 (by omega)]; omega
    have g2 : ¬ ((i - 1 : Nat) : Int) < 0 := by omega
    have hgp := getD_of hp
    by_cases h5 : q[i] ≤ q[i - 1]
    · have e := bad fun h => by have := h.2 hz; rw [hgi, hgp] at this; omega
      simp -implicitDefEqProofs [g1, g0, iv_get hm, c1, k0, es, c2, hz, w2, g2, iv_get hp, h5, e]
    have hasc : ascP k q i := ⟨by rw [hgi, ← hK]; omega, fun h => by rw [hgi, hgp]; omega⟩
    simp -implicitDefEqProofs [g1, g0, iv_get hm, c1, k0, es, c2, hz, w2, g2, iv_get hp, h5, hile, iv_take, hmin]
    refine w_rounds [1, 8, 9, 10, 41, 42, 43] [4] 1 (by decide) (rv2 k q i) i ⟨by simp, 0, by simp, by simp, by simp [iv_take, hgd]⟩ ?_
    rintro m' S ⟨j, hj, hpr, rfl⟩
    by_cases hj2 : j < i
    case neg =>
      have h6 : j = i := by omega
      subst h6
      simp -implicitDefEqProofs [hw]
      refine ⟨m - 1, by omega, j + 1, by omega, fun j' hj' => ?_, by simp⟩
      rcases Nat.lt_succ_iff_lt_or_eq.1 hj' with h | rfl
      · exact hx _ h
      · exact ⟨hasc, hpr⟩
    have j1 : (j : Int) < (i : Int) := by omega
    have j0 : ¬ (j : Int) < 0 := by omega
    have hjt : j < (q.take i).length := by simp; omega
    have hjq : j < q.length := by omega
    have hgt : (q.take i)[j]'hjt = q[j] := by simp
    have hgj : (iv (q.take i))[j]? = some (.s (.int .i64 q[j])) := by rw [iv_get hjt, hgt]
    have hwj := wrap64 (n := (j : Int) + 1) (by omega)
    have hpr1 : prP q[j] q[i] = (!(bits .and .i64 q[j] q[i] == 0) && !(band q[j] q[i] == q[j]) && !(band q[i] q[j] == q[i])) := rfl
    have stop : prP q[j] q[i] = false → rowB k q = false := fun hb => bad2 fun h => by
      have := h.pr
      rw [List.all_eq_true] at this
      have := this q[j] (List.mem_take_iff_getElem.2 ⟨j, by omega, rfl⟩)
      rw [hgi, hb] at this
      cases this
    cases d1 : (bits .and .i64 q[j] q[i] == 0)
    case true =>
      have e := stop (by rw [hpr1, d1]; rfl)
      simp -implicitDefEqProofs [j1, j0, hgj, hgd, ↓binS_and, d1, e]
    simp -implicitDefEqProofs [j1, j0, hgj, hgd, ↓binS_and, d1]
    refine wk_take ?_
    simp -implicitDefEqProofs
    refine wc_of (inside_pc q[j] q[i]) (by simp) (by simp) ?_
    rintro _ rfl
    cases d2 : (band q[j] q[i] == q[j])
    case true =>
      have e := stop (by rw [hpr1, d1, d2]; rfl)
      simp -implicitDefEqProofs [e]
    simp -implicitDefEqProofs
    refine wk_take ?_
    simp -implicitDefEqProofs
    refine wc_of (inside_pc q[i] q[j]) (by simp) (by simp) ?_
    rintro _ rfl
    cases d3 : (band q[i] q[j] == q[i])
    case true =>
      have e := stop (by rw [hpr1, d1, d2, d3]; rfl)
      simp -implicitDefEqProofs [e]
    simp -implicitDefEqProofs [hwj]
    refine ⟨m' - 1, by omega, j + 1, by omega, ?_, by simp [hgd]⟩
    have hpt : prP q[j] (q.getD i 0) = true := by rw [hgi, hpr1, d1, d2, d3]; rfl
    rw [all_take1 hjq, hpr, hpt]; rfl
theorem okB_rows {k : Nat} {q : List Int} (hk : 1 ≤ k ∧ k ≤ 9) (h1 : 1 ≤ q.length) (h2 : q.length ≤ 64) : okB k q = rowB k q := by
  by_cases h : ∀ i, i < q.length → rowP k q i
  · rw [rowB_t h]
    exact okB_t ⟨by omega, h1, h2, fun i hi => (h i hi).asc, (row_iff hk.2 fun i hi => (h i hi).asc).1 h⟩
  · rw [rowB_f h]
    exact okB_f fun o => h ((row_iff hk.2 o.asc).2 o.mm)
set_option maxHeartbeats 8000000 in
theorem rValid_pc (n : Int) (q : List Int) (hq : q.length ≤ 1000000) : PC Try.prog 55 [cP n q] (fun r => r = .s (.bool (okB n q))) := by
  refine pc_end c55 mixed rfl ?_
  by_cases h1 : 1 ≤ n
  case neg =>
    have e := okB_f (n := n) (q := q) fun h => h1 h.n1.1
    simp -implicitDefEqProofs [a55, F55, cP, h1, e]
  by_cases h2 : n ≤ 9
  case neg =>
    have e := okB_f (n := n) (q := q) fun h => h2 h.n1.2
    simp -implicitDefEqProofs [a55, F55, cP, h1, h2, e]
  by_cases h3 : (1 : Int) ≤ (q.length : Int)
  case neg =>
    have e := okB_f (n := n) (q := q) fun h => by have := h.l1; omega
    simp -implicitDefEqProofs [a55, F55, cP, h1, h2, h3, e]
  by_cases h4 : (q.length : Int) ≤ 64
  case neg =>
    have e := okB_f (n := n) (q := q) fun h => by have := h.l2; omega
    simp -implicitDefEqProofs [a55, F55, cP, h1, h2, h3, h4, e]
  obtain ⟨k, rfl⟩ : ∃ k : Nat, n = k := ⟨n.toNat, by omega⟩
  simp -implicitDefEqProofs [a55, F55, cP, h1, h2, h3, h4]
  refine wk_take ?_
  simp -implicitDefEqProofs
  refine wc_of (rows_pc k (by omega) q hq) (by simp [cP]) (by simp [cP]) ?_
  rintro _ rfl
  simp -implicitDefEqProofs [okB_rows (k := k) (q := q) (by omega) (by omega) (by omega)]
end Go.Proofs.Ytebibhmjmaomnaa
namespace Go.Proofs.Ytebibhmjmaomnaa
open Go.RowKit Go.Proofs
theorem band_nat {a b : Nat} (ha : a < 512) (hb : b < 512) : band (a : Int) (b : Int) = ((a &&& b : Nat) : Int) := i64_and_nat a b (by omega) (by omega)
theorem pMeet_nat {a b : Nat} (ha : a < 512) (hb : b < 512) : pMeet (a : Int) (b : Int) = decide (a &&& b ≠ 0) := by
  unfold pMeet
  rw [band_nat ha hb]
  by_cases h : a &&& b = 0
  · simp [h]
  · have : ((a &&& b : Nat) : Int) ≠ 0 := by omega
    simp [h]
theorem pMin_nat {s t : Nat} (hs : s < 512) (ht : t < 512) : pMin (s : Int) (t : Int) = decide (Sub t s → t = s) := by
  unfold pMin
  rw [band_nat hs ht]
  have e : Sub t s ↔ ((s &&& t : Nat) : Int) = (t : Int) := by
    unfold Sub
    rw [Nat.and_comm]
    omega
  rw [Bool.eq_iff_iff]
  simp only [Bool.not_eq_true', Bool.and_eq_false_iff, bne_eq_false_iff_eq, beq_eq_false_iff_ne, decide_eq_true_eq]
  rw [e]
  constructor
  · rintro (h | h) hh
    · omega
    · exact absurd hh h
  · intro h
    by_cases he : ((s &&& t : Nat) : Int) = (t : Int)
    · have := h he; left; omega
    · exact .inr he
theorem zi_all {Q : List Nat} {p : Int → Bool} {q : Nat → Bool} (h : ∀ s ∈ Q, p (s : Int) = q s) : (zi Q).all p = Q.all q := by
  induction Q with
  | nil => rfl
  | cons x l ih =>
    have h1 := h x (by simp)
    have h2 := ih fun s hs => h s (by simp [hs])
    simp only [zi, List.map_cons, List.all_cons] at h2 ⊢
    rw [h1, h2]
theorem meets_zi {s : Nat} {Q : List Nat} (hs : s < 512) (hQ : ∀ t ∈ Q, t < 512) : (zi Q).all (pMeet s) = meets s Q := zi_all fun t ht => pMeet_nat hs (hQ t ht)
theorem minim_zi {s : Nat} {Q : List Nat} (hs : s < 512) (hQ : ∀ t ∈ Q, t < 512) : (zi Q).all (pMin s) = minim s Q := by
  rw [zi_all fun t ht => pMin_nat hs (hQ t ht)]
  rw [Bool.eq_iff_iff, minim_iff, List.all_eq_true]
  simp only [decide_eq_true_eq]
structure Cv (n : Int) (q : List Int) (k : Nat) (Q : List Nat) : Prop where
  n : n = k
  q : q = zi Q
  k1 : 1 ≤ k ∧ k ≤ 9
  cot : Cot k Q
  l64 : Q.length ≤ 64
theorem Cv.lt {n : Int} {q : List Int} {k : Nat} {Q : List Nat} (h : Cv n q k Q) : ∀ t ∈ Q, t < 512 := fun t ht => by
  have h1 := (h.cot.rng t ht).2
  have h2 : 2 ^ k ≤ 2 ^ 9 := Nat.pow_le_pow_right (by omega) h.k1.2
  omega
theorem okC_cv {n : Int} {q : List Int} (h : okC n q) : Cv n q n.toNat (q.map Int.toNat) := by
  have hn := h.n1
  have hrng : ∀ s ∈ q, 1 ≤ s ∧ s < ((2 ^ n.toNat : Nat) : Int) := fun s hs => by
    obtain ⟨i, hi, rfl⟩ := List.getElem_of_mem hs
    have := (h.asc i hi).1
    rwa [getD_of hi] at this
  have h9 : 2 ^ n.toNat ≤ 2 ^ 9 := Nat.pow_le_pow_right (by omega) (by omega)
  have hq : q = zi (q.map Int.toNat) := by
    unfold zi
    rw [List.map_map]
    exact (List.map_id q).symm.trans (List.map_congr_left fun s hs => by have := hrng s hs; simp; omega)
  have hmem : ∀ t ∈ q.map Int.toNat, ∃ s ∈ q, s = (t : Int) ∧ t < 512 ∧ 1 ≤ t ∧ t < 2 ^ n.toNat := fun t ht => by
    obtain ⟨s, hs, rfl⟩ := List.mem_map.1 ht
    have := hrng s hs
    exact ⟨s, hs, by omega, by omega, by omega, by omega⟩
  refine ⟨by omega, hq, by omega, ⟨fun t ht => ?_, ?_, fun s hs t ht => ?_, fun s hs t ht hst => ?_, fun e => ?_⟩, by simpa using h.l2⟩
  · obtain ⟨_, _, _, _, h1, h2⟩ := hmem t ht
    exact ⟨h1, h2⟩
  · rw [List.pairwise_map, List.pairwise_iff_getElem]
    intro i j hi hj hij
    have := asc_lt h.asc hij hj
    rw [getD_of hi, getD_of hj] at this
    have h1 := hrng q[i] (List.getElem_mem hi)
    omega
  · obtain ⟨a, ha, rfl, a1, _⟩ := hmem s hs
    obtain ⟨b, hb, rfl, b1, _⟩ := hmem t ht
    have := (h.mm _ ha).1
    rw [List.all_eq_true] at this
    have := this _ hb
    rw [pMeet_nat a1 b1] at this
    simpa using this
  · obtain ⟨a, ha, rfl, a1, _⟩ := hmem s hs
    obtain ⟨b, hb, rfl, b1, _⟩ := hmem t ht
    have := (h.mm _ hb).2
    rw [List.all_eq_true] at this
    have := this _ ha
    rw [pMin_nat b1 a1] at this
    simp only [decide_eq_true_eq] at this
    exact this hst
  · have h1 := h.l1
    have := congrArg List.length e
    simp at this
    rw [this] at h1
    simp at h1
theorem cot_ok {k : Nat} {Q : List Nat} (hk : 1 ≤ k ∧ k ≤ 9) (h : Cot k Q) (hl : Q.length ≤ 64) : okC k (zi Q) := by
  have h9 : 2 ^ k ≤ 2 ^ 9 := Nat.pow_le_pow_right (by omega) hk.2
  have hlt : ∀ t ∈ Q, t < 512 := fun t ht => by have := (h.rng t ht).2; omega
  have hget : ∀ {i : Nat} (hi : i < (zi Q).length), (zi Q).getD i 0 = ((Q[i]'(by simpa using hi) : Nat) : Int) := fun {i} hi => by rw [getD_of hi]; simp [zi]
  have hl1 : 1 ≤ Q.length := by
    rcases Nat.eq_zero_or_pos Q.length with h0 | h0
    · exact absurd (List.eq_nil_of_length_eq_zero h0) h.ne
    · exact h0
  refine ⟨by omega, by simpa using hl1, by simpa using hl, fun i hi => ⟨?_, fun hp => ?_⟩, fun s hs => ?_⟩
  · have := h.rng (Q[i]'(by simpa using hi)) (List.getElem_mem _)
    rw [hget hi]
    simp only [Int.toNat_natCast]
    omega
  · have hi' : i < Q.length := by simpa using hi
    have := List.pairwise_iff_getElem.1 h.asc (i - 1) i (by omega) hi' (by omega)
    rw [hget (i := i - 1) (by simp; omega), hget hi]
    omega
  · simp only [zi, List.mem_map] at hs
    obtain ⟨a, ha, rfl⟩ := hs
    rw [meets_zi (hlt a ha) hlt, minim_zi (hlt a ha) hlt]
    exact ⟨meets_iff.2 fun t ht => h.meet a ha t ht, minim_iff.2 fun t ht hst => h.anti t ht a ha hst⟩
end Go.Proofs.Ytebibhmjmaomnaa
namespace Go.Proofs.Ytebibhmjmaomnaa
open Go.RowKit Go.Proofs
def avail (up : Int) : List Int → Option Int
  | [] => none
  | s :: r => if band s up == s then some s else avail up r
theorem avail_take {up : Int} {l : List Int} {i : Nat} (h : i < l.length) (hn : avail up (l.take i) = none) : avail up (l.take (i + 1)) = (if band l[i] up == l[i] then some l[i] else none) ∧ ((band l[i] up == l[i]) = true → avail up l = some l[i]) := by
  induction l generalizing i with
  | nil => simp at h
  | cons x l ih =>
    cases i with
    | zero =>
      refine ⟨by simp [avail], fun hh => ?_⟩
      have : (band x up == x) = true := hh
      simp [avail, this]
    | succ i =>
      simp only [List.take_succ_cons, avail] at hn ⊢
      split at hn
      · cases hn
      · next hx =>
        rw [if_neg hx, if_neg hx]
        exact ih (by simpa using h) hn
def avR (o : Option Int) : V := .tup [.s (.int .i64 (o.getD 0)), .s (.bool o.isSome)]
noncomputable def availE (n : Int) (q : List Int) (up : Int) : Option Int := if okB n q = true then avail up q else none
def avInv (n : Int) (q : List Int) (up : Int) (t : Nat) (m : Nat) (S : St) : Prop := ∃ i : Nat, i + m = q.length ∧ avail up (q.take i) = none ∧ S = ⟨tmL [(12, .list 1 (iv q)), (13, .s (.int .i64 q.length)), (14, .s (.int .i64 i))], [.agg [.s (.int .i64 n), .list 1 (iv q)], .s (.int .i64 up), .s (.int .i64 0), .s (.bool false), .no], [], 0⟩
set_option maxHeartbeats 4000000 in
theorem Avail_pc (n : Int) (q : List Int) (up : Int) (hq : q.length ≤ 1000) : PC Try.prog 47 [cP n q, .s (.int .i64 up)] (fun r => r = avR (availE n q up)) := by
  refine pc_end c47 mixed rfl ?_
  simp -implicitDefEqProofs [a47, F47, cP]
  refine wk_take ?_
  simp -implicitDefEqProofs
  refine wc_of (Valid_pc n q (by omega)) (by simp [cP]) (by simp [cP]) ?_
  rintro _ rfl
  cases ho : okB n q
  · simp -implicitDefEqProofs [avR, availE, ho]
  have he : availE n q up = avail up q := by simp [availE, ho]
  simp -implicitDefEqProofs
  refine w_rounds [12, 13, 14] [4] 0 (by decide) (avInv n q up 0) q.length ⟨by simp, 0, by simp, by simp [avail], by simp⟩ ?_
  rintro m S ⟨i, hi, hx, rfl⟩
  by_cases hm : i < q.length
  · have h1 : (i : Int) < q.length := by omega
    have h0 : ¬ (i : Int) < 0 := by omega
    have hw := wrap64 (n := (i : Int) + 1) (by omega)
    obtain ⟨t1, t2⟩ := avail_take hm hx
    cases hb : (bits .and .i64 q[i] up == q[i])
    · have hb' : (band q[i] up == q[i]) = false := hb
      rw [hb'] at t1
      simp -implicitDefEqProofs [h1, h0, ↓binS_and, iv_get hm, hb, hw]
      exact ⟨m - 1, by omega, i + 1, by omega, by rw [t1]; rfl, by simp⟩
    · have e := t2 hb
      simp -implicitDefEqProofs [h1, h0, ↓binS_and, iv_get hm, hb, avR, he, e]
  · have h2 : i = q.length := by omega
    rw [List.take_of_length_le (by omega)] at hx
    simp -implicitDefEqProofs [h2, avR, he, hx]
set_option maxHeartbeats 4000000 in
theorem rAvail_pc (n : Int) (q : List Int) (up : Int) (hq : q.length ≤ 1000) : PC Try.prog 34 [cP n q, .s (.int .i64 up)] (fun r => r = avR (availE n q up)) := by
  refine pc_end c34 mixed rfl ?_
  simp -implicitDefEqProofs [a34, F34, cP]
  refine wk_take ?_
  simp -implicitDefEqProofs
  refine wc_of (rValid_pc n q (by omega)) (by simp [cP]) (by simp [cP]) ?_
  rintro _ rfl
  cases ho : okB n q
  · simp -implicitDefEqProofs [avR, availE, ho]
  have he : availE n q up = avail up q := by simp [availE, ho]
  simp -implicitDefEqProofs
  refine w_rounds [12, 13, 14] [4] 0 (by decide) (avInv n q up 0) q.length ⟨by simp, 0, by simp, by simp [avail], by simp⟩ ?_
  rintro m S ⟨i, hi, hx, rfl⟩
  by_cases hm : i < q.length
  · have h1 : (i : Int) < q.length := by omega
    have h0 : ¬ (i : Int) < 0 := by omega
    have hw := wrap64 (n := (i : Int) + 1) (by omega)
    obtain ⟨t1, t2⟩ := avail_take hm hx
    simp -implicitDefEqProofs [h1, h0, iv_get hm]
    refine wk_take ?_
    simp -implicitDefEqProofs
    refine wc_of (inside_pc q[i] up) (by simp) (by simp) ?_
    rintro _ rfl
    cases hb : (band q[i] up == q[i])
    · rw [hb] at t1
      simp -implicitDefEqProofs [hw]
      exact ⟨m - 1, by omega, i + 1, by omega, by rw [t1]; rfl, by simp⟩
    · have e := t2 hb
      simp -implicitDefEqProofs [avR, he, e]
  · have h2 : i = q.length := by omega
    rw [List.take_of_length_le (by omega)] at hx
    simp -implicitDefEqProofs [h2, avR, he, hx]
end Go.Proofs.Ytebibhmjmaomnaa
namespace Go.Proofs.Ytebibhmjmaomnaa
open Go.RowKit Go.Proofs
theorem any_take1 {α : Type} {l : List α} {i : Nat} (h : i < l.length) (p : α → Bool) : (l.take (i + 1)).any p = ((l.take i).any p || p l[i]) := by
  rw [List.take_add_one, List.getElem?_eq_getElem h, List.any_append]; simp
def minA (s x : Int) : Bool := x == s
def minL (s x : Int) : Bool := (x == s) || !(band x s == x)
def minF (l : List Int) (s : Int) : Bool := l.any (minA s) && l.all (minL s)
def from0 (k : Nat) : List Int := zi (List.range k)
theorem from0_succ (i : Nat) : from0 (i + 1) = from0 i ++ [(i : Int)] := by simp [from0, zi, List.range_succ]
@[simp] theorem from0_length (k : Nat) : (from0 k).length = k := by simp [from0]
def rmO (k K : Nat) (l : List Int) (m : Nat) (S : St) : Prop := ∃ i : Nat, i + m = K ∧ S = ⟨tmL [], [.s (.int .i64 k), .list 1 (iv l), .s (.slice none 0 0), .own true 3 1 (iv ((from0 i).filter (minF l))), .s (.int .i64 i), .no, .no, .no], [], 0⟩
def rmI (k : Nat) (l : List Int) (i : Nat) (m : Nat) (S : St) : Prop := ∃ j : Nat, j + m = l.length ∧ S = ⟨tmL [(17, .list 1 (iv l)), (18, .s (.int .i64 l.length)), (19, .s (.int .i64 j))], [.s (.int .i64 k), .list 1 (iv l), .s (.slice none 0 0), .own true 3 1 (iv ((from0 i).filter (minF l))), .s (.int .i64 i), .s (.bool ((l.take j).any (minA i))), .s (.bool ((l.take j).all (minL i))), .no], [], 0⟩
set_option maxHeartbeats 8000000 in
theorem rmin_pc (k : Nat) (hk : k ≤ 9) (l : List Int) (hl : l.length ≤ 1000) : PC Try.prog 64 [.s (.int .i64 k), .list 1 (iv l)] (fun r => r = .list 1 (iv ((from0 (2 ^ k)).filter (minF l)))) := by
  refine pc_frz ?_
  have h512 : 2 ^ k ≤ 2 ^ 9 := Nat.pow_le_pow_right (by omega) hk
  have es := shl1 (n := k) (by omega)
  have k0 : ¬ (k : Int) < 0 := by omega
  generalize 2 ^ k = K at *
  refine pc_end c64 mixed rfl ?_
  simp -implicitDefEqProofs [a64, F64]
  refine w_rounds [] [5, 6, 7] 0 (by decide) (rmO k K l) K ⟨by simp, 0, by simp, by simp [from0]⟩ ?_
  rintro m S ⟨i, hi, rfl⟩
  have hfl : ((from0 i).filter (minF l)).length ≤ i := Nat.le_trans (List.length_filter_le _ _) (by simp)
  by_cases hm : i < K
  case neg =>
    have h6 : i = K := by omega
    subst h6
    simp -implicitDefEqProofs [k0, es]
  have g1 : (i : Int) < (K : Int) := by omega
  have hw := wrap64 (n := (i : Int) + 1) (by omega)
  simp -implicitDefEqProofs [k0, es, g1]
  refine w_rounds [17, 18, 19] [7] 0 (by decide) (rmI k l i) l.length ⟨by simp, 0, by simp, by simp⟩ ?_
  rintro m' S ⟨j, hj, rfl⟩
  by_cases hjl : j < l.length
  · have j1 : (j : Int) < l.length := by omega
    have j0 : ¬ (j : Int) < 0 := by omega
    have hwj := wrap64 (n := (j : Int) + 1) (by omega)
    have t1 := any_take1 hjl (minA i)
    have t2 := all_take1 hjl (minL i)
    have m1 : minA i l[j] = (l[j] == (i : Int)) := rfl
    have m2 : minL i l[j] = ((l[j] == (i : Int)) || !(band l[j] i == l[j])) := rfl
    have fin : ∀ {b1 b2 : Bool}, (l.take (j + 1)).any (minA i) = b1 → (l.take (j + 1)).all (minL i) = b2 → ∀ S', S' = (⟨tmL [(17, .list 1 (iv l)), (18, .s (.int .i64 l.length)), (19, .s (.int .i64 ((j : Int) + 1)))], [.s (.int .i64 k), .list 1 (iv l), .s (.slice none 0 0), .own true 3 1 (iv ((from0 i).filter (minF l))), .s (.int .i64 i), .s (.bool b1), .s (.bool b2), .no], [], 0⟩ : St) → ∃ m'' < m', rmI k l i m'' S' :=
      fun h1 h2 S' hS => ⟨m' - 1, by omega, j + 1, by omega, by rw [hS, h1, h2]; simp⟩
    cases b1 : (l.take j).any (minA i) <;> cases b2 : (l.take j).all (minL i) <;> cases b3 : (l[j] == (i : Int)) <;> rw [b1, m1, b3] at t1 <;> rw [b2, m2, b3] at t2
    all_goals first
      | (simp -implicitDefEqProofs [j1, j0, iv_get hjl, b3, hwj]; exact fin t1 t2 _ rfl)
      | (simp -implicitDefEqProofs [j1, j0, iv_get hjl, b3]
         refine wk_take ?_
         simp -implicitDefEqProofs
         refine wc_of (inside_pc l[j] i) (by simp) (by simp) ?_
         rintro _ rfl
         simp -implicitDefEqProofs [hwj]
         exact fin t1 (by rw [t2]; simp) _ rfl)
  · have h6 : j = l.length := by omega
    have e1 : (l.take j).any (minA i) = l.any (minA i) := by rw [List.take_of_length_le (by omega)]
    have e2 : (l.take j).all (minL i) = l.all (minL i) := by rw [List.take_of_length_le (by omega)]
    have hs : (from0 (i + 1)).filter (minF l) = (from0 i).filter (minF l) ++ (if minF l i then [(i : Int)] else []) := by
      rw [from0_succ, List.filter_append]
      congr 1
      simp [List.filter]
      split <;> simp_all
    have b5 : ((from0 i).filter (minF l)).length + 1 ≤ maxLen ∧ (((from0 i).filter (minF l)).length + 1) * 8 ≤ maxBytes := by simp [maxLen, maxBytes]; omega
    have hF : minF l i = (l.any (minA i) && l.all (minL i)) := rfl
    rw [e1, e2]
    subst h6
    cases b1 : l.any (minA i) <;> cases b2 : l.all (minL i) <;> rw [b1, b2] at hF <;> rw [hF] at hs <;> simp -implicitDefEqProofs [hw, b5] <;> exact ⟨m - 1, by omega, i + 1, by omega, by rw [hs]; simp [iv]⟩
end Go.Proofs.Ytebibhmjmaomnaa
namespace Go.Proofs.Ytebibhmjmaomnaa
open Go.RowKit Go.Proofs
theorem minF_nat {L : List Nat} (hL : ∀ t ∈ L, t < 512) {s : Nat} (hs : s < 512) : minF (zi L) s = (decide (s ∈ L) && minim s L) := by
  unfold minF
  have h1 : (zi L).any (minA s) = decide (s ∈ L) := by
    rw [Bool.eq_iff_iff]
    simp only [List.any_eq_true, zi, List.mem_map, minA, beq_iff_eq, decide_eq_true_eq]
    constructor
    · rintro ⟨x, ⟨a, ha, rfl⟩, h⟩
      have : a = s := by omega
      exact this ▸ ha
    · exact fun h => ⟨(s : Int), ⟨s, h, rfl⟩, rfl⟩
  rw [h1]
  congr 1
  rw [zi_all (q := fun t => decide (Sub t s → t = s)) fun t ht => ?_]
  · rw [Bool.eq_iff_iff, minim_iff, List.all_eq_true]
    simp only [decide_eq_true_eq]
  · unfold minL
    rw [band_nat (hL t ht) hs, Bool.eq_iff_iff]
    simp only [Bool.or_eq_true, beq_iff_eq, Bool.not_eq_true', beq_eq_false_iff_ne, decide_eq_true_eq]
    unfold Sub
    constructor
    · rintro (h | h) hh
      · omega
      · omega
    · intro h
      by_cases he : t &&& s = t
      · have := h he; left; omega
      · right; omega
theorem filt_min {k : Nat} (hk : k ≤ 9) {L : List Nat} (hL : ∀ t ∈ L, 1 ≤ t ∧ t < 512) : (from0 (2 ^ k)).filter (minF (zi L)) = zi (reduce k L) := by
  have h512 : 2 ^ k ≤ 2 ^ 9 := Nat.pow_le_pow_right (by omega) hk
  rw [from0, filter_zi (q := fun s => decide (s ∈ L) && minim s L)]
  · unfold reduce subs
    rw [List.filter_filter]
    congr 1
    refine List.filter_congr fun s hs => ?_
    rw [Bool.eq_iff_iff]
    simp only [Bool.and_eq_true, decide_eq_true_eq]
    constructor
    · rintro ⟨h1, h2⟩
      exact ⟨⟨h1, h2⟩, (hL s h1).1⟩
    · exact fun h => h.1
  · intro s hs
    exact minF_nat (fun t ht => (hL t ht).2) (by have := List.mem_range.1 hs; omega)
end Go.Proofs.Ytebibhmjmaomnaa
namespace Go.Proofs.Ytebibhmjmaomnaa
open Go.RowKit Go.Proofs
def inR (k : Nat) (s : Int) : Bool := decide (1 ≤ s ∧ s < ((2 ^ k : Nat) : Int))
def meetAll (L : List Nat) : Bool := L.all fun s => meets s L
def redE (n : Int) (l : List Int) : Int :=
  if 1 ≤ n ∧ n ≤ 9 ∧ l ≠ [] then (if l.all (inR n.toNat) = true then (if meetAll (l.map Int.toNat) = true then (if (reduce n.toNat (l.map Int.toNat)).length ≤ 64 then 0 else 4) else 13) else 1) else 1
def redQ (n : Int) (l : List Int) : List Nat := reduce n.toNat (l.map Int.toNat)
theorem zi_mem {a : Nat} {L : List Nat} : (a : Int) ∈ zi L ↔ a ∈ L := by
  simp only [zi, List.mem_map]
  constructor
  · rintro ⟨b, hb, h⟩
    have : b = a := by omega
    exact this ▸ hb
  · exact fun h => ⟨a, h, rfl⟩
end Go.Proofs.Ytebibhmjmaomnaa
namespace Go.Proofs.Ytebibhmjmaomnaa
open Go.RowKit Go.Proofs
def rr1 (k : Nat) (l : List Int) (m : Nat) (S : St) : Prop := ∃ i : Nat, i + m = l.length ∧ (l.take i).all (inR k) = true ∧ S = ⟨tmL [(4, .ptr 0 0), (25, .list 1 (iv l)), (26, .s (.int .i64 l.length)), (27, .s (.int .i64 i))], [.s (.int .i64 k), .list 1 (iv l), .s (.int .i64 0), .no, .no, .no], [[.s (.int .i64 0), .s (.slice none 0 0)]], 0⟩
def rr2 (k : Nat) (l : List Int) (m : Nat) (S : St) : Prop := ∃ i : Nat, i + m = l.length ∧ (l.take i).all (fun s => l.all (pMeet s)) = true ∧ S = ⟨tmL [(4, .ptr 0 0), (41, .list 1 (iv l)), (42, .s (.int .i64 l.length)), (43, .s (.int .i64 i))], [.s (.int .i64 k), .list 1 (iv l), .s (.int .i64 0), .no, .no, .no], [[.s (.int .i64 0), .s (.slice none 0 0)]], 0⟩
def rr3 (k : Nat) (l : List Int) (i : Nat) (s : Int) (m : Nat) (S : St) : Prop := ∃ j : Nat, j + m = l.length ∧ (l.take j).all (pMeet s) = true ∧ S = ⟨tmL [(4, .ptr 0 0), (41, .list 1 (iv l)), (42, .s (.int .i64 l.length)), (43, .s (.int .i64 i)), (47, .list 1 (iv l)), (48, .s (.int .i64 l.length)), (49, .s (.int .i64 j))], [.s (.int .i64 k), .list 1 (iv l), .s (.int .i64 0), .no, .s (.int .i64 s), .no], [[.s (.int .i64 0), .s (.slice none 0 0)]], 0⟩
set_option maxHeartbeats 8000000 in
theorem rReduce_pc0 (n : Int) (l : List Int) (hl : l.length ≤ 1000) : PC Try.prog 53 [.s (.int .i64 n), .list 1 (iv l)] (fun r => r = raw (redE n l) n (redQ n l)) := by
  refine pc_end c53 mixed rfl ?_
  by_cases h1 : n < 1
  · have e : redE n l = 1 := by unfold redE; rw [if_neg fun h => by omega]
    simp -implicitDefEqProofs [a53, F53, h1, e, raw, eV]
  by_cases h1' : 9 < n
  · have e : redE n l = 1 := by unfold redE; rw [if_neg fun h => by omega]
    simp -implicitDefEqProofs [a53, F53, h1, h1', e, raw, eV]
  by_cases h2 : l = []
  · have e : redE n l = 1 := by unfold redE; rw [if_neg fun h => h.2.2 h2]
    subst h2
    simp -implicitDefEqProofs [a53, F53, h1, h1', e, raw, eV]
  have hn : 1 ≤ n ∧ n ≤ 9 := by omega
  obtain ⟨k, rfl⟩ : ∃ k : Nat, n = k := ⟨n.toNat, by omega⟩
  have hk : k ≤ 9 := by omega
  have h512 : 2 ^ k ≤ 2 ^ 9 := Nat.pow_le_pow_right (by omega) hk
  have e0 : redE k l = if l.all (inR k) = true then (if meetAll (l.map Int.toNat) = true then (if (reduce k (l.map Int.toNat)).length ≤ 64 then 0 else 4) else 13) else 1 := by
    unfold redE
    rw [if_pos ⟨hn.1, hn.2, h2⟩, Int.toNat_natCast]
  have es := shl1 (n := k) (by omega)
  have k0 : ¬ (k : Int) < 0 := by omega
  obtain ⟨K, hK⟩ : ∃ K : Nat, K = 2 ^ k := ⟨_, rfl⟩
  rw [← hK] at es
  have hl0 : ((l.length : Int) == 0) = false := by
    simp; exact h2
  simp -implicitDefEqProofs [a53, F53, h1, h1', h2, hl0]
  refine w_rounds [4, 25, 26, 27] [3, 4, 5] 1 (by decide) (rr1 k l) l.length ⟨by simp, 0, by simp, by simp, by simp⟩ ?_
  rintro m S ⟨i, hi, hx, rfl⟩
  by_cases hm : i < l.length
  · have i1 : (i : Int) < l.length := by omega
    have i0 : ¬ (i : Int) < 0 := by omega
    have hw := wrap64 (n := (i : Int) + 1) (by omega)
    have hR : inR k l[i] = decide (1 ≤ l[i] ∧ l[i] < (K : Int)) := by unfold inR; rw [← hK]
    by_cases c1 : l[i] < 1
    · have hf : inR k l[i] = false := by rw [hR]; exact decide_eq_false (by omega)
      have e : redE k l = 1 := by rw [e0, all_false hm _ hf]; rfl
      simp -implicitDefEqProofs [i1, i0, iv_get hm, c1, e, raw, eV]
    by_cases c2 : (K : Int) ≤ l[i]
    · have hf : inR k l[i] = false := by rw [hR]; exact decide_eq_false (by omega)
      have e : redE k l = 1 := by rw [e0, all_false hm _ hf]; rfl
      simp -implicitDefEqProofs [i1, i0, iv_get hm, c1, k0, es, c2, e, raw, eV]
    have ht : inR k l[i] = true := by rw [hR]; exact decide_eq_true (by omega)
    simp -implicitDefEqProofs [i1, i0, iv_get hm, c1, k0, es, c2, hw]
    refine ⟨m - 1, by omega, i + 1, by omega, by rw [all_take1 hm, hx, ht]; rfl, by simp⟩
  have h6 : i = l.length := by omega
  rw [List.take_of_length_le (by omega)] at hx
  subst h6
  obtain ⟨L, hL⟩ : ∃ L, L = l.map Int.toNat := ⟨_, rfl⟩
  have hlL : l = zi L := by
    rw [hL]
    unfold zi
    rw [List.map_map]
    exact (List.map_id l).symm.trans (List.map_congr_left fun s hs => by
      have := List.all_eq_true.1 hx s hs
      unfold inR at this
      have := of_decide_eq_true this
      simp; omega)
  have hLr : ∀ t ∈ L, 1 ≤ t ∧ t < 2 ^ k := fun t ht => by
    have h3 := List.all_eq_true.1 hx (t : Int) (by rw [hlL]; exact zi_mem.2 ht)
    unfold inR at h3
    have := of_decide_eq_true h3
    omega
  have hL5 : ∀ t ∈ L, t < 512 := fun t ht => by have := hLr t ht; omega
  rw [hx, if_pos rfl, ← hL] at e0
  have hq : redQ k l = reduce k L := by unfold redQ; rw [← hL, Int.toNat_natCast]
  have hMA : meetAll L = l.all (fun s => l.all (pMeet s)) := by
    rw [hlL]
    unfold meetAll
    rw [zi_all fun s hs => meets_zi (hL5 s hs) hL5]
  have hmin := rmin_pc k hk l hl
  have hfm := filt_min hk (L := L) fun t ht => by have := hLr t ht; omega
  rw [← hlL] at hfm
  rw [hfm] at hmin
  simp -implicitDefEqProofs
  refine w_rounds [4, 41, 42, 43] [3, 4, 5] 1 (by decide) (rr2 k l) l.length ⟨by simp, 0, by simp, by simp, by simp⟩ ?_
  rintro m S ⟨i, hi, hy, rfl⟩
  by_cases hm : i < l.length
  · have i1 : (i : Int) < l.length := by omega
    have i0 : ¬ (i : Int) < 0 := by omega
    have hw := wrap64 (n := (i : Int) + 1) (by omega)
    simp -implicitDefEqProofs [i1, i0, iv_get hm]
    refine w_rounds [4, 41, 42, 43, 47, 48, 49] [5] 1 (by decide) (rr3 k l i l[i]) l.length ⟨by simp, 0, by simp, by simp, by simp⟩ ?_
    rintro m' S ⟨j, hj, hz, rfl⟩
    by_cases hjm : j < l.length
    · have j1 : (j : Int) < l.length := by omega
      have j0 : ¬ (j : Int) < 0 := by omega
      have hwj := wrap64 (n := (j : Int) + 1) (by omega)
      have hP : pMeet l[i] l[j] = !(bits .and .i64 l[i] l[j] == 0) := rfl
      cases hb : (bits .and .i64 l[i] l[j] == 0)
      · rw [hb] at hP
        simp -implicitDefEqProofs [j1, j0, iv_get hjm, ↓binS_and, hb, hwj]
        refine ⟨m' - 1, by omega, j + 1, by omega, by rw [all_take1 hjm, hz, hP]; rfl, by simp⟩
      · rw [hb] at hP
        have hf : l.all (pMeet l[i]) = false := all_false hjm _ hP
        have e : redE k l = 13 := by rw [e0, hMA, all_false hm _ hf]; rfl
        simp -implicitDefEqProofs [j1, j0, iv_get hjm, ↓binS_and, hb, e, raw, eV]
    · have h6 : j = l.length := by omega
      rw [List.take_of_length_le (by omega)] at hz
      subst h6
      simp -implicitDefEqProofs [hw]
      refine ⟨m - 1, by omega, i + 1, by omega, by rw [all_take1 hm, hy, hz]; rfl, by simp⟩
  have h6 : i = l.length := by omega
  rw [List.take_of_length_le (by omega)] at hy
  rw [hMA, hy, if_pos rfl] at e0
  simp -implicitDefEqProofs [h6]
  refine wk_take ?_
  simp -implicitDefEqProofs
  refine wc_of hmin (by simp) (by simp) ?_
  rintro _ rfl
  by_cases h7 : (reduce k L).length ≤ 64
  · have g1 : ¬ (64 : Int) < ((reduce k L).length : Int) := by omega
    rw [if_pos h7] at e0
    simp -implicitDefEqProofs [g1, e0, raw, rV, cV, hq]
  · have g1 : (64 : Int) < ((reduce k L).length : Int) := by omega
    rw [if_neg h7] at e0
    simp -implicitDefEqProofs [g1, e0, raw, eV]
theorem rReduce_pc (n : Int) (l : List Int) (hl : l.length ≤ 1000) : PC Try.prog 53 [.s (.int .i64 n), .list 1 (iv l)] (fun r => r = res (redE n l) n (redQ n l)) := pc_res (rReduce_pc0 n l hl)
end Go.Proofs.Ytebibhmjmaomnaa
namespace Go.Proofs.Ytebibhmjmaomnaa
open Go.RowKit Go.Proofs
def rn (e n : Int) : Int := if e = 0 then n else 0
def rq (e : Int) (q : List Nat) : List Nat := if e = 0 then q else []
theorem res_eq (e n : Int) (q : List Nat) : res e n q = .tup [cV (rn e n) (rq e q), .s (.int .i64 e)] := by
  unfold res rn rq
  split
  · next h => rw [h]; rfl
  · rfl
theorem res_fr (e n : Int) (q : List Nat) : frT (res e n q) (res e n q) := by
  rw [res_eq]
  simp [cV, frT, frAs, frA, frLs, frL, immC]
theorem err_fr (e n : Int) (q : List Nat) (h : e ≠ 0) : frT (eV e) (res e n q) := by
  unfold res
  rw [if_neg h]
  simp [rV, cV, eV, frT, frAs, frA, frLs, frL, immC]
def cr1 (c i k : Nat) : Nat := (List.range k).foldl (fun s k => s ||| 2 ^ (i * c + k)) 0
def cr2 (c i j k : Nat) : Nat := (List.range k).foldl (fun s k => s ||| 2 ^ (k * c + j)) (cr1 c i c)
theorem cr1_succ (c i k : Nat) : cr1 c i (k + 1) = cr1 c i k ||| 2 ^ (i * c + k) := by simp [cr1, List.range_succ]
theorem cr2_succ (c i j k : Nat) : cr2 c i j (k + 1) = cr2 c i j k ||| 2 ^ (k * c + j) := by simp [cr2, List.range_succ]
theorem cr1_lt {c i k : Nat} (h : i * c + k ≤ 9) : cr1 c i k < 512 := by
  induction k with
  | zero => simp [cr1]
  | succ k ih =>
    rw [cr1_succ]
    have h2 : 2 ^ (i * c + k) < 2 ^ 9 := Nat.pow_lt_pow_right (by omega) (by omega)
    exact Nat.or_lt_two_pow (n := 9) (ih (by omega)) h2
theorem cr2_lt {r c i j k : Nat} (h : r * c ≤ 9) (hi : i < r) (hj : j < c) (hk : k ≤ r) : cr2 c i j k < 512 := by
  induction k with
  | zero =>
    have : i * c + c ≤ r * c := by have := Nat.mul_le_mul_right c (show i + 1 ≤ r by omega); rw [Nat.add_mul] at this; omega
    exact cr1_lt (by omega)
  | succ k ih =>
    rw [cr2_succ]
    have : k * c + c ≤ r * c := by have := Nat.mul_le_mul_right c (show k + 1 ≤ r by omega); rw [Nat.add_mul] at this; omega
    have h2 : 2 ^ (k * c + j) < 2 ^ 9 := Nat.pow_lt_pow_right (by omega) (by omega)
    exact Nat.or_lt_two_pow (n := 9) (ih (by omega)) h2
theorem cross_cr (r c i j : Nat) : cross r c i j = cr2 c i j r := rfl
def gl (r c i j : Nat) : List Nat := ((List.range i).flatMap fun i' => (List.range c).map (cross r c i')) ++ (List.range j).map (cross r c i)
theorem gl_succ (r c i j : Nat) : gl r c i (j + 1) = gl r c i j ++ [cross r c i j] := by simp [gl, List.range_succ]
theorem gl_row (r c i : Nat) : gl r c i c = gl r c (i + 1) 0 := by simp [gl, List.range_succ]
theorem gl_all (r c : Nat) : gl r c r 0 = grid r c := by simp [gl, grid]
theorem gl_len (r c i j : Nat) : (gl r c i j).length = i * c + j := by
  have h : ((List.range i).flatMap fun i' => (List.range c).map (cross r c i')).length = i * c := by
    induction i with
    | zero => simp
    | succ i ih => rw [List.range_succ, List.flatMap_append, List.length_append, ih, Nat.add_mul]; simp
  unfold gl
  rw [List.length_append, h]
  simp
theorem zi_snoc (l : List Nat) (a : Nat) : zi (l ++ [a]) = zi l ++ [(a : Int)] := by simp [zi]
def grE (a b : Int) : Int := if (1 ≤ a ∧ a ≤ 9) ∧ (1 ≤ b ∧ b ≤ 9) ∧ a * b ≤ 9 then redE (a * b) (zi (grid a.toNat b.toNat)) else 1
def grQ (a b : Int) : List Nat := redQ (a * b) (zi (grid a.toNat b.toNat))
theorem stepO {a b x e : Nat} (hab : a * b + x = e) (he : e ≤ 8) : IntKind.i64.wrap ((a : Int) * (b : Int)) = ((a * b : Nat) : Int) ∧ IntKind.i64.wrap (((a * b : Nat) : Int) + (x : Int)) = (e : Int) := by
  refine ⟨?_, ?_⟩
  · rw [← Int.natCast_mul]
    generalize a * b = p at hab
    exact wrap64 (by omega)
  · rw [← hab]
    generalize a * b = p at hab
    rw [wrap64 (by omega)]
    omega
theorem orN {x e : Nat} (hx : x < 512) (he : e ≤ 8) : bits .or .i64 (x : Int) ((2 ^ e : Nat) : Int) = ((x ||| 2 ^ e : Nat) : Int) := by
  have h2 : 2 ^ e ≤ 2 ^ 8 := Nat.pow_le_pow_right (by omega) he
  exact i64_or_nat x (2 ^ e) (by omega) (by omega)
end Go.Proofs.Ytebibhmjmaomnaa
namespace Go.Proofs.Ytebibhmjmaomnaa
open Go.RowKit Go.Proofs
def hr1 (r c : Nat) (m : Nat) (S : St) : Prop := ∃ i : Nat, i + m = r ∧ S = ⟨tmL [(4, .ptr 0 0)], [.s (.int .i64 r), .s (.int .i64 c), .s (.int .i64 0), .own true 3 1 (iv (zi (gl r c i 0))), .s (.int .i64 i), .no, .no, .no, .no], [[.s (.int .i64 0), .s (.slice none 0 0)]], 0⟩
def hr2 (r c i : Nat) (m : Nat) (S : St) : Prop := ∃ j : Nat, j + m = c ∧ S = ⟨tmL [(4, .ptr 0 0)], [.s (.int .i64 r), .s (.int .i64 c), .s (.int .i64 0), .own true 3 1 (iv (zi (gl r c i j))), .s (.int .i64 i), .s (.int .i64 j), .no, .no, .no], [[.s (.int .i64 0), .s (.slice none 0 0)]], 0⟩
def hr3 (r c i j : Nat) (m : Nat) (S : St) : Prop := ∃ k : Nat, k + m = c ∧ S = ⟨tmL [(4, .ptr 0 0)], [.s (.int .i64 r), .s (.int .i64 c), .s (.int .i64 0), .own true 3 1 (iv (zi (gl r c i j))), .s (.int .i64 i), .s (.int .i64 j), .s (.int .i64 (cr1 c i k)), .s (.int .i64 k), .no], [[.s (.int .i64 0), .s (.slice none 0 0)]], 0⟩
def hr4 (r c i j : Nat) (m : Nat) (S : St) : Prop := ∃ k : Nat, k + m = r ∧ S = ⟨tmL [(4, .ptr 0 0)], [.s (.int .i64 r), .s (.int .i64 c), .s (.int .i64 0), .own true 3 1 (iv (zi (gl r c i j))), .s (.int .i64 i), .s (.int .i64 j), .s (.int .i64 (cr2 c i j k)), .no, .s (.int .i64 k)], [[.s (.int .i64 0), .s (.slice none 0 0)]], 0⟩
set_option maxHeartbeats 8000000 in
theorem rGrid_pc0 (a b : Int) : PC Try.prog 30 [.s (.int .i64 a), .s (.int .i64 b)] (fun r => r = if (1 ≤ a ∧ a ≤ 9) ∧ (1 ≤ b ∧ b ≤ 9) ∧ a * b ≤ 9 then res (redE (a * b) (zi (grid a.toNat b.toNat))) (a * b) (grQ a b) else eV 1) := by
  refine pc_end c30 mixed rfl ?_
  by_cases h1 : 1 ≤ a ∧ a ≤ 9
  case neg =>
    have hn : ¬ ((1 ≤ a ∧ a ≤ 9) ∧ (1 ≤ b ∧ b ≤ 9) ∧ a * b ≤ 9) := fun h => h1 h.1
    rw [if_neg hn]
    by_cases c1 : a < 1
    · simp -implicitDefEqProofs [a30, F30, c1, eV]
    by_cases c2 : b < 1
    · simp -implicitDefEqProofs [a30, F30, c1, c2, eV]
    have c3 : 9 < a := by omega
    simp -implicitDefEqProofs [a30, F30, c1, c2, c3, eV]
  have c1 : ¬ a < 1 := by omega
  have c3 : ¬ 9 < a := by omega
  by_cases h2 : 1 ≤ b ∧ b ≤ 9
  case neg =>
    have hn : ¬ ((1 ≤ a ∧ a ≤ 9) ∧ (1 ≤ b ∧ b ≤ 9) ∧ a * b ≤ 9) := fun h => h2 h.2.1
    rw [if_neg hn]
    by_cases c2 : b < 1
    · simp -implicitDefEqProofs [a30, F30, c1, c2, eV]
    have c4 : 9 < b := by omega
    simp -implicitDefEqProofs [a30, F30, c1, c2, c3, c4, eV]
  have c2 : ¬ b < 1 := by omega
  have c4 : ¬ 9 < b := by omega
  have hab1 : a * b ≤ 9 * 9 := Int.mul_le_mul h1.2 h2.2 (by omega) (by omega)
  have hab0 : 1 * 1 ≤ a * b := Int.mul_le_mul h1.1 h2.1 (by omega) (by omega)
  have wab := wrap64 (n := a * b) (by omega)
  by_cases h3 : a * b ≤ 9
  case neg =>
    have hn : ¬ ((1 ≤ a ∧ a ≤ 9) ∧ (1 ≤ b ∧ b ≤ 9) ∧ a * b ≤ 9) := fun h => h3 h.2.2
    have c5 : 9 < a * b := by omega
    rw [if_neg hn]
    simp -implicitDefEqProofs [a30, F30, c1, c2, c3, c4, wab, c5, eV]
  have c5 : ¬ 9 < a * b := by omega
  rw [if_pos ⟨h1, h2, h3⟩]
  obtain ⟨r, rfl⟩ : ∃ r : Nat, a = r := ⟨a.toNat, by omega⟩
  obtain ⟨c, rfl⟩ : ∃ c : Nat, b = c := ⟨b.toNat, by omega⟩
  have hrc : r * c ≤ 9 := by have : ((r * c : Nat) : Int) ≤ 9 := by rw [Int.natCast_mul]; exact h3
                             omega
  have hwm : IntKind.i64.wrap ((r : Int) * (c : Int)) = ((r * c : Nat) : Int) := by
    rw [← Int.natCast_mul]
    generalize r * c = p at hrc
    exact wrap64 (by omega)
  have hgl : (zi (grid r c)).length ≤ 1000 := by rw [zi_length, ← gl_all, gl_len]; omega
  have hR := rReduce_pc ((r : Int) * (c : Int)) (zi (grid r c)) hgl
  rw [res_eq] at hR
  rw [res_eq]
  simp only [grQ, Int.toNat_natCast]
  generalize hE : redE ((r : Int) * (c : Int)) (zi (grid r c)) = E at hR ⊢
  generalize hQ : redQ ((r : Int) * (c : Int)) (zi (grid r c)) = Q at hR ⊢
  simp -implicitDefEqProofs [a30, F30, c1, c2, c3, c4, wab, c5]
  refine w_rounds [4] [5, 6, 7, 8] 1 (by decide) (hr1 r c) r ⟨by simp, 0, by simp, by simp [gl]⟩ ?_
  rintro m S ⟨i, hi, rfl⟩
  by_cases hm : i < r
  case neg =>
    have h6 : i = r := by omega
    subst h6
    rw [gl_all]
    have hmz : IntKind.i64.wrap ((i : Int) * (c : Int)) = (i : Int) * (c : Int) := by rw [hwm, Int.natCast_mul]
    simp -implicitDefEqProofs [hmz]
    refine wk_take ?_
    simp -implicitDefEqProofs
    refine wc_of hR (by simp) (by simp) ?_
    rintro _ rfl
    simp -implicitDefEqProofs [cV]
  have i1 : (i : Int) < (r : Int) := by omega
  have wi := wrap64 (n := (i : Int) + 1) (by omega)
  have hic : i * c + c ≤ r * c := by have := Nat.mul_le_mul_right c (show i + 1 ≤ r by omega); rw [Nat.add_mul] at this; omega
  simp -implicitDefEqProofs [i1]
  refine w_rounds [4] [6, 7, 8] 1 (by decide) (hr2 r c i) c ⟨by simp, 0, by simp, by simp⟩ ?_
  rintro m2 S ⟨j, hj, rfl⟩
  by_cases hjm : j < c
  case neg =>
    have h6 : j = c := by omega
    subst h6
    rw [gl_row]
    simp -implicitDefEqProofs [wi]
    exact ⟨m - 1, by omega, i + 1, by omega, by simp⟩
  have j1 : (j : Int) < (c : Int) := by omega
  have wj := wrap64 (n := (j : Int) + 1) (by omega)
  simp -implicitDefEqProofs [j1]
  refine w_rounds [4] [8] 1 (by decide) (hr3 r c i j) c ⟨by simp, 0, by simp, by simp [cr1]⟩ ?_
  rintro m3 S ⟨k, hk, rfl⟩
  by_cases hkm : k < c
  · have k1 : (k : Int) < (c : Int) := by omega
    have wk := wrap64 (n := (k : Int) + 1) (by omega)
    obtain ⟨e, he⟩ : ∃ e, i * c + k = e := ⟨_, rfl⟩
    obtain ⟨s1, s2⟩ := stepO he (by omega)
    have es := shl1 (n := e) (by omega)
    have e0 : ¬ (e : Int) < 0 := by omega
    have ho := orN (x := cr1 c i k) (e := e) (cr1_lt (by omega)) (by omega)
    have hs := cr1_succ c i k
    rw [he] at hs
    rw [← hs] at ho
    generalize i * c = p at s1 s2
    generalize 2 ^ e = E2 at es ho
    simp -implicitDefEqProofs [k1, s1, s2, e0, es, ↓binS_or, ho, wk]
    exact ⟨m3 - 1, by omega, k + 1, by omega, by simp⟩
  have h6 : k = c := by omega
  subst h6
  simp -implicitDefEqProofs
  refine w_rounds [4] [7] 1 (by decide) (hr4 r k i j) r ⟨by simp, 0, by simp, by simp [cr2]⟩ ?_
  rintro m4 S ⟨q, hq, rfl⟩
  by_cases hqm : q < r
  · have q1 : (q : Int) < (r : Int) := by omega
    have wq := wrap64 (n := (q : Int) + 1) (by omega)
    have hqc : q * k + k ≤ r * k := by have := Nat.mul_le_mul_right k (show q + 1 ≤ r by omega); rw [Nat.add_mul] at this; omega
    obtain ⟨e, he⟩ : ∃ e, q * k + j = e := ⟨_, rfl⟩
    obtain ⟨s1, s2⟩ := stepO he (by omega)
    have es := shl1 (n := e) (by omega)
    have e0 : ¬ (e : Int) < 0 := by omega
    have ho := orN (x := cr2 k i j q) (e := e) (cr2_lt hrc hm hjm (by omega)) (by omega)
    have hs := cr2_succ k i j q
    rw [he] at hs
    rw [← hs] at ho
    generalize q * k = p at s1 s2
    generalize 2 ^ e = E2 at es ho
    simp -implicitDefEqProofs [q1, s1, s2, e0, es, ↓binS_or, ho, wq]
    exact ⟨m4 - 1, by omega, q + 1, by omega, by simp⟩
  have h6 : q = r := by omega
  subst h6
  have hl9 := gl_len q k i j
  have b1 : (gl q k i j).length + 1 ≤ maxLen ∧ ((gl q k i j).length + 1) * 8 ≤ maxBytes := by rw [hl9]; simp [maxLen, maxBytes]; omega
  simp -implicitDefEqProofs [b1, wj]
  exact ⟨m2 - 1, by omega, j + 1, by omega, by rw [gl_succ, cross_cr, zi_snoc]; simp [iv]⟩
theorem rGrid_pc (a b : Int) : PC Try.prog 30 [.s (.int .i64 a), .s (.int .i64 b)] (fun r => r = res (grE a b) (a * b) (grQ a b)) := by
  refine pc_list (rGrid_pc0 a b) fun x hx _ => ⟨res (grE a b) (a * b) (grQ a b), ?_, res_ok _ _ _, rfl⟩
  subst hx
  unfold grE
  split
  · exact res_fr _ _ _
  · exact err_fr _ _ _ (by omega)
end Go.Proofs.Ytebibhmjmaomnaa
namespace Go.Proofs.Ytebibhmjmaomnaa
open Go.RowKit Go.Proofs
theorem or_nat {x y : Nat} (hx : x < 512) (hy : y < 512) : bits .or .i64 (x : Int) (y : Int) = ((x ||| y : Nat) : Int) := i64_or_nat x y (by omega) (by omega)
theorem or_lt {x y : Nat} (hx : x < 512) (hy : y < 512) : x ||| y < 512 := Nat.or_lt_two_pow (n := 9) hx hy
theorem zi_get {l : List Nat} {i : Nat} (h : i < l.length) : (iv (zi l))[i]? = some (.s (.int .i64 (l[i] : Int))) := by
  rw [iv_get (by rw [zi_length]; exact h)]
  simp [zi]
theorem zi_take1 {l : List Nat} {i : Nat} (h : i < l.length) (f : Nat → Nat) : (l.take (i + 1)).map f = (l.take i).map f ++ [f l[i]] := by
  rw [List.take_add_one, List.getElem?_eq_getElem h, List.map_append]; rfl
def bl : Nat → Nat
  | 0 => 1
  | f + 1 => bl f * (bl f + 1) + bl f
theorem bl_pos : ∀ f, 1 ≤ bl f
  | 0 => Nat.le_refl _
  | f + 1 => by have := bl_pos f; simp only [bl]; omega
end Go.Proofs.Ytebibhmjmaomnaa
namespace Go.Proofs.Ytebibhmjmaomnaa
open Go.RowKit Go.Proofs
theorem iv_zi_app (A B : List Nat) : iv (zi A) ++ iv (zi B) = iv (zi (A ++ B)) := by simp [iv, zi]
def uPre (A B : List Nat) (k : Nat) : List Nat := (A.take k).flatMap fun s => B.map fun t => s ||| t
theorem uPre_succ {A B : List Nat} {k : Nat} (h : k < A.length) : uPre A B (k + 1) = uPre A B k ++ B.map fun t => A[k] ||| t := by
  unfold uPre
  rw [List.take_add_one, List.getElem?_eq_getElem h, List.flatMap_append]
  simp
theorem uPre_len {A B : List Nat} : ∀ k, k ≤ A.length → (uPre A B k).length = k * B.length
  | 0, _ => by simp [uPre]
  | k + 1, h => by rw [uPre_succ h, List.length_append, uPre_len k (by omega)]; simp [Nat.add_mul]
theorem rbelow_eq {f i n : Nat} (h : ¬ 2 * i + 2 ≥ n) : rbelow (f + 1) i n = (rbelow f (2 * i + 1) n ++ rbelow f (2 * i + 2) n).map (fun s => s ||| 2 ^ i) ++ uPre (rbelow f (2 * i + 1) n) (rbelow f (2 * i + 2) n) (rbelow f (2 * i + 1) n).length := by
  conv => lhs; unfold rbelow
  rw [if_neg h]
  unfold uPre
  rw [List.take_length]
theorem rbelow_lt : ∀ (f i n : Nat), n ≤ 7 → i < n → ∀ s ∈ rbelow f i n, s < 512
  | 0, _, _, _, _, s, h => by simp [rbelow] at h
  | f + 1, i, n, hn, hi, s, h => by
    have hp : 2 ^ i < 512 := by have : 2 ^ i < 2 ^ 9 := Nat.pow_lt_pow_right (by omega) (by omega); omega
    unfold rbelow at h
    split at h
    · simp at h; omega
    · next hc =>
      have ha := rbelow_lt f (2 * i + 1) n hn (by omega)
      have hb := rbelow_lt f (2 * i + 2) n hn (by omega)
      simp only [List.mem_append, List.mem_flatMap, List.mem_map] at h
      rcases h with ⟨a, h1 | h1, rfl⟩ | ⟨a, h1, b, h2, rfl⟩
      · exact or_lt (ha a h1) hp
      · exact or_lt (hb a h1) hp
      · exact or_lt (ha a h1) (hb b h2)
theorem rbelow_bl : ∀ (f i n : Nat), (rbelow f i n).length ≤ bl f
  | 0, _, _ => by simp [rbelow]
  | f + 1, i, n => by
    by_cases h : 2 * i + 2 ≥ n
    · unfold rbelow
      rw [if_pos h]
      have := bl_pos (f + 1)
      simpa using this
    · rw [rbelow_eq h, List.length_append, uPre_len _ (Nat.le_refl _), List.length_map, List.length_append]
      have h1 := rbelow_bl f (2 * i + 1) n
      have h2 := rbelow_bl f (2 * i + 2) n
      have h3 := Nat.mul_le_mul h1 h2
      simp only [bl, Nat.mul_add, Nat.mul_one]
      omega
def ra1 (i n p : Nat) (A B : List Nat) (m : Nat) (S : St) : Prop := ∃ k : Nat, k + m = (A ++ B).length ∧ S = ⟨tmL [(35, .list 1 (iv (zi (A ++ B)))), (36, .s (.int .i64 (A ++ B).length)), (37, .s (.int .i64 k))], [.s (.int .i64 i), .s (.int .i64 n), .s (.slice none 0 0), .list 1 (iv (zi A)), .list 1 (iv (zi B)), .own true 3 1 (iv (zi (((A ++ B).take k).map fun s => s ||| p))), .no, .no, .no], [], 0⟩
def ra2 (i n p : Nat) (A B : List Nat) (m : Nat) (S : St) : Prop := ∃ k : Nat, k + m = A.length ∧ S = ⟨tmL [(49, .list 1 (iv (zi A))), (50, .s (.int .i64 A.length)), (51, .s (.int .i64 k))], [.s (.int .i64 i), .s (.int .i64 n), .s (.slice none 0 0), .list 1 (iv (zi A)), .list 1 (iv (zi B)), .own true 3 1 (iv (zi (((A ++ B).map fun s => s ||| p) ++ uPre A B k))), .no, .no, .no], [], 0⟩
def ra3 (i n p : Nat) (A B : List Nat) (k s : Nat) (m : Nat) (S : St) : Prop := ∃ j : Nat, j + m = B.length ∧ S = ⟨tmL [(49, .list 1 (iv (zi A))), (50, .s (.int .i64 A.length)), (51, .s (.int .i64 k)), (55, .list 1 (iv (zi B))), (56, .s (.int .i64 B.length)), (57, .s (.int .i64 j))], [.s (.int .i64 i), .s (.int .i64 n), .s (.slice none 0 0), .list 1 (iv (zi A)), .list 1 (iv (zi B)), .own true 3 1 (iv (zi (((A ++ B).map fun s => s ||| p) ++ uPre A B k ++ (B.take j).map fun t => s ||| t))), .no, .s (.int .i64 s), .no], [], 0⟩
set_option maxHeartbeats 8000000 in
theorem tree_pc : ∀ (f i n : Nat), i < n → n ≤ 7 → n % 2 = 1 → n < (i + 1) * 2 ^ f → f ≤ 3 → PC Try.prog 54 [.s (.int .i64 i), .s (.int .i64 n)] (fun r => r = .list 1 (iv (zi (rbelow f i n)))) := by
  intro f
  induction f with
  | zero => intro i n h1 _ _ h3; simp at h3; omega
  | succ f ih =>
    intro i n hi hn hodd hfn hf3
    refine pc_frz ?_
    refine pc_end c54 mixed rfl ?_
    have es := shl1 (n := i) (by omega)
    have i0 : ¬ (i : Int) < 0 := by omega
    have w1 : IntKind.i64.wrap (2 * (i : Int)) = 2 * (i : Int) := wrap64 (by omega)
    have w2 : IntKind.i64.wrap (2 * (i : Int) + 1) = ((2 * i + 1 : Nat) : Int) := by rw [wrap64 (by omega)]; omega
    have w3 : IntKind.i64.wrap (2 * (i : Int) + 2) = ((2 * i + 2 : Nat) : Int) := by rw [wrap64 (by omega)]; omega
    have hp : 2 ^ i < 512 := by have : 2 ^ i < 2 ^ 9 := Nat.pow_lt_pow_right (by omega) (by omega); omega
    by_cases hc : 2 * i + 2 ≥ n
    · have g : (n : Int) ≤ ((2 * i + 2 : Nat) : Int) := by omega
      have e : rbelow (f + 1) i n = [2 ^ i] := by unfold rbelow; rw [if_pos hc]
      rw [e]
      generalize 2 ^ i = p at es
      generalize ((2 * i + 2 : Nat) : Int) = x at w3 g
      simp -implicitDefEqProofs [a54, F54, w1, w3, g, i0, es, zi, iv]
    have hg : ¬ (n : Int) ≤ ((2 * i + 2 : Nat) : Int) := by omega
    have hpow : 2 ^ (f + 1) = 2 * 2 ^ f := by rw [Nat.pow_succ, Nat.mul_comm]
    have q1 : (i + 1) * (2 * 2 ^ f) = (2 * i + 2) * 2 ^ f := by rw [← Nat.mul_assoc]; congr 1; omega
    have q2 : (2 * i + 2) * 2 ^ f ≤ (2 * i + 2 + 1) * 2 ^ f := Nat.mul_le_mul_right _ (by omega)
    have hA := ih (2 * i + 1) n (by omega) hn hodd (by rw [hpow, q1] at hfn; exact hfn) (by omega)
    have hB := ih (2 * i + 2) n (by omega) hn hodd (by rw [hpow, q1] at hfn; exact Nat.lt_of_lt_of_le hfn q2) (by omega)
    have hAl := rbelow_lt f (2 * i + 1) n hn (by omega)
    have hBl := rbelow_lt f (2 * i + 2) n hn (by omega)
    have hbf : bl f ≤ 271 := by
      have : f = 0 ∨ f = 1 ∨ f = 2 := by omega
      rcases this with rfl | rfl | rfl <;> decide
    have hA5 := Nat.le_trans (rbelow_bl f (2 * i + 1) n) hbf
    have hB5 := Nat.le_trans (rbelow_bl f (2 * i + 2) n) hbf
    rw [rbelow_eq hc]
    generalize rbelow f (2 * i + 1) n = A at *
    generalize rbelow f (2 * i + 2) n = B at *
    obtain ⟨p, hpe⟩ : ∃ p, p = 2 ^ i := ⟨_, rfl⟩
    rw [← hpe] at es hp ⊢
    have or1 : ∀ {s : Nat}, s < 512 → bits .or .i64 (s : Int) (p : Int) = ((s ||| p : Nat) : Int) := fun h => or_nat h hp
    obtain ⟨x1, hx1⟩ : ∃ x : Int, x = ((2 * i + 1 : Nat) : Int) := ⟨_, rfl⟩
    obtain ⟨x2, hx2⟩ : ∃ x : Int, x = ((2 * i + 2 : Nat) : Int) := ⟨_, rfl⟩
    rw [← hx1] at w2 hA
    rw [← hx2] at w3 hg hB
    have bA : A.length ≤ maxLen ∧ A.length * 8 ≤ maxBytes := by simp [maxLen, maxBytes]; omega
    have bAB : A.length + B.length ≤ maxLen ∧ (A.length + B.length) * 8 ≤ maxBytes := by simp [maxLen, maxBytes]; omega
    simp -implicitDefEqProofs [a54, F54, w1, w2, w3, hg]
    refine wk_take ?_
    simp -implicitDefEqProofs
    refine wc_of hA (by simp) (by simp) ?_
    rintro _ rfl
    simp -implicitDefEqProofs [w1, w3]
    refine wk_take ?_
    simp -implicitDefEqProofs
    refine wc_of hB (by simp) (by simp) ?_
    rintro _ rfl
    simp -implicitDefEqProofs [bA, bAB, iv_zi_app]
    have hab : (A ++ B).length = A.length + B.length := List.length_append
    refine w_rounds [35, 36, 37] [6, 7, 8] 0 (by decide) (ra1 i n p A B) (A ++ B).length ⟨by simp, 0, by simp, by simp⟩ ?_
    rintro m S ⟨k, hk, rfl⟩
    by_cases hkm : k < (A ++ B).length
    · have k1 : (k : Int) < ((A ++ B).length : Int) := by omega
      have k0 : ¬ (k : Int) < 0 := by omega
      have wk := wrap64 (n := (k : Int) + 1) (by omega)
      have hs5 : (A ++ B)[k] < 512 := by
        rcases List.mem_append.1 (List.getElem_mem hkm) with h | h
        · exact hAl _ h
        · exact hBl _ h
      have hz := zi_get hkm
      have ht := zi_take1 hkm (fun s => s ||| p)
      generalize (A ++ B)[k] = s at hs5 hz ht
      generalize hL : A ++ B = L at *
      have o1 := or1 hs5
      have b1 : min k L.length + 1 ≤ maxLen ∧ (min k L.length + 1) * 8 ≤ maxBytes := by simp [maxLen, maxBytes]; omega
      simp -implicitDefEqProofs [k1, k0, hz, i0, es, ↓binS_or, o1, b1, wk]
      refine ⟨m - 1, by omega, k + 1, by rw [hL]; omega, ?_⟩
      rw [hL, ht, zi_snoc]
      simp [iv]
    have h6 : k = (A ++ B).length := by omega
    have htl : (A ++ B).take k = A ++ B := List.take_of_length_le (by omega)
    rw [htl]
    have hkk : ¬ ((k : Int) < (A.length : Int) + (B.length : Int)) := by omega
    have hMl : ((A ++ B).map fun s => s ||| p).length = A.length + B.length := by rw [List.length_map, hab]
    have d2 : ra2 i n p A B = fun m S => ∃ k : Nat, k + m = A.length ∧ S = ⟨tmL [(49, .list 1 (iv (zi A))), (50, .s (.int .i64 A.length)), (51, .s (.int .i64 k))], [.s (.int .i64 i), .s (.int .i64 n), .s (.slice none 0 0), .list 1 (iv (zi A)), .list 1 (iv (zi B)), .own true 3 1 (iv (zi (((A ++ B).map fun s => s ||| p) ++ uPre A B k))), .no, .no, .no], [], 0⟩ := rfl
    have d3 : ∀ k s, ra3 i n p A B k s = fun m S => ∃ j : Nat, j + m = B.length ∧ S = ⟨tmL [(49, .list 1 (iv (zi A))), (50, .s (.int .i64 A.length)), (51, .s (.int .i64 k)), (55, .list 1 (iv (zi B))), (56, .s (.int .i64 B.length)), (57, .s (.int .i64 j))], [.s (.int .i64 i), .s (.int .i64 n), .s (.slice none 0 0), .list 1 (iv (zi A)), .list 1 (iv (zi B)), .own true 3 1 (iv (zi (((A ++ B).map fun s => s ||| p) ++ uPre A B k ++ (B.take j).map fun t => s ||| t))), .no, .s (.int .i64 s), .no], [], 0⟩ := fun _ _ => rfl
    generalize hMe : ((A ++ B).map fun s => s ||| p) = M at hMl d2 d3 ⊢
    simp -implicitDefEqProofs [hkk]
    refine w_rounds [49, 50, 51] [6, 7, 8] 0 (by decide) (ra2 i n p A B) A.length ⟨by simp, by rw [d2]; exact ⟨0, by simp, by simp [uPre]⟩⟩ ?_
    clear hk hkk h6 htl
    rintro m S hS
    rw [d2] at hS
    obtain ⟨k, hk, rfl⟩ := hS
    have hpl : ∀ k, k ≤ A.length → (uPre A B k).length = k * B.length := uPre_len
    by_cases hkm : k < A.length
    case neg =>
      have h6 : k = A.length := by omega
      subst h6
      simp -implicitDefEqProofs
      rw [← hMe]
      simp
    have k1 : (k : Int) < (A.length : Int) := by omega
    have k0 : ¬ (k : Int) < 0 := by omega
    have wk := wrap64 (n := (k : Int) + 1) (by omega)
    have hs5 : A[k] < 512 := hAl _ (List.getElem_mem hkm)
    have hpk := hpl k (by omega)
    have hkb : k * B.length ≤ 271 * 271 := Nat.mul_le_mul (by omega) (by omega)
    simp -implicitDefEqProofs [k1, k0, zi_get hkm]
    refine w_rounds [49, 50, 51, 55, 56, 57] [8] 0 (by decide) (ra3 i n p A B k A[k]) B.length ⟨by simp, by rw [d3]; exact ⟨0, by simp, by simp⟩⟩ ?_
    rintro m2 S hS
    rw [d3] at hS
    obtain ⟨j, hj, rfl⟩ := hS
    by_cases hjm : j < B.length
    · have j1 : (j : Int) < (B.length : Int) := by omega
      have j0 : ¬ (j : Int) < 0 := by omega
      have wj := wrap64 (n := (j : Int) + 1) (by omega)
      have o2 := or_nat hs5 (hBl _ (List.getElem_mem hjm))
      have b2 : M.length + ((uPre A B k).length + min j B.length) + 1 ≤ maxLen ∧ (M.length + ((uPre A B k).length + min j B.length) + 1) * 8 ≤ maxBytes := by
        rw [hpk, hMl]
        simp [maxLen, maxBytes]
        omega
      simp -implicitDefEqProofs [j1, j0, zi_get hjm, ↓binS_or, o2, wj, b2]
      refine ⟨m2 - 1, by omega, ?_⟩
      rw [d3]
      refine ⟨j + 1, by omega, ?_⟩
      rw [zi_take1 hjm]
      simp [iv, zi, List.map_take]
    · have h6 : j = B.length := by omega
      subst h6
      simp -implicitDefEqProofs [wk]
      refine ⟨m - 1, by omega, ?_⟩
      rw [d2]
      refine ⟨k + 1, by omega, ?_⟩
      rw [uPre_succ hkm]
      simp
end Go.Proofs.Ytebibhmjmaomnaa
namespace Go.Proofs.Ytebibhmjmaomnaa
open Go.RowKit Go.Proofs
theorem reduce_same {n : Nat} {l m : List Nat} (h : ∀ x, x ∈ l ↔ x ∈ m) : reduce n l = reduce n m := reduce_congr h
theorem zi_toNat (L : List Nat) : (zi L).map Int.toNat = L := by simp [zi, List.map_map, Function.comp_def]
theorem redQ_zi (k : Nat) (L : List Nat) : redQ k (zi L) = reduce k L := by unfold redQ; rw [zi_toNat, Int.toNat_natCast]
theorem redE_zi {k : Nat} (hk : 1 ≤ k ∧ k ≤ 9) {L : List Nat} (hp : properB k L = true) (hl : L.length ≤ 64) : redE k (zi L) = 0 := by
  obtain ⟨h1, h2, h3⟩ := properB_iff hp
  unfold redE
  rw [if_pos ⟨by omega, by omega, fun e => h3 (by
    have := congrArg List.length e
    simp at this
    exact this)⟩, zi_toNat, Int.toNat_natCast]
  rw [if_pos, if_pos, if_pos (Nat.le_trans reduce_len hl)]
  · unfold meetAll
    rw [List.all_eq_true]
    exact fun s hs => meets_iff.2 fun t ht => h2 s hs t ht
  · rw [List.all_eq_true]
    intro s hs
    simp only [zi, List.mem_map] at hs
    obtain ⟨a, ha, rfl⟩ := hs
    have := h1 a ha
    unfold inR
    exact decide_eq_true (by omega)
def trN (n : Int) : Nat := 2 ^ n.toNat - 1
def trL (n : Int) : List Nat := below 3 0 (trN n)
def trE (n : Int) : Int := if 1 ≤ n ∧ n ≤ 3 then 0 else 1
def trQ (n : Int) : List Nat := reduce (trN n) (trL n)
theorem tree_k {n : Int} (h : 1 ≤ n ∧ n ≤ 3) : ∃ k : Nat, n = k ∧ (k = 1 ∨ k = 2 ∨ k = 3) := ⟨n.toNat, by omega, by omega⟩
theorem tree_odd {k : Nat} (h : k = 1 ∨ k = 2 ∨ k = 3) : 0 < 2 ^ k - 1 ∧ 2 ^ k - 1 ≤ 7 ∧ (2 ^ k - 1) % 2 = 1 ∧ 2 ^ k - 1 < (0 + 1) * 2 ^ 3 := by rcases h with rfl | rfl | rfl <;> decide
set_option maxHeartbeats 4000000 in
theorem rTree_pc (n : Int) : PC Try.prog 31 [.s (.int .i64 n)] (fun r => r = res (trE n) (trN n) (trQ n)) := by
  refine pc_list (q := fun r => r = if 1 ≤ n ∧ n ≤ 3 then res 0 (trN n) (trQ n) else eV 1) ?_ fun x hx _ => ⟨res (trE n) (trN n) (trQ n), ?_, res_ok _ _ _, rfl⟩
  case refine_2 =>
    subst hx
    unfold trE
    split
    · exact res_fr _ _ _
    · exact err_fr _ _ _ (by omega)
  refine pc_end c31 mixed rfl ?_
  by_cases h1 : n < 1
  · rw [if_neg (by omega)]
    simp -implicitDefEqProofs [a31, F31, h1, eV]
  by_cases h2 : 3 < n
  · rw [if_neg (by omega)]
    simp -implicitDefEqProofs [a31, F31, h1, h2, eV]
  rw [if_pos (by omega)]
  obtain ⟨k, rfl, hk⟩ := tree_k (n := n) (by omega)
  obtain ⟨o1, o2, o3, o4⟩ := tree_odd hk
  have es := shl1 (n := k) (by omega)
  have hN : trN (k : Int) = 2 ^ k - 1 := by unfold trN; rw [Int.toNat_natCast]
  have hp1 : 1 ≤ 2 ^ k := Nat.pow_pos (by omega)
  have ws : IntKind.i64.wrap (((2 ^ k : Nat) : Int) - 1) = ((2 ^ k - 1 : Nat) : Int) := by rw [wrap64 (by omega)]; omega
  have k0 : ¬ (k : Int) < 0 := by omega
  have hT := tree_pc 3 0 (2 ^ k - 1) o1 o2 o3 o4 (Nat.le_refl _)
  have hsame := tree_same hk
  have hlr : (rbelow 3 0 (2 ^ k - 1)).length ≤ 15 := by rcases hk with rfl | rfl | rfl <;> decide +kernel
  have hpr : properB (2 ^ k - 1) (rbelow 3 0 (2 ^ k - 1)) = true := by rcases hk with rfl | rfl | rfl <;> decide +kernel
  have hR := rReduce_pc ((2 ^ k - 1 : Nat) : Int) (zi (rbelow 3 0 (2 ^ k - 1))) (by rw [zi_length]; omega)
  rw [redE_zi (k := 2 ^ k - 1) (by omega) hpr (by omega), redQ_zi, ← reduce_same hsame] at hR
  have hQ : trQ (k : Int) = reduce (2 ^ k - 1) (below 3 0 (2 ^ k - 1)) := by unfold trQ trL; rw [hN]
  rw [hQ, hN]
  clear hQ hN o1 o2 o3 o4 hp1 hsame hpr hlr
  rw [show ((0 : Nat) : Int) = 0 from rfl] at hT
  generalize reduce (2 ^ k - 1) (below 3 0 (2 ^ k - 1)) = Q at hR ⊢
  generalize rbelow 3 0 (2 ^ k - 1) = L at hT hR
  generalize 2 ^ k - 1 = N at ws hT hR ⊢
  generalize 2 ^ k = K at es ws
  rw [res_eq] at hR ⊢
  simp -implicitDefEqProofs [a31, F31, h1, h2, k0, es, ws]
  refine wk_take ?_
  simp -implicitDefEqProofs
  refine wc_of hT (by simp) (by simp) ?_
  rintro _ rfl
  simp -implicitDefEqProofs
  refine wk_take ?_
  simp -implicitDefEqProofs
  refine wc_of hR (by simp) (by simp) ?_
  rintro _ rfl
  simp -implicitDefEqProofs [cV]
end Go.Proofs.Ytebibhmjmaomnaa
namespace Go.Proofs.Ytebibhmjmaomnaa
open Go.RowKit Go.Proofs
structure Md (k : Nat) (Q : List Nat) : Prop where
  k1 : 1 ≤ k ∧ k ≤ 9
  cot : Cot k Q
  l64 : Q.length ≤ 64
section
variable {k : Nat} {Q : List Nat}
theorem Md.ok (h : Md k Q) : okB k (zi Q) = true := okB_t (cot_ok h.k1 h.cot h.l64)
end
theorem major_len64 : ∀ {n : Nat}, n ≤ 8 → (major n).length ≤ 64 := by
  intro n h
  have key : ∀ n : Fin 9, (majB n.val).length ≤ 64 := by decide +kernel
  have := key ⟨n, by omega⟩
  rwa [majB_eq] at this
theorem major_md {n : Nat} (h1 : 1 ≤ n) (h8 : n ≤ 8) : Md n (major n) := ⟨⟨h1, by omega⟩, major_cot h1, major_len64 h8⟩
theorem majE_0 {n : Nat} (h1 : 1 ≤ n) (h8 : n ≤ 8) : majE n = 0 := by
  unfold majE
  rw [if_pos (by omega), Int.toNat_natCast, if_pos (major_len64 h8)]
theorem rMaj_pc {n : Nat} (h1 : 1 ≤ n) (h8 : n ≤ 8) : PC Try.prog 29 [.s (.int .i64 n)] (fun r => r = .tup [cP n (zi (major n)), .s (.int .i64 0)]) := by
  have := rMajority_pc n
  rw [majE_0 h1 h8, Int.toNat_natCast] at this
  exact this
theorem redQ_md {k : Nat} (hk : 1 ≤ k ∧ k ≤ 9) {L : List Nat} (hp : properB k L = true) (hl : L.length ≤ 64) : Md k (reduce k L) := by
  obtain ⟨h1, h2, h3⟩ := properB_iff hp
  exact ⟨hk, reduce_cot h1 h2 h3, Nat.le_trans reduce_len hl⟩
theorem gridp {r c : Nat} (hr : 1 ≤ r ∧ r ≤ 3) (hc : 1 ≤ c ∧ c ≤ 2) : 1 ≤ r * c ∧ r * c ≤ 9 := by
  have h1 := Nat.mul_le_mul hr.2 hc.2
  have h2 := Nat.mul_le_mul hr.1 hc.1
  omega
theorem gr_0 {r c : Nat} (hr : 1 ≤ r ∧ r ≤ 3) (hc : 1 ≤ c ∧ c ≤ 2) : grE r c = 0 ∧ grQ r c = reduce (r * c) (grid r c) := by
  obtain ⟨h1, h2⟩ := grid_proper hr hc
  have h3 := gridp hr hc
  have h4 : ((r * c : Nat) : Int) ≤ 9 := by omega
  rw [Int.natCast_mul] at h4
  unfold grE grQ
  rw [if_pos ⟨by omega, by omega, h4⟩, Int.toNat_natCast, Int.toNat_natCast, ← Int.natCast_mul]
  exact ⟨redE_zi h3 h1 (by omega), redQ_zi _ _⟩
theorem rGr_pc {r c : Nat} (hr : 1 ≤ r ∧ r ≤ 3) (hc : 1 ≤ c ∧ c ≤ 2) : PC Try.prog 30 [.s (.int .i64 r), .s (.int .i64 c)] (fun q => q = .tup [cP ((r * c : Nat) : Int) (zi (reduce (r * c) (grid r c))), .s (.int .i64 0)]) := by
  have := rGrid_pc r c
  rw [(gr_0 hr hc).1, (gr_0 hr hc).2, ← Int.natCast_mul] at this
  exact this
theorem gr_md {r c : Nat} (hr : 1 ≤ r ∧ r ≤ 3) (hc : 1 ≤ c ∧ c ≤ 2) : Md (r * c) (reduce (r * c) (grid r c)) := by
  obtain ⟨h1, h2⟩ := grid_proper hr hc
  exact redQ_md (gridp hr hc) h1 (by omega)
def tQ (k : Nat) : List Nat := reduce (2 ^ k - 1) (below 3 0 (2 ^ k - 1))
theorem rTr_pc {k : Nat} (h : k = 1 ∨ k = 2 ∨ k = 3) : PC Try.prog 31 [.s (.int .i64 k)] (fun q => q = .tup [cP ((2 ^ k - 1 : Nat) : Int) (zi (tQ k)), .s (.int .i64 0)]) := by
  have := rTree_pc k
  have e1 : trE k = 0 := by unfold trE; rw [if_pos (by omega)]
  have e2 : trN k = 2 ^ k - 1 := by unfold trN; rw [Int.toNat_natCast]
  have e3 : trQ k = tQ k := by unfold trQ trL tQ; rw [e2]
  rw [e1, e2, e3] at this
  exact this
theorem tr_md {k : Nat} (h : k = 1 ∨ k = 2 ∨ k = 3) : Md (2 ^ k - 1) (tQ k) := by
  have := tree_len h
  exact redQ_md (by rcases h with rfl | rfl | rfl <;> decide) (tree_proper h) (by omega)
theorem major3 : major 3 = [3, 5, 6] := by rw [← majB_eq]; decide +kernel
end Go.Proofs.Ytebibhmjmaomnaa
