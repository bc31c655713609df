/- Texts put behind one another: K1, K2, K3, K4, K5, K6, K7, K8, K9, K10. -/
import Derived.Test.YtgaihedboifjoaaZL
import Derived.Test.YtgaihedboifjoaaZE
import Derived.Test.YtgaihedboifjoaaZT
set_option linter.unusedVariables false
set_option linter.unusedSimpArgs false
namespace Go.Proofs.Ytgaihedboifjoaa
open Go.RowKit Go.Proofs

theorem binS_and (k : IntKind) (a b : Int) : binS .and (.int k a) (.int k b) = some (.int k (bits .and k a b)) := by simp only [binS, if_true]; rfl
theorem binS_or (k : IntKind) (a b : Int) : binS .or (.int k a) (.int k b) = some (.int k (bits .or k a b)) := by simp only [binS, if_true]; rfl
theorem wrap64 {n : Int} (h : -9223372036854775808 ≤ n ∧ n < 9223372036854775808) : IntKind.i64.wrap n = n := by rw [IntKind.wrap_i64]; omega
def iv (xs : List Int) : List V := xs.map fun n => .s (.int .i64 n)
@[simp] theorem iv_length (xs : List Int) : (iv xs).length = xs.length := by simp [iv]
@[simp] theorem iv_nil : iv [] = [] := rfl
theorem iv_get {xs : List Int} {i : Nat} (h : i < xs.length) : (iv xs)[i]? = some (.s (.int .i64 xs[i])) := by simp [iv, h]
theorem all_take1 {α : Type} {l : List α} {i : Nat} (h : i < l.length) (p : α → Bool) : (l.take (i + 1)).all p = ((l.take i).all p && p l[i]) := by
  rw [List.take_add_one, List.getElem?_eq_getElem h, List.all_append]; simp
theorem all_false {α : Type} {l : List α} {i : Nat} (h : i < l.length) (p : α → Bool) (hp : p l[i] = false) : l.all p = false := by
  rw [List.all_eq_false]
  exact ⟨l[i], List.getElem_mem h, by simp [hp]⟩
theorem take_eq1 {α : Type} {l k : List α} {i : Nat} (h1 : i < l.length) (h2 : i < k.length) (ht : l.take i = k.take i) (h : l[i] = k[i]) : l.take (i + 1) = k.take (i + 1) := by
  rw [List.take_add_one, List.take_add_one, ht, List.getElem?_eq_getElem h1, List.getElem?_eq_getElem h2, h]
def band (a b : Int) : Int := bits .and .i64 a b
theorem tmod_pos {n m : Int} (h : 0 < m) : (n.tmod m < 0 ∧ n.tmod m + m = n % m) ∨ (¬ n.tmod m < 0 ∧ n.tmod m = n % m) := by
  rw [Int.tmod_eq_emod]
  have hb := Int.emod_nonneg n (b := m) (by omega)
  have hc := Int.emod_lt_of_pos n h
  split
  · right; omega
  · left; omega
theorem Mod_pc (n m : Int) (h1 : 1 ≤ m) (h2 : m ≤ 4611686018427387904) : PC Try.prog 9 [.s (.int .i64 n), .s (.int .i64 m)] (fun r => r = .s (.int .i64 (n % m))) := by
  refine pc_end c9 mixed rfl ?_
  have e1 : ¬ m < 1 := by omega
  have e2 : ¬ m = 0 := by omega
  have hb := Int.emod_nonneg n (b := m) (by omega)
  have hc := Int.emod_lt_of_pos n (b := m) (by omega)
  rcases tmod_pos (n := n) (m := m) (by omega) with ⟨h3, h4⟩ | ⟨h3, h4⟩
  · have e3 : IntKind.i64.wrap (n % m) = n % m := wrap64 (by omega)
    simp -implicitDefEqProofs [a9, F9, e1, e2, h3, h4, e3]
  · have h5 : ¬ n % m < 0 := by omega
    simp -implicitDefEqProofs [a9, F9, e1, e2, h4, h5]
theorem voters_pc (n : Int) : PC Try.prog 29 [.s (.int .i64 n)] (fun r => r = .s (.bool (decide (1 ≤ n ∧ n ≤ 9)))) := by
  refine pc_end c29 mixed rfl ?_
  by_cases h1 : n ≥ 1
  · by_cases h2 : n ≤ 9
    · have : 1 ≤ n ∧ n ≤ 9 := ⟨h1, h2⟩
      simp -implicitDefEqProofs [a29, F29, h1, h2, this]
    · have : ¬ (1 ≤ n ∧ n ≤ 9) := fun q => h2 q.2
      simp -implicitDefEqProofs [a29, F29, h1, h2, this]
  · have : ¬ (1 ≤ n ∧ n ≤ 9) := fun q => h1 q.1
    simp -implicitDefEqProofs [a29, F29, h1, this]
theorem shl1 {n : Nat} (h : n ≤ 12) : IntKind.i64.wrap (2 ^ min n IntKind.i64.bits) = ((2 ^ n : Nat) : Int) := by
  have h1 : 2 ^ n ≤ 2 ^ 12 := Nat.pow_le_pow_right (by omega) h
  have e : (2 : Int) ^ min n IntKind.i64.bits = ((2 ^ n : Nat) : Int) := by
    rw [show min n IntKind.i64.bits = n by simp [IntKind.bits]; omega]; simp
  rw [e]
  generalize 2 ^ n = p at h1
  exact wrap64 (by omega)
theorem isSet_pc (s : Int) (n : Nat) (hn : n ≤ 12) : PC Try.prog 36 [.s (.int .i64 s), .s (.int .i64 n)] (fun r => r = .s (.bool (decide (1 ≤ s ∧ s < ((2 ^ n : Nat) : Int))))) := by
  refine pc_end c36 mixed rfl ?_
  have h0 : ¬ (n : Int) < 0 := by omega
  have e := shl1 hn
  generalize ((2 ^ n : Nat) : Int) = p at e ⊢
  by_cases h1 : s ≥ 1
  · by_cases h2 : s < p
    · have : 1 ≤ s ∧ s < p := ⟨h1, h2⟩
      simp -implicitDefEqProofs [a36, F36, h0, h1, h2, e, this]
    · have : ¬ (1 ≤ s ∧ s < p) := fun q => h2 q.2
      simp -implicitDefEqProofs [a36, F36, h0, h1, h2, e, this]
  · have : ¬ (1 ≤ s ∧ s < p) := fun q => h1 q.1
    simp -implicitDefEqProofs [a36, F36, h1, this]
theorem inside_pc (a b : Int) : PC Try.prog 44 [.s (.int .i64 a), .s (.int .i64 b)] (fun r => r = .s (.bool (band a b == a))) := by
  refine pc_end c44 mixed rfl ?_
  simp -implicitDefEqProofs [a44, F44, ↓binS_and, band]
def pMeet (s t : Int) : Bool := !(band s t == 0)
def meetInv (s : Int) (l : List Int) (m : Nat) (S : St) : Prop := ∃ i, i + m = l.length ∧ (l.take i).all (pMeet s) = true ∧ S = ⟨tmL [(7, .list 1 (iv l)), (8, .s (.int .i64 l.length)), (9, .s (.int .i64 i))], [.s (.int .i64 s), .list 1 (iv l), .s (.bool false), .no], [], 0⟩
theorem meet_pc (s : Int) (l : List Int) (hl : l.length ≤ 1000000) : PC Try.prog 38 [.s (.int .i64 s), .list 1 (iv l)] (fun r => r = .s (.bool (l.all (pMeet s)))) := by
  refine pc_end c38 mixed rfl ?_
  simp -implicitDefEqProofs [a38, F38]
  refine w_rounds [7, 8, 9] [3] 0 (Nat.le_refl _) (meetInv s l) l.length ⟨by simp, 0, by simp, by simp, by simp⟩ ?_
  rintro m S ⟨i, hi, hx, rfl⟩
  by_cases hm : i < l.length
  · have h1 : (i : Int) < l.length := by omega
    have h0 : ¬ (i : Int) < 0 := by omega
    have hw := wrap64 (n := (i : Int) + 1) (by omega)
    cases he : (bits .and .i64 s l[i] == 0)
    · have hp : pMeet s l[i] = true := by simp [pMeet, band, he]
      simp -implicitDefEqProofs [h1, h0, ↓binS_and, iv_get hm, he, hw]
      exact ⟨m - 1, by omega, i + 1, by omega, by rw [all_take1 hm, hx, hp]; rfl, by simp⟩
    · have hp : pMeet s l[i] = false := by simp [pMeet, band, he]
      simp -implicitDefEqProofs [h1, h0, ↓binS_and, iv_get hm, he, all_false hm _ hp]
  · have h2 : i = l.length := by omega
    rw [List.take_of_length_le (by omega)] at hx
    simp -implicitDefEqProofs [h2, hx]
def pMin (s t : Int) : Bool := !((t != s) && (band s t == t))
def minInv (s : Int) (l : List Int) (m : Nat) (S : St) : Prop := ∃ i, i + m = l.length ∧ (l.take i).all (pMin s) = true ∧ S = ⟨tmL [(7, .list 1 (iv l)), (8, .s (.int .i64 l.length)), (9, .s (.int .i64 i))], [.s (.int .i64 s), .list 1 (iv l), .s (.bool false), .no], [], 0⟩
theorem minimal_pc (s : Int) (l : List Int) (hl : l.length ≤ 1000000) : PC Try.prog 41 [.s (.int .i64 s), .list 1 (iv l)] (fun r => r = .s (.bool (l.all (pMin s)))) := by
  refine pc_end c41 mixed rfl ?_
  simp -implicitDefEqProofs [a41, F41]
  refine w_rounds [7, 8, 9] [3] 0 (Nat.le_refl _) (minInv s l) l.length ⟨by simp, 0, by simp, by simp, by simp⟩ ?_
  rintro m S ⟨i, hi, hx, rfl⟩
  by_cases hm : i < l.length
  · have h1 : (i : Int) < l.length := by omega
    have h0 : ¬ (i : Int) < 0 := by omega
    have hw := wrap64 (n := (i : Int) + 1) (by omega)
    have hp : pMin s l[i] = !((l[i] != s) && (bits .and .i64 s l[i] == l[i])) := rfl
    cases he : (l[i] != s)
    · rw [he, Bool.false_and] at hp
      simp -implicitDefEqProofs [h1, h0, ↓binS_and, iv_get hm, he, hw]
      exact ⟨m - 1, by omega, i + 1, by omega, by rw [all_take1 hm, hx, hp]; rfl, by simp⟩
    cases he2 : (bits .and .i64 s l[i] == l[i])
    · rw [he, he2] at hp
      simp -implicitDefEqProofs [h1, h0, ↓binS_and, iv_get hm, he, he2, hw]
      exact ⟨m - 1, by omega, i + 1, by omega, by rw [all_take1 hm, hx, hp]; rfl, by simp⟩
    · rw [he, he2] at hp
      simp -implicitDefEqProofs [h1, h0, ↓binS_and, iv_get hm, he, he2, all_false hm _ hp]
  · have h2 : i = l.length := by omega
    rw [List.take_of_length_le (by omega)] at hx
    simp -implicitDefEqProofs [h2, hx]
def eqInv (l k : List Int) (m : Nat) (S : St) : Prop := ∃ i, i + m = l.length ∧ l.take i = k.take i ∧ S = ⟨tmL [(11, .list 1 (iv l)), (12, .s (.int .i64 l.length)), (13, .s (.int .i64 i))], [.list 1 (iv l), .list 1 (iv k), .s (.bool false), .no], [], 0⟩
theorem Equal_pc (l k : List Int) (hl : l.length ≤ 1000000) : PC Try.prog 47 [.list 1 (iv l), .list 1 (iv k)] (fun r => r = .s (.bool (decide (l = k)))) := by
  refine pc_end c47 mixed rfl ?_
  cases h : ((l.length : Int) != (k.length : Int))
  case' true =>
    have : ¬ l = k := fun q => by subst q; simp at h
    simp -implicitDefEqProofs [a47, F47, h, this]
  have hlk : l.length = k.length := by simp at h; omega
  simp -implicitDefEqProofs [a47, F47, h]
  refine w_rounds [11, 12, 13] [3] 0 (Nat.le_refl _) (eqInv l k) l.length ⟨by simp, 0, by simp, by simp, by simp⟩ ?_
  rintro m S ⟨i, hi, hx, rfl⟩
  by_cases hm : i < l.length
  · have h1 : (i : Int) < l.length := by omega
    have h0 : ¬ (i : Int) < 0 := by omega
    have hm2 : i < k.length := by omega
    have hw := wrap64 (n := (i : Int) + 1) (by omega)
    cases he : (l[i] != k[i])
    · simp -implicitDefEqProofs [h1, h0, iv_get hm, iv_get hm2, he, hw]
      exact ⟨m - 1, by omega, i + 1, by omega, take_eq1 hm hm2 hx (by simpa using he), by simp⟩
    · have : ¬ l = k := fun q => by subst q; simp at he
      simp -implicitDefEqProofs [h1, h0, iv_get hm, iv_get hm2, he, this]
  · have h2 : i = l.length := by omega
    rw [List.take_of_length_le (by omega), List.take_of_length_le (by omega)] at hx
    simp -implicitDefEqProofs [h2, hx]
end Go.Proofs.Ytgaihedboifjoaa

namespace Go.Proofs.Ytgaihedboifjoaa
open Go.RowKit Go.Proofs

theorem hand_sp {bx : List (List V)} {B : List V} {q : Nat} {v : Value} (h : bx[q]? = some B) (hc : B.all cellB = true) : handOk bx [.s v, .ptr q 0] [] [q] [.s v, .ptr 0 0] [B] :=
  ⟨by simp [ren, renA, renL, fzs], rfl, rfl, rfl, by simp [(List.getElem?_eq_some_iff.1 h).1], by simp [h], by simpa using hc⟩
theorem hand_sf {bx : List (List V)} {B : List V} {q o : Nat} {v : Value} (h : bx[q]? = some B) (hc : B.all cellB = true) : handOk bx [.s v, .ptr q o] [] [q] [.s v, .ptr 0 o] [B] :=
  ⟨by simp [ren, renA, renL, fzs], rfl, rfl, rfl, by simp [(List.getElem?_eq_some_iff.1 h).1], by simp [h], by simpa using hc⟩
theorem hand_lf {bx : List (List V)} {B : List V} {q o z : Nat} {l : List V} (h : bx[q]? = some B) (hc : B.all cellB = true) : handOk bx [.list z l, .ptr q o] [] [q] [.list z l, .ptr 0 o] [B] :=
  ⟨by simp [ren, renA, renL, fzs], rfl, rfl, rfl, by simp [(List.getElem?_eq_some_iff.1 h).1], by simp [h], by simpa using hc⟩
/-- a function value over the box B answers p for the numbers of l -/
def Fn1 (f : Nat) (B : List V) (p : Int → Bool) (l : List Int) : Prop := callable Try.prog f = true ∧ B.all cellB = true ∧ B.all (cellK 1) = true ∧ ∀ s ∈ l, AC Try.prog f [.s (.int .i64 s), .ptr 0 0] [B] (fun r bs => r = .s (.bool (p s)) ∧ bs = [B])
theorem filter_take {α : Type} {l : List α} {i : Nat} (h : i < l.length) (p : α → Bool) : (l.take (i + 1)).filter p = (l.take i).filter p ++ (if p l[i] then [l[i]] else []) := by
  rw [List.take_add_one, List.getElem?_eq_getElem h, List.filter_append]
  congr 1
  simp [List.filter]
  split <;> simp_all
def filtInv (f : Nat) (B : List V) (p : Int → Bool) (l : List Int) (m : Nat) (S : St) : Prop := ∃ i, i + m = l.length ∧ S = ⟨tmL [(8, .list 1 (iv l)), (9, .s (.int .i64 l.length)), (10, .s (.int .i64 i))], [.list 1 (iv l), .ptr 0 (1000000000 + f), .s (.slice none 0 0), .own true 3 1 (iv ((l.take i).filter p)), .no], [B], 0⟩
set_option maxHeartbeats 4000000 in
theorem filter_ac {f : Nat} {B : List V} {p : Int → Bool} {l : List Int} (hf : Fn1 f B p l) (hl : l.length ≤ 100000) : AC Try.prog 39 [.list 1 (iv l), .ptr 0 (1000000000 + f)] [B] (fun r bs => r = .list 1 (iv (l.filter p)) ∧ bs = [B]) := by
  obtain ⟨hc, hB, hB2, hf⟩ := hf
  refine ac_end c39 mixed rfl ?_
  simp -implicitDefEqProofs [a39, F39]
  refine w_rounds [8, 9, 10] [4] 1 (Nat.le_refl _) (filtInv f B p l) l.length ⟨by simpa using hB2, 0, by simp, by simp⟩ ?_
  rintro m S ⟨i, hi, rfl⟩
  by_cases hm : i < l.length
  · have h1 : (i : Int) < l.length := by omega
    have h0 : ¬ (i : Int) < 0 := by omega
    have hw := wrap64 (n := (i : Int) + 1) (by omega)
    have hfl : ((l.take i).filter p).length ≤ i := Nat.le_trans (List.length_filter_le _ _) (by simp; omega)
    have b1 : ((l.take i).filter p).length + 1 ≤ maxLen ∧ (((l.take i).filter p).length + 1) * 8 ≤ maxBytes := by simp [maxLen, maxBytes]; omega
    simp -implicitDefEqProofs [h1, h0, iv_get hm]
    refine wkv_hand ?_
    simp -implicitDefEqProofs
    refine wv_of (mask := []) (sel := [0]) (hf l[i] (List.getElem_mem hm)) hc (hand_sp (q := 0) (by simp) hB) ?_
    rintro _ _ ⟨rfl, rfl⟩
    refine ⟨by simpa using hB, ?_⟩
    have ht := filter_take hm p
    cases hp : p l[i]
    · rw [hp] at ht
      simp -implicitDefEqProofs [hp, hw]
      exact ⟨by simpa using hB2, m - 1, by omega, i + 1, by omega, by rw [ht]; simp⟩
    · rw [hp] at ht
      simp -implicitDefEqProofs [hp, hw, b1]
      exact ⟨by simpa using hB2, m - 1, by omega, i + 1, by omega, by rw [ht]; simp [iv]⟩
  · have h2 : i = l.length := by omega
    simp -implicitDefEqProofs [h2]
    refine retA_of 1 ?_
    simp -implicitDefEqProofs
    exact fun x hx => List.all_eq_true.1 hB2 x hx
/-- 1, 2, .., k - 1 -/
def upto (k : Nat) : List Int := (List.range (k - 1)).map fun i => ((i + 1 : Nat) : Int)
theorem upto_succ {i : Nat} (h : 1 ≤ i) : upto (i + 1) = upto i ++ [(i : Int)] := by
  unfold upto
  obtain ⟨j, rfl⟩ : ∃ j, i = j + 1 := ⟨i - 1, by omega⟩
  simp only [Nat.add_sub_cancel]
  rw [List.range_succ, List.map_append]
  rfl
@[simp] theorem upto_length (k : Nat) : (upto k).length = k - 1 := by simp [upto]
theorem upto_mem {k : Nat} {s : Int} (h : s ∈ upto k) : ∃ n : Nat, s = n ∧ 1 ≤ n ∧ n < k := by
  simp only [upto, List.mem_map, List.mem_range] at h
  obtain ⟨a, h1, h2⟩ := h
  exact ⟨a + 1, h2.symm, by omega, by omega⟩
def subInv (n f : Nat) (B : List V) (m : Nat) (S : St) : Prop := ∃ i, 1 ≤ i ∧ i + m = 2 ^ n ∧ S = ⟨tmL [], [.s (.int .i64 n), .ptr 0 (1000000000 + f), .s (.slice none 0 0), .own true 3 1 (iv (upto i)), .s (.int .i64 i)], [B], 0⟩
set_option maxHeartbeats 4000000 in
theorem subsets_ac {f n : Nat} {B : List V} {p : Int → Bool} (hn : n ≤ 9) (hf : Fn1 f B p (upto (2 ^ n))) : AC Try.prog 30 [.s (.int .i64 n), .ptr 0 (1000000000 + f)] [B] (fun r bs => r = .list 1 (iv ((upto (2 ^ n)).filter p)) ∧ bs = [B]) := by
  have hf0 := hf
  obtain ⟨hc, hB, hB2, _⟩ := hf
  have h512 : 2 ^ n ≤ 2 ^ 9 := Nat.pow_le_pow_right (by omega) hn
  have h1n : 1 ≤ 2 ^ n := Nat.pow_pos (by omega)
  have e := shl1 (n := n) (by omega)
  have hn0 : ¬ (n : Int) < 0 := by omega
  have hF := filter_ac (l := upto (2 ^ n)) hf0 (by rw [upto_length]; omega)
  clear hf0
  have hsub : subInv n f B = fun m S => ∃ i, 1 ≤ i ∧ i + m = 2 ^ n ∧ S = ⟨tmL [], [.s (.int .i64 n), .ptr 0 (1000000000 + f), .s (.slice none 0 0), .own true 3 1 (iv (upto i)), .s (.int .i64 i)], [B], 0⟩ := rfl
  generalize 2 ^ n = k at *
  refine ac_end c30 mixed rfl ?_
  simp -implicitDefEqProofs [a30, F30]
  refine w_rounds [] [] 1 (Nat.le_refl _) (subInv n f B) (k - 1) ⟨by simpa using hB2, ?_⟩ ?_
  · rw [hsub]
    exact ⟨1, by omega, by omega, by simp [upto]⟩
  rintro m S hS
  rw [hsub] at hS
  obtain ⟨i, hi1, hi, rfl⟩ := hS
  by_cases hm : i < k
  · have h1 : (i : Int) < k := by omega
    have hw := wrap64 (n := (i : Int) + 1) (by omega)
    have b1 : i - 1 + 1 ≤ maxLen ∧ (i - 1 + 1) * 8 ≤ maxBytes := by simp [maxLen, maxBytes]; omega
    simp -implicitDefEqProofs [h1, hn0, e, b1, hw]
    refine ⟨by simpa using hB2, m - 1, by omega, ?_⟩
    rw [hsub]
    exact ⟨i + 1, by omega, by omega, by rw [upto_succ hi1]; simp [iv]⟩
  · have h2 : i = k := by omega
    subst h2
    simp -implicitDefEqProofs [hn0, e]
    refine wk_hand ?_
    simp -implicitDefEqProofs
    refine wa_of (mask := []) (sel := [0]) hF (hand_lf (q := 0) (by simp) hB) ?_
    rintro _ _ ⟨rfl, rfl⟩
    refine ⟨by simpa using hB, ?_⟩
    simp -implicitDefEqProofs
    refine retA_of 1 ?_
    simp -implicitDefEqProofs
    exact fun x hx => List.all_eq_true.1 hB2 x hx
end Go.Proofs.Ytgaihedboifjoaa

namespace Go.Proofs.Ytgaihedboifjoaa
open Go.RowKit Go.Proofs

def oc1 (x : Int) : Int := IntKind.u64.wrap (bits .and .u64 (x.fdiv (2 ^ min 1 IntKind.u64.bits)) 6148914691236517205 + bits .and .u64 x 6148914691236517205)
def oc2 (x : Int) : Int := IntKind.u64.wrap (bits .and .u64 (x.fdiv (2 ^ min 2 IntKind.u64.bits)) 3689348814741910323 + bits .and .u64 x 3689348814741910323)
def oc3 (x : Int) : Int := bits .and .u64 (IntKind.u64.wrap (x.fdiv (2 ^ min 4 IntKind.u64.bits) + x)) 1085102592571150095
def oc4 (x : Int) : Int := IntKind.u64.wrap (x + x.fdiv (2 ^ min 8 IntKind.u64.bits))
def oc5 (x : Int) : Int := IntKind.u64.wrap (x + x.fdiv (2 ^ min 16 IntKind.u64.bits))
def oc6 (x : Int) : Int := IntKind.u64.wrap (x + x.fdiv (2 ^ min 32 IntKind.u64.bits))
def oc64 (x : Int) : Int := bits .and .i64 (IntKind.i64.wrap (oc6 (oc5 (oc4 (oc3 (oc2 (oc1 x))))))) 127
theorem oc_ok : ∀ s : Fin 512, oc64 ((s.val : Nat) : Int) = ((popB 9 s.val : Nat) : Int) := by decide +kernel
theorem oc64_pc (s : Nat) (h : s < 512) : PC Try.prog 49 [.s (.int .u64 s)] (fun r => r = .s (.int .i64 (pop s))) := by
  have hp : oc64 (s : Int) = (pop s : Int) := by
    have := oc_ok ⟨s, h⟩
    rw [popB_eq 9 s (by omega)] at this
    exact this
  rw [← hp]
  clear hp
  generalize (s : Int) = x
  refine pc_end c49 mixed rfl ?_
  simp -implicitDefEqProofs [a49, F49, ↓binS_and]
  rfl
theorem oc_pc (s : Nat) (h : s < 512) : PC Try.prog 32 [.s (.int .u64 s)] (fun r => r = .s (.int .i64 (pop s))) := by
  refine pc_end c32 mixed rfl ?_
  simp -implicitDefEqProofs [a32, F32]
  refine wk_take ?_
  simp -implicitDefEqProofs
  refine wc_of (oc64_pc s h) (by simp) (by simp) ?_
  rintro _ rfl
  simp -implicitDefEqProofs
/-- the closure of Majority -/
def pMaj (n : Nat) (s : Int) : Bool := decide (pop s.toNat = n / 2 + 1)
theorem half_i (n : Nat) (h : n ≤ 9) : IntKind.i64.wrap ((n : Int) / 2) = (n : Int) / 2 ∧ IntKind.i64.wrap ((n : Int) / 2 + 1) = (n : Int) / 2 + 1 := ⟨wrap64 (by omega), wrap64 (by omega)⟩
theorem maj1_ac (n : Nat) (hn : n ≤ 9) (s : Nat) (hs : s < 512) : AC Try.prog 31 [.s (.int .i64 s), .ptr 0 0] [[.s (.int .i64 n)]] (fun r bs => r = .s (.bool (pMaj n s)) ∧ bs = [[.s (.int .i64 n)]]) := by
  refine ac_end c31 mixed rfl ?_
  have w1 : IntKind.u64.wrap (s : Int) = (s : Int) := by
    show (s : Int) % 18446744073709551616 = s
    omega
  obtain ⟨w2, w3⟩ := half_i n hn
  simp -implicitDefEqProofs [a31, F31, w1]
  refine wkd_take ?_
  simp -implicitDefEqProofs
  refine wcd_of (oc_pc s hs) (by simp) (by simp) ?_
  simp -implicitDefEqProofs [w2, w3]
  refine retA_of 1 ?_
  simp -implicitDefEqProofs [pMaj]
  by_cases h : pop s = n / 2 + 1
  · simp [h]
  · simp [h]
    omega
theorem and1i (s : Nat) (h : s < 512) : bits .and .i64 (s : Int) 1 = (s : Int) % 2 := by
  have := i64_and_nat s 1 (by omega) (by omega)
  rw [show ((1 : Nat) : Int) = 1 from rfl] at this
  rw [this, show (1 : Nat) = 2 ^ 1 - 1 from rfl, Nat.and_two_pow_sub_one_eq_mod]
  omega
theorem shr1 (s : Nat) : (s : Int).fdiv (2 ^ min 1 IntKind.i64.bits) = ((s / 2 : Nat) : Int) := by
  show (s : Int).fdiv 2 = _
  rw [Int.fdiv_eq_ediv_of_nonneg _ (by omega)]
  omega
def sizeInv (s : Nat) (m : Nat) (S : St) : Prop := ∃ c t, t = m ∧ t < 512 ∧ c ≤ 512 ∧ c + pop t = pop s ∧ S = ⟨tmL [], [.s (.int .i64 t), .s (.int .i64 0), .s (.int .i64 c)], [], 0⟩
theorem pop_le9 {s : Nat} (h : s < 512) : pop s ≤ 9 := pop_le 9 s (by omega)
theorem size_pc (s : Nat) (hs : s < 512) : PC Try.prog 33 [.s (.int .i64 s)] (fun r => r = .s (.int .i64 (pop s))) := by
  refine pc_end c33 mixed rfl ?_
  simp -implicitDefEqProofs [a33, F33]
  refine w_rounds [] [] 0 (Nat.le_refl _) (sizeInv s) s ⟨by simp, 0, s, rfl, hs, by omega, by omega, by simp⟩ ?_
  rintro m S ⟨c, t, rfl, ht, hc, hp, rfl⟩
  have h9 := pop_le9 hs
  by_cases h : 0 < t
  · have e1 := and1i t ht
    have e2 := shr1 t
    have e3 := wrap64 (n := (c : Int) + (t : Int) % 2) (by omega)
    have e4 := wrap64 (n := ((t / 2 : Nat) : Int)) (by omega)
    rw [pop_eq t] at hp
    simp -implicitDefEqProofs [h, ↓binS_and, e1, e2, e3, e4]
    exact ⟨t / 2, by omega, c + t % 2, t / 2, rfl, by omega, by omega, by omega, by simp⟩
  · have h1 : t = 0 := by omega
    subst h1
    rw [pop_zero] at hp
    have : c = pop s := by omega
    simp -implicitDefEqProofs [this]
end Go.Proofs.Ytgaihedboifjoaa

namespace Go.Proofs.Ytgaihedboifjoaa
open Go.RowKit Go.Proofs

/-- sets as Go's ints -/
def zi (q : List Nat) : List Int := q.map fun n : Nat => (n : Int)
@[simp] theorem zi_length (q : List Nat) : (zi q).length = q.length := by simp [zi]
@[simp] theorem zi_nil : zi [] = [] := rfl
def cV (n : Int) (q : List Nat) : V := .agg [.s (.int .i64 n), .list 1 (iv (zi q))]
def rV (n : Int) (q : List Nat) (e : Int) : V := .tup [cV n q, .s (.int .i64 e)]
def eV (e : Int) : V := .tup [.agg [.s (.int .i64 0), .s (.slice none 0 0)], .s (.int .i64 e)]
def raw (e n : Int) (q : List Nat) : V := if e = 0 then rV n q 0 else eV e
def res (e n : Int) (q : List Nat) : V := if e = 0 then rV n q 0 else rV 0 [] e
theorem raw_fr (e n : Int) (q : List Nat) : frT (raw e n q) (res e n q) := by
  unfold raw res
  split
  · simp [rV, cV, frT, frAs, frA, frLs, frL, immC]
  · simp [rV, cV, eV, frT, frAs, frA, frLs, frL, immC]
theorem res_ok (e n : Int) (q : List Nat) : okV (res e n q) = true := by unfold res; split <;> rfl
theorem pc_res {f : Nat} {args : List V} {e n : Int} {q : List Nat} (h : PC Try.prog f args (fun r => r = raw e n q)) : PC Try.prog f args (fun r => r = res e n q) :=
  pc_list h fun x hx _ => ⟨_, hx ▸ raw_fr e n q, res_ok e n q, rfl⟩
theorem upto_subs (n : Nat) : upto (2 ^ n) = zi (subs n) := by
  have h1 : 1 ≤ 2 ^ n := Nat.pow_pos (by omega)
  unfold subs zi
  generalize 2 ^ n = k at h1
  induction k with
  | zero => omega
  | succ k ih =>
    rcases Nat.eq_zero_or_pos k with h | h
    · subst h; simp [upto]
    · rw [upto_succ h, ih h, List.range_succ, List.filter_append, List.map_append]
      have : decide (1 ≤ k) = true := decide_eq_true h
      simp [List.filter, this]
theorem filter_zi (l : List Nat) (p : Int → Bool) (q : Nat → Bool) (h : ∀ s ∈ l, p (s : Int) = q s) : (zi l).filter p = zi (l.filter q) := by
  induction l with
  | nil => rfl
  | cons x l ih =>
    have h1 := h x (by simp)
    have h2 := ih fun s hs => h s (by simp [hs])
    simp only [zi, List.map_cons, List.filter_cons] at h2 ⊢
    rw [h1]
    split <;> simp [h2]
theorem subs_lt {n s : Nat} (h : s ∈ subs n) (hn : n ≤ 9) : 1 ≤ s ∧ s < 512 := by
  have h1 := subs_mem.1 h
  have h2 : 2 ^ n ≤ 2 ^ 9 := Nat.pow_le_pow_right (by omega) hn
  omega
def majE (n : Int) : Int := if 1 ≤ n ∧ n ≤ 9 then (if (major n.toNat).length ≤ 64 then 0 else 4) else 1
theorem maj_filter (n : Nat) : (upto (2 ^ n)).filter (pMaj n) = zi (major n) := by
  rw [upto_subs]
  exact filter_zi _ _ _ fun s hs => by simp [pMaj]
theorem maj_fn (n : Nat) (hn : n ≤ 9) : Fn1 31 [.s (.int .i64 n)] (pMaj n) (upto (2 ^ n)) := by
  refine ⟨by kernel_rfl, rfl, rfl, fun s hs => ?_⟩
  obtain ⟨k, rfl, h1, h2⟩ := upto_mem hs
  have h3 : 2 ^ n ≤ 2 ^ 9 := Nat.pow_le_pow_right (by omega) hn
  exact maj1_ac n hn k (by omega)
set_option maxHeartbeats 4000000 in
theorem Majority_pc0 (n : Int) : PC Try.prog 10 [.s (.int .i64 n)] (fun r => r = raw (majE n) n (major n.toNat)) := by
  refine pc_end c10 mixed rfl ?_
  simp -implicitDefEqProofs [a10, F10]
  refine wk_take ?_
  simp -implicitDefEqProofs
  refine wc_of (voters_pc n) (by simp) (by simp) ?_
  rintro _ rfl
  by_cases h : 1 ≤ n ∧ n ≤ 9
  · obtain ⟨k, rfl⟩ : ∃ k : Nat, n = k := ⟨n.toNat, by omega⟩
    have hk : k ≤ 9 := by omega
    simp -implicitDefEqProofs [h]
    refine wk_hand ?_
    simp -implicitDefEqProofs
    refine wa_of (mask := []) (sel := [0]) (subsets_ac (f := 31) hk (maj_fn k hk)) (hand_sf (q := 0) (by simp) rfl) ?_
    rintro _ _ ⟨rfl, rfl⟩
    refine ⟨rfl, ?_⟩
    rw [maj_filter]
    by_cases h2 : (major k).length ≤ 64
    · have g1 : ¬ (64 : Int) < ((major k).length : Int) := by omega
      have e : majE k = 0 := by simp [majE, h, h2]
      simp -implicitDefEqProofs [g1, e, raw, rV, cV]
    · have g1 : (64 : Int) < ((major k).length : Int) := by omega
      have e : majE k = 4 := by simp [majE, h, h2]
      simp -implicitDefEqProofs [g1, e, raw, eV]
  · have e : majE n = 1 := by simp only [majE]; rw [if_neg h]
    simp -implicitDefEqProofs [h, e, raw, eV]
theorem Majority_pc (n : Int) : PC Try.prog 10 [.s (.int .i64 n)] (fun r => r = res (majE n) n (major n.toNat)) := pc_res (Majority_pc0 n)
end Go.Proofs.Ytgaihedboifjoaa

namespace Go.Proofs.Ytgaihedboifjoaa
open Go.RowKit Go.Proofs

theorem upto_filter_succ {i : Nat} (h : 1 ≤ i) (p : Int → Bool) : (upto (i + 1)).filter p = (upto i).filter p ++ (if p i then [(i : Int)] else []) := by
  rw [upto_succ h, List.filter_append]
  congr 1
  simp [List.filter]
  split <;> simp_all
def rmInv (n : Nat) (m : Nat) (S : St) : Prop := ∃ i, 1 ≤ i ∧ i + m = 2 ^ n ∧ S = ⟨tmL [(2, .ptr 0 0), (4, .ptr 1 0)], [.s (.int .i64 n), .s (.int .i64 0), .s (.int .i64 i)], [[.s (.int .i64 0), .s (.slice none 0 0)], [.s (.int .i64 n), .own true 3 1 (iv ((upto i).filter (pMaj n)))]], 0⟩
set_option maxHeartbeats 4000000 in
theorem rMajority_pc0 (n : Int) : PC Try.prog 11 [.s (.int .i64 n)] (fun r => r = raw (majE n) n (major n.toNat)) := by
  refine pc_end c11 mixed rfl ?_
  by_cases h1 : n < 1
  · have e : majE n = 1 := by simp only [majE]; rw [if_neg (by omega)]
    simp -implicitDefEqProofs [a11, F11, h1, e, raw, eV]
  by_cases h2 : 9 < n
  · have e : majE n = 1 := by simp only [majE]; rw [if_neg (by omega)]
    simp -implicitDefEqProofs [a11, F11, h1, h2, e, raw, eV]
  have h : 1 ≤ n ∧ n ≤ 9 := by omega
  obtain ⟨k, rfl⟩ : ∃ k : Nat, n = k := ⟨n.toNat, by omega⟩
  have hk : k ≤ 9 := by omega
  have h512 : 2 ^ k ≤ 2 ^ 9 := Nat.pow_le_pow_right (by omega) hk
  have h1n : 1 ≤ 2 ^ k := Nat.pow_pos (by omega)
  have e := shl1 (n := k) (by omega)
  have hn0 : ¬ (k : Int) < 0 := by omega
  have hfil := maj_filter k
  have hinv : rmInv k = fun m S => ∃ i : Nat, 1 ≤ i ∧ i + m = 2 ^ k ∧ S = ⟨tmL [(2, .ptr 0 0), (4, .ptr 1 0)], [.s (.int .i64 k), .s (.int .i64 0), .s (.int .i64 i)], [[.s (.int .i64 0), .s (.slice none 0 0)], [.s (.int .i64 k), .own true 3 1 (iv ((upto i).filter (pMaj k)))]], 0⟩ := rfl
  generalize 2 ^ k = K at *
  simp -implicitDefEqProofs [a11, F11, h1, h2]
  refine w_rounds [2, 4] [] 2 (by decide) (rmInv k) (K - 1) ⟨by simp, ?_⟩ ?_
  · rw [hinv]
    exact ⟨1, by omega, by omega, by simp [upto]⟩
  rintro m S hS
  rw [hinv] at hS
  obtain ⟨i, hi1, hi, rfl⟩ := hS
  obtain ⟨w2, w3⟩ := half_i k hk
  by_cases hm : i < K
  · have g1 : (i : Int) < K := by omega
    have hw := wrap64 (n := (i : Int) + 1) (by omega)
    have hfl : ((upto i).filter (pMaj k)).length ≤ i - 1 := Nat.le_trans (List.length_filter_le _ _) (by simp)
    have b1 : ((upto i).filter (pMaj k)).length + 1 ≤ maxLen ∧ (((upto i).filter (pMaj k)).length + 1) * 8 ≤ maxBytes := by simp [maxLen, maxBytes]; omega
    have hs := upto_filter_succ hi1 (pMaj k)
    simp -implicitDefEqProofs [g1, hn0, e]
    refine wk_take ?_
    simp -implicitDefEqProofs
    refine wc_of (size_pc i (by omega)) (by simp) (by simp) ?_
    rintro _ rfl
    cases hp : pMaj k (i : Int)
    · have hp' : ((pop i : Int) == (k : Int) / 2 + 1) = false := by simp [pMaj] at hp; simp; omega
      rw [hp] at hs
      simp -implicitDefEqProofs [w2, w3, hp', hw]
      refine ⟨m - 1, by omega, ?_⟩
      rw [hinv]
      exact ⟨i + 1, by omega, by omega, by rw [hs]; simp⟩
    · have hp' : ((pop i : Int) == (k : Int) / 2 + 1) = true := by simp [pMaj] at hp; simp; omega
      rw [hp] at hs
      simp -implicitDefEqProofs [w2, w3, hp', hw, b1]
      refine ⟨m - 1, by omega, ?_⟩
      rw [hinv]
      exact ⟨i + 1, by omega, by omega, by rw [hs]; simp [iv]⟩
  · have h2 : i = K := by omega
    subst h2
    rw [hfil]
    by_cases h2 : (major k).length ≤ 64
    · have g1 : ¬ (64 : Int) < ((major k).length : Int) := by omega
      have e' : majE k = 0 := by simp [majE, h, h2]
      simp -implicitDefEqProofs [hn0, e, g1, e', raw, rV, cV]
    · have g1 : (64 : Int) < ((major k).length : Int) := by omega
      have e' : majE k = 4 := by simp [majE, h, h2]
      simp -implicitDefEqProofs [hn0, e, g1, e', raw, eV]
theorem rMajority_pc (n : Int) : PC Try.prog 11 [.s (.int .i64 n)] (fun r => r = res (majE n) n (major n.toNat)) := pc_res (rMajority_pc0 n)
end Go.Proofs.Ytgaihedboifjoaa

namespace Go.Proofs.Ytgaihedboifjoaa
open Go.RowKit Go.Proofs

def ascP (k : Nat) (q : List Int) (i : Nat) : Prop := (1 ≤ q.getD i 0 ∧ q.getD i 0 < ((2 ^ k : Nat) : Int)) ∧ (0 < i → q.getD (i - 1) 0 < q.getD i 0)
structure okC (n : Int) (q : List Int) : Prop where
  n1 : 1 ≤ n ∧ n ≤ 9
  l1 : 1 ≤ q.length
  l2 : q.length ≤ 64
  asc : ∀ i, i < q.length → ascP n.toNat q i
  mm : ∀ s ∈ q, q.all (pMeet s) = true ∧ q.all (pMin s) = true
noncomputable def okB (n : Int) (q : List Int) : Bool := @decide (okC n q) (Classical.propDecidable _)
theorem okB_t {n : Int} {q : List Int} (h : okC n q) : okB n q = true := by unfold okB; exact @decide_eq_true _ (Classical.propDecidable _) h
theorem okB_f {n : Int} {q : List Int} (h : ¬ okC n q) : okB n q = false := by unfold okB; exact @decide_eq_false _ (Classical.propDecidable _) h
theorem okB_iff {n : Int} {q : List Int} : okB n q = true ↔ okC n q := by
  by_cases h : okC n q
  · simp [okB_t h, h]
  · simp [okB_f h, h]
def cP (n : Int) (q : List Int) : V := .agg [.s (.int .i64 n), .list 1 (iv q)]
theorem getD_of {q : List Int} {i : Nat} (h : i < q.length) : q.getD i 0 = q[i] := by simp [List.getD_eq_getElem?_getD, h]
theorem mem_take1 {α : Type} {l : List α} {i : Nat} (h : i < l.length) (x : α) : x ∈ l.take (i + 1) ↔ x ∈ l.take i ∨ x = l[i] := by
  rw [List.take_add_one, List.getElem?_eq_getElem h, List.mem_append]; simp
def va1 (k : Nat) (q : List Int) (m : Nat) (S : St) : Prop := ∃ i : Nat, i + m = q.length ∧ (∀ j, j < i → ascP k q j) ∧ S = ⟨tmL [(1, .ptr 0 0), (24, .list 1 (iv q)), (25, .s (.int .i64 q.length)), (26, .s (.int .i64 i))], [.agg [.s (.int .i64 k), .list 1 (iv q)], .s (.bool false), .no, .no, .no], [[.s (.int .i64 k), .list 1 (iv q)]], 0⟩
def va2 (k : Nat) (q : List Int) (m : Nat) (S : St) : Prop := ∃ i : Nat, i + m = q.length ∧ (∀ s ∈ q.take i, q.all (pMeet s) = true ∧ q.all (pMin s) = true) ∧ S = ⟨tmL [(1, .ptr 0 0), (52, .list 1 (iv q)), (53, .s (.int .i64 q.length)), (54, .s (.int .i64 i))], [.agg [.s (.int .i64 k), .list 1 (iv q)], .s (.bool false), .no, .no, .no], [[.s (.int .i64 k), .list 1 (iv q)]], 0⟩
set_option maxHeartbeats 8000000 in
theorem Valid_pc (n : Int) (q : List Int) (hq : q.length ≤ 1000000) : PC Try.prog 19 [cP n q] (fun r => r = .s (.bool (okB n q))) := by
  refine pc_end c19 mixed rfl ?_
  simp -implicitDefEqProofs [a19, F19, cP]
  refine wk_take ?_
  simp -implicitDefEqProofs
  refine wc_of (voters_pc n) (by simp) (by simp) ?_
  rintro _ rfl
  by_cases h1 : 1 ≤ n ∧ n ≤ 9
  case neg =>
    have e := okB_f (n := n) (q := q) fun h => h1 h.n1
    simp -implicitDefEqProofs [h1, e]
  obtain ⟨k, rfl⟩ : ∃ k : Nat, n = k := ⟨n.toNat, by omega⟩
  have hk : k ≤ 9 := by omega
  by_cases h2 : (q.length : Int) < 1
  · have e := okB_f (n := k) (q := q) fun h => by have := h.l1; omega
    simp -implicitDefEqProofs [h1, h2, e]
  by_cases h3 : (64 : Int) < (q.length : Int)
  · have e := okB_f (n := k) (q := q) fun h => by have := h.l2; omega
    simp -implicitDefEqProofs [h1, h2, h3, e]
  simp -implicitDefEqProofs [h1, h2, h3]
  refine w_rounds [1, 24, 25, 26] [2, 3, 4] 1 (by decide) (va1 k q) q.length ⟨by simp, 0, by simp, by simp, by simp⟩ ?_
  rintro m S ⟨i, hi, hx, rfl⟩
  by_cases hm : i < q.length
  · have g1 : (i : Int) < q.length := by omega
    have g0 : ¬ (i : Int) < 0 := by omega
    have hw := wrap64 (n := (i : Int) + 1) (by omega)
    have bad : ¬ ascP k q i → okB k q = false := fun hb => okB_f fun h => hb (h.asc i hm)
    have hgi := getD_of hm
    simp -implicitDefEqProofs [g1, g0, iv_get hm]
    refine wk_take ?_
    simp -implicitDefEqProofs
    refine wc_of (isSet_pc q[i] k (by omega)) (by simp) (by simp) ?_
    rintro _ rfl
    by_cases h4 : 1 ≤ q[i] ∧ q[i] < ((2 ^ k : Nat) : Int)
    case neg =>
      have e := bad fun h => h4 (by rw [← hgi]; exact h.1)
      rw [decide_eq_false h4]
      simp -implicitDefEqProofs [e]
    rw [decide_eq_true h4]
    rcases Nat.eq_zero_or_pos i with hz | hz
    · have hz' : ¬ 0 < i := by omega
      simp -implicitDefEqProofs [hz', hw]
      refine ⟨m - 1, by omega, i + 1, by omega, fun j hj => ?_, by simp⟩
      rcases Nat.lt_succ_iff_lt_or_eq.1 hj with h | rfl
      · exact hx j h
      · exact ⟨by rw [hgi]; exact h4, fun h => by omega⟩
    · have hp : i - 1 < q.length := by omega
      have w2 : IntKind.i64.wrap ((i : Int) - 1) = ((i - 1 : Nat) : Int) := by rw [wrap64 (by omega)]; omega
      have g2 : ¬ ((i - 1 : Nat) : Int) < 0 := by omega
      have hgp := getD_of hp
      by_cases h5 : q[i] ≤ q[i - 1]
      · have e := bad fun h => by have := h.2 hz; rw [hgi, hgp] at this; omega
        simp -implicitDefEqProofs [hz, w2, g2, iv_get hp, h5, e]
      · simp -implicitDefEqProofs [hz, w2, g2, iv_get hp, h5, hw]
        refine ⟨m - 1, by omega, i + 1, by omega, fun j hj => ?_, by simp⟩
        rcases Nat.lt_succ_iff_lt_or_eq.1 hj with h | rfl
        · exact hx j h
        · exact ⟨by rw [hgi]; exact h4, fun _ => by rw [hgi, hgp]; omega⟩
  have h6 : i = q.length := by omega
  subst h6
  simp -implicitDefEqProofs
  refine w_rounds [1, 52, 53, 54] [2, 3, 4] 1 (by decide) (va2 k q) q.length ⟨by simp, 0, by simp, by simp, by simp⟩ ?_
  rintro m S ⟨i, hi, hy, rfl⟩
  by_cases hm : i < q.length
  · have g1 : (i : Int) < q.length := by omega
    have g0 : ¬ (i : Int) < 0 := by omega
    have hw := wrap64 (n := (i : Int) + 1) (by omega)
    have bad : ¬ (q.all (pMeet q[i]) = true ∧ q.all (pMin q[i]) = true) → okB k q = false := fun hb => okB_f fun h => hb (h.mm _ (List.getElem_mem hm))
    simp -implicitDefEqProofs [g1, g0, iv_get hm]
    refine wk_take ?_
    simp -implicitDefEqProofs
    refine wc_of (meet_pc q[i] q hq) (by simp) (by simp) ?_
    rintro _ rfl
    cases h7 : q.all (pMeet q[i])
    · have e := bad fun h => by rw [h7] at h; cases h.1
      simp -implicitDefEqProofs [e]
    simp -implicitDefEqProofs
    refine wk_take ?_
    simp -implicitDefEqProofs
    refine wc_of (minimal_pc q[i] q hq) (by simp) (by simp) ?_
    rintro _ rfl
    cases h8 : q.all (pMin q[i])
    · have e := bad fun h => by rw [h8] at h; cases h.2
      simp -implicitDefEqProofs [e]
    · simp -implicitDefEqProofs [hw]
      refine ⟨m - 1, by omega, i + 1, by omega, fun s hs => ?_, by simp⟩
      rw [mem_take1 hm] at hs
      rcases hs with h | rfl
      · exact hy s h
      · exact ⟨h7, h8⟩
  have h6 : i = q.length := by omega
  rw [List.take_of_length_le (by omega)] at hy
  have e := okB_t (n := k) (q := q) ⟨h1, by omega, by omega, fun i hi => hx i (by omega), hy⟩
  simp -implicitDefEqProofs [h6, e]
end Go.Proofs.Ytgaihedboifjoaa

namespace Go.Proofs.Ytgaihedboifjoaa
open Go.RowKit Go.Proofs

theorem band_comm (a b : Int) : band a b = band b a := i64_and_comm a b
def prP (p q : Int) : Bool := !(band p q == 0) && !(band p q == p) && !(band q p == q)
structure rowP (k : Nat) (q : List Int) (i : Nat) : Prop where
  asc : ascP k q i
  pr : (q.take i).all (fun p => prP p (q.getD i 0)) = true
theorem asc_lt {k : Nat} {q : List Int} (h : ∀ i, i < q.length → ascP k q i) : ∀ {i j : Nat}, i < j → j < q.length → q.getD i 0 < q.getD j 0 := by
  intro i j hij
  induction j with
  | zero => omega
  | succ j ih =>
    intro hj
    have h1 := (h (j + 1) hj).2 (by omega)
    rw [Nat.add_sub_cancel] at h1
    rcases Nat.lt_succ_iff_lt_or_eq.1 hij with h2 | rfl
    · have := ih h2 (by omega); omega
    · exact h1
theorem band_self {k : Nat} {s : Int} (hk : k ≤ 9) (h : 1 ≤ s ∧ s < ((2 ^ k : Nat) : Int)) : band s s = s := by
  have h2 : 2 ^ k ≤ 2 ^ 9 := Nat.pow_le_pow_right (by omega) hk
  generalize 2 ^ k = K at *
  obtain ⟨a, rfl⟩ : ∃ a : Nat, s = a := ⟨s.toNat, by omega⟩
  unfold band
  rw [i64_and_nat a a (by omega) (by omega), Nat.and_self]
/-- the reference asks the same -/
theorem row_iff {k : Nat} {q : List Int} (hk : k ≤ 9) (h : ∀ i, i < q.length → ascP k q i) : (∀ i, i < q.length → rowP k q i) ↔ ∀ s ∈ q, q.all (pMeet s) = true ∧ q.all (pMin s) = true := by
  have hget : ∀ {i : Nat} (hi : i < q.length), q.getD i 0 = q[i] := fun hi => getD_of hi
  constructor
  · intro hr s hs
    obtain ⟨i, hi, rfl⟩ := List.getElem_of_mem hs
    have key : ∀ j (hj : j < q.length), pMeet q[i] q[j] = true ∧ pMin q[i] q[j] = true := by
      intro j hj
      have hpair : ∀ a b (ha : a < q.length) (hb : b < q.length), a < b → band q[a] q[b] ≠ 0 ∧ band q[a] q[b] ≠ q[a] ∧ band q[a] q[b] ≠ q[b] := by
        intro a b ha hb hab
        have := (hr b hb).pr
        rw [List.all_eq_true] at this
        have h2 := this q[a] (List.mem_take_iff_getElem.2 ⟨a, by omega, rfl⟩)
        rw [hget hb] at h2
        simp only [prP, Bool.and_eq_true, Bool.not_eq_true', beq_eq_false_iff_ne] at h2
        rw [band_comm q[b] q[a]] at h2
        exact ⟨h2.1.1, h2.1.2, h2.2⟩
      rcases Nat.lt_trichotomy i j with hij | rfl | hij
      · obtain ⟨a1, a2, a3⟩ := hpair i j hi hj hij
        exact ⟨by simp [pMeet, a1], by simp [pMin, a3]⟩
      · have hs := band_self hk (by have := (h i hi).1; rw [hget hi] at this; exact this)
        have h1 := (h i hi).1
        rw [hget hi] at h1
        exact ⟨by simp [pMeet, hs]; omega, by simp [pMin]⟩
      · obtain ⟨a1, a2, a3⟩ := hpair j i hj hi hij
        rw [band_comm] at a1 a2
        exact ⟨by simp [pMeet, a1], by simp [pMin, a2]⟩
    constructor <;> rw [List.all_eq_true] <;> intro t ht <;> obtain ⟨j, hj, rfl⟩ := List.getElem_of_mem ht
    · exact (key j hj).1
    · exact (key j hj).2
  · intro hm i hi
    refine ⟨h i hi, ?_⟩
    rw [List.all_eq_true]
    intro p hp
    obtain ⟨j, hj, rfl⟩ := List.mem_take_iff_getElem.1 hp
    have hjl : j < q.length := by omega
    have hne : q[j] ≠ q[i] := by
      have := asc_lt h (show j < i by omega) hi
      rw [hget hjl, hget hi] at this
      omega
    have m1 := hm q[i] (List.getElem_mem hi)
    have m2 := hm q[j] (List.getElem_mem hjl)
    simp only [List.all_eq_true] at m1 m2
    have a1 := m2.1 q[i] (List.getElem_mem hi)
    have a2 := m1.2 q[j] (List.getElem_mem hjl)
    have a3 := m2.2 q[i] (List.getElem_mem hi)
    rw [hget hi]
    simp only [pMeet, Bool.not_eq_true', beq_eq_false_iff_ne] at a1
    have a2' : band q[i] q[j] ≠ q[j] := by
      intro e
      simp [pMin, hne, e] at a2
    have a3' : band q[j] q[i] ≠ q[i] := by
      intro e
      simp [pMin, Ne.symm hne, e] at a3
    rw [band_comm] at a2'
    have a3'' := a3'
    rw [band_comm] at a3''
    simp [prP, a1, a2', a3'']
def rv1 (k : Nat) (q : List Int) (m : Nat) (S : St) : Prop := ∃ i : Nat, i + m = q.length ∧ (∀ j, j < i → rowP k q j) ∧ S = ⟨tmL [(1, .ptr 0 0), (8, .list 1 (iv q)), (9, .s (.int .i64 q.length)), (10, .s (.int .i64 i))], [.agg [.s (.int .i64 k), .list 1 (iv q)], .s (.bool false), .no, .no, .no], [[.s (.int .i64 k), .list 1 (iv q)]], 0⟩
def rv2 (k : Nat) (q : List Int) (i : Nat) (m : Nat) (S : St) : Prop := ∃ j : Nat, j + m = i ∧ (q.take j).all (fun p => prP p (q.getD i 0)) = true ∧ S = ⟨tmL [(1, .ptr 0 0), (8, .list 1 (iv q)), (9, .s (.int .i64 q.length)), (10, .s (.int .i64 i)), (41, .list 1 (iv (q.take i))), (42, .s (.int .i64 i)), (43, .s (.int .i64 j))], [.agg [.s (.int .i64 k), .list 1 (iv q)], .s (.bool false), .s (.int .i64 i), .s (.int .i64 (q.getD i 0)), .no], [[.s (.int .i64 k), .list 1 (iv q)]], 0⟩
theorem iv_take (q : List Int) (i : Nat) : (iv q).take i = iv (q.take i) := by simp [iv, List.map_take]
noncomputable def rowB (k : Nat) (q : List Int) : Bool := @decide (∀ i, i < q.length → rowP k q i) (Classical.propDecidable _)
theorem rowB_t {k : Nat} {q : List Int} (h : ∀ i, i < q.length → rowP k q i) : rowB k q = true := by unfold rowB; exact @decide_eq_true _ (Classical.propDecidable _) h
theorem rowB_f {k : Nat} {q : List Int} (h : ¬ ∀ i, i < q.length → rowP k q i) : rowB k q = false := by unfold rowB; exact @decide_eq_false _ (Classical.propDecidable _) h
set_option maxHeartbeats 8000000 in
theorem rows_pc (k : Nat) (hk : k ≤ 9) (q : List Int) (hq : q.length ≤ 1000000) : PC Try.prog 43 [cP k q] (fun r => r = .s (.bool (rowB k q))) := by
  refine pc_end c43 mixed rfl ?_
  have es := shl1 (n := k) (by omega)
  obtain ⟨K, hK⟩ : ∃ K : Nat, K = 2 ^ k := ⟨_, rfl⟩
  rw [← hK] at es
  have k0 : ¬ (k : Int) < 0 := by omega
  simp -implicitDefEqProofs [a43, F43, cP]
  refine w_rounds [1, 8, 9, 10] [2, 3, 4] 1 (by decide) (rv1 k q) q.length ⟨by simp, 0, by simp, by simp, by simp⟩ ?_
  rintro m S ⟨i, hi, hx, rfl⟩
  by_cases hm : i < q.length
  case neg =>
    have h6 : i = q.length := by omega
    have e := rowB_t fun j hj => hx j (by omega)
    simp -implicitDefEqProofs [h6, e]
  have g1 : (i : Int) < q.length := by omega
  have g0 : ¬ (i : Int) < 0 := by omega
  have hw := wrap64 (n := (i : Int) + 1) (by omega)
  have bad : ¬ ascP k q i → rowB k q = false := fun hb => rowB_f fun h => hb (h i hm).asc
  have bad2 : ¬ rowP k q i → rowB k q = false := fun hb => rowB_f fun h => hb (h i hm)
  have hgi := getD_of hm
  have hgd : q[i]?.getD 0 = q[i] := by simp [hm]
  have hile : i ≤ q.length := by omega
  have hmin : min i q.length = i := by omega
  by_cases c1 : q[i] < 1
  · have e := bad fun h => by have := h.1.1; omega
    simp -implicitDefEqProofs [g1, g0, iv_get hm, c1, e]
  by_cases c2 : (K : Int) ≤ q[i]
  · have e := bad fun h => by have := h.1.2; rw [← hK] at this; omega
    simp -implicitDefEqProofs [g1, g0, iv_get hm, c1, k0, es, c2, e]
  rcases Nat.eq_zero_or_pos i with hz | hz
  · have hz' : ¬ 0 < i := by omega
    have hasc : ascP k q i := ⟨by rw [hgi, ← hK]; omega, fun h => by omega⟩
    simp -implicitDefEqProofs [g1, g0, iv_get hm, c1, k0, es, c2, hz', hile, iv_take, hmin]
    refine w_rounds [1, 8, 9, 10, 41, 42, 43] [4] 1 (by decide) (rv2 k q i) i ⟨by simp, 0, by simp, by simp, by simp [iv_take, hgd]⟩ ?_
    rintro m' S ⟨j, hj, hpr, rfl⟩
    by_cases hj2 : j < i
    case neg =>
      have h6 : j = i := by omega
      subst h6
      simp -implicitDefEqProofs [hw]
      refine ⟨m - 1, by omega, j + 1, by omega, fun j' hj' => ?_, by simp⟩
      rcases Nat.lt_succ_iff_lt_or_eq.1 hj' with h | rfl
      · exact hx _ h
      · exact ⟨hasc, hpr⟩
    have j1 : (j : Int) < (i : Int) := by omega
    have j0 : ¬ (j : Int) < 0 := by omega
    have hjt : j < (q.take i).length := by simp; omega
    have hjq : j < q.length := by omega
    have hgt : (q.take i)[j]'hjt = q[j] := by simp
    have hgj : (iv (q.take i))[j]? = some (.s (.int .i64 q[j])) := by rw [iv_get hjt, hgt]
    have hwj := wrap64 (n := (j : Int) + 1) (by omega)
    have hpr1 : prP q[j] q[i] = (!(bits .and .i64 q[j] q[i] == 0) && !(band q[j] q[i] == q[j]) && !(band q[i] q[j] == q[i])) := rfl
    have stop : prP q[j] q[i] = false → rowB k q = false := fun hb => bad2 fun h => by
      have := h.pr
      rw [List.all_eq_true] at this
      have := this q[j] (List.mem_take_iff_getElem.2 ⟨j, by omega, rfl⟩)
      rw [hgi, hb] at this
      cases this
    cases d1 : (bits .and .i64 q[j] q[i] == 0)
    case true =>
      have e := stop (by rw [hpr1, d1]; rfl)
      simp -implicitDefEqProofs [j1, j0, hgj, hgd, ↓binS_and, d1, e]
    simp -implicitDefEqProofs [j1, j0, hgj, hgd, ↓binS_and, d1]
    refine wk_take ?_
    simp -implicitDefEqProofs
    refine wc_of (inside_pc q[j] q[i]) (by simp) (by simp) ?_
    rintro _ rfl
    cases d2 : (band q[j] q[i] == q[j])
    case true =>
      have e := stop (by rw [hpr1, d1, d2]; rfl)
      simp -implicitDefEqProofs [e]
    simp -implicitDefEqProofs
    refine wk_take ?_
    simp -implicitDefEqProofs
    refine wc_of (inside_pc q[i] q[j]) (by simp) (by simp) ?_
    rintro _ rfl
    cases d3 : (band q[i] q[j] == q[i])
    case true =>
      have e := stop (by rw [hpr1, d1, d2, d3]; rfl)
      simp -implicitDefEqProofs [e]
    simp -implicitDefEqProofs [hwj]
    refine ⟨m' - 1, by omega, j + 1, by omega, ?_, by simp [hgd]⟩
    have hpt : prP q[j] (q.getD i 0) = true := by rw [hgi, hpr1, d1, d2, d3]; rfl
    rw [all_take1 hjq, hpr, hpt]; rfl
  · have hp : i - 1 < q.length := by omega
    have w2 : IntKind.i64.wrap ((i : Int) - 1) = ((i - 1 : Nat) : Int) := by rw [wrap64 (by omega)]; omega
    have g2 : ¬ ((i - 1 : Nat) : Int) < 0 := by omega
    have hgp := getD_of hp
    by_cases h5 : q[i] ≤ q[i - 1]
    · have e := bad fun h => by have := h.2 hz; rw [hgi, hgp] at this; omega
      simp -implicitDefEqProofs [g1, g0, iv_get hm, c1, k0, es, c2, hz, w2, g2, iv_get hp, h5, e]
    have hasc : ascP k q i := ⟨by rw [hgi, ← hK]; omega, fun h => by rw [hgi, hgp]; omega⟩
    simp -implicitDefEqProofs [g1, g0, iv_get hm, c1, k0, es, c2, hz, w2, g2, iv_get hp, h5, hile, iv_take, hmin]
    refine w_rounds [1, 8, 9, 10, 41, 42, 43] [4] 1 (by decide) (rv2 k q i) i ⟨by simp, 0, by simp, by simp, by simp [iv_take, hgd]⟩ ?_
    rintro m' S ⟨j, hj, hpr, rfl⟩
    by_cases hj2 : j < i
    case neg =>
      have h6 : j = i := by omega
      subst h6
      simp -implicitDefEqProofs [hw]
      refine ⟨m - 1, by omega, j + 1, by omega, fun j' hj' => ?_, by simp⟩
      rcases Nat.lt_succ_iff_lt_or_eq.1 hj' with h | rfl
      · exact hx _ h
      · exact ⟨hasc, hpr⟩
    have j1 : (j : Int) < (i : Int) := by omega
    have j0 : ¬ (j : Int) < 0 := by omega
    have hjt : j < (q.take i).length := by simp; omega
    have hjq : j < q.length := by omega
    have hgt : (q.take i)[j]'hjt = q[j] := by simp
    have hgj : (iv (q.take i))[j]? = some (.s (.int .i64 q[j])) := by rw [iv_get hjt, hgt]
    have hwj := wrap64 (n := (j : Int) + 1) (by omega)
    have hpr1 : prP q[j] q[i] = (!(bits .and .i64 q[j] q[i] == 0) && !(band q[j] q[i] == q[j]) && !(band q[i] q[j] == q[i])) := rfl
    have stop : prP q[j] q[i] = false → rowB k q = false := fun hb => bad2 fun h => by
      have := h.pr
      rw [List.all_eq_true] at this
      have := this q[j] (List.mem_take_iff_getElem.2 ⟨j, by omega, rfl⟩)
      rw [hgi, hb] at this
      cases this
    cases d1 : (bits .and .i64 q[j] q[i] == 0)
    case true =>
      have e := stop (by rw [hpr1, d1]; rfl)
      simp -implicitDefEqProofs [j1, j0, hgj, hgd, ↓binS_and, d1, e]
    simp -implicitDefEqProofs [j1, j0, hgj, hgd, ↓binS_and, d1]
    refine wk_take ?_
    simp -implicitDefEqProofs
    refine wc_of (inside_pc q[j] q[i]) (by simp) (by simp) ?_
    rintro _ rfl
    cases d2 : (band q[j] q[i] == q[j])
    case true =>
      have e := stop (by rw [hpr1, d1, d2]; rfl)
      simp -implicitDefEqProofs [e]
    simp -implicitDefEqProofs
    refine wk_take ?_
    simp -implicitDefEqProofs
    refine wc_of (inside_pc q[i] q[j]) (by simp) (by simp) ?_
    rintro _ rfl
    cases d3 : (band q[i] q[j] == q[i])
    case true =>
      have e := stop (by rw [hpr1, d1, d2, d3]; rfl)
      simp -implicitDefEqProofs [e]
    simp -implicitDefEqProofs [hwj]
    refine ⟨m' - 1, by omega, j + 1, by omega, ?_, by simp [hgd]⟩
    have hpt : prP q[j] (q.getD i 0) = true := by rw [hgi, hpr1, d1, d2, d3]; rfl
    rw [all_take1 hjq, hpr, hpt]; rfl
theorem okB_rows {k : Nat} {q : List Int} (hk : 1 ≤ k ∧ k ≤ 9) (h1 : 1 ≤ q.length) (h2 : q.length ≤ 64) : okB k q = rowB k q := by
  by_cases h : ∀ i, i < q.length → rowP k q i
  · rw [rowB_t h]
    exact okB_t ⟨by omega, h1, h2, fun i hi => (h i hi).asc, (row_iff hk.2 fun i hi => (h i hi).asc).1 h⟩
  · rw [rowB_f h]
    exact okB_f fun o => h ((row_iff hk.2 o.asc).2 o.mm)
set_option maxHeartbeats 8000000 in
theorem rValid_pc (n : Int) (q : List Int) (hq : q.length ≤ 1000000) : PC Try.prog 20 [cP n q] (fun r => r = .s (.bool (okB n q))) := by
  refine pc_end c20 mixed rfl ?_
  by_cases h1 : 1 ≤ n
  case neg =>
    have e := okB_f (n := n) (q := q) fun h => h1 h.n1.1
    simp -implicitDefEqProofs [a20, F20, cP, h1, e]
  by_cases h2 : n ≤ 9
  case neg =>
    have e := okB_f (n := n) (q := q) fun h => h2 h.n1.2
    simp -implicitDefEqProofs [a20, F20, cP, h1, h2, e]
  by_cases h3 : (1 : Int) ≤ (q.length : Int)
  case neg =>
    have e := okB_f (n := n) (q := q) fun h => by have := h.l1; omega
    simp -implicitDefEqProofs [a20, F20, cP, h1, h2, h3, e]
  by_cases h4 : (q.length : Int) ≤ 64
  case neg =>
    have e := okB_f (n := n) (q := q) fun h => by have := h.l2; omega
    simp -implicitDefEqProofs [a20, F20, cP, h1, h2, h3, h4, e]
  obtain ⟨k, rfl⟩ : ∃ k : Nat, n = k := ⟨n.toNat, by omega⟩
  simp -implicitDefEqProofs [a20, F20, cP, h1, h2, h3, h4]
  refine wk_take ?_
  simp -implicitDefEqProofs
  refine wc_of (rows_pc k (by omega) q hq) (by simp [cP]) (by simp [cP]) ?_
  rintro _ rfl
  simp -implicitDefEqProofs [okB_rows (k := k) (q := q) (by omega) (by omega) (by omega)]
end Go.Proofs.Ytgaihedboifjoaa

namespace Go.Proofs.Ytgaihedboifjoaa
open Go.RowKit Go.Proofs

theorem band_nat {a b : Nat} (ha : a < 512) (hb : b < 512) : band (a : Int) (b : Int) = ((a &&& b : Nat) : Int) := i64_and_nat a b (by omega) (by omega)
theorem pMeet_nat {a b : Nat} (ha : a < 512) (hb : b < 512) : pMeet (a : Int) (b : Int) = decide (a &&& b ≠ 0) := by
  unfold pMeet
  rw [band_nat ha hb]
  by_cases h : a &&& b = 0
  · simp [h]
  · have : ((a &&& b : Nat) : Int) ≠ 0 := by omega
    simp [h]
theorem pMin_nat {s t : Nat} (hs : s < 512) (ht : t < 512) : pMin (s : Int) (t : Int) = decide (Sub t s → t = s) := by
  unfold pMin
  rw [band_nat hs ht]
  have e : Sub t s ↔ ((s &&& t : Nat) : Int) = (t : Int) := by
    unfold Sub
    rw [Nat.and_comm]
    omega
  rw [Bool.eq_iff_iff]
  simp only [Bool.not_eq_true', Bool.and_eq_false_iff, bne_eq_false_iff_eq, beq_eq_false_iff_ne, decide_eq_true_eq]
  rw [e]
  constructor
  · rintro (h | h) hh
    · omega
    · exact absurd hh h
  · intro h
    by_cases he : ((s &&& t : Nat) : Int) = (t : Int)
    · have := h he; left; omega
    · exact .inr he
theorem zi_all {Q : List Nat} {p : Int → Bool} {q : Nat → Bool} (h : ∀ s ∈ Q, p (s : Int) = q s) : (zi Q).all p = Q.all q := by
  induction Q with
  | nil => rfl
  | cons x l ih =>
    have h1 := h x (by simp)
    have h2 := ih fun s hs => h s (by simp [hs])
    simp only [zi, List.map_cons, List.all_cons] at h2 ⊢
    rw [h1, h2]
theorem meets_zi {s : Nat} {Q : List Nat} (hs : s < 512) (hQ : ∀ t ∈ Q, t < 512) : (zi Q).all (pMeet s) = meets s Q := zi_all fun t ht => pMeet_nat hs (hQ t ht)
theorem minim_zi {s : Nat} {Q : List Nat} (hs : s < 512) (hQ : ∀ t ∈ Q, t < 512) : (zi Q).all (pMin s) = minim s Q := by
  rw [zi_all fun t ht => pMin_nat hs (hQ t ht)]
  rw [Bool.eq_iff_iff, minim_iff, List.all_eq_true]
  simp only [decide_eq_true_eq]
/-- a valid coterie is one -/
structure Cv (n : Int) (q : List Int) (k : Nat) (Q : List Nat) : Prop where
  n : n = k
  q : q = zi Q
  k1 : 1 ≤ k ∧ k ≤ 9
  cot : Cot k Q
  l64 : Q.length ≤ 64
theorem Cv.lt {n : Int} {q : List Int} {k : Nat} {Q : List Nat} (h : Cv n q k Q) : ∀ t ∈ Q, t < 512 := fun t ht => by
  have h1 := (h.cot.rng t ht).2
  have h2 : 2 ^ k ≤ 2 ^ 9 := Nat.pow_le_pow_right (by omega) h.k1.2
  omega
theorem okC_cv {n : Int} {q : List Int} (h : okC n q) : Cv n q n.toNat (q.map Int.toNat) := by
  have hn := h.n1
  have hrng : ∀ s ∈ q, 1 ≤ s ∧ s < ((2 ^ n.toNat : Nat) : Int) := fun s hs => by
    obtain ⟨i, hi, rfl⟩ := List.getElem_of_mem hs
    have := (h.asc i hi).1
    rwa [getD_of hi] at this
  have h9 : 2 ^ n.toNat ≤ 2 ^ 9 := Nat.pow_le_pow_right (by omega) (by omega)
  have hq : q = zi (q.map Int.toNat) := by
    unfold zi
    rw [List.map_map]
    exact (List.map_id q).symm.trans (List.map_congr_left fun s hs => by have := hrng s hs; simp; omega)
  have hmem : ∀ t ∈ q.map Int.toNat, ∃ s ∈ q, s = (t : Int) ∧ t < 512 ∧ 1 ≤ t ∧ t < 2 ^ n.toNat := fun t ht => by
    obtain ⟨s, hs, rfl⟩ := List.mem_map.1 ht
    have := hrng s hs
    exact ⟨s, hs, by omega, by omega, by omega, by omega⟩
  refine ⟨by omega, hq, by omega, ⟨fun t ht => ?_, ?_, fun s hs t ht => ?_, fun s hs t ht hst => ?_, fun e => ?_⟩, by simpa using h.l2⟩
  · obtain ⟨_, _, _, _, h1, h2⟩ := hmem t ht
    exact ⟨h1, h2⟩
  · rw [List.pairwise_map, List.pairwise_iff_getElem]
    intro i j hi hj hij
    have := asc_lt h.asc hij hj
    rw [getD_of hi, getD_of hj] at this
    have h1 := hrng q[i] (List.getElem_mem hi)
    omega
  · obtain ⟨a, ha, rfl, a1, _⟩ := hmem s hs
    obtain ⟨b, hb, rfl, b1, _⟩ := hmem t ht
    have := (h.mm _ ha).1
    rw [List.all_eq_true] at this
    have := this _ hb
    rw [pMeet_nat a1 b1] at this
    simpa using this
  · obtain ⟨a, ha, rfl, a1, _⟩ := hmem s hs
    obtain ⟨b, hb, rfl, b1, _⟩ := hmem t ht
    have := (h.mm _ hb).2
    rw [List.all_eq_true] at this
    have := this _ ha
    rw [pMin_nat b1 a1] at this
    simp only [decide_eq_true_eq] at this
    exact this hst
  · have h1 := h.l1
    have := congrArg List.length e
    simp at this
    rw [this] at h1
    simp at h1
theorem cot_ok {k : Nat} {Q : List Nat} (hk : 1 ≤ k ∧ k ≤ 9) (h : Cot k Q) (hl : Q.length ≤ 64) : okC k (zi Q) := by
  have h9 : 2 ^ k ≤ 2 ^ 9 := Nat.pow_le_pow_right (by omega) hk.2
  have hlt : ∀ t ∈ Q, t < 512 := fun t ht => by have := (h.rng t ht).2; omega
  have hget : ∀ {i : Nat} (hi : i < (zi Q).length), (zi Q).getD i 0 = ((Q[i]'(by simpa using hi) : Nat) : Int) := fun {i} hi => by rw [getD_of hi]; simp [zi]
  have hl1 : 1 ≤ Q.length := by
    rcases Nat.eq_zero_or_pos Q.length with h0 | h0
    · exact absurd (List.eq_nil_of_length_eq_zero h0) h.ne
    · exact h0
  refine ⟨by omega, by simpa using hl1, by simpa using hl, fun i hi => ⟨?_, fun hp => ?_⟩, fun s hs => ?_⟩
  · have := h.rng (Q[i]'(by simpa using hi)) (List.getElem_mem _)
    rw [hget hi]
    simp only [Int.toNat_natCast]
    omega
  · have hi' : i < Q.length := by simpa using hi
    have := List.pairwise_iff_getElem.1 h.asc (i - 1) i (by omega) hi' (by omega)
    rw [hget (i := i - 1) (by simp; omega), hget hi]
    omega
  · simp only [zi, List.mem_map] at hs
    obtain ⟨a, ha, rfl⟩ := hs
    rw [meets_zi (hlt a ha) hlt, minim_zi (hlt a ha) hlt]
    exact ⟨meets_iff.2 fun t ht => h.meet a ha t ht, minim_iff.2 fun t ht hst => h.anti t ht a ha hst⟩
end Go.Proofs.Ytgaihedboifjoaa

namespace Go.Proofs.Ytgaihedboifjoaa
open Go.RowKit Go.Proofs

theorem filt_mall {k : Nat} {Q : List Nat} (hk : k ≤ 9) (hQ : ∀ t ∈ Q, t < 512) : (upto (2 ^ k)).filter (fun s => (zi Q).all (pMeet s)) = zi (mall k Q) := by
  rw [upto_subs]
  exact filter_zi _ _ _ fun s hs => meets_zi (subs_lt hs hk).2 hQ
theorem mall_lt {k : Nat} {Q : List Nat} (hk : k ≤ 9) {s : Nat} (h : s ∈ mall k Q) : 1 ≤ s ∧ s < 512 := by
  have h1 := mall_mem.1 h
  have h2 : 2 ^ k ≤ 2 ^ 9 := Nat.pow_le_pow_right (by omega) hk
  omega
theorem mall_len {k : Nat} {Q : List Nat} (hk : k ≤ 9) : (mall k Q).length ≤ 512 := by
  have h2 : 2 ^ k ≤ 2 ^ 9 := Nat.pow_le_pow_right (by omega) hk
  have h3 := List.length_filter_le (fun s => meets s Q) (subs k)
  have h4 := List.length_filter_le (fun s => decide (1 ≤ s)) (List.range (2 ^ k))
  have h5 : (subs k).length ≤ 2 ^ k := by simpa [subs] using h4
  have h6 : (mall k Q).length ≤ (subs k).length := h3
  omega
theorem filt_trans {k : Nat} {Q : List Nat} (hk : k ≤ 9) : (zi (mall k Q)).filter (fun s => (zi (mall k Q)).all (pMin s)) = zi (trans k Q) :=
  filter_zi _ _ _ fun s hs => minim_zi (mall_lt hk hs).2 fun t ht => (mall_lt hk ht).2
theorem tr1_ac (n : Int) (q : List Int) (hq : q.length ≤ 1000) (s : Int) : AC Try.prog 45 [.s (.int .i64 s), .ptr 0 0] [[.s (.int .i64 n), .list 1 (iv q)]] (fun r bs => r = .s (.bool (q.all (pMeet s))) ∧ bs = [[.s (.int .i64 n), .list 1 (iv q)]]) := by
  refine ac_end c45 mixed rfl ?_
  simp -implicitDefEqProofs [a45, F45]
  refine wk_take ?_
  simp -implicitDefEqProofs
  refine wc_of (meet_pc s q (by omega)) (by simp) (by simp) ?_
  rintro _ rfl
  simp -implicitDefEqProofs
  refine retA_of 1 ?_
  simp -implicitDefEqProofs
theorem tr2_ac (q : List Int) (hq : q.length ≤ 1000) (s : Int) : AC Try.prog 46 [.s (.int .i64 s), .ptr 0 0] [[.list 1 (iv q)]] (fun r bs => r = .s (.bool (q.all (pMin s))) ∧ bs = [[.list 1 (iv q)]]) := by
  refine ac_end c46 mixed rfl ?_
  simp -implicitDefEqProofs [a46, F46]
  refine wk_take ?_
  simp -implicitDefEqProofs
  refine wc_of (minimal_pc s q (by omega)) (by simp) (by simp) ?_
  rintro _ rfl
  simp -implicitDefEqProofs
  refine retA_of 1 ?_
  simp -implicitDefEqProofs
noncomputable def trZ (n : Int) (q : List Int) : List Int := if okB n q = true then zi (trans n.toNat (q.map Int.toNat)) else []
theorem trZ_t {n : Int} {q : List Int} {k : Nat} {Q : List Nat} (h : okC n q) (hc : Cv n q k Q) : trZ n q = zi (trans k Q) := by
  have e1 := hc.n
  have e2 := hc.q
  subst e1
  subst e2
  rw [trZ, if_pos (okB_t h)]
  have : (zi Q).map Int.toNat = Q := by simp [zi, List.map_map, Function.comp_def]
  rw [this, Int.toNat_natCast]
theorem trZ_f {n : Int} {q : List Int} (h : okB n q = false) : trZ n q = [] := by rw [trZ, h]; rfl
theorem lv_of_nil {l : List Int} (h : l = []) : frT (.s (.slice none 0 0)) (.list 1 (iv l)) := by subst h; simp [frT, frA, frL, immC]
theorem lv_of_list (l : List Int) : frT (.list 1 (iv l)) (.list 1 (iv l)) := by simp [frT, frA, frL, immC]
set_option maxHeartbeats 4000000 in
theorem Trans_pc (n : Int) (q : List Int) (hq : q.length ≤ 1000) : PC Try.prog 25 [cP n q] (fun r => r = .list 1 (iv (trZ n q))) := by
  refine pc_list (q := fun r => r = if okB n q = true then .list 1 (iv (trZ n q)) else .s (.slice none 0 0)) ?_ fun x hx _ => ⟨.list 1 (iv (trZ n q)), ?_, rfl, rfl⟩
  · refine pc_end c25 mixed rfl ?_
    simp -implicitDefEqProofs [a25, F25, cP]
    refine wk_take ?_
    simp -implicitDefEqProofs
    refine wc_of (Valid_pc n q (by omega)) (by simp [cP]) (by simp [cP]) ?_
    rintro _ rfl
    cases ho : okB n q
    · simp -implicitDefEqProofs
    have hok := okB_iff.1 ho
    have hc := okC_cv hok
    have hz := trZ_t hok hc
    generalize n.toNat = k at hc hz
    generalize q.map Int.toNat = Q at hc hz
    have e1 := hc.n
    have e2 := hc.q
    subst e1
    subst e2
    have hk := hc.k1.2
    simp -implicitDefEqProofs
    refine wk_hand ?_
    simp -implicitDefEqProofs
    refine wa_of (mask := []) (sel := [0]) (subsets_ac (f := 45) (B := [.s (.int .i64 k), .list 1 (iv (zi Q))]) (p := fun s => (zi Q).all (pMeet s)) hk ⟨by kernel_rfl, rfl, rfl, fun s _ => tr1_ac k (zi Q) hq s⟩) (hand_sf (q := 0) (by simp) rfl) ?_
    rintro _ _ ⟨rfl, rfl⟩
    refine ⟨rfl, ?_⟩
    rw [filt_mall hk hc.lt]
    have hl := mall_len (Q := Q) hk
    simp -implicitDefEqProofs
    refine wk_hand ?_
    simp -implicitDefEqProofs
    have hF : Fn1 46 [.list 1 (iv (zi (mall k Q)))] (fun s => (zi (mall k Q)).all (pMin s)) (zi (mall k Q)) := ⟨by kernel_rfl, rfl, rfl, fun s _ => tr2_ac _ (by rw [zi_length]; omega) s⟩
    refine wa_of (mask := []) (sel := [1]) (filter_ac (f := 46) hF (by rw [zi_length]; omega)) (hand_lf (q := 1) (by simp) rfl) ?_
    rintro _ _ ⟨rfl, rfl⟩
    refine ⟨rfl, ?_⟩
    rw [filt_trans hk, ← hz]
    simp -implicitDefEqProofs
  · subst hx
    split
    · exact lv_of_list _
    · next h => exact lv_of_nil (trZ_f (by simpa using h))
/-- the first quorum that is up -/
def avail (up : Int) : List Int → Option Int
  | [] => none
  | s :: r => if band s up == s then some s else avail up r
theorem avail_take {up : Int} {l : List Int} {i : Nat} (h : i < l.length) (hn : avail up (l.take i) = none) : avail up (l.take (i + 1)) = (if band l[i] up == l[i] then some l[i] else none) ∧ ((band l[i] up == l[i]) = true → avail up l = some l[i]) := by
  induction l generalizing i with
  | nil => simp at h
  | cons x l ih =>
    cases i with
    | zero =>
      refine ⟨by simp [avail], fun hh => ?_⟩
      have : (band x up == x) = true := hh
      simp [avail, this]
    | succ i =>
      simp only [List.take_succ_cons, avail] at hn ⊢
      split at hn
      · cases hn
      · next hx =>
        rw [if_neg hx, if_neg hx]
        exact ih (by simpa using h) hn
def avR (o : Option Int) : V := .tup [.s (.int .i64 (o.getD 0)), .s (.bool o.isSome)]
noncomputable def availE (n : Int) (q : List Int) (up : Int) : Option Int := if okB n q = true then avail up q else none
def avInv (n : Int) (q : List Int) (up : Int) (t : Nat) (m : Nat) (S : St) : Prop := ∃ i : Nat, i + m = q.length ∧ avail up (q.take i) = none ∧ S = ⟨tmL [(12, .list 1 (iv q)), (13, .s (.int .i64 q.length)), (14, .s (.int .i64 i))], [.agg [.s (.int .i64 n), .list 1 (iv q)], .s (.int .i64 up), .s (.int .i64 0), .s (.bool false), .no], [], 0⟩
set_option maxHeartbeats 4000000 in
theorem Avail_pc (n : Int) (q : List Int) (up : Int) (hq : q.length ≤ 1000) : PC Try.prog 22 [cP n q, .s (.int .i64 up)] (fun r => r = avR (availE n q up)) := by
  refine pc_end c22 mixed rfl ?_
  simp -implicitDefEqProofs [a22, F22, cP]
  refine wk_take ?_
  simp -implicitDefEqProofs
  refine wc_of (Valid_pc n q (by omega)) (by simp [cP]) (by simp [cP]) ?_
  rintro _ rfl
  cases ho : okB n q
  · simp -implicitDefEqProofs [avR, availE, ho]
  have he : availE n q up = avail up q := by simp [availE, ho]
  simp -implicitDefEqProofs
  refine w_rounds [12, 13, 14] [4] 0 (by decide) (avInv n q up 0) q.length ⟨by simp, 0, by simp, by simp [avail], by simp⟩ ?_
  rintro m S ⟨i, hi, hx, rfl⟩
  by_cases hm : i < q.length
  · have h1 : (i : Int) < q.length := by omega
    have h0 : ¬ (i : Int) < 0 := by omega
    have hw := wrap64 (n := (i : Int) + 1) (by omega)
    obtain ⟨t1, t2⟩ := avail_take hm hx
    cases hb : (bits .and .i64 q[i] up == q[i])
    · have hb' : (band q[i] up == q[i]) = false := hb
      rw [hb'] at t1
      simp -implicitDefEqProofs [h1, h0, ↓binS_and, iv_get hm, hb, hw]
      exact ⟨m - 1, by omega, i + 1, by omega, by rw [t1]; rfl, by simp⟩
    · have e := t2 hb
      simp -implicitDefEqProofs [h1, h0, ↓binS_and, iv_get hm, hb, avR, he, e]
  · have h2 : i = q.length := by omega
    rw [List.take_of_length_le (by omega)] at hx
    simp -implicitDefEqProofs [h2, avR, he, hx]
set_option maxHeartbeats 4000000 in
theorem rAvail_pc (n : Int) (q : List Int) (up : Int) (hq : q.length ≤ 1000) : PC Try.prog 23 [cP n q, .s (.int .i64 up)] (fun r => r = avR (availE n q up)) := by
  refine pc_end c23 mixed rfl ?_
  simp -implicitDefEqProofs [a23, F23, cP]
  refine wk_take ?_
  simp -implicitDefEqProofs
  refine wc_of (rValid_pc n q (by omega)) (by simp [cP]) (by simp [cP]) ?_
  rintro _ rfl
  cases ho : okB n q
  · simp -implicitDefEqProofs [avR, availE, ho]
  have he : availE n q up = avail up q := by simp [availE, ho]
  simp -implicitDefEqProofs
  refine w_rounds [12, 13, 14] [4] 0 (by decide) (avInv n q up 0) q.length ⟨by simp, 0, by simp, by simp [avail], by simp⟩ ?_
  rintro m S ⟨i, hi, hx, rfl⟩
  by_cases hm : i < q.length
  · have h1 : (i : Int) < q.length := by omega
    have h0 : ¬ (i : Int) < 0 := by omega
    have hw := wrap64 (n := (i : Int) + 1) (by omega)
    obtain ⟨t1, t2⟩ := avail_take hm hx
    simp -implicitDefEqProofs [h1, h0, iv_get hm]
    refine wk_take ?_
    simp -implicitDefEqProofs
    refine wc_of (inside_pc q[i] up) (by simp) (by simp) ?_
    rintro _ rfl
    cases hb : (band q[i] up == q[i])
    · rw [hb] at t1
      simp -implicitDefEqProofs [hw]
      exact ⟨m - 1, by omega, i + 1, by omega, by rw [t1]; rfl, by simp⟩
    · have e := t2 hb
      simp -implicitDefEqProofs [avR, he, e]
  · have h2 : i = q.length := by omega
    rw [List.take_of_length_le (by omega)] at hx
    simp -implicitDefEqProofs [h2, avR, he, hx]
noncomputable def domB (n : Int) (q : List Int) : Bool := okB n q && !decide (trZ n q = q)
set_option maxHeartbeats 4000000 in
theorem Dom_pc (n : Int) (q : List Int) (hq : q.length ≤ 1000) (ht : (trZ n q).length ≤ 1000) : PC Try.prog 27 [cP n q] (fun r => r = .s (.bool (domB n q))) := by
  refine pc_end c27 mixed rfl ?_
  simp -implicitDefEqProofs [a27, F27, cP]
  refine wkd_take ?_
  simp -implicitDefEqProofs
  refine wcd_of (Valid_pc n q (by omega)) (by simp [cP]) (by simp [cP]) ?_
  cases ho : okB n q
  · simp -implicitDefEqProofs [domB, ho]
  simp -implicitDefEqProofs
  refine wkd_take ?_
  simp -implicitDefEqProofs
  refine wcd_of (Trans_pc n q hq) (by simp [cP]) (by simp [cP]) ?_
  simp -implicitDefEqProofs
  refine wkd_take ?_
  simp -implicitDefEqProofs
  refine wcd_of (Equal_pc (trZ n q) q (by omega)) (by simp) (by simp) ?_
  simp -implicitDefEqProofs [domB, ho]
end Go.Proofs.Ytgaihedboifjoaa

namespace Go.Proofs.Ytgaihedboifjoaa
open Go.RowKit Go.Proofs

theorem any_take1 {α : Type} {l : List α} {i : Nat} (h : i < l.length) (p : α → Bool) : (l.take (i + 1)).any p = ((l.take i).any p || p l[i]) := by
  rw [List.take_add_one, List.getElem?_eq_getElem h, List.any_append]; simp
def minA (s x : Int) : Bool := x == s
def minL (s x : Int) : Bool := (x == s) || !(band x s == x)
def minF (l : List Int) (s : Int) : Bool := l.any (minA s) && l.all (minL s)
def from0 (k : Nat) : List Int := zi (List.range k)
theorem from0_succ (i : Nat) : from0 (i + 1) = from0 i ++ [(i : Int)] := by simp [from0, zi, List.range_succ]
@[simp] theorem from0_length (k : Nat) : (from0 k).length = k := by simp [from0]
def rmS (k : Nat) (l : List Int) (i : Nat) : List V := [.s (.int .i64 k), .list 1 (iv l), .s (.slice none 0 0), .own true 3 1 (iv ((from0 i).filter (minF l))), .s (.int .i64 i)]
def rmO (k K : Nat) (l : List Int) (m : Nat) (S : St) : Prop := ∃ i : Nat, i + m = K ∧ S = ⟨tmL [], [.s (.int .i64 k), .list 1 (iv l), .s (.slice none 0 0), .own true 3 1 (iv ((from0 i).filter (minF l))), .s (.int .i64 i), .no, .no, .no], [], 0⟩
def rmI (k : Nat) (l : List Int) (i : Nat) (m : Nat) (S : St) : Prop := ∃ j : Nat, j + m = l.length ∧ S = ⟨tmL [(17, .list 1 (iv l)), (18, .s (.int .i64 l.length)), (19, .s (.int .i64 j))], [.s (.int .i64 k), .list 1 (iv l), .s (.slice none 0 0), .own true 3 1 (iv ((from0 i).filter (minF l))), .s (.int .i64 i), .s (.bool ((l.take j).any (minA i))), .s (.bool ((l.take j).all (minL i))), .no], [], 0⟩
set_option maxHeartbeats 8000000 in
theorem rmin_pc (k : Nat) (hk : k ≤ 9) (l : List Int) (hl : l.length ≤ 1000) : PC Try.prog 42 [.s (.int .i64 k), .list 1 (iv l)] (fun r => r = .list 1 (iv ((from0 (2 ^ k)).filter (minF l)))) := by
  refine pc_frz ?_
  have h512 : 2 ^ k ≤ 2 ^ 9 := Nat.pow_le_pow_right (by omega) hk
  have es := shl1 (n := k) (by omega)
  have k0 : ¬ (k : Int) < 0 := by omega
  generalize 2 ^ k = K at *
  refine pc_end c42 mixed rfl ?_
  simp -implicitDefEqProofs [a42, F42]
  refine w_rounds [] [5, 6, 7] 0 (by decide) (rmO k K l) K ⟨by simp, 0, by simp, by simp [from0]⟩ ?_
  rintro m S ⟨i, hi, rfl⟩
  have hfl : ((from0 i).filter (minF l)).length ≤ i := Nat.le_trans (List.length_filter_le _ _) (by simp)
  by_cases hm : i < K
  case neg =>
    have h6 : i = K := by omega
    subst h6
    simp -implicitDefEqProofs [k0, es]
  have g1 : (i : Int) < (K : Int) := by omega
  have hw := wrap64 (n := (i : Int) + 1) (by omega)
  simp -implicitDefEqProofs [k0, es, g1]
  refine w_rounds [17, 18, 19] [7] 0 (by decide) (rmI k l i) l.length ⟨by simp, 0, by simp, by simp⟩ ?_
  rintro m' S ⟨j, hj, rfl⟩
  by_cases hjl : j < l.length
  · have j1 : (j : Int) < l.length := by omega
    have j0 : ¬ (j : Int) < 0 := by omega
    have hwj := wrap64 (n := (j : Int) + 1) (by omega)
    have t1 := any_take1 hjl (minA i)
    have t2 := all_take1 hjl (minL i)
    have m1 : minA i l[j] = (l[j] == (i : Int)) := rfl
    have m2 : minL i l[j] = ((l[j] == (i : Int)) || !(band l[j] i == l[j])) := rfl
    have fin : ∀ {b1 b2 : Bool}, (l.take (j + 1)).any (minA i) = b1 → (l.take (j + 1)).all (minL i) = b2 → ∀ S', S' = (⟨tmL [(17, .list 1 (iv l)), (18, .s (.int .i64 l.length)), (19, .s (.int .i64 ((j : Int) + 1)))], [.s (.int .i64 k), .list 1 (iv l), .s (.slice none 0 0), .own true 3 1 (iv ((from0 i).filter (minF l))), .s (.int .i64 i), .s (.bool b1), .s (.bool b2), .no], [], 0⟩ : St) → ∃ m'' < m', rmI k l i m'' S' :=
      fun h1 h2 S' hS => ⟨m' - 1, by omega, j + 1, by omega, by rw [hS, h1, h2]; simp⟩
    cases b1 : (l.take j).any (minA i) <;> cases b2 : (l.take j).all (minL i) <;> cases b3 : (l[j] == (i : Int)) <;> rw [b1, m1, b3] at t1 <;> rw [b2, m2, b3] at t2
    all_goals first
      | (simp -implicitDefEqProofs [j1, j0, iv_get hjl, b3, hwj]; exact fin t1 t2 _ rfl)
      | (simp -implicitDefEqProofs [j1, j0, iv_get hjl, b3]
         refine wk_take ?_
         simp -implicitDefEqProofs
         refine wc_of (inside_pc l[j] i) (by simp) (by simp) ?_
         rintro _ rfl
         simp -implicitDefEqProofs [hwj]
         exact fin t1 (by rw [t2]; simp) _ rfl)
  · have h6 : j = l.length := by omega
    have e1 : (l.take j).any (minA i) = l.any (minA i) := by rw [List.take_of_length_le (by omega)]
    have e2 : (l.take j).all (minL i) = l.all (minL i) := by rw [List.take_of_length_le (by omega)]
    have hs : (from0 (i + 1)).filter (minF l) = (from0 i).filter (minF l) ++ (if minF l i then [(i : Int)] else []) := by
      rw [from0_succ, List.filter_append]
      congr 1
      simp [List.filter]
      split <;> simp_all
    have b5 : ((from0 i).filter (minF l)).length + 1 ≤ maxLen ∧ (((from0 i).filter (minF l)).length + 1) * 8 ≤ maxBytes := by simp [maxLen, maxBytes]; omega
    have hF : minF l i = (l.any (minA i) && l.all (minL i)) := rfl
    rw [e1, e2]
    subst h6
    cases b1 : l.any (minA i) <;> cases b2 : l.all (minL i) <;> rw [b1, b2] at hF <;> rw [hF] at hs <;> simp -implicitDefEqProofs [hw, b5] <;> exact ⟨m - 1, by omega, i + 1, by omega, by rw [hs]; simp [iv]⟩
end Go.Proofs.Ytgaihedboifjoaa
