/- Texts put behind one another: Y1, Y2, Y3, Y4, Y5, Y6, Y7, Y8, Y9, Y10, Y11, Y12, Y13, Y14, Y15, Y16, Y17, Y18, Y19. -/
import Derived.Test.YtebibhmjmaomnaaZL
import Derived.Test.YtebibhmjmaomnaaZE
import Derived.Test.YtebibhmjmaomnaaZT
set_option linter.unusedVariables false
set_option linter.unusedSimpArgs false
namespace Go.Proofs.Ytebibhmjmaomnaa
open Go.RowKit Go.Proofs
theorem binS_and (k : IntKind) (a b : Int) : binS .and (.int k a) (.int k b) = some (.int k (bits .and k a b)) := by simp only [binS, if_true]; rfl
theorem wrap64 {n : Int} (h : -9223372036854775808 ≤ n ∧ n < 9223372036854775808) : IntKind.i64.wrap n = n := by rw [IntKind.wrap_i64]; omega
def iv (xs : List Int) : List V := xs.map fun n => .s (.int .i64 n)
@[simp] theorem iv_length (xs : List Int) : (iv xs).length = xs.length := by simp [iv]
@[simp] theorem iv_nil : iv [] = [] := rfl
theorem iv_get {xs : List Int} {i : Nat} (h : i < xs.length) : (iv xs)[i]? = some (.s (.int .i64 xs[i])) := by simp [iv, h]
theorem all_take1 {α : Type} {l : List α} {i : Nat} (h : i < l.length) (p : α → Bool) : (l.take (i + 1)).all p = ((l.take i).all p && p l[i]) := by
  rw [List.take_add_one, List.getElem?_eq_getElem h, List.all_append]; simp
theorem all_false {α : Type} {l : List α} {i : Nat} (h : i < l.length) (p : α → Bool) (hp : p l[i] = false) : l.all p = false := by
  rw [List.all_eq_false]
  exact ⟨l[i], List.getElem_mem h, by simp [hp]⟩
theorem take_eq1 {α : Type} {l k : List α} {i : Nat} (h1 : i < l.length) (h2 : i < k.length) (ht : l.take i = k.take i) (h : l[i] = k[i]) : l.take (i + 1) = k.take (i + 1) := by
  rw [List.take_add_one, List.take_add_one, ht, List.getElem?_eq_getElem h1, List.getElem?_eq_getElem h2, h]
def band (a b : Int) : Int := bits .and .i64 a b
theorem tmod_pos {n m : Int} (h : 0 < m) : (n.tmod m < 0 ∧ n.tmod m + m = n % m) ∨ (¬ n.tmod m < 0 ∧ n.tmod m = n % m) := by
  rw [Int.tmod_eq_emod]
  have hb := Int.emod_nonneg n (b := m) (by omega)
  have hc := Int.emod_lt_of_pos n h
  split
  · right; omega
  · left; omega
theorem Mod_pc (n m : Int) (h1 : 1 ≤ m) (h2 : m ≤ 4611686018427387904) : PC Try.prog 11 [.s (.int .i64 n), .s (.int .i64 m)] (fun r => r = .s (.int .i64 (n % m))) := by
  refine pc_end c11 mixed rfl ?_
  have e1 : ¬ m < 1 := by omega
  have e2 : ¬ m = 0 := by omega
  have hb := Int.emod_nonneg n (b := m) (by omega)
  have hc := Int.emod_lt_of_pos n (b := m) (by omega)
  rcases tmod_pos (n := n) (m := m) (by omega) with ⟨h3, h4⟩ | ⟨h3, h4⟩
  · have e3 : IntKind.i64.wrap (n % m) = n % m := wrap64 (by omega)
    simp -implicitDefEqProofs [a11, F11, e1, e2, h3, h4, e3]
  · have h5 : ¬ n % m < 0 := by omega
    simp -implicitDefEqProofs [a11, F11, e1, e2, h4, h5]
theorem voters_pc (n : Int) : PC Try.prog 74 [.s (.int .i64 n)] (fun r => r = .s (.bool (decide (1 ≤ n ∧ n ≤ 9)))) := by
  refine pc_end c74 mixed rfl ?_
  by_cases h1 : n ≥ 1
  · by_cases h2 : n ≤ 9
    · have : 1 ≤ n ∧ n ≤ 9 := ⟨h1, h2⟩
      simp -implicitDefEqProofs [a74, F74, h1, h2, this]
    · have : ¬ (1 ≤ n ∧ n ≤ 9) := fun q => h2 q.2
      simp -implicitDefEqProofs [a74, F74, h1, h2, this]
  · have : ¬ (1 ≤ n ∧ n ≤ 9) := fun q => h1 q.1
    simp -implicitDefEqProofs [a74, F74, h1, this]
theorem shl1 {n : Nat} (h : n ≤ 12) : IntKind.i64.wrap (2 ^ min n IntKind.i64.bits) = ((2 ^ n : Nat) : Int) := by
  have h1 : 2 ^ n ≤ 2 ^ 12 := Nat.pow_le_pow_right (by omega) h
  have e : (2 : Int) ^ min n IntKind.i64.bits = ((2 ^ n : Nat) : Int) := by
    rw [show min n IntKind.i64.bits = n by simp [IntKind.bits]; omega]; simp
  rw [e]
  generalize 2 ^ n = p at h1
  exact wrap64 (by omega)
theorem isSet_pc (s : Int) (n : Nat) (hn : n ≤ 12) : PC Try.prog 75 [.s (.int .i64 s), .s (.int .i64 n)] (fun r => r = .s (.bool (decide (1 ≤ s ∧ s < ((2 ^ n : Nat) : Int))))) := by
  refine pc_end c75 mixed rfl ?_
  have h0 : ¬ (n : Int) < 0 := by omega
  have e := shl1 hn
  generalize ((2 ^ n : Nat) : Int) = p at e ⊢
  by_cases h1 : s ≥ 1
  · by_cases h2 : s < p
    · have : 1 ≤ s ∧ s < p := ⟨h1, h2⟩
      simp -implicitDefEqProofs [a75, F75, h0, h1, h2, e, this]
    · have : ¬ (1 ≤ s ∧ s < p) := fun q => h2 q.2
      simp -implicitDefEqProofs [a75, F75, h0, h1, h2, e, this]
  · have : ¬ (1 ≤ s ∧ s < p) := fun q => h1 q.1
    simp -implicitDefEqProofs [a75, F75, h1, this]
theorem inside_pc (a b : Int) : PC Try.prog 56 [.s (.int .i64 a), .s (.int .i64 b)] (fun r => r = .s (.bool (band a b == a))) := by
  refine pc_end c56 mixed rfl ?_
  simp -implicitDefEqProofs [a56, F56, ↓binS_and, band]
def pMeet (s t : Int) : Bool := !(band s t == 0)
def meetInv (s : Int) (l : List Int) (m : Nat) (S : St) : Prop := ∃ i, i + m = l.length ∧ (l.take i).all (pMeet s) = true ∧ S = ⟨tmL [(7, .list 1 (iv l)), (8, .s (.int .i64 l.length)), (9, .s (.int .i64 i))], [.s (.int .i64 s), .list 1 (iv l), .s (.bool false), .no], [], 0⟩
theorem meet_pc (s : Int) (l : List Int) (hl : l.length ≤ 1000000) : PC Try.prog 76 [.s (.int .i64 s), .list 1 (iv l)] (fun r => r = .s (.bool (l.all (pMeet s)))) := by
  refine pc_end c76 mixed rfl ?_
  simp -implicitDefEqProofs [a76, F76]
  refine w_rounds [7, 8, 9] [3] 0 (Nat.le_refl _) (meetInv s l) l.length ⟨by simp, 0, by simp, by simp, by simp⟩ ?_
  rintro m S ⟨i, hi, hx, rfl⟩
  by_cases hm : i < l.length
  · have h1 : (i : Int) < l.length := by omega
    have h0 : ¬ (i : Int) < 0 := by omega
    have hw := wrap64 (n := (i : Int) + 1) (by omega)
    cases he : (bits .and .i64 s l[i] == 0)
    · have hp : pMeet s l[i] = true := by simp [pMeet, band, he]
      simp -implicitDefEqProofs [h1, h0, ↓binS_and, iv_get hm, he, hw]
      exact ⟨m - 1, by omega, i + 1, by omega, by rw [all_take1 hm, hx, hp]; rfl, by simp⟩
    · have hp : pMeet s l[i] = false := by simp [pMeet, band, he]
      simp -implicitDefEqProofs [h1, h0, ↓binS_and, iv_get hm, he, all_false hm _ hp]
  · have h2 : i = l.length := by omega
    rw [List.take_of_length_le (by omega)] at hx
    simp -implicitDefEqProofs [h2, hx]
def pMin (s t : Int) : Bool := !((t != s) && (band s t == t))
def minInv (s : Int) (l : List Int) (m : Nat) (S : St) : Prop := ∃ i, i + m = l.length ∧ (l.take i).all (pMin s) = true ∧ S = ⟨tmL [(7, .list 1 (iv l)), (8, .s (.int .i64 l.length)), (9, .s (.int .i64 i))], [.s (.int .i64 s), .list 1 (iv l), .s (.bool false), .no], [], 0⟩
theorem minimal_pc (s : Int) (l : List Int) (hl : l.length ≤ 1000000) : PC Try.prog 77 [.s (.int .i64 s), .list 1 (iv l)] (fun r => r = .s (.bool (l.all (pMin s)))) := by
  refine pc_end c77 mixed rfl ?_
  simp -implicitDefEqProofs [a77, F77]
  refine w_rounds [7, 8, 9] [3] 0 (Nat.le_refl _) (minInv s l) l.length ⟨by simp, 0, by simp, by simp, by simp⟩ ?_
  rintro m S ⟨i, hi, hx, rfl⟩
  by_cases hm : i < l.length
  · have h1 : (i : Int) < l.length := by omega
    have h0 : ¬ (i : Int) < 0 := by omega
    have hw := wrap64 (n := (i : Int) + 1) (by omega)
    have hp : pMin s l[i] = !((l[i] != s) && (bits .and .i64 s l[i] == l[i])) := rfl
    cases he : (l[i] != s)
    · rw [he, Bool.false_and] at hp
      simp -implicitDefEqProofs [h1, h0, ↓binS_and, iv_get hm, he, hw]
      exact ⟨m - 1, by omega, i + 1, by omega, by rw [all_take1 hm, hx, hp]; rfl, by simp⟩
    cases he2 : (bits .and .i64 s l[i] == l[i])
    · rw [he, he2] at hp
      simp -implicitDefEqProofs [h1, h0, ↓binS_and, iv_get hm, he, he2, hw]
      exact ⟨m - 1, by omega, i + 1, by omega, by rw [all_take1 hm, hx, hp]; rfl, by simp⟩
    · rw [he, he2] at hp
      simp -implicitDefEqProofs [h1, h0, ↓binS_and, iv_get hm, he, he2, all_false hm _ hp]
  · have h2 : i = l.length := by omega
    rw [List.take_of_length_le (by omega)] at hx
    simp -implicitDefEqProofs [h2, hx]
end Go.Proofs.Ytebibhmjmaomnaa
namespace Go.Proofs.Ytebibhmjmaomnaa
open Go.RowKit Go.Proofs
def upto (k : Nat) : List Int := (List.range (k - 1)).map fun i => ((i + 1 : Nat) : Int)
@[simp] theorem upto_length (k : Nat) : (upto k).length = k - 1 := by simp [upto]
end Go.Proofs.Ytebibhmjmaomnaa
namespace Go.Proofs.Ytebibhmjmaomnaa
open Go.RowKit Go.Proofs
end Go.Proofs.Ytebibhmjmaomnaa
namespace Go.Proofs.Ytebibhmjmaomnaa
open Go.RowKit Go.Proofs
def zi (q : List Nat) : List Int := q.map fun n : Nat => (n : Int)
@[simp] theorem zi_length (q : List Nat) : (zi q).length = q.length := by simp [zi]
@[simp] theorem zi_nil : zi [] = [] := rfl
def cV (n : Int) (q : List Nat) : V := .agg [.s (.int .i64 n), .list 1 (iv (zi q))]
def rV (n : Int) (q : List Nat) (e : Int) : V := .tup [cV n q, .s (.int .i64 e)]
def res (e n : Int) (q : List Nat) : V := if e = 0 then rV n q 0 else rV 0 [] e
end Go.Proofs.Ytebibhmjmaomnaa
namespace Go.Proofs.Ytebibhmjmaomnaa
open Go.RowKit Go.Proofs
end Go.Proofs.Ytebibhmjmaomnaa
namespace Go.Proofs.Ytebibhmjmaomnaa
open Go.RowKit Go.Proofs
def ascP (k : Nat) (q : List Int) (i : Nat) : Prop := (1 ≤ q.getD i 0 ∧ q.getD i 0 < ((2 ^ k : Nat) : Int)) ∧ (0 < i → q.getD (i - 1) 0 < q.getD i 0)
structure okC (n : Int) (q : List Int) : Prop where
  n1 : 1 ≤ n ∧ n ≤ 9
  l1 : 1 ≤ q.length
  l2 : q.length ≤ 64
  asc : ∀ i, i < q.length → ascP n.toNat q i
  mm : ∀ s ∈ q, q.all (pMeet s) = true ∧ q.all (pMin s) = true
noncomputable def okB (n : Int) (q : List Int) : Bool := @decide (okC n q) (Classical.propDecidable _)
theorem okB_t {n : Int} {q : List Int} (h : okC n q) : okB n q = true := by unfold okB; exact @decide_eq_true _ (Classical.propDecidable _) h
theorem okB_f {n : Int} {q : List Int} (h : ¬ okC n q) : okB n q = false := by unfold okB; exact @decide_eq_false _ (Classical.propDecidable _) h
theorem okB_iff {n : Int} {q : List Int} : okB n q = true ↔ okC n q := by
  by_cases h : okC n q
  · simp [okB_t h, h]
  · simp [okB_f h, h]
def cP (n : Int) (q : List Int) : V := .agg [.s (.int .i64 n), .list 1 (iv q)]
theorem getD_of {q : List Int} {i : Nat} (h : i < q.length) : q.getD i 0 = q[i] := by simp [List.getD_eq_getElem?_getD, h]
theorem mem_take1 {α : Type} {l : List α} {i : Nat} (h : i < l.length) (x : α) : x ∈ l.take (i + 1) ↔ x ∈ l.take i ∨ x = l[i] := by
  rw [List.take_add_one, List.getElem?_eq_getElem h, List.mem_append]; simp
def va1 (k : Nat) (q : List Int) (m : Nat) (S : St) : Prop := ∃ i : Nat, i + m = q.length ∧ (∀ j, j < i → ascP k q j) ∧ S = ⟨tmL [(1, .ptr 0 0), (24, .list 1 (iv q)), (25, .s (.int .i64 q.length)), (26, .s (.int .i64 i))], [.agg [.s (.int .i64 k), .list 1 (iv q)], .s (.bool false), .no, .no, .no], [[.s (.int .i64 k), .list 1 (iv q)]], 0⟩
def va2 (k : Nat) (q : List Int) (m : Nat) (S : St) : Prop := ∃ i : Nat, i + m = q.length ∧ (∀ s ∈ q.take i, q.all (pMeet s) = true ∧ q.all (pMin s) = true) ∧ S = ⟨tmL [(1, .ptr 0 0), (52, .list 1 (iv q)), (53, .s (.int .i64 q.length)), (54, .s (.int .i64 i))], [.agg [.s (.int .i64 k), .list 1 (iv q)], .s (.bool false), .no, .no, .no], [[.s (.int .i64 k), .list 1 (iv q)]], 0⟩
set_option maxHeartbeats 8000000 in
theorem Valid_pc (n : Int) (q : List Int) (hq : q.length ≤ 1000000) : PC Try.prog 63 [cP n q] (fun r => r = .s (.bool (okB n q))) := by
  refine pc_end c63 mixed rfl ?_
  simp -implicitDefEqProofs [a63, F63, cP]
  refine wk_take ?_
  simp -implicitDefEqProofs
  refine wc_of (voters_pc n) (by simp) (by simp) ?_
  rintro _ rfl
  by_cases h1 : 1 ≤ n ∧ n ≤ 9
  case neg =>
    have e := okB_f (n := n) (q := q) fun h => h1 h.n1
    simp -implicitDefEqProofs [h1, e]
  obtain ⟨k, rfl⟩ : ∃ k : Nat, n = k := ⟨n.toNat, by omega⟩
  have hk : k ≤ 9 := by omega
  by_cases h2 : (q.length : Int) < 1
  · have e := okB_f (n := k) (q := q) fun h => by have := h.l1; omega
    simp -implicitDefEqProofs [h1, h2, e]
  by_cases h3 : (64 : Int) < (q.length : Int)
  · have e := okB_f (n := k) (q := q) fun h => by have := h.l2; omega
    simp -implicitDefEqProofs [h1, h2, h3, e]
  simp -implicitDefEqProofs [h1, h2, h3]
  refine w_rounds [1, 24, 25, 26] [2, 3, 4] 1 (by decide) (va1 k q) q.length ⟨by simp, 0, by simp, by simp, by simp⟩ ?_
  rintro m S ⟨i, hi, hx, rfl⟩
  by_cases hm : i < q.length
  · have g1 : (i : Int) < q.length := by omega
    have g0 : ¬ (i : Int) < 0 := by omega
    have hw := wrap64 (n := (i : Int) + 1) (by omega)
    have bad : ¬ ascP k q i → okB k q = false := fun hb => okB_f fun h => hb (h.asc i hm)
    have hgi := getD_of hm
    simp -implicitDefEqProofs [g1, g0, iv_get hm]
    refine wk_take ?_
    simp -implicitDefEqProofs
    refine wc_of (isSet_pc q[i] k (by omega)) (by simp) (by simp) ?_
    rintro _ rfl
    by_cases h4 : 1 ≤ q[i] ∧ q[i] < ((2 ^ k : Nat) : Int)
    case neg =>
      have e := bad fun h => h4 (by rw [← hgi]; exact h.1)
      rw [decide_eq_false h4]
      simp -implicitDefEqProofs [e]
    rw [decide_eq_true h4]
    rcases Nat.eq_zero_or_pos i with hz | hz
    · have hz' : ¬ 0 < i := by omega
      simp -implicitDefEqProofs [hz', hw]
      refine ⟨m - 1, by omega, i + 1, by omega, fun j hj => ?_, by simp⟩
      rcases Nat.lt_succ_iff_lt_or_eq.1 hj with h | rfl
      · exact hx j h
      · exact ⟨by rw [hgi]; exact h4, fun h => by omega⟩
    · have hp : i - 1 < q.length := by omega
      have w2 : IntKind.i64.wrap ((i : Int) - 1) = ((i - 1 : Nat) : Int) := by rw [wrap64 (by omega)]; omega
      have g2 : ¬ ((i - 1 : Nat) : Int) < 0 := by omega
      have hgp := getD_of hp
      by_cases h5 : q[i] ≤ q[i - 1]
      · have e := bad fun h => by have := h.2 hz; rw [hgi, hgp] at this; omega
        simp -implicitDefEqProofs [hz, w2, g2, iv_get hp, h5, e]
      · simp -implicitDefEqProofs [hz, w2, g2, iv_get hp, h5, hw]
        refine ⟨m - 1, by omega, i + 1, by omega, fun j hj => ?_, by simp⟩
        rcases Nat.lt_succ_iff_lt_or_eq.1 hj with h | rfl
        · exact hx j h
        · exact ⟨by rw [hgi]; exact h4, fun _ => by rw [hgi, hgp]; omega⟩
  have h6 : i = q.length := by omega
  subst h6
  simp -implicitDefEqProofs
  refine w_rounds [1, 52, 53, 54] [2, 3, 4] 1 (by decide) (va2 k q) q.length ⟨by simp, 0, by simp, by simp, by simp⟩ ?_
  rintro m S ⟨i, hi, hy, rfl⟩
  by_cases hm : i < q.length
  · have g1 : (i : Int) < q.length := by omega
    have g0 : ¬ (i : Int) < 0 := by omega
    have hw := wrap64 (n := (i : Int) + 1) (by omega)
    have bad : ¬ (q.all (pMeet q[i]) = true ∧ q.all (pMin q[i]) = true) → okB k q = false := fun hb => okB_f fun h => hb (h.mm _ (List.getElem_mem hm))
    simp -implicitDefEqProofs [g1, g0, iv_get hm]
    refine wk_take ?_
    simp -implicitDefEqProofs
    refine wc_of (meet_pc q[i] q hq) (by simp) (by simp) ?_
    rintro _ rfl
    cases h7 : q.all (pMeet q[i])
    · have e := bad fun h => by rw [h7] at h; cases h.1
      simp -implicitDefEqProofs [e]
    simp -implicitDefEqProofs
    refine wk_take ?_
    simp -implicitDefEqProofs
    refine wc_of (minimal_pc q[i] q hq) (by simp) (by simp) ?_
    rintro _ rfl
    cases h8 : q.all (pMin q[i])
    · have e := bad fun h => by rw [h8] at h; cases h.2
      simp -implicitDefEqProofs [e]
    · simp -implicitDefEqProofs [hw]
      refine ⟨m - 1, by omega, i + 1, by omega, fun s hs => ?_, by simp⟩
      rw [mem_take1 hm] at hs
      rcases hs with h | rfl
      · exact hy s h
      · exact ⟨h7, h8⟩
  have h6 : i = q.length := by omega
  rw [List.take_of_length_le (by omega)] at hy
  have e := okB_t (n := k) (q := q) ⟨h1, by omega, by omega, fun i hi => hx i (by omega), hy⟩
  simp -implicitDefEqProofs [h6, e]
end Go.Proofs.Ytebibhmjmaomnaa
namespace Go.Proofs.Ytebibhmjmaomnaa
open Go.RowKit Go.Proofs
theorem band_comm (a b : Int) : band a b = band b a := i64_and_comm a b
def prP (p q : Int) : Bool := !(band p q == 0) && !(band p q == p) && !(band q p == q)
structure rowP (k : Nat) (q : List Int) (i : Nat) : Prop where
  asc : ascP k q i
  pr : (q.take i).all (fun p => prP p (q.getD i 0)) = true
theorem asc_lt {k : Nat} {q : List Int} (h : ∀ i, i < q.length → ascP k q i) : ∀ {i j : Nat}, i < j → j < q.length → q.getD i 0 < q.getD j 0 := by
  intro i j hij
  induction j with
  | zero => omega
  | succ j ih =>
    intro hj
    have h1 := (h (j + 1) hj).2 (by omega)
    rw [Nat.add_sub_cancel] at h1
    rcases Nat.lt_succ_iff_lt_or_eq.1 hij with h2 | rfl
    · have := ih h2 (by omega); omega
    · exact h1
theorem band_self {k : Nat} {s : Int} (hk : k ≤ 9) (h : 1 ≤ s ∧ s < ((2 ^ k : Nat) : Int)) : band s s = s := by
  have h2 : 2 ^ k ≤ 2 ^ 9 := Nat.pow_le_pow_right (by omega) hk
  generalize 2 ^ k = K at *
  obtain ⟨a, rfl⟩ : ∃ a : Nat, s = a := ⟨s.toNat, by omega⟩
  unfold band
  rw [i64_and_nat a a (by omega) (by omega), Nat.and_self]
theorem row_iff {k : Nat} {q : List Int} (hk : k ≤ 9) (h : ∀ i, i < q.length → ascP k q i) : (∀ i, i < q.length → rowP k q i) ↔ ∀ s ∈ q, q.all (pMeet s) = true ∧ q.all (pMin s) = true := by
  have hget : ∀ {i : Nat} (hi : i < q.length), q.getD i 0 = q[i] := fun hi => getD_of hi
  constructor
  · intro hr s hs
    obtain ⟨i, hi, rfl⟩ := List.getElem_of_mem hs
    have key : ∀ j (hj : j < q.length), pMeet q[i] q[j] = true ∧ pMin q[i] q[j] = true := by
      intro j hj
      have hpair : ∀ a b (ha : a < q.length) (hb : b < q.length), a < b → band q[a] q[b] ≠ 0 ∧ band q[a] q[b] ≠ q[a] ∧ band q[a] q[b] ≠ q[b] := by
        intro a b ha hb hab
        have := (hr b hb).pr
        rw [List.all_eq_true] at this
        have h2 := this q[a] (List.mem_take_iff_getElem.2 ⟨a, by omega, rfl⟩)
        rw [hget hb] at h2
        simp only [prP, Bool.and_eq_true, Bool.not_eq_true', beq_eq_false_iff_ne] at h2
        rw [band_comm q[b] q[a]] at h2
        exact ⟨h2.1.1, h2.1.2, h2.2⟩
      rcases Nat.lt_trichotomy i j with hij | rfl | hij
      · obtain ⟨a1, a2, a3⟩ := hpair i j hi hj hij
        exact ⟨by simp [pMeet, a1], by simp [pMin, a3]⟩
      · have hs := band_self hk (by have := (h i hi).1; rw [hget hi] at this; exact this)
        have h1 := (h i hi).1
        rw [hget hi] at h1
        exact ⟨by simp [pMeet, hs]; omega, by simp [pMin]⟩
      · obtain ⟨a1, a2, a3⟩ := hpair j i hj hi hij
        rw [band_comm] at a1 a2
        exact ⟨by simp [pMeet, a1], by simp [pMin, a2]⟩
    constructor <;> rw [List.all_eq_true] <;> intro t ht <;> obtain ⟨j, hj, rfl⟩ := List.getElem_of_mem ht
    · exact (key j hj).1
    · exact (key j hj).2
  · intro hm i hi
    refine ⟨h i hi, ?_⟩
    rw [List.all_eq_true]
    intro p hp
    obtain ⟨j, hj, rfl⟩ := List.mem_take_iff_getElem.1 hp
    have hjl : j < q.length := by omega
    have hne : q[j] ≠ q[i] := by
      have := asc_lt h (show j < i by omega) hi
      rw [hget hjl, hget hi] at this
      omega
    have m1 := hm q[i] (List.getElem_mem hi)
    have m2 := hm q[j] (List.getElem_mem hjl)
    simp only [List.all_eq_true] at m1 m2
    have a1 := m2.1 q[i] (List.getElem_mem hi)
    have a2 := m1.2 q[j] (List.getElem_mem hjl)
    have a3 := m2.2 q[i] (List.getElem_mem hi)
    rw [hget hi]
    simp only [pMeet, Bool.not_eq_true', beq_eq_false_iff_ne] at a1
    have a2' : band q[i] q[j] ≠ q[j] := by
      intro e
      simp [pMin, hne, e] at a2
    have a3' : band q[j] q[i] ≠ q[i] := by
      intro e
      simp [pMin, Ne.symm hne, e] at a3
    rw [band_comm] at a2'
    have a3'' := a3'
    rw [band_comm] at a3''
    simp [prP, a1, a2', a3'']
def rv1 (k : Nat) (q : List Int) (m : Nat) (S : St) : Prop := ∃ i : Nat, i + m = q.length ∧ (∀ j, j < i → rowP k q j) ∧ S = ⟨tmL [(1, .ptr 0 0), (8, .list 1 (iv q)), (9, .s (.int .i64 q.length)), (10, .s (.int .i64 i))], [.agg [.s (.int .i64 k), .list 1 (iv q)], .s (.bool false), .no, .no, .no], [[.s (.int .i64 k), .list 1 (iv q)]], 0⟩
def rv2 (k : Nat) (q : List Int) (i : Nat) (m : Nat) (S : St) : Prop := ∃ j : Nat, j + m = i ∧ (q.take j).all (fun p => prP p (q.getD i 0)) = true ∧ S = ⟨tmL [(1, .ptr 0 0), (8, .list 1 (iv q)), (9, .s (.int .i64 q.length)), (10, .s (.int .i64 i)), (41, .list 1 (iv (q.take i))), (42, .s (.int .i64 i)), (43, .s (.int .i64 j))], [.agg [.s (.int .i64 k), .list 1 (iv q)], .s (.bool false), .s (.int .i64 i), .s (.int .i64 (q.getD i 0)), .no], [[.s (.int .i64 k), .list 1 (iv q)]], 0⟩
theorem iv_take (q : List Int) (i : Nat) : (iv q).take i = iv (q.take i) := by simp [iv, List.map_take]
noncomputable def rowB (k : Nat) (q : List Int) : Bool := @decide (∀ i, i < q.length → rowP k q i) (Classical.propDecidable _)
theorem rowB_t {k : Nat} {q : List Int} (h : ∀ i, i < q.length → rowP k q i) : rowB k q = true := by unfold rowB; exact @decide_eq_true _ (Classical.propDecidable _) h
theorem rowB_f {k : Nat} {q : List Int} (h : ¬ ∀ i, i < q.length → rowP k q i) : rowB k q = false := by unfold rowB; exact @decide_eq_false _ (Classical.propDecidable _) h
set_option maxHeartbeats 8000000 in
theorem rows_pc (k : Nat) (hk : k ≤ 9) (q : List Int) (hq : q.length ≤ 1000000) : PC Try.prog 65 [cP k q] (fun r => r = .s (.bool (rowB k q))) := by
  refine pc_end c65 mixed rfl ?_
  have es := shl1 (n := k) (by omega)
  obtain ⟨K, hK⟩ : ∃ K : Nat, K = 2 ^ k := ⟨_, rfl⟩
  rw [← hK] at es
  have k0 : ¬ (k : Int) < 0 := by omega
  simp -implicitDefEqProofs [a65, F65, cP]
  refine w_rounds [1, 8, 9, 10] [2, 3, 4] 1 (by decide) (rv1 k q) q.length ⟨by simp, 0, by simp, by simp, by simp⟩ ?_
  rintro m S ⟨i, hi, hx, rfl⟩
  by_cases hm : i < q.length
  case neg =>
    have h6 : i = q.length := by omega
    have e := rowB_t fun j hj => hx j (by omega)
    simp -implicitDefEqProofs [h6, e]
  have g1 : (i : Int) < q.length := by omega
  have g0 : ¬ (i : Int) < 0 := by omega
  have hw := wrap64 (n := (i : Int) + 1) (by omega)
  have bad : ¬ ascP k q i → rowB k q = false := fun hb => rowB_f fun h => hb (h i hm).asc
  have bad2 : ¬ rowP k q i → rowB k q = false := fun hb => rowB_f fun h => hb (h i hm)
  have hgi := getD_of hm
  have hgd : q[i]?.getD 0 = q[i] := by simp [hm]
  have hile : i ≤ q.length := by omega
  have hmin : min i q.length = i := by omega
  by_cases c1 : q[i] < 1
  · have e := bad fun h => by have := h.1.1; omega
    simp -implicitDefEqProofs [g1, g0, iv_get hm, c1, e]
  by_cases c2 : (K : Int) ≤ q[i]
  · have e := bad fun h => by have := h.1.2; rw [← hK] at this; omega
    simp -implicitDefEqProofs [g1, g0, iv_get hm, c1, k0, es, c2, e]
  rcases Nat.eq_zero_or_pos i with hz | hz
  · have hz' : ¬ 0 < i := by omega
    have hasc : ascP k q i := ⟨by rw [hgi, ← hK]; omega, fun h => by omega⟩
    simp -implicitDefEqProofs [g1, g0, iv_get hm, c1, k0, es, c2, hz', hile, iv_take, hmin]
    refine w_rounds [1, 8, 9, 10, 41, 42, 43] [4] 1 (by decide) (rv2 k q i) i ⟨by simp, 0, by simp, by simp, by simp [iv_take, hgd]⟩ ?_
    rintro m' S ⟨j, hj, hpr, rfl⟩
    by_cases hj2 : j < i
    case neg =>
      have h6 : j = i := by omega
      subst h6
      simp -implicitDefEqProofs [hw]
      refine ⟨m - 1, by omega, j + 1, by omega, fun j' hj' => ?_, by simp⟩
      rcases Nat.lt_succ_iff_lt_or_eq.1 hj' with h | rfl
      · exact hx _ h
      · exact ⟨hasc, hpr⟩
    have j1 : (j : Int) < (i : Int) := by omega
    have j0 : ¬ (j : Int) < 0 := by omega
    have hjt : j < (q.take i).length := by simp; omega
    have hjq : j < q.length := by omega
    have hgt : (q.take i)[j]'hjt = q[j] := by simp
    have hgj : (iv (q.take i))[j]? = some (.s (.int .i64 q[j])) := by rw [iv_get hjt, hgt]
    have hwj := wrap64 (n := (j : Int) + 1) (by omega)
    have hpr1 : prP q[j] q[i] = (!(bits .and .i64 q[j] q[i] == 0) && !(band q[j] q[i] == q[j]) && !(band q[i] q[j] == q[i])) := rfl
    have stop : prP q[j] q[i] = false → rowB k q = false := fun hb => bad2 fun h => by
      have := h.pr
      rw [List.all_eq_true] at this
      have := this q[j] (List.mem_take_iff_getElem.2 ⟨j, by omega, rfl⟩)
      rw [hgi, hb] at this
      cases this
    cases d1 : (bits .and .i64 q[j] q[i] == 0)
    case true =>
      have e := stop (by rw [hpr1, d1]; rfl)
      simp -implicitDefEqProofs [j1, j0, hgj, hgd, ↓binS_and, d1, e]
    simp -implicitDefEqProofs [j1, j0, hgj, hgd, ↓binS_and, d1]
    refine wk_take ?_
    simp -implicitDefEqProofs
    refine wc_of (inside_pc q[j] q[i]) (by simp) (by simp) ?_
    rintro _ rfl
    cases d2 : (band q[j] q[i] == q[j])
    case true =>
      have e := stop (by rw [hpr1, d1, d2]; rfl)
      simp -implicitDefEqProofs [e]
    simp -implicitDefEqProofs
    refine wk_take ?_
    simp -implicitDefEqProofs
    refine wc_of (inside_pc q[i] q[j]) (by simp) (by simp) ?_
    rintro _ rfl
    cases d3 : (band q[i] q[j] == q[i])
    case true =>
      have e := stop (by rw [hpr1, d1, d2, d3]; rfl)
      simp -implicitDefEqProofs [e]
    simp -implicitDefEqProofs [hwj]
    refine ⟨m' - 1, by omega, j + 1, by omega, ?_, by simp [hgd]⟩
    have hpt : prP q[j] (q.getD i 0) = true := by rw [hgi, hpr1, d1, d2, d3]; rfl
    rw [all_take1 hjq, hpr, hpt]; rfl
  · have hp : i - 1 < q.length := by omega
    have w2 : IntKind.i64.wrap ((i : Int) - 1) = ((i - 1 : Nat) : Int) := by rw [wrap64 (by omega)]; omega
    have g2 : ¬ ((i - 1 : Nat) : Int) < 0 := by omega
    have hgp := getD_of hp
    by_cases h5 : q[i] ≤ q[i - 1]
    · have e := bad fun h => by have := h.2 hz; rw [hgi, hgp] at this; omega
      simp -implicitDefEqProofs [g1, g0, iv_get hm, c1, k0, es, c2, hz, w2, g2, iv_get hp, h5, e]
    have hasc : ascP k q i := ⟨by rw [hgi, ← hK]; omega, fun h => by rw [hgi, hgp]; omega⟩
    simp -implicitDefEqProofs [g1, g0, iv_get hm, c1, k0, es, c2, hz, w2, g2, iv_get hp, h5, hile, iv_take, hmin]
    refine w_rounds [1, 8, 9, 10, 41, 42, 43] [4] 1 (by decide) (rv2 k q i) i ⟨by simp, 0, by simp, by simp, by simp [iv_take, hgd]⟩ ?_
    rintro m' S ⟨j, hj, hpr, rfl⟩
    by_cases hj2 : j < i
    case neg =>
      have h6 : j = i := by omega
      subst h6
      simp -implicitDefEqProofs [hw]
      refine ⟨m - 1, by omega, j + 1, by omega, fun j' hj' => ?_, by simp⟩
      rcases Nat.lt_succ_iff_lt_or_eq.1 hj' with h | rfl
      · exact hx _ h
      · exact ⟨hasc, hpr⟩
    have j1 : (j : Int) < (i : Int) := by omega
    have j0 : ¬ (j : Int) < 0 := by omega
    have hjt : j < (q.take i).length := by simp; omega
    have hjq : j < q.length := by omega
    have hgt : (q.take i)[j]'hjt = q[j] := by simp
    have hgj : (iv (q.take i))[j]? = some (.s (.int .i64 q[j])) := by rw [iv_get hjt, hgt]
    have hwj := wrap64 (n := (j : Int) + 1) (by omega)
    have hpr1 : prP q[j] q[i] = (!(bits .and .i64 q[j] q[i] == 0) && !(band q[j] q[i] == q[j]) && !(band q[i] q[j] == q[i])) := rfl
    have stop : prP q[j] q[i] = false → rowB k q = false := fun hb => bad2 fun h => by
      have := h.pr
      rw [List.all_eq_true] at this
      have := this q[j] (List.mem_take_iff_getElem.2 ⟨j, by omega, rfl⟩)
      rw [hgi, hb] at this
      cases this
    cases d1 : (bits .and .i64 q[j] q[i] == 0)
    case true =>
      have e := stop (by rw [hpr1, d1]; rfl)
      simp -implicitDefEqProofs [j1, j0, hgj, hgd, ↓binS_and, d1, e]
    simp -implicitDefEqProofs [j1, j0, hgj, hgd, ↓binS_and, d1]
    refine wk_take ?_
    simp -implicitDefEqProofs
    refine wc_of (inside_pc q[j] q[i]) (by simp) (by simp) ?_
    rintro _ rfl
    cases d2 : (band q[j] q[i] == q[j])
    case true =>
      have e := stop (by rw [hpr1, d1, d2]; rfl)
      simp -implicitDefEqProofs [e]
    simp -implicitDefEqProofs
    refine wk_take ?_
    simp -implicitDefEqProofs
    refine wc_of (inside_pc q[i] q[j]) (by simp) (by simp) ?_
    rintro _ rfl
    cases d3 : (band q[i] q[j] == q[i])
    case true =>
      have e := stop (by rw [hpr1, d1, d2, d3]; rfl)
      simp -implicitDefEqProofs [e]
    simp -implicitDefEqProofs [hwj]
    refine ⟨m' - 1, by omega, j + 1, by omega, ?_, by simp [hgd]⟩
    have hpt : prP q[j] (q.getD i 0) = true := by rw [hgi, hpr1, d1, d2, d3]; rfl
    rw [all_take1 hjq, hpr, hpt]; rfl
theorem okB_rows {k : Nat} {q : List Int} (hk : 1 ≤ k ∧ k ≤ 9) (h1 : 1 ≤ q.length) (h2 : q.length ≤ 64) : okB k q = rowB k q := by
  by_cases h : ∀ i, i < q.length → rowP k q i
  · rw [rowB_t h]
    exact okB_t ⟨by omega, h1, h2, fun i hi => (h i hi).asc, (row_iff hk.2 fun i hi => (h i hi).asc).1 h⟩
  · rw [rowB_f h]
    exact okB_f fun o => h ((row_iff hk.2 o.asc).2 o.mm)
set_option maxHeartbeats 8000000 in
theorem rValid_pc (n : Int) (q : List Int) (hq : q.length ≤ 1000000) : PC Try.prog 55 [cP n q] (fun r => r = .s (.bool (okB n q))) := by
  refine pc_end c55 mixed rfl ?_
  by_cases h1 : 1 ≤ n
  case neg =>
    have e := okB_f (n := n) (q := q) fun h => h1 h.n1.1
    simp -implicitDefEqProofs [a55, F55, cP, h1, e]
  by_cases h2 : n ≤ 9
  case neg =>
    have e := okB_f (n := n) (q := q) fun h => h2 h.n1.2
    simp -implicitDefEqProofs [a55, F55, cP, h1, h2, e]
  by_cases h3 : (1 : Int) ≤ (q.length : Int)
  case neg =>
    have e := okB_f (n := n) (q := q) fun h => by have := h.l1; omega
    simp -implicitDefEqProofs [a55, F55, cP, h1, h2, h3, e]
  by_cases h4 : (q.length : Int) ≤ 64
  case neg =>
    have e := okB_f (n := n) (q := q) fun h => by have := h.l2; omega
    simp -implicitDefEqProofs [a55, F55, cP, h1, h2, h3, h4, e]
  obtain ⟨k, rfl⟩ : ∃ k : Nat, n = k := ⟨n.toNat, by omega⟩
  simp -implicitDefEqProofs [a55, F55, cP, h1, h2, h3, h4]
  refine wk_take ?_
  simp -implicitDefEqProofs
  refine wc_of (rows_pc k (by omega) q hq) (by simp [cP]) (by simp [cP]) ?_
  rintro _ rfl
  simp -implicitDefEqProofs [okB_rows (k := k) (q := q) (by omega) (by omega) (by omega)]
end Go.Proofs.Ytebibhmjmaomnaa
namespace Go.Proofs.Ytebibhmjmaomnaa
open Go.RowKit Go.Proofs
theorem band_nat {a b : Nat} (ha : a < 512) (hb : b < 512) : band (a : Int) (b : Int) = ((a &&& b : Nat) : Int) := i64_and_nat a b (by omega) (by omega)
theorem pMeet_nat {a b : Nat} (ha : a < 512) (hb : b < 512) : pMeet (a : Int) (b : Int) = decide (a &&& b ≠ 0) := by
  unfold pMeet
  rw [band_nat ha hb]
  by_cases h : a &&& b = 0
  · simp [h]
  · have : ((a &&& b : Nat) : Int) ≠ 0 := by omega
    simp [h]
theorem pMin_nat {s t : Nat} (hs : s < 512) (ht : t < 512) : pMin (s : Int) (t : Int) = decide (Sub t s → t = s) := by
  unfold pMin
  rw [band_nat hs ht]
  have e : Sub t s ↔ ((s &&& t : Nat) : Int) = (t : Int) := by
    unfold Sub
    rw [Nat.and_comm]
    omega
  rw [Bool.eq_iff_iff]
  simp only [Bool.not_eq_true', Bool.and_eq_false_iff, bne_eq_false_iff_eq, beq_eq_false_iff_ne, decide_eq_true_eq]
  rw [e]
  constructor
  · rintro (h | h) hh
    · omega
    · exact absurd hh h
  · intro h
    by_cases he : ((s &&& t : Nat) : Int) = (t : Int)
    · have := h he; left; omega
    · exact .inr he
theorem zi_all {Q : List Nat} {p : Int → Bool} {q : Nat → Bool} (h : ∀ s ∈ Q, p (s : Int) = q s) : (zi Q).all p = Q.all q := by
  induction Q with
  | nil => rfl
  | cons x l ih =>
    have h1 := h x (by simp)
    have h2 := ih fun s hs => h s (by simp [hs])
    simp only [zi, List.map_cons, List.all_cons] at h2 ⊢
    rw [h1, h2]
theorem meets_zi {s : Nat} {Q : List Nat} (hs : s < 512) (hQ : ∀ t ∈ Q, t < 512) : (zi Q).all (pMeet s) = meets s Q := zi_all fun t ht => pMeet_nat hs (hQ t ht)
theorem minim_zi {s : Nat} {Q : List Nat} (hs : s < 512) (hQ : ∀ t ∈ Q, t < 512) : (zi Q).all (pMin s) = minim s Q := by
  rw [zi_all fun t ht => pMin_nat hs (hQ t ht)]
  rw [Bool.eq_iff_iff, minim_iff, List.all_eq_true]
  simp only [decide_eq_true_eq]
structure Cv (n : Int) (q : List Int) (k : Nat) (Q : List Nat) : Prop where
  n : n = k
  q : q = zi Q
  k1 : 1 ≤ k ∧ k ≤ 9
  cot : Cot k Q
  l64 : Q.length ≤ 64
theorem Cv.lt {n : Int} {q : List Int} {k : Nat} {Q : List Nat} (h : Cv n q k Q) : ∀ t ∈ Q, t < 512 := fun t ht => by
  have h1 := (h.cot.rng t ht).2
  have h2 : 2 ^ k ≤ 2 ^ 9 := Nat.pow_le_pow_right (by omega) h.k1.2
  omega
theorem okC_cv {n : Int} {q : List Int} (h : okC n q) : Cv n q n.toNat (q.map Int.toNat) := by
  have hn := h.n1
  have hrng : ∀ s ∈ q, 1 ≤ s ∧ s < ((2 ^ n.toNat : Nat) : Int) := fun s hs => by
    obtain ⟨i, hi, rfl⟩ := List.getElem_of_mem hs
    have := (h.asc i hi).1
    rwa [getD_of hi] at this
  have h9 : 2 ^ n.toNat ≤ 2 ^ 9 := Nat.pow_le_pow_right (by omega) (by omega)
  have hq : q = zi (q.map Int.toNat) := by
    unfold zi
    rw [List.map_map]
    exact (List.map_id q).symm.trans (List.map_congr_left fun s hs => by have := hrng s hs; simp; omega)
  have hmem : ∀ t ∈ q.map Int.toNat, ∃ s ∈ q, s = (t : Int) ∧ t < 512 ∧ 1 ≤ t ∧ t < 2 ^ n.toNat := fun t ht => by
    obtain ⟨s, hs, rfl⟩ := List.mem_map.1 ht
    have := hrng s hs
    exact ⟨s, hs, by omega, by omega, by omega, by omega⟩
  refine ⟨by omega, hq, by omega, ⟨fun t ht => ?_, ?_, fun s hs t ht => ?_, fun s hs t ht hst => ?_, fun e => ?_⟩, by simpa using h.l2⟩
  · obtain ⟨_, _, _, _, h1, h2⟩ := hmem t ht
    exact ⟨h1, h2⟩
  · rw [List.pairwise_map, List.pairwise_iff_getElem]
    intro i j hi hj hij
    have := asc_lt h.asc hij hj
    rw [getD_of hi, getD_of hj] at this
    have h1 := hrng q[i] (List.getElem_mem hi)
    omega
  · obtain ⟨a, ha, rfl, a1, _⟩ := hmem s hs
    obtain ⟨b, hb, rfl, b1, _⟩ := hmem t ht
    have := (h.mm _ ha).1
    rw [List.all_eq_true] at this
    have := this _ hb
    rw [pMeet_nat a1 b1] at this
    simpa using this
  · obtain ⟨a, ha, rfl, a1, _⟩ := hmem s hs
    obtain ⟨b, hb, rfl, b1, _⟩ := hmem t ht
    have := (h.mm _ hb).2
    rw [List.all_eq_true] at this
    have := this _ ha
    rw [pMin_nat b1 a1] at this
    simp only [decide_eq_true_eq] at this
    exact this hst
  · have h1 := h.l1
    have := congrArg List.length e
    simp at this
    rw [this] at h1
    simp at h1
theorem cot_ok {k : Nat} {Q : List Nat} (hk : 1 ≤ k ∧ k ≤ 9) (h : Cot k Q) (hl : Q.length ≤ 64) : okC k (zi Q) := by
  have h9 : 2 ^ k ≤ 2 ^ 9 := Nat.pow_le_pow_right (by omega) hk.2
  have hlt : ∀ t ∈ Q, t < 512 := fun t ht => by have := (h.rng t ht).2; omega
  have hget : ∀ {i : Nat} (hi : i < (zi Q).length), (zi Q).getD i 0 = ((Q[i]'(by simpa using hi) : Nat) : Int) := fun {i} hi => by rw [getD_of hi]; simp [zi]
  have hl1 : 1 ≤ Q.length := by
    rcases Nat.eq_zero_or_pos Q.length with h0 | h0
    · exact absurd (List.eq_nil_of_length_eq_zero h0) h.ne
    · exact h0
  refine ⟨by omega, by simpa using hl1, by simpa using hl, fun i hi => ⟨?_, fun hp => ?_⟩, fun s hs => ?_⟩
  · have := h.rng (Q[i]'(by simpa using hi)) (List.getElem_mem _)
    rw [hget hi]
    simp only [Int.toNat_natCast]
    omega
  · have hi' : i < Q.length := by simpa using hi
    have := List.pairwise_iff_getElem.1 h.asc (i - 1) i (by omega) hi' (by omega)
    rw [hget (i := i - 1) (by simp; omega), hget hi]
    omega
  · simp only [zi, List.mem_map] at hs
    obtain ⟨a, ha, rfl⟩ := hs
    rw [meets_zi (hlt a ha) hlt, minim_zi (hlt a ha) hlt]
    exact ⟨meets_iff.2 fun t ht => h.meet a ha t ht, minim_iff.2 fun t ht hst => h.anti t ht a ha hst⟩
end Go.Proofs.Ytebibhmjmaomnaa
namespace Go.Proofs.Ytebibhmjmaomnaa
open Go.RowKit Go.Proofs
def avail (up : Int) : List Int → Option Int
  | [] => none
  | s :: r => if band s up == s then some s else avail up r
theorem avail_take {up : Int} {l : List Int} {i : Nat} (h : i < l.length) (hn : avail up (l.take i) = none) : avail up (l.take (i + 1)) = (if band l[i] up == l[i] then some l[i] else none) ∧ ((band l[i] up == l[i]) = true → avail up l = some l[i]) := by
  induction l generalizing i with
  | nil => simp at h
  | cons x l ih =>
    cases i with
    | zero =>
      refine ⟨by simp [avail], fun hh => ?_⟩
      have : (band x up == x) = true := hh
      simp [avail, this]
    | succ i =>
      simp only [List.take_succ_cons, avail] at hn ⊢
      split at hn
      · cases hn
      · next hx =>
        rw [if_neg hx, if_neg hx]
        exact ih (by simpa using h) hn
def avR (o : Option Int) : V := .tup [.s (.int .i64 (o.getD 0)), .s (.bool o.isSome)]
noncomputable def availE (n : Int) (q : List Int) (up : Int) : Option Int := if okB n q = true then avail up q else none
def avInv (n : Int) (q : List Int) (up : Int) (t : Nat) (m : Nat) (S : St) : Prop := ∃ i : Nat, i + m = q.length ∧ avail up (q.take i) = none ∧ S = ⟨tmL [(12, .list 1 (iv q)), (13, .s (.int .i64 q.length)), (14, .s (.int .i64 i))], [.agg [.s (.int .i64 n), .list 1 (iv q)], .s (.int .i64 up), .s (.int .i64 0), .s (.bool false), .no], [], 0⟩
set_option maxHeartbeats 4000000 in
theorem Avail_pc (n : Int) (q : List Int) (up : Int) (hq : q.length ≤ 1000) : PC Try.prog 47 [cP n q, .s (.int .i64 up)] (fun r => r = avR (availE n q up)) := by
  refine pc_end c47 mixed rfl ?_
  simp -implicitDefEqProofs [a47, F47, cP]
  refine wk_take ?_
  simp -implicitDefEqProofs
  refine wc_of (Valid_pc n q (by omega)) (by simp [cP]) (by simp [cP]) ?_
  rintro _ rfl
  cases ho : okB n q
  · simp -implicitDefEqProofs [avR, availE, ho]
  have he : availE n q up = avail up q := by simp [availE, ho]
  simp -implicitDefEqProofs
  refine w_rounds [12, 13, 14] [4] 0 (by decide) (avInv n q up 0) q.length ⟨by simp, 0, by simp, by simp [avail], by simp⟩ ?_
  rintro m S ⟨i, hi, hx, rfl⟩
  by_cases hm : i < q.length
  · have h1 : (i : Int) < q.length := by omega
    have h0 : ¬ (i : Int) < 0 := by omega
    have hw := wrap64 (n := (i : Int) + 1) (by omega)
    obtain ⟨t1, t2⟩ := avail_take hm hx
    cases hb : (bits .and .i64 q[i] up == q[i])
    · have hb' : (band q[i] up == q[i]) = false := hb
      rw [hb'] at t1
      simp -implicitDefEqProofs [h1, h0, ↓binS_and, iv_get hm, hb, hw]
      exact ⟨m - 1, by omega, i + 1, by omega, by rw [t1]; rfl, by simp⟩
    · have e := t2 hb
      simp -implicitDefEqProofs [h1, h0, ↓binS_and, iv_get hm, hb, avR, he, e]
  · have h2 : i = q.length := by omega
    rw [List.take_of_length_le (by omega)] at hx
    simp -implicitDefEqProofs [h2, avR, he, hx]
set_option maxHeartbeats 4000000 in
theorem rAvail_pc (n : Int) (q : List Int) (up : Int) (hq : q.length ≤ 1000) : PC Try.prog 34 [cP n q, .s (.int .i64 up)] (fun r => r = avR (availE n q up)) := by
  refine pc_end c34 mixed rfl ?_
  simp -implicitDefEqProofs [a34, F34, cP]
  refine wk_take ?_
  simp -implicitDefEqProofs
  refine wc_of (rValid_pc n q (by omega)) (by simp [cP]) (by simp [cP]) ?_
  rintro _ rfl
  cases ho : okB n q
  · simp -implicitDefEqProofs [avR, availE, ho]
  have he : availE n q up = avail up q := by simp [availE, ho]
  simp -implicitDefEqProofs
  refine w_rounds [12, 13, 14] [4] 0 (by decide) (avInv n q up 0) q.length ⟨by simp, 0, by simp, by simp [avail], by simp⟩ ?_
  rintro m S ⟨i, hi, hx, rfl⟩
  by_cases hm : i < q.length
  · have h1 : (i : Int) < q.length := by omega
    have h0 : ¬ (i : Int) < 0 := by omega
    have hw := wrap64 (n := (i : Int) + 1) (by omega)
    obtain ⟨t1, t2⟩ := avail_take hm hx
    simp -implicitDefEqProofs [h1, h0, iv_get hm]
    refine wk_take ?_
    simp -implicitDefEqProofs
    refine wc_of (inside_pc q[i] up) (by simp) (by simp) ?_
    rintro _ rfl
    cases hb : (band q[i] up == q[i])
    · rw [hb] at t1
      simp -implicitDefEqProofs [hw]
      exact ⟨m - 1, by omega, i + 1, by omega, by rw [t1]; rfl, by simp⟩
    · have e := t2 hb
      simp -implicitDefEqProofs [avR, he, e]
  · have h2 : i = q.length := by omega
    rw [List.take_of_length_le (by omega)] at hx
    simp -implicitDefEqProofs [h2, avR, he, hx]
end Go.Proofs.Ytebibhmjmaomnaa
namespace Go.Proofs.Ytebibhmjmaomnaa
open Go.RowKit Go.Proofs
def from0 (k : Nat) : List Int := zi (List.range k)
@[simp] theorem from0_length (k : Nat) : (from0 k).length = k := by simp [from0]
end Go.Proofs.Ytebibhmjmaomnaa
namespace Go.Proofs.Ytebibhmjmaomnaa
open Go.RowKit Go.Proofs
end Go.Proofs.Ytebibhmjmaomnaa
namespace Go.Proofs.Ytebibhmjmaomnaa
open Go.RowKit Go.Proofs
end Go.Proofs.Ytebibhmjmaomnaa
namespace Go.Proofs.Ytebibhmjmaomnaa
open Go.RowKit Go.Proofs
end Go.Proofs.Ytebibhmjmaomnaa
namespace Go.Proofs.Ytebibhmjmaomnaa
open Go.RowKit Go.Proofs
def rq (e : Int) (q : List Nat) : List Nat := if e = 0 then q else []
def gl (r c i j : Nat) : List Nat := ((List.range i).flatMap fun i' => (List.range c).map (cross r c i')) ++ (List.range j).map (cross r c i)
end Go.Proofs.Ytebibhmjmaomnaa
namespace Go.Proofs.Ytebibhmjmaomnaa
open Go.RowKit Go.Proofs
def hr1 (r c : Nat) (m : Nat) (S : St) : Prop := ∃ i : Nat, i + m = r ∧ S = ⟨tmL [(4, .ptr 0 0)], [.s (.int .i64 r), .s (.int .i64 c), .s (.int .i64 0), .own true 3 1 (iv (zi (gl r c i 0))), .s (.int .i64 i), .no, .no, .no, .no], [[.s (.int .i64 0), .s (.slice none 0 0)]], 0⟩
def hr2 (r c i : Nat) (m : Nat) (S : St) : Prop := ∃ j : Nat, j + m = c ∧ S = ⟨tmL [(4, .ptr 0 0)], [.s (.int .i64 r), .s (.int .i64 c), .s (.int .i64 0), .own true 3 1 (iv (zi (gl r c i j))), .s (.int .i64 i), .s (.int .i64 j), .no, .no, .no], [[.s (.int .i64 0), .s (.slice none 0 0)]], 0⟩
end Go.Proofs.Ytebibhmjmaomnaa
namespace Go.Proofs.Ytebibhmjmaomnaa
open Go.RowKit Go.Proofs
end Go.Proofs.Ytebibhmjmaomnaa
namespace Go.Proofs.Ytebibhmjmaomnaa
open Go.RowKit Go.Proofs
end Go.Proofs.Ytebibhmjmaomnaa
namespace Go.Proofs.Ytebibhmjmaomnaa
open Go.RowKit Go.Proofs
end Go.Proofs.Ytebibhmjmaomnaa
namespace Go.Proofs.Ytebibhmjmaomnaa
open Go.RowKit Go.Proofs
structure Md (k : Nat) (Q : List Nat) : Prop where
  k1 : 1 ≤ k ∧ k ≤ 9
  cot : Cot k Q
  l64 : Q.length ≤ 64
section
variable {k : Nat} {Q : List Nat}
theorem Md.ok (h : Md k Q) : okB k (zi Q) = true := okB_t (cot_ok h.k1 h.cot h.l64)
end
theorem major_len64 : ∀ {n : Nat}, n ≤ 8 → (major n).length ≤ 64 := by
  intro n h
  have key : ∀ n : Fin 9, (majB n.val).length ≤ 64 := by decide +kernel
  have := key ⟨n, by omega⟩
  rwa [majB_eq] at this
theorem major_md {n : Nat} (h1 : 1 ≤ n) (h8 : n ≤ 8) : Md n (major n) := ⟨⟨h1, by omega⟩, major_cot h1, major_len64 h8⟩
theorem major3 : major 3 = [3, 5, 6] := by rw [← majB_eq]; decide +kernel
end Go.Proofs.Ytebibhmjmaomnaa
