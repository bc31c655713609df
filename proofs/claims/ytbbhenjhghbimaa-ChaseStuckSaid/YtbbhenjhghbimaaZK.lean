/- Texts put behind one another: K1, K2, K3, K4, K5, K6, K7, K8, K9, K10, K11, K12. -/
import Derived.Test.YtbbhenjhghbimaaZL
import Derived.Test.YtbbhenjhghbimaaZC
set_option linter.unusedVariables false
set_option linter.unusedSimpArgs false
namespace Go.Proofs.Ytbbhenjhghbimaa
open Go.RowKit Go.Proofs

theorem wrap64 {n : Int} (h : -9223372036854775808 ≤ n ∧ n < 9223372036854775808) : IntKind.i64.wrap n = n := by rw [IntKind.wrap_i64]; omega
def iv (xs : List Int) : List V := xs.map fun n => .s (.int .i64 n)
@[simp] theorem iv_length (xs : List Int) : (iv xs).length = xs.length := by simp [iv]
theorem iv_get {xs : List Int} {i : Nat} (h : i < xs.length) : (iv xs)[i]? = some (.s (.int .i64 xs[i])) := by simp [iv, h]
def lv (xs : List Bool) : List V := xs.map fun b => .s (.bool b)
@[simp] theorem lv_length (xs : List Bool) : (lv xs).length = xs.length := by simp [lv]
theorem lv_get {xs : List Bool} {i : Nat} (h : i < xs.length) : (lv xs)[i]? = some (.s (.bool xs[i])) := by simp [lv, h]
theorem mem_take1 {l : List Int} {i : Nat} (h : i < l.length) (x : Int) : x ∈ l.take (i + 1) ↔ x ∈ l.take i ∨ x = l[i] := by
  rw [List.take_add_one, List.getElem?_eq_getElem h, List.mem_append]; simp
theorem take_eq1 {α : Type} {l k : List α} {i : Nat} (h1 : i < l.length) (h2 : i < k.length) (ht : l.take i = k.take i) (h : l[i] = k[i]) : l.take (i + 1) = k.take (i + 1) := by
  rw [List.take_add_one, List.take_add_one, ht, List.getElem?_eq_getElem h1, List.getElem?_eq_getElem h2, h]
theorem tmod_pos {n m : Int} (h : 0 < m) : (n.tmod m < 0 ∧ n.tmod m + m = n % m) ∨ (¬ n.tmod m < 0 ∧ n.tmod m = n % m) := by
  rw [Int.tmod_eq_emod]
  have hb := Int.emod_nonneg n (b := m) (by omega)
  have hc := Int.emod_lt_of_pos n h
  split
  · right; omega
  · left; omega

theorem Mod_pc (n m : Int) (h1 : 1 ≤ m) (h2 : m ≤ 4611686018427387904) : PC Try.prog 13 [.s (.int .i64 n), .s (.int .i64 m)] (fun r => r = .s (.int .i64 (n % m))) := by
  refine pc_end c13 mixed rfl ?_
  have e1 : ¬ m < 1 := by omega
  have e2 : ¬ m = 0 := by omega
  have hb := Int.emod_nonneg n (b := m) (by omega)
  have hc := Int.emod_lt_of_pos n (b := m) (by omega)
  rcases tmod_pos (n := n) (m := m) (by omega) with ⟨h3, h4⟩ | ⟨h3, h4⟩
  · have e3 : IntKind.i64.wrap (n % m) = n % m := wrap64 (by omega)
    simp -implicitDefEqProofs [a13, F13, e1, e2, h3, h4, e3]
  · have h5 : ¬ n % m < 0 := by omega
    simp -implicitDefEqProofs [a13, F13, e1, e2, h4, h5]
/-- a tape in a box -/
def tapeB (xs : List Int) (k : Nat) : List V := [.list 1 (iv xs), .s (.int .i64 k)]
def nx (xs : List Int) (k : Nat) (m : Int) : Int := if h : k < xs.length then xs[k] % m else 0
def nat1 (xs : List Int) (k : Nat) : Nat := if k < xs.length then k + 1 else k
theorem nx_bd (xs : List Int) (k : Nat) {m : Int} (h : 0 < m) : 0 ≤ nx xs k m ∧ nx xs k m < m := by
  unfold nx
  split
  · exact ⟨Int.emod_nonneg _ (by omega), Int.emod_lt_of_pos _ h⟩
  · exact ⟨Int.le_refl _, h⟩
theorem nat1_le {xs : List Int} {k : Nat} (h : k ≤ xs.length) : nat1 xs k ≤ xs.length ∧ k ≤ nat1 xs k := by unfold nat1; split <;> omega
theorem Next_ac (xs : List Int) (k : Nat) (m : Int) (h1 : 1 ≤ m) (h2 : m ≤ 4611686018427387904) (hk : k ≤ 1000000) : AC Try.prog 25 [.ptr 0 0, .s (.int .i64 m)] [tapeB xs k] (fun r bs => r = .s (.int .i64 (nx xs k m)) ∧ bs = [tapeB xs (nat1 xs k)]) := by
  refine ac_end c25 mixed rfl ?_
  by_cases h : k < xs.length
  · have g1 : ¬ (k : Int) ≥ xs.length := by omega
    have w1 : IntKind.i64.wrap ((k : Int) + 1) = (k : Int) + 1 := wrap64 (by omega)
    have w2 : IntKind.i64.wrap ((k : Int) + 1 - 1) = (k : Int) := by rw [wrap64 (by omega)]; omega
    have w3 : IntKind.i64.wrap (k : Int) = (k : Int) := wrap64 (by omega)
    have k0 : ¬ (k : Int) < 0 := by omega
    simp -implicitDefEqProofs [a25, F25, tapeB, g1, w1, w2, w3, k0, iv_get h]
    refine wkd_take ?_
    simp -implicitDefEqProofs
    refine wcd_of (Mod_pc xs[k] m h1 h2) (by simp) (by simp) ?_
    simp -implicitDefEqProofs
    refine retA_of 1 ?_
    simp -implicitDefEqProofs [tapeB, nx, nat1, h]
  · have g1 : (k : Int) ≥ xs.length := by omega
    simp -implicitDefEqProofs [a25, F25, tapeB, g1]
    refine retA_of 1 ?_
    simp -implicitDefEqProofs [tapeB, nx, nat1, h]

def hasInv (l : List Int) (x : Int) (m : Nat) (S : St) : Prop := ∃ i, i + m = l.length ∧ x ∉ l.take i ∧ S = ⟨tmL [(7, .list 1 (iv l)), (8, .s (.int .i64 l.length)), (9, .s (.int .i64 i))], [.list 1 (iv l), .s (.int .i64 x), .s (.bool false), .no], [], 0⟩
theorem has_pc (l : List Int) (x : Int) (hl : l.length ≤ 1000000) : PC Try.prog 35 [.list 1 (iv l), .s (.int .i64 x)] (fun r => r = .s (.bool (decide (x ∈ l)))) := by
  refine pc_end c35 mixed rfl ?_
  simp -implicitDefEqProofs [a35, F35]
  refine w_rounds [7, 8, 9] [3] 0 (Nat.le_refl _) (hasInv l x) l.length ⟨by simp, 0, by simp, by simp, by simp⟩ ?_
  rintro m S ⟨i, hi, hx, rfl⟩
  by_cases hm : i < l.length
  · have h1 : (i : Int) < l.length := by omega
    have h0 : ¬ (i : Int) < 0 := by omega
    by_cases he : l[i] = x
    · have : x ∈ l := he ▸ List.getElem_mem hm
      simp -implicitDefEqProofs [h1, h0, iv_get hm, he, this]
    · have he' : (l[i] == x) = false := by simpa using he
      simp -implicitDefEqProofs [h1, h0, iv_get hm, he']
      exact ⟨m - 1, by omega, i + 1, by omega, by rw [mem_take1 hm]; exact fun q => q.elim hx fun q => he q.symm, by rw [wrap64 (by omega)]; rfl⟩
  · have h1 : ¬ (i : Int) < l.length := by omega
    have : x ∉ l := by rwa [List.take_of_length_le (by omega)] at hx
    have h2 : i = l.length := by omega
    simp -implicitDefEqProofs [h2, this]
def ixInv (l : List Int) (x : Int) (m : Nat) (S : St) : Prop := ∃ i, i + m = l.length ∧ x ∉ l.take i ∧ S = ⟨tmL [(6, .list 1 (iv l)), (7, .s (.int .i64 l.length)), (8, .s (.int .i64 i))], [.list 1 (iv l), .s (.int .i64 x), .s (.int .i64 0), .no], [], 0⟩
theorem Index_pc (l : List Int) (x : Int) (hl : l.length ≤ 1000000) : PC Try.prog 39 [.list 1 (iv l), .s (.int .i64 x)] (fun r => ∃ n : Int, r = .s (.int .i64 n) ∧ (0 ≤ n ↔ x ∈ l)) := by
  refine pc_end c39 mixed rfl ?_
  simp -implicitDefEqProofs [a39, F39]
  refine w_rounds [6, 7, 8] [3] 0 (Nat.le_refl _) (ixInv l x) l.length ⟨by simp, 0, by simp, by simp, by simp⟩ ?_
  rintro m S ⟨i, hi, hx, rfl⟩
  by_cases hm : i < l.length
  · have h1 : (i : Int) < l.length := by omega
    have h0 : ¬ (i : Int) < 0 := by omega
    by_cases he : x = l[i]
    · have : x ∈ l := he ▸ List.getElem_mem hm
      simp -implicitDefEqProofs [h1, h0, iv_get hm, ← he, this]
    · have he' : (x == l[i]) = false := by simpa using he
      simp -implicitDefEqProofs [h1, h0, iv_get hm, he']
      exact ⟨m - 1, by omega, i + 1, by omega, by rw [mem_take1 hm]; exact fun q => q.elim hx he, by rw [wrap64 (by omega)]; rfl⟩
  · have h1 : ¬ (i : Int) < l.length := by omega
    have : x ∉ l := by rwa [List.take_of_length_le (by omega)] at hx
    have h2 : i = l.length := by omega
    simp -implicitDefEqProofs [h2, this]
theorem Contains_pc (l : List Int) (x : Int) (hl : l.length ≤ 1000000) : PC Try.prog 34 [.list 1 (iv l), .s (.int .i64 x)] (fun r => r = .s (.bool (decide (x ∈ l)))) := by
  refine pc_end c34 mixed rfl ?_
  simp -implicitDefEqProofs [a34, F34]
  refine wk_take ?_
  simp -implicitDefEqProofs
  refine wc_of (Index_pc l x hl) (by simp) (by simp) ?_
  rintro _ ⟨n, rfl, hn⟩
  simp -implicitDefEqProofs [hn]
def siInv (xs ys : List Int) (m : Nat) (S : St) : Prop := ∃ i, i + m = xs.length ∧ xs.take i = ys.take i ∧ S = ⟨tmL [], [.list 1 (iv xs), .list 1 (iv ys), .s (.bool false), .s (.int .i64 i)], [], 0⟩
theorem SameInts_pc (xs ys : List Int) (hl : xs.length ≤ 1000000) : PC Try.prog 38 [.list 1 (iv xs), .list 1 (iv ys)] (fun r => r = .s (.bool (decide (xs = ys)))) := by
  refine pc_end c38 mixed rfl ?_
  by_cases h : xs.length = ys.length
  · simp -implicitDefEqProofs [a38, F38, h]
    refine w_rounds [] [] 0 (Nat.le_refl _) (siInv xs ys) xs.length ⟨by simp, 0, by simp, by simp, by simp⟩ ?_
    rintro m S ⟨i, hi, ht, rfl⟩
    by_cases hm : i < xs.length
    · have h1 : (i : Int) < xs.length := by omega
      have h0 : ¬ (i : Int) < 0 := by omega
      have hm' : i < ys.length := by omega
      by_cases he : xs[i] = ys[i]
      · simp -implicitDefEqProofs [h1, h0, iv_get hm, iv_get hm', he]
        exact ⟨m - 1, by omega, i + 1, by omega, take_eq1 hm hm' ht he, by rw [wrap64 (by omega)]; rfl⟩
      · have he' : (xs[i] != ys[i]) = true := by simpa using he
        have : xs ≠ ys := fun q => he (by subst q; rfl)
        simp -implicitDefEqProofs [h1, h0, iv_get hm, iv_get hm', he', this]
    · have h1 : ¬ (i : Int) < xs.length := by omega
      have : xs = ys := by rwa [List.take_of_length_le (by omega), List.take_of_length_le (by omega)] at ht
      subst this
      simp -implicitDefEqProofs [hm]
  · have h' : ((xs.length : Int) != ys.length) = true := by
      have : ¬ (xs.length : Int) = ys.length := by omega
      simpa using this
    have : xs ≠ ys := fun q => h (by rw [q])
    simp -implicitDefEqProofs [a38, F38, h', this]
def sbInv (xs ys : List Bool) (m : Nat) (S : St) : Prop := ∃ i, i + m = xs.length ∧ xs.take i = ys.take i ∧ S = ⟨tmL [], [.list 1 (lv xs), .list 1 (lv ys), .s (.bool false), .s (.int .i64 i)], [], 0⟩
theorem SameBools_pc (xs ys : List Bool) (hl : xs.length ≤ 1000000) : PC Try.prog 33 [.list 1 (lv xs), .list 1 (lv ys)] (fun r => r = .s (.bool (decide (xs = ys)))) := by
  refine pc_end c33 mixed rfl ?_
  by_cases h : xs.length = ys.length
  · simp -implicitDefEqProofs [a33, F33, h]
    refine w_rounds [] [] 0 (Nat.le_refl _) (sbInv xs ys) xs.length ⟨by simp, 0, by simp, by simp, by simp⟩ ?_
    rintro m S ⟨i, hi, ht, rfl⟩
    by_cases hm : i < xs.length
    · have h1 : (i : Int) < xs.length := by omega
      have h0 : ¬ (i : Int) < 0 := by omega
      have hm' : i < ys.length := by omega
      by_cases he : xs[i] = ys[i]
      · simp -implicitDefEqProofs [h1, h0, lv_get hm, lv_get hm', he]
        exact ⟨m - 1, by omega, i + 1, by omega, take_eq1 hm hm' ht he, by rw [wrap64 (by omega)]; rfl⟩
      · have he' : (xs[i] == ys[i]) = false := by simpa using he
        have : xs ≠ ys := fun q => he (by subst q; rfl)
        simp -implicitDefEqProofs [h1, h0, lv_get hm, lv_get hm', he', this]
    · have h1 : ¬ (i : Int) < xs.length := by omega
      have : xs = ys := by rwa [List.take_of_length_le (by omega), List.take_of_length_le (by omega)] at ht
      subst this
      simp -implicitDefEqProofs [hm]
  · have h' : ((xs.length : Int) != ys.length) = true := by
      have : ¬ (xs.length : Int) = ys.length := by omega
      simpa using this
    have : xs ≠ ys := fun q => h (by rw [q])
    simp -implicitDefEqProofs [a33, F33, h', this]
theorem Clone_pc (xs : List Int) (hl : xs.length ≤ 1000000) : PC Try.prog 37 [.list 1 (iv xs)] (fun r => r = .list 1 (iv xs)) := by
  refine pc_frz ?_
  refine pc_end c37 mixed rfl ?_
  have h1 : xs.length ≤ maxLen ∧ xs.length * 8 ≤ maxBytes := by simp [maxLen, maxBytes]; omega
  simp -implicitDefEqProofs [a37, F37, h1]
end Go.Proofs.Ytbbhenjhghbimaa

namespace Go.Proofs.Ytbbhenjhghbimaa
open Go.RowKit Go.Proofs

structure Nd where
  k : Int
  next : List Int
deriving DecidableEq
def Nd.v (n : Nd) : V := .agg [.s (.int .i64 n.k), .list 1 (iv n.next)]
def gv (g : List Nd) : List V := g.map Nd.v
@[simp] theorem gv_length (g : List Nd) : (gv g).length = g.length := by simp [gv]
theorem gv_get {g : List Nd} {i : Nat} (h : i < g.length) : (gv g)[i]? = some (.agg [.s (.int .i64 g[i].k), .list 1 (iv g[i].next)]) := by simp [gv, Nd.v, h]
/-- ascending numbers between two bounds -/
def asc (lo N : Int) : List Int → Bool
  | [] => true
  | j :: r => decide (lo < j) && decide (j < N) && asc j N r
theorem asc_len {N : Int} : ∀ {l : List Int} {lo : Int}, asc lo N l = true → lo < N → lo + l.length < N
  | [], lo, _, h => by simpa using h
  | j :: r, lo, h, hl => by
    simp only [asc, Bool.and_eq_true, decide_eq_true_eq] at h
    have := asc_len h.2 h.1.2
    simp
    omega
theorem asc_mem {N : Int} : ∀ {l : List Int} {lo : Int}, asc lo N l = true → ∀ x ∈ l, lo < x ∧ x < N
  | [], lo, _, x, hx => by simp at hx
  | j :: r, lo, h, x, hx => by
    simp only [asc, Bool.and_eq_true, decide_eq_true_eq] at h
    rcases List.mem_cons.1 hx with rfl | hx
    · exact h.1
    · have := asc_mem h.2 x hx
      omega
def Nd.ok (N : Int) (n : Nd) : Bool := decide (0 ≤ n.k ∧ n.k ≤ n.next.length ∧ (n.k = 0 → n.next.length = 0)) && asc (-1) N n.next
def gOk (g : List Nd) : Bool := decide (g.length ≤ 160) && g.all (Nd.ok g.length)
theorem natlt0 (n : Nat) : ((n : Int) < 0) = False := by simp
theorem all_drop {α : Type} {g : List α} {i : Nat} (h : i < g.length) (f : α → Bool) : (g.drop i).all f = (f g[i] && (g.drop (i + 1)).all f) := by rw [List.drop_eq_getElem_cons h]; rfl
theorem asc_drop {l : List Int} {i : Nat} (h : i < l.length) (lo N : Int) : asc lo N (l.drop i) = (decide (lo < l[i]) && decide (l[i] < N) && asc l[i] N (l.drop (i + 1))) := by rw [List.drop_eq_getElem_cons h]; rfl
/-- production -/
def vfOut (g : List Nd) (m : Nat) (S : St) : Prop := ∃ i, i + m = g.length ∧ g.all (Nd.ok g.length) = (g.drop i).all (Nd.ok g.length) ∧ S = ⟨tmL [(11, .list 2 (gv g)), (12, .s (.int .i64 g.length)), (13, .s (.int .i64 i))], [.list 2 (gv g), .s (.bool false), .no, .no], [], 0⟩
def vfIn (g : List Nd) (n : Nd) (i : Nat) (m : Nat) (S : St) : Prop := ∃ j last, j + m = n.next.length ∧ asc (-1) g.length n.next = asc last g.length (n.next.drop j) ∧ S = ⟨tmL [(4, .ptr 0 0), (11, .list 2 (gv g)), (12, .s (.int .i64 g.length)), (13, .s (.int .i64 i)), (40, .list 1 (iv n.next)), (41, .s (.int .i64 n.next.length)), (42, .s (.int .i64 j))], [.list 2 (gv g), .s (.bool false), .s (.int .i64 last), .no], [[.s (.int .i64 n.k), .list 1 (iv n.next)]], 0⟩
set_option maxHeartbeats 8000000 in
set_option maxRecDepth 10000 in
theorem wValid_pc (g : List Nd) (hn : ∀ n ∈ g, n.next.length ≤ 1000000) : PC Try.prog 26 [.list 2 (gv g)] (fun r => r = .s (.bool (gOk g))) := by
  refine pc_end c26 mixed rfl ?_
  by_cases hlen : g.length ≤ 160
  · have l1 : ¬ (g.length : Int) > 160 := by omega
    have hg : gOk g = g.all (Nd.ok g.length) := by simp [gOk, hlen]
    simp -implicitDefEqProofs [a26, F26, l1]
    refine w_rounds [11, 12, 13] [2, 3] 0 (Nat.le_refl _) (vfOut g) g.length ⟨by simp, 0, by simp, by simp, by simp⟩ ?_
    rintro m S ⟨i, hi, ha, rfl⟩
    by_cases hm : i < g.length
    · have h1 : (i : Int) < g.length := by omega
      have h0 : ¬ (i : Int) < 0 := by omega
      have hx := hn g[i] (List.getElem_mem hm)
      rw [all_drop hm] at ha
      rw [← hg] at ha
      revert ha hx
      generalize hnd : g[i] = n
      intro ha hx
      have hgv := gv_get hm
      rw [hnd] at hgv
      have no : ¬ (0 ≤ n.k ∧ n.k ≤ n.next.length ∧ (n.k = 0 → n.next.length = 0)) → gOk g = false := fun q => by rw [ha, Nd.ok, decide_eq_false q]; rfl
      by_cases k1 : n.k < 0
      · have := no (by omega)
        simp -implicitDefEqProofs [h1, h0, hgv, k1, this]
      by_cases k2 : n.k > n.next.length
      · have := no (by omega)
        simp -implicitDefEqProofs [h1, h0, hgv, k1, k2, this]
      by_cases k3 : n.k = 0 ∧ n.next.length ≠ 0
      · have := no (by omega)
        have k4 : 0 < n.next.length := by omega
        simp -implicitDefEqProofs [h1, h0, hgv, k3.1, k4, this, natlt0]
      rw [Nd.ok, decide_eq_true (show _ ∧ _ from ⟨by omega, by omega, by omega⟩), Bool.true_and] at ha
      have k4 : (n.k == 0) = true → decide (0 < n.next.length) = false := by intro q; have := eq_of_beq q; rw [decide_eq_false_iff_not]; omega
      cases hb : (n.k == 0)
      case' false => simp -implicitDefEqProofs [h1, h0, hgv, k1, k2, hb, natlt0]
      case' true => simp -implicitDefEqProofs [h1, h0, hgv, k1, k2, hb, k4 hb, natlt0]
      all_goals
        refine w_rounds [4, 11, 12, 13, 40, 41, 42] [3] 1 (Nat.zero_le _) (vfIn g n i) n.next.length ⟨by simp, 0, -1, by simp, by simp, by simp⟩ ?_
        rintro m' S ⟨j, last, hj, hb, rfl⟩
        by_cases hmj : j < n.next.length
        · have j1 : (j : Int) < n.next.length := by omega
          have j0 : ¬ (j : Int) < 0 := by omega
          rw [asc_drop hmj] at hb
          by_cases c1 : n.next[j] ≤ last
          · have : gOk g = false := by rw [ha, hb, decide_eq_false (show ¬ last < n.next[j] by omega)]; rfl
            simp -implicitDefEqProofs [j1, j0, iv_get hmj, c1, this]
          by_cases c2 : n.next[j] ≥ g.length
          · have : gOk g = false := by rw [ha, hb, decide_eq_false (show ¬ n.next[j] < g.length by omega)]; simp
            simp -implicitDefEqProofs [j1, j0, iv_get hmj, c1, c2, this]
          rw [decide_eq_true (show last < n.next[j] by omega), decide_eq_true (show n.next[j] < g.length by omega), Bool.true_and, Bool.true_and] at hb
          simp -implicitDefEqProofs [j1, j0, iv_get hmj, c1, c2]
          exact ⟨m' - 1, by omega, j + 1, n.next[j], by omega, hb, by rw [wrap64 (by omega)]; rfl⟩
        · have j1 : ¬ (j : Int) < n.next.length := by omega
          have hje : j = n.next.length := by omega
          rw [List.drop_eq_nil_of_le (by omega)] at hb
          rw [hb] at ha
          subst hje
          simp -implicitDefEqProofs
          exact ⟨m - 1, by omega, i + 1, by omega, by rw [← hg, ha]; rfl, by rw [wrap64 (by omega)]; rfl⟩
    · have h1 : ¬ (i : Int) < g.length := by omega
      have h2 : i = g.length := by omega
      have : gOk g = true := by rw [hg, ha, List.drop_eq_nil_of_le (by omega)]; rfl
      simp -implicitDefEqProofs [h2, this]
  · have l1 : (g.length : Int) > 160 := by omega
    have : gOk g = false := by simp [gOk, hlen]
    simp -implicitDefEqProofs [a26, F26, l1, this]
end Go.Proofs.Ytbbhenjhghbimaa

namespace Go.Proofs.Ytbbhenjhghbimaa
open Go.RowKit Go.Proofs

/-- the reference -/
def rfOut (g : List Nd) (m : Nat) (S : St) : Prop := ∃ i, i + m = g.length ∧ g.all (Nd.ok g.length) = (g.drop i).all (Nd.ok g.length) ∧ S = ⟨tmL [], [.list 2 (gv g), .s (.bool false), .s (.int .i64 i), .no], [], 0⟩
def rfIn (g : List Nd) (n : Nd) (i : Nat) (m : Nat) (S : St) : Prop := ∃ j last, j + m = n.next.length ∧ asc (-1) g.length n.next = asc last g.length (n.next.drop j) ∧ -1 ≤ last ∧ (j = 0 → last = -1) ∧ (0 < j → (iv n.next)[j - 1]? = some (.s (.int .i64 last))) ∧ S = ⟨tmL [], [.list 2 (gv g), .s (.bool false), .s (.int .i64 i), .s (.int .i64 j)], [], 0⟩
set_option maxHeartbeats 8000000 in
set_option maxRecDepth 10000 in
theorem rgValid_pc (g : List Nd) (hn : ∀ n ∈ g, n.next.length ≤ 1000000) : PC Try.prog 29 [.list 2 (gv g)] (fun r => r = .s (.bool (gOk g))) := by
  refine pc_end c29 mixed rfl ?_
  by_cases hlen : g.length ≤ 160
  · have l1 : ¬ (g.length : Int) > 160 := by omega
    have hg : gOk g = g.all (Nd.ok g.length) := by simp [gOk, hlen]
    simp -implicitDefEqProofs [a29, F29, l1]
    refine w_rounds [] [3] 0 (Nat.le_refl _) (rfOut g) g.length ⟨by simp, 0, by simp, by simp, by simp⟩ ?_
    rintro m S ⟨i, hi, ha, rfl⟩
    by_cases hm : i < g.length
    · have h1 : (i : Int) < g.length := by omega
      have h0 : ¬ (i : Int) < 0 := by omega
      have hx := hn g[i] (List.getElem_mem hm)
      rw [all_drop hm] at ha
      rw [← hg] at ha
      revert ha hx
      generalize hnd : g[i] = n
      intro ha hx
      have hgv := gv_get hm
      rw [hnd] at hgv
      have no : ¬ (0 ≤ n.k ∧ n.k ≤ n.next.length ∧ (n.k = 0 → n.next.length = 0)) → gOk g = false := fun q => by rw [ha, Nd.ok, decide_eq_false q]; rfl
      by_cases k0 : n.next.length > 160
      · have k0' : (n.next.length : Int) > 160 := by omega
        have : gOk g = false := by
          rw [ha, Nd.ok]
          cases hq : asc (-1) g.length n.next
          · simp
          · have := asc_len hq (by omega); omega
        simp -implicitDefEqProofs [h1, h0, hgv, k0', this]
      have k0' : ¬ (n.next.length : Int) > 160 := by omega
      by_cases k1 : n.k < 0
      · have := no (by omega)
        simp -implicitDefEqProofs [h1, h0, hgv, k0', k1, this]
      by_cases k2 : n.k > n.next.length
      · have := no (by omega)
        simp -implicitDefEqProofs [h1, h0, hgv, k0', k1, k2, this]
      by_cases k3 : n.k = 0 ∧ n.next.length ≠ 0
      · have := no (by omega)
        have k4 : 0 < n.next.length := by omega
        simp -implicitDefEqProofs [h1, h0, hgv, k0', k3.1, k4, this, natlt0]
      rw [Nd.ok, decide_eq_true (show _ ∧ _ from ⟨by omega, by omega, by omega⟩), Bool.true_and] at ha
      have k4 : (n.k == 0) = true → decide (0 < n.next.length) = false := by intro q; have := eq_of_beq q; rw [decide_eq_false_iff_not]; omega
      cases hb : (n.k == 0)
      case' false => simp -implicitDefEqProofs [h1, h0, hgv, k0', k1, k2, hb, natlt0]
      case' true => simp -implicitDefEqProofs [h1, h0, hgv, k0', k1, k2, hb, k4 hb, natlt0]
      all_goals
        refine w_rounds [] [] 0 (Nat.zero_le _) (rfIn g n i) n.next.length ⟨by simp, 0, -1, by simp, by simp, by simp, by simp, by simp, by simp⟩ ?_
        rintro m' S ⟨j, last, hj, hb, hl, hl0, hl1, rfl⟩
        by_cases hmj : j < n.next.length
        · have j1 : (j : Int) < n.next.length := by omega
          have j0 : ¬ (j : Int) < 0 := by omega
          rw [asc_drop hmj] at hb
          by_cases c0 : n.next[j] < 0
          · by_cases c1 : n.next[j] ≤ last
            · have : gOk g = false := by rw [ha, hb, decide_eq_false (show ¬ last < n.next[j] by omega)]; rfl
              simp -implicitDefEqProofs [h1, h0, hgv, j1, j0, iv_get hmj, c0, this]
            · omega
          by_cases c2 : n.next[j] ≥ g.length
          · have : gOk g = false := by rw [ha, hb, decide_eq_false (show ¬ n.next[j] < g.length by omega)]; simp
            simp -implicitDefEqProofs [h1, h0, hgv, j1, j0, iv_get hmj, c0, c2, this]
          have fin : last < n.next[j] → ∃ m'' < m', rfIn g n i m'' ⟨tmL [], [.list 2 (gv g), .s (.bool false), .s (.int .i64 i), .s (.int .i64 (IntKind.i64.wrap ((j : Int) + 1)))], [], 0⟩ := by
            intro c3
            rw [decide_eq_true c3, decide_eq_true (show n.next[j] < g.length by omega), Bool.true_and, Bool.true_and] at hb
            exact ⟨m' - 1, by omega, j + 1, n.next[j], by omega, hb, by omega, by omega, fun _ => by simpa using iv_get hmj, by rw [wrap64 (by omega)]; rfl⟩
          by_cases hj0 : j = 0
          · have := hl0 hj0
            have p1 : decide (0 < j) = false := by rw [decide_eq_false_iff_not]; omega
            simp -implicitDefEqProofs [h1, h0, hgv, j1, j0, iv_get hmj, c0, c2, p1]
            exact fin (by omega)
          · have p1 : 0 < j := by omega
            have p2 : IntKind.i64.wrap ((j : Int) - 1) = ((j - 1 : Nat) : Int) := by rw [wrap64 (by omega)]; omega
            have p3 : ¬ ((j - 1 : Nat) : Int) < 0 := by omega
            have p4 := hl1 (by omega)
            by_cases c3 : last ≥ n.next[j]
            · have : gOk g = false := by rw [ha, hb, decide_eq_false (show ¬ last < n.next[j] by omega)]; rfl
              simp -implicitDefEqProofs [h1, h0, hgv, j1, j0, iv_get hmj, c0, c2, p1, p2, p3, p4, c3, this]
            · simp -implicitDefEqProofs [h1, h0, hgv, j1, j0, iv_get hmj, c0, c2, p1, p2, p3, p4, c3]
              exact fin (by omega)
        · have j1 : ¬ (j : Int) < n.next.length := by omega
          have hje : j = n.next.length := by omega
          rw [List.drop_eq_nil_of_le (by omega)] at hb
          rw [hb] at ha
          subst hje
          simp -implicitDefEqProofs [h1, h0, hgv]
          exact ⟨m - 1, by omega, i + 1, by omega, by rw [← hg, ha]; rfl, by rw [wrap64 (by omega)]; rfl⟩
    · have h1 : ¬ (i : Int) < g.length := by omega
      have h2 : i = g.length := by omega
      have : gOk g = true := by rw [hg, ha, List.drop_eq_nil_of_le (by omega)]; rfl
      simp -implicitDefEqProofs [h2, this]
  · have l1 : (g.length : Int) > 160 := by omega
    have : gOk g = false := by simp [gOk, hlen]
    simp -implicitDefEqProofs [a29, F29, l1, this]
end Go.Proofs.Ytbbhenjhghbimaa

namespace Go.Proofs.Ytbbhenjhghbimaa
open Go.RowKit Go.Proofs

theorem Nd.ext' {a b : Nd} (h1 : a.k = b.k) (h2 : a.next = b.next) : a = b := by cases a; cases b; simp_all
def sgInv (xs ys : List Nd) (m : Nat) (S : St) : Prop := ∃ i, i + m = xs.length ∧ xs.take i = ys.take i ∧ S = ⟨tmL [], [.list 2 (gv xs), .list 2 (gv ys), .s (.bool false), .s (.int .i64 i)], [], 0⟩
theorem SameG_pc (xs ys : List Nd) (hl : xs.length ≤ 1000000) (hn : ∀ n ∈ xs, n.next.length ≤ 1000000) : PC Try.prog 32 [.list 2 (gv xs), .list 2 (gv ys)] (fun r => r = .s (.bool (decide (xs = ys)))) := by
  refine pc_end c32 mixed rfl ?_
  by_cases h : xs.length = ys.length
  · simp -implicitDefEqProofs [a32, F32, h]
    refine w_rounds [] [] 0 (Nat.le_refl _) (sgInv xs ys) xs.length ⟨by simp, 0, by simp, by simp, by simp⟩ ?_
    rintro m S ⟨i, hi, ht, rfl⟩
    by_cases hm : i < xs.length
    · have h1 : (i : Int) < xs.length := by omega
      have h0 : ¬ (i : Int) < 0 := by omega
      have hm' : i < ys.length := by omega
      by_cases hk : xs[i].k = ys[i].k
      · have hk' : (xs[i].k != ys[i].k) = false := by simpa using hk
        simp -implicitDefEqProofs [h1, h0, gv_get hm, gv_get hm', hk']
        refine wkd_take ?_
        simp -implicitDefEqProofs
        refine wcd_of (SameInts_pc xs[i].next ys[i].next (hn _ (List.getElem_mem hm))) (by simp) (by simp) ?_
        by_cases he : xs[i].next = ys[i].next
        · simp -implicitDefEqProofs [he]
          exact ⟨m - 1, by omega, i + 1, by omega, take_eq1 hm hm' ht (Nd.ext' hk he), by rw [wrap64 (by omega)]; rfl⟩
        · have : xs ≠ ys := fun q => he (by subst q; rfl)
          simp -implicitDefEqProofs [he, this]
      · have hk' : (xs[i].k != ys[i].k) = true := by simpa using hk
        have : xs ≠ ys := fun q => hk (by subst q; rfl)
        simp -implicitDefEqProofs [h1, h0, gv_get hm, gv_get hm', hk', this]
    · have h1 : ¬ (i : Int) < xs.length := by omega
      have : xs = ys := by rwa [List.take_of_length_le (by omega), List.take_of_length_le (by omega)] at ht
      subst this
      simp -implicitDefEqProofs [hm]
  · have h' : ((xs.length : Int) != ys.length) = true := by
      have : ¬ (xs.length : Int) = ys.length := by omega
      simpa using this
    have : xs ≠ ys := fun q => h (by rw [q])
    simp -implicitDefEqProofs [a32, F32, h', this]
theorem gv_take1 {g : List Nd} {i : Nat} (h : i < g.length) : gv (g.take i) ++ [.agg [.s (.int .i64 g[i].k), .list 1 (iv g[i].next)]] = gv (g.take (i + 1)) := by
  rw [gv, gv, List.take_add_one, List.getElem?_eq_getElem h, List.map_append]; rfl
def rcInv (g : List Nd) (m : Nat) (S : St) : Prop := ∃ i, i + m = g.length ∧ S = ⟨tmL [(6, .list 2 (gv g)), (7, .s (.int .i64 g.length)), (8, .s (.int .i64 i))], [.list 2 (gv g), .s (.slice none 0 0), .own true 42 2 (gv (g.take i))], [], 0⟩
theorem rCopy_pc (g : List Nd) (hl : g.length ≤ 1000000) (hn : ∀ n ∈ g, n.next.length ≤ 1000000) : PC Try.prog 30 [.list 2 (gv g)] (fun r => r = .own true 42 2 (gv g)) := by
  refine pc_end c30 mixed rfl ?_
  simp -implicitDefEqProofs [a30, F30]
  refine w_rounds [6, 7, 8] [] 0 (Nat.le_refl _) (rcInv g) g.length ⟨by simp, 0, by simp, by simp [gv]⟩ ?_
  rintro m S ⟨i, hi, rfl⟩
  by_cases hm : i < g.length
  · have h1 : (i : Int) < g.length := by omega
    have h0 : ¬ (i : Int) < 0 := by omega
    have hx := hn _ (List.getElem_mem hm)
    have hlen : min i g.length = i := by omega
    have b1 : i + 1 ≤ maxLen ∧ (i + 1) * 32 ≤ maxBytes := by simp [maxLen, maxBytes]; omega
    have b2 : g[i].next.length ≤ maxLen ∧ g[i].next.length * 8 ≤ maxBytes := by simp [maxLen, maxBytes]; omega
    simp -implicitDefEqProofs [h1, h0, gv_get hm, hlen, b1, b2, gv_take1 hm]
    exact ⟨m - 1, by omega, i + 1, by omega, by rw [wrap64 (by omega)]; rfl⟩
  · have h1 : ¬ (i : Int) < g.length := by omega
    have h2 : i = g.length := by omega
    simp -implicitDefEqProofs [h2]
/-- probes: from, to -/
structure Pr where
  frm : Int
  to : Int
deriving DecidableEq
def Pr.v (p : Pr) : V := .agg [.s (.int .i64 p.frm), .s (.int .i64 p.to)]
def pv (l : List Pr) : List V := l.map Pr.v
@[simp] theorem pv_length (l : List Pr) : (pv l).length = l.length := by simp [pv]
theorem pv_get {l : List Pr} {i : Nat} (h : i < l.length) : (pv l)[i]? = some (.agg [.s (.int .i64 l[i].frm), .s (.int .i64 l[i].to)]) := by simp [pv, Pr.v, h]
@[simp] theorem pv_append (a b : List Pr) : pv (a ++ b) = pv a ++ pv b := by simp [pv]
/-- the probes of a node -/
def prs (i : Int) (l : List Int) : List Pr := l.map fun j => ⟨i, j⟩
@[simp] theorem prs_length (i : Int) (l : List Int) : (prs i l).length = l.length := by simp [prs]
theorem prs_take1 {l : List Int} {j : Nat} (h : j < l.length) (i : Int) : pv (prs i (l.take j)) ++ [.agg [.s (.int .i64 i), .s (.int .i64 l[j])]] = pv (prs i (l.take (j + 1))) := by
  rw [pv, pv, prs, prs, List.take_add_one, List.getElem?_eq_getElem h, List.map_append, List.map_append]; rfl
def rpInv (g : List Nd) (i : Nat) (l : List Int) (m : Nat) (S : St) : Prop := ∃ j, j + m = l.length ∧ S = ⟨tmL [(12, .list 1 (iv l)), (13, .s (.int .i64 l.length)), (14, .s (.int .i64 j))], [.list 2 (gv g), .s (.int .i64 i), .s (.slice none 0 0), .own true 58 2 (pv (prs i (l.take j))), .no], [], 0⟩
theorem probes_pc (g : List Nd) (i : Nat) (hi : i < g.length) (hx : g[i].next.length ≤ 1000000) : PC Try.prog 31 [.list 2 (gv g), .s (.int .i64 i)] (fun r => r = .own true 58 2 (pv (prs i g[i].next))) := by
  refine pc_end c31 mixed rfl ?_
  have h1 : (i : Int) < g.length := by omega
  have h0 : ¬ (i : Int) < 0 := by omega
  simp -implicitDefEqProofs [a31, F31, h1, h0, gv_get hi]
  revert hx
  generalize g[i].next = l
  intro hx
  refine w_rounds [12, 13, 14] [4] 0 (Nat.le_refl _) (rpInv g i l) l.length ⟨by simp, 0, by simp, by simp [pv, prs]⟩ ?_
  rintro m S ⟨j, hj, rfl⟩
  by_cases hm : j < l.length
  · have h1 : (j : Int) < l.length := by omega
    have h0 : ¬ (j : Int) < 0 := by omega
    have hlen : min j l.length = j := by omega
    have b1 : j + 1 ≤ maxLen ∧ (j + 1) * 16 ≤ maxBytes := by simp [maxLen, maxBytes]; omega
    simp -implicitDefEqProofs [h1, h0, iv_get hm, hlen, b1, prs_take1 hm]
    exact ⟨m - 1, by omega, j + 1, by omega, by rw [wrap64 (by omega)]; rfl⟩
  · have h1 : ¬ (j : Int) < l.length := by omega
    have h2 : j = l.length := by omega
    simp -implicitDefEqProofs [h2]
end Go.Proofs.Ytbbhenjhghbimaa

namespace Go.Proofs.Ytbbhenjhghbimaa
open Go.RowKit Go.Proofs

def zN : V := .agg [.s (.int .i64 0), .s (.slice none 0 0)]
def fillG (g : List Nd) (i : Nat) : List V := gv (g.take i) ++ List.replicate (g.length - i) zN
theorem fillG_len {g : List Nd} {i : Nat} (h : i ≤ g.length) : (fillG g i).length = g.length := by simp [fillG]; omega
theorem fillG_set {g : List Nd} {i : Nat} (h : i < g.length) : (fillG g i).set i (.agg [.s (.int .i64 g[i].k), .list 1 (iv g[i].next)]) = fillG g (i + 1) := by
  have hl : (gv (g.take i)).length = i := by simp; omega
  unfold fillG
  rw [List.set_append_right _ _ (by omega), hl, Nat.sub_self, ← gv_take1 h, show g.length - i = (g.length - (i + 1)) + 1 from by omega, List.replicate_succ]
  simp
theorem fillG_at {g : List Nd} {i : Nat} (h : i < g.length) (h' : i < (fillG g i).length) : (fillG g i)[i] = .agg [.s (.int .i64 0), .s (.slice none 0 0)] := by
  have hl : (gv (g.take i)).length = i := by simp; omega
  simp only [fillG]
  rw [List.getElem_append_right (by omega)]
  simp [zN]
def cgInv (g : List Nd) (m : Nat) (S : St) : Prop := ∃ i, i + m = g.length ∧ S = ⟨tmL [(8, .list 2 (gv g)), (9, .s (.int .i64 g.length)), (10, .s (.int .i64 i))], [.list 2 (gv g), .s (.slice none 0 0), .own true 42 2 (fillG g i), .no], [], 0⟩
theorem copyGraph_pc (g : List Nd) (hl : g.length ≤ 1000000) (hn : ∀ n ∈ g, n.next.length ≤ 1000000) : PC Try.prog 27 [.list 2 (gv g)] (fun r => r = .list 2 (gv g)) := by
  refine pc_end c27 mixed rfl ?_
  have b1 : g.length ≤ maxLen ∧ g.length * 32 ≤ 140737488355328 := by simp [maxLen]; omega
  simp -implicitDefEqProofs [a27, F27, b1]
  refine w_rounds [8, 9, 10] [3] 0 (Nat.le_refl _) (cgInv g) g.length ⟨by simp, 0, by simp, by simp [fillG, gv, zN]⟩ ?_
  rintro m S ⟨i, hi, rfl⟩
  by_cases hm : i < g.length
  · have h1 : (i : Int) < g.length := by omega
    have h0 : ¬ (i : Int) < 0 := by omega
    have hx := hn _ (List.getElem_mem hm)
    have hlen := fillG_len (g := g) (i := i) (by omega)
    have hg : (gv g)[i]'(by simpa using hm) = .agg [.s (.int .i64 g[i].k), .list 1 (iv g[i].next)] := List.getElem_map _
    simp -implicitDefEqProofs [h1, h0, hg, hlen, hm, fillG_at hm]
    refine wkd_take ?_
    simp -implicitDefEqProofs
    refine wcd_of (Clone_pc g[i].next hx) (by simp) (by simp) ?_
    simp -implicitDefEqProofs [h1, h0, hlen, hm, fillG_at hm, fillG_set hm]
    exact ⟨m - 1, by omega, i + 1, by omega, by rw [wrap64 (by omega)]; rfl⟩
  · have h1 : ¬ (i : Int) < g.length := by omega
    have h2 : i = g.length := by omega
    have : fillG g g.length = gv g := by simp [fillG]
    simp -implicitDefEqProofs [h2, this]
/-- a row of probes, or nil -/
def isP (l : List Pr) (x : V) : Prop := x = .own true 58 2 (pv l) ∨ (l = [] ∧ x = .s (.slice none 0 0))
def sdInv (x0 : List Pr) (g : List Nd) (i : Nat) (l : List Int) (m : Nat) (S : St) : Prop := ∃ j x, j + m = l.length ∧ isP (x0 ++ prs i (l.take j)) x ∧ S = ⟨tmL [(13, .list 1 (iv l)), (14, .s (.int .i64 l.length)), (15, .s (.int .i64 j))], [x, .list 2 (gv g), .s (.int .i64 i), .s (.slice none 0 0), .no], [], 0⟩
theorem send_ac (x : V) (l : List Pr) (hxl : isP l x) (hl : l.length ≤ 1000000) (g : List Nd) (i : Nat) (hi : i < g.length) (hx : g[i].next.length ≤ 1000000) : AC Try.prog 28 [x, .list 2 (gv g), .s (.int .i64 i)] [] (fun r bs => isP (l ++ prs i g[i].next) r ∧ bs = []) := by
  refine ac_end c28 mixed rfl ?_
  have h1 : (i : Int) < g.length := by omega
  have h0 : ¬ (i : Int) < 0 := by omega
  simp -implicitDefEqProofs [a28, F28, h1, h0, gv_get hi]
  revert hx
  generalize g[i].next = k
  intro hx
  refine w_rounds [13, 14, 15] [4] 0 (Nat.le_refl _) (sdInv l g i k) k.length ⟨by rcases hxl with rfl | ⟨_, rfl⟩ <;> simp, 0, x, by simp, by simpa [prs] using hxl, by simp⟩ ?_
  rintro m S ⟨j, y, hj, hy, rfl⟩
  by_cases hm : j < k.length
  · have h1 : (j : Int) < k.length := by omega
    have h0 : ¬ (j : Int) < 0 := by omega
    have hlen : min j k.length = j := by omega
    have b1 : l.length + j + 1 ≤ maxLen ∧ (l.length + j + 1) * 16 ≤ maxBytes := by simp [maxLen, maxBytes]; omega
    have w1 : IntKind.i64.wrap ((j : Int) + 1) = ((j + 1 : Nat) : Int) := by rw [wrap64 (by omega)]; rfl
    rcases hy with rfl | ⟨hy, rfl⟩
    · simp -implicitDefEqProofs [h1, h0, iv_get hm, hlen, b1, prs_take1 hm]
      exact ⟨m - 1, by omega, j + 1, _, by omega, .inl rfl, by rw [w1, pv_append]⟩
    · have hy1 : l = [] := (List.append_eq_nil_iff.1 hy).1
      have hy2 : j = 0 := by have := congrArg List.length (List.append_eq_nil_iff.1 hy).2; rw [prs_length, List.length_take, List.length_nil] at this; omega
      have b2 : 1 ≤ maxLen ∧ 16 ≤ maxBytes := by simp [maxLen, maxBytes]
      subst hy1
      simp -implicitDefEqProofs [h1, h0, iv_get hm, hlen, b2]
      have e1 := prs_take1 hm (i := (i : Int))
      have e2 : pv (prs i (k.take j)) = [] := by simp [hy2, pv, prs]
      rw [e2, List.nil_append] at e1
      refine ⟨m - 1, by omega, j + 1, _, by omega, .inl rfl, by rw [w1, List.nil_append, ← e1]⟩
  · have h1 : ¬ (j : Int) < k.length := by omega
    have h2 : j = k.length := by omega
    subst h2
    rw [List.take_length] at hy
    rcases hy with rfl | ⟨hy, rfl⟩
    · simp -implicitDefEqProofs
      refine retA_of 0 ?_
      simp -implicitDefEqProofs [isP]
    · simp -implicitDefEqProofs
      refine retA_of 0 ?_
      rw [hy]
      simp -implicitDefEqProofs [isP]
end Go.Proofs.Ytbbhenjhghbimaa

namespace Go.Proofs.Ytbbhenjhghbimaa
open Go.RowKit Go.Proofs

def nodeAt (g : List Nd) (i : Int) : Nd := g.getD i.toNat ⟨0, []⟩
def seenAt (s : List Bool) (i : Int) : Bool := s.getD i.toNat false
theorem gv_at {g : List Nd} {i : Int} (h0 : 0 ≤ i) (h1 : i < g.length) : (gv g)[i.toNat]? = some (.agg [.s (.int .i64 (nodeAt g i).k), .list 1 (iv (nodeAt g i).next)]) := by
  have h : i.toNat < g.length := by omega
  rw [gv_get h, nodeAt, List.getD_eq_getElem?_getD, List.getElem?_eq_getElem h]; rfl
theorem gv_atn {g : List Nd} {i : Nat} (h1 : i < g.length) : (gv g)[i]? = some (.agg [.s (.int .i64 (nodeAt g i).k), .list 1 (iv (nodeAt g i).next)]) := by
  have := gv_at (g := g) (i := i) (by omega) (by omega)
  simpa using this
theorem lv_at {s : List Bool} {i : Int} (h0 : 0 ≤ i) (h1 : i < s.length) : (lv s)[i.toNat]? = some (.s (.bool (seenAt s i))) := by
  have h : i.toNat < s.length := by omega
  rw [lv_get h, seenAt, List.getD_eq_getElem?_getD, List.getElem?_eq_getElem h]; rfl
theorem lv_atn {s : List Bool} {i : Nat} (h1 : i < s.length) : (lv s)[i]? = some (.s (.bool (seenAt s i))) := by
  have := lv_at (s := s) (i := i) (by omega) (by omega)
  simpa using this
theorem nodeAt_mem {g : List Nd} {i : Int} (h0 : 0 ≤ i) (h1 : i < g.length) : nodeAt g i ∈ g := by
  have h : i.toNat < g.length := by omega
  rw [nodeAt, List.getD_eq_getElem?_getD, List.getElem?_eq_getElem h]
  exact List.getElem_mem h

/-- a chase -/
structure Ch where
  g : List Nd
  start : Int
  ps : List Pr
  seen : List Bool
  dec : Bool
deriving DecidableEq
def Ch.cells (c : Ch) : List V := [.list 2 (gv c.g), .s (.int .i64 c.start), .list 2 (pv c.ps), .list 1 (lv c.seen), .s (.bool c.dec)]
def Ch.v (c : Ch) : V := .agg c.cells
def sOk (c : Ch) (i : Int) : Prop := seenAt c.seen i = true → i ≠ c.start ∧ (nodeAt c.g i).k ≠ 0
def prOk (c : Ch) (p : Pr) : Prop := 0 ≤ p.frm ∧ p.frm < c.g.length ∧ (p.frm = c.start ∨ seenAt c.seen p.frm = true) ∧ p.to ∈ (nodeAt c.g p.frm).next
instance (c : Ch) (i : Int) : Decidable (sOk c i) := by unfold sOk; infer_instance
instance (c : Ch) (p : Pr) : Decidable (prOk c p) := by unfold prOk; infer_instance
def Ch.ok (c : Ch) : Prop := gOk c.g = true ∧ 0 ≤ c.start ∧ c.start < c.g.length ∧ (nodeAt c.g c.start).k ≠ 0 ∧ c.seen.length = c.g.length ∧ (∀ i, i < c.g.length → sOk c (i : Nat)) ∧ ∀ p ∈ c.ps, prOk c p
instance (c : Ch) : Decidable c.ok := by unfold Ch.ok; infer_instance
/-- not too long -/
structure Ch.sm (c : Ch) : Prop where
  g : c.g.length ≤ 1000000
  nx : ∀ n ∈ c.g, n.next.length ≤ 1000000
  ps : c.ps.length ≤ 1000000
  seen : c.seen.length ≤ 1000000
theorem mem_drop0 {α : Type} {l : List α} {i : Nat} (h : i < l.length) : l[i] ∈ l := List.getElem_mem h

def v18a (c : Ch) (m : Nat) (S : St) : Prop := ∃ i, i + m = c.g.length ∧ (∀ j, j < i → sOk c (j : Nat)) ∧ S = ⟨tmL [(1, .ptr 0 0), (42, .s (.int .i64 c.g.length)), (43, .s (.int .i64 i))], [c.v, .s (.bool false), .s (.int .i64 c.g.length), .no], [c.cells], 0⟩
def v18b (c : Ch) (m : Nat) (S : St) : Prop := ∃ i, i + m = c.ps.length ∧ (∀ j (h : j < c.ps.length), j < i → prOk c c.ps[j]) ∧ S = ⟨tmL [(1, .ptr 0 0), (68, .list 2 (pv c.ps)), (69, .s (.int .i64 c.ps.length)), (70, .s (.int .i64 i))], [c.v, .s (.bool false), .s (.int .i64 c.g.length), .no], [c.cells], 0⟩
set_option maxHeartbeats 8000000 in
set_option maxRecDepth 10000 in
theorem Valid_pc (c : Ch) (hs : c.sm) : PC Try.prog 18 [c.v] (fun r => r = .s (.bool (decide c.ok))) := by
  refine pc_end c18 mixed rfl ?_
  simp -implicitDefEqProofs [a18, F18, Ch.v, Ch.cells]
  refine wk_take ?_
  simp -implicitDefEqProofs
  refine wc_of (wValid_pc c.g hs.nx) (by simp) (by simp) ?_
  rintro _ rfl
  by_cases g1 : gOk c.g = false
  · have : ¬ c.ok := fun h => by simp [h.1] at g1
    simp -implicitDefEqProofs [g1, this]
  have g1 : gOk c.g = true := by simpa using g1
  by_cases g2 : c.start < 0
  · have : ¬ c.ok := fun h => by have := h.2.1; omega
    simp -implicitDefEqProofs [g1, g2, this]
  by_cases g3 : c.start ≥ c.g.length
  · have : ¬ c.ok := fun h => by have := h.2.2.1; omega
    simp -implicitDefEqProofs [g1, g2, g3, this]
  have g4 := gv_at (g := c.g) (i := c.start) (by omega) (by omega)
  cases g5 : ((nodeAt c.g c.start).k == 0)
  case' true =>
    have : ¬ c.ok := fun h => h.2.2.2.1 (eq_of_beq g5)
    simp -implicitDefEqProofs [g1, g2, g3, g4, g5, this]
  cases g6 : ((c.seen.length : Int) != c.g.length)
  case' true =>
    have : ¬ c.ok := fun h => by simp [h.2.2.2.2.1] at g6
    simp -implicitDefEqProofs [g1, g2, g3, g4, g5, g6, this]
  have g7 : c.seen.length = c.g.length := by simp at g6; omega
  have g5' : (nodeAt c.g c.start).k ≠ 0 := by simpa using g5
  simp -implicitDefEqProofs [g1, g2, g3, g4, g5, g6]
  refine w_rounds [1, 42, 43] [3] 1 (by simp) (v18a c) c.g.length ⟨by simp, 0, by simp, by simp, by simp [Ch.v, Ch.cells]⟩ ?_
  rintro m S ⟨i, hi, ha, rfl⟩
  by_cases hm : i < c.g.length
  · have h1 : (i : Int) < c.g.length := by omega
    have h0 : ¬ (i : Int) < 0 := by omega
    have hl := lv_atn (s := c.seen) (i := i) (by omega)
    have hg := gv_atn hm
    have fin : sOk c (i : Nat) → ∃ m' < m, v18a c m' ⟨tmL [(1, .ptr 0 0), (42, .s (.int .i64 c.g.length)), (43, .s (.int .i64 (IntKind.i64.wrap ((i : Int) + 1))))], [c.v, .s (.bool false), .s (.int .i64 c.g.length), .no], [c.cells], 0⟩ := by
      intro hk
      refine ⟨m - 1, by omega, i + 1, by omega, fun j hj => ?_, by rw [wrap64 (by have := hs.g; omega)]; rfl⟩
      by_cases hji : j = i
      · subst hji; exact hk
      · exact ha j (by omega)
    have no : ¬ sOk c (i : Nat) → ¬ c.ok := fun h q => h (q.2.2.2.2.2.1 i hm)
    cases s1 : seenAt c.seen (i : Nat)
    · simp -implicitDefEqProofs [Ch.v, Ch.cells, h1, h0, hl, s1]
      exact fin (by simp [sOk, s1])
    · cases s2 : ((i : Int) == c.start)
      · cases s3 : ((nodeAt c.g (i : Nat)).k == 0)
        · simp -implicitDefEqProofs [Ch.v, Ch.cells, h1, h0, hl, hg, s1, s2, s3]
          exact fin (fun _ => ⟨by simpa using s2, by simpa using s3⟩)
        · have := no (fun h => (h s1).2 (eq_of_beq s3))
          simp -implicitDefEqProofs [Ch.v, Ch.cells, h1, h0, hl, hg, s1, s2, s3, this]
      · have := no (fun h => (h s1).1 (eq_of_beq s2))
        simp -implicitDefEqProofs [Ch.v, Ch.cells, h1, h0, hl, hg, s1, s2, this]
  · have h1 : ¬ (i : Int) < c.g.length := by omega
    simp -implicitDefEqProofs [Ch.v, Ch.cells, h1]
    have hall : ∀ j, j < c.g.length → sOk c (j : Nat) := fun j hj => ha j (by omega)
    refine w_rounds [1, 68, 69, 70] [3] 1 (by simp) (v18b c) c.ps.length ⟨by simp, 0, by simp, by simp, by simp [Ch.v, Ch.cells]⟩ ?_
    rintro m' S ⟨i, hi, hb, rfl⟩
    by_cases hm' : i < c.ps.length
    · have h1 : (i : Int) < c.ps.length := by omega
      have h0 : ¬ (i : Int) < 0 := by omega
      have hp := pv_get hm'
      have hb' := hb i hm'
      have no : ¬ prOk c c.ps[i] → ¬ c.ok := fun h q => h (q.2.2.2.2.2.2 _ (List.getElem_mem hm'))
      have fin : prOk c c.ps[i] → ∃ m'' < m', v18b c m'' ⟨tmL [(1, .ptr 0 0), (68, .list 2 (pv c.ps)), (69, .s (.int .i64 c.ps.length)), (70, .s (.int .i64 (IntKind.i64.wrap ((i : Int) + 1))))], [c.v, .s (.bool false), .s (.int .i64 c.g.length), .no], [c.cells], 0⟩ := by
        intro hk
        refine ⟨m' - 1, by omega, i + 1, by omega, fun j hj hji => ?_, by rw [wrap64 (by have := hs.ps; omega)]; rfl⟩
        by_cases hje : j = i
        · subst hje; exact hk
        · exact hb j hj (by omega)
      revert hp no fin
      generalize c.ps[i] = p
      intro hp no fin
      by_cases p1 : p.frm < 0
      · have := no (fun h => by have := h.1; omega)
        simp -implicitDefEqProofs [Ch.v, Ch.cells, h1, h0, hp, p1, this]
      by_cases p2 : p.frm ≥ c.g.length
      · have := no (fun h => by have := h.2.1; omega)
        simp -implicitDefEqProofs [Ch.v, Ch.cells, h1, h0, hp, p1, p2, this]
      have p3 := gv_at (g := c.g) (i := p.frm) (by omega) (by omega)
      have p4 := lv_at (s := c.seen) (i := p.frm) (by omega) (by omega)
      have hx := hs.nx _ (nodeAt_mem (g := c.g) (i := p.frm) (by omega) (by omega))
      cases p5 : (p.frm != c.start)
      case' true =>
        cases p6 : seenAt c.seen p.frm
        case' false =>
          have := no (fun h => by have := h.2.2.1; simp [p6] at this; simp [this] at p5)
          simp -implicitDefEqProofs [Ch.v, Ch.cells, h1, h0, hp, p1, p2, p3, p4, p5, p6, this]
        case' true =>
          simp -implicitDefEqProofs [Ch.v, Ch.cells, h1, h0, hp, p1, p2, p3, p4, p5, p6]
      case' false =>
        simp -implicitDefEqProofs [Ch.v, Ch.cells, h1, h0, hp, p1, p2, p3, p4, p5]
      all_goals
        have p7 : p.frm = c.start ∨ seenAt c.seen p.frm = true := by simp_all
        refine wkd_take ?_
        simp -implicitDefEqProofs
        refine wcd_of (Contains_pc (nodeAt c.g p.frm).next p.to hx) (by simp) (by simp) ?_
        by_cases p8 : p.to ∈ (nodeAt c.g p.frm).next
        · simp -implicitDefEqProofs [p8]
          exact fin ⟨by omega, by omega, p7, p8⟩
        · have := no (fun h => p8 h.2.2.2)
          simp -implicitDefEqProofs [p8, this]
    · have h1 : ¬ (i : Int) < c.ps.length := by omega
      have : c.ok := ⟨g1, by omega, by omega, g5', g7, hall, fun p hp => by
        obtain ⟨j, hj, rfl⟩ := List.getElem_of_mem hp
        exact hb j hj (by omega)⟩
      simp -implicitDefEqProofs [h1, this]
end Go.Proofs.Ytbbhenjhghbimaa

namespace Go.Proofs.Ytbbhenjhghbimaa
open Go.RowKit Go.Proofs

def v19a (c : Ch) (m : Nat) (S : St) : Prop := ∃ i, i + m = c.g.length ∧ (∀ j, j < i → sOk c (j : Nat)) ∧ S = ⟨tmL [(1, .ptr 0 0), (44, .list 1 (lv c.seen)), (45, .s (.int .i64 c.seen.length)), (46, .s (.int .i64 i))], [c.v, .s (.bool false), .no, .no], [c.cells], 0⟩
def v19b (c : Ch) (m : Nat) (S : St) : Prop := ∃ i, i + m = c.ps.length ∧ (∀ j (h : j < c.ps.length), j < i → prOk c c.ps[j]) ∧ S = ⟨tmL [(1, .ptr 0 0), (69, .list 2 (pv c.ps)), (70, .s (.int .i64 c.ps.length)), (71, .s (.int .i64 i))], [c.v, .s (.bool false), .no, .no], [c.cells], 0⟩
set_option maxHeartbeats 8000000 in
set_option maxRecDepth 10000 in
theorem rValid_pc (c : Ch) (hs : c.sm) : PC Try.prog 19 [c.v] (fun r => r = .s (.bool (decide c.ok))) := by
  refine pc_end c19 mixed rfl ?_
  simp -implicitDefEqProofs [a19, F19, Ch.v, Ch.cells]
  refine wk_take ?_
  simp -implicitDefEqProofs
  refine wc_of (rgValid_pc c.g hs.nx) (by simp) (by simp) ?_
  rintro _ rfl
  by_cases g1 : gOk c.g = false
  · have : ¬ c.ok := fun h => by simp [h.1] at g1
    simp -implicitDefEqProofs [g1, this]
  have g1 : gOk c.g = true := by simpa using g1
  by_cases g2 : c.start < 0
  · have : ¬ c.ok := fun h => by have := h.2.1; omega
    simp -implicitDefEqProofs [g1, g2, this]
  by_cases g3 : c.start ≥ c.g.length
  · have : ¬ c.ok := fun h => by have := h.2.2.1; omega
    simp -implicitDefEqProofs [g1, g2, g3, this]
  have g4 := gv_at (g := c.g) (i := c.start) (by omega) (by omega)
  cases g5 : ((nodeAt c.g c.start).k == 0)
  case' true =>
    have : ¬ c.ok := fun h => h.2.2.2.1 (eq_of_beq g5)
    simp -implicitDefEqProofs [g1, g2, g3, g4, g5, this]
  cases g6 : ((c.seen.length : Int) != c.g.length)
  case' true =>
    have : ¬ c.ok := fun h => by simp [h.2.2.2.2.1] at g6
    simp -implicitDefEqProofs [g1, g2, g3, g4, g5, g6, this]
  have g7 : c.seen.length = c.g.length := by simp at g6; omega
  have g5' : (nodeAt c.g c.start).k ≠ 0 := by simpa using g5
  simp -implicitDefEqProofs [g1, g2, g3, g4, g5, g6]
  refine w_rounds [1, 44, 45, 46] [2, 3] 1 (by simp) (v19a c) c.g.length ⟨by simp, 0, by simp, by simp, by simp [Ch.v, Ch.cells]⟩ ?_
  rintro m S ⟨i, hi, ha, rfl⟩
  by_cases hm : i < c.g.length
  · have h1 : (i : Int) < c.seen.length := by omega
    have h0 : ¬ (i : Int) < 0 := by omega
    have hl := lv_atn (s := c.seen) (i := i) (by omega)
    have hg := gv_atn hm
    have fin : sOk c (i : Nat) → ∃ m' < m, v19a c m' ⟨tmL [(1, .ptr 0 0), (44, .list 1 (lv c.seen)), (45, .s (.int .i64 c.seen.length)), (46, .s (.int .i64 (IntKind.i64.wrap ((i : Int) + 1))))], [c.v, .s (.bool false), .no, .no], [c.cells], 0⟩ := by
      intro hk
      refine ⟨m - 1, by omega, i + 1, by omega, fun j hj => ?_, by rw [wrap64 (by have := hs.g; omega)]; rfl⟩
      by_cases hji : j = i
      · subst hji; exact hk
      · exact ha j (by omega)
    have no : ¬ sOk c (i : Nat) → ¬ c.ok := fun h q => h (q.2.2.2.2.2.1 i hm)
    cases s1 : seenAt c.seen (i : Nat)
    · simp -implicitDefEqProofs [Ch.v, Ch.cells, h1, h0, hl, s1]
      exact fin (by simp [sOk, s1])
    · cases s2 : ((i : Int) == c.start)
      · cases s3 : ((nodeAt c.g (i : Nat)).k == 0)
        · simp -implicitDefEqProofs [Ch.v, Ch.cells, h1, h0, hl, hg, s1, s2, s3]
          exact fin (fun _ => ⟨by simpa using s2, by simpa using s3⟩)
        · have := no (fun h => (h s1).2 (eq_of_beq s3))
          simp -implicitDefEqProofs [Ch.v, Ch.cells, h1, h0, hl, hg, s1, s2, s3, this]
      · have := no (fun h => (h s1).1 (eq_of_beq s2))
        simp -implicitDefEqProofs [Ch.v, Ch.cells, h1, h0, hl, hg, s1, s2, this]
  · have h1 : ¬ (i : Int) < c.seen.length := by omega
    simp -implicitDefEqProofs [Ch.v, Ch.cells, h1]
    have hall : ∀ j, j < c.g.length → sOk c (j : Nat) := fun j hj => ha j (by omega)
    refine w_rounds [1, 69, 70, 71] [2, 3] 1 (by simp) (v19b c) c.ps.length ⟨by simp, 0, by simp, by simp, by simp [Ch.v, Ch.cells]⟩ ?_
    rintro m' S ⟨i, hi, hb, rfl⟩
    by_cases hm' : i < c.ps.length
    · have h1 : (i : Int) < c.ps.length := by omega
      have h0 : ¬ (i : Int) < 0 := by omega
      have hp := pv_get hm'
      have hb' := hb i hm'
      have no : ¬ prOk c c.ps[i] → ¬ c.ok := fun h q => h (q.2.2.2.2.2.2 _ (List.getElem_mem hm'))
      have fin : prOk c c.ps[i] → ∃ m'' < m', v19b c m'' ⟨tmL [(1, .ptr 0 0), (69, .list 2 (pv c.ps)), (70, .s (.int .i64 c.ps.length)), (71, .s (.int .i64 (IntKind.i64.wrap ((i : Int) + 1))))], [c.v, .s (.bool false), .no, .no], [c.cells], 0⟩ := by
        intro hk
        refine ⟨m' - 1, by omega, i + 1, by omega, fun j hj hji => ?_, by rw [wrap64 (by have := hs.ps; omega)]; rfl⟩
        by_cases hje : j = i
        · subst hje; exact hk
        · exact hb j hj (by omega)
      revert hp no fin
      generalize c.ps[i] = p
      intro hp no fin
      by_cases p1 : p.frm < 0
      · have := no (fun h => by have := h.1; omega)
        simp -implicitDefEqProofs [Ch.v, Ch.cells, h1, h0, hp, p1, this]
      by_cases p2 : p.frm ≥ c.g.length
      · have := no (fun h => by have := h.2.1; omega)
        simp -implicitDefEqProofs [Ch.v, Ch.cells, h1, h0, hp, p1, p2, this]
      have p3 := gv_at (g := c.g) (i := p.frm) (by omega) (by omega)
      have p4 := lv_at (s := c.seen) (i := p.frm) (by omega) (by omega)
      have hx := hs.nx _ (nodeAt_mem (g := c.g) (i := p.frm) (by omega) (by omega))
      cases p5 : (p.frm != c.start)
      case' true =>
        cases p6 : seenAt c.seen p.frm
        case' false =>
          have := no (fun h => by have := h.2.2.1; simp [p6] at this; simp [this] at p5)
          simp -implicitDefEqProofs [Ch.v, Ch.cells, h1, h0, hp, p1, p2, p3, p4, p5, p6, this]
        case' true =>
          simp -implicitDefEqProofs [Ch.v, Ch.cells, h1, h0, hp, p1, p2, p3, p4, p5, p6]
      case' false =>
        simp -implicitDefEqProofs [Ch.v, Ch.cells, h1, h0, hp, p1, p2, p3, p4, p5]
      all_goals
        have p7 : p.frm = c.start ∨ seenAt c.seen p.frm = true := by simp_all
        refine wkd_take ?_
        simp -implicitDefEqProofs
        refine wcd_of (has_pc (nodeAt c.g p.frm).next p.to hx) (by simp) (by simp) ?_
        by_cases p8 : p.to ∈ (nodeAt c.g p.frm).next
        · simp -implicitDefEqProofs [p8]
          exact fin ⟨by omega, by omega, p7, p8⟩
        · have := no (fun h => p8 h.2.2.2)
          simp -implicitDefEqProofs [p8, this]
    · have h1 : ¬ (i : Int) < c.ps.length := by omega
      have : c.ok := ⟨g1, by omega, by omega, g5', g7, hall, fun p hp => by
        obtain ⟨j, hj, rfl⟩ := List.getElem_of_mem hp
        exact hb j hj (by omega)⟩
      simp -implicitDefEqProofs [h1, this]
end Go.Proofs.Ytbbhenjhghbimaa

namespace Go.Proofs.Ytbbhenjhghbimaa
open Go.RowKit Go.Proofs

def Ch.over (c : Ch) : Bool := decide (c.ps = [] ∧ c.ok)
theorem Over_pc (c : Ch) (hs : c.sm) : PC Try.prog 16 [c.v] (fun r => r = .s (.bool c.over)) := by
  refine pc_end c16 mixed rfl ?_
  cases h : c.ps with
  | nil =>
    simp -implicitDefEqProofs [a16, F16, Ch.v, Ch.cells, h, pv]
    refine wk_take ?_
    simp -implicitDefEqProofs
    have hv := Valid_pc c hs
    simp only [Ch.v, Ch.cells, h, pv, List.map_nil] at hv
    refine wc_of hv (by simp) (by simp) ?_
    rintro _ rfl
    simp -implicitDefEqProofs [Ch.over, h]
  | cons p l =>
    have h1 : ((l.length : Int) + 1 == 0) = false := by simp; omega
    simp -implicitDefEqProofs [a16, F16, Ch.v, Ch.cells, h, h1, Ch.over]
theorem rOver_pc (c : Ch) (hs : c.sm) : PC Try.prog 17 [c.v] (fun r => r = .s (.bool c.over)) := by
  refine pc_end c17 mixed rfl ?_
  simp -implicitDefEqProofs [a17, F17, Ch.v, Ch.cells]
  refine wk_take ?_
  simp -implicitDefEqProofs
  have hv := rValid_pc c hs
  simp only [Ch.v, Ch.cells] at hv
  refine wc_of hv (by simp) (by simp) ?_
  rintro _ rfl
  by_cases ho : c.ok
  · cases h : c.ps with
    | nil => simp -implicitDefEqProofs [ho, Ch.over, h, pv]
    | cons p l =>
      have h1 : ¬ ((l.length : Int) + 1 = 0) := by omega
      simp -implicitDefEqProofs [ho, Ch.over, h, h1]
  · simp -implicitDefEqProofs [ho, Ch.over]

theorem Ch.ext' {a b : Ch} (h1 : a.g = b.g) (h2 : a.start = b.start) (h3 : a.ps = b.ps) (h4 : a.seen = b.seen) (h5 : a.dec = b.dec) : a = b := by cases a; cases b; simp_all
theorem Pr.ext' {a b : Pr} (h1 : a.frm = b.frm) (h2 : a.to = b.to) : a = b := by cases a; cases b; simp_all
def sm12 (a b : Ch) (m : Nat) (S : St) : Prop := ∃ i, i + m = a.ps.length ∧ a.ps.take i = b.ps.take i ∧ S = ⟨tmL [(2, .ptr 0 0), (3, .ptr 1 0)], [a.v, b.v, .s (.bool false), .s (.int .i64 i)], [a.cells, b.cells], 0⟩
set_option maxHeartbeats 8000000 in
set_option maxRecDepth 10000 in
theorem Same_pc (a b : Ch) (ha : a.sm) : PC Try.prog 12 [a.v, b.v] (fun r => r = .s (.bool (decide (a = b)))) := by
  refine pc_end c12 mixed rfl ?_
  simp -implicitDefEqProofs [a12, F12, Ch.v, Ch.cells]
  refine wk_take ?_
  simp -implicitDefEqProofs
  refine wc_of (SameG_pc a.g b.g ha.g ha.nx) (by simp) (by simp) ?_
  rintro _ rfl
  by_cases h1 : a.g = b.g
  case neg =>
    have : ¬ a = b := fun q => h1 (by rw [q])
    simp -implicitDefEqProofs [h1, this]
  cases h2 : (a.start != b.start)
  case' true =>
    have : ¬ a = b := fun q => by subst q; simp at h2
    simp -implicitDefEqProofs [h1, h2, this]
  have h2' : a.start = b.start := by simpa using h2
  by_cases h3 : a.dec = b.dec
  case neg =>
    have : ¬ a = b := fun q => h3 (by rw [q])
    have h3' : (a.dec == b.dec) = false := by simpa using h3
    simp -implicitDefEqProofs [h1, h2, h3', this]
  have h3' : (a.dec == b.dec) = true := by simpa using h3
  simp -implicitDefEqProofs [h1, h2, h3']
  refine wk_take ?_
  simp -implicitDefEqProofs
  refine wc_of (SameBools_pc a.seen b.seen ha.seen) (by simp) (by simp) ?_
  rintro _ rfl
  by_cases h4 : a.seen = b.seen
  case neg =>
    have : ¬ a = b := fun q => h4 (by rw [q])
    simp -implicitDefEqProofs [h4, this]
  cases h5 : ((a.ps.length : Int) != b.ps.length)
  case' true =>
    have : ¬ a = b := fun q => by subst q; simp at h5
    simp -implicitDefEqProofs [h4, h5, this]
  have h5' : a.ps.length = b.ps.length := by simp at h5; omega
  simp -implicitDefEqProofs [h4, h5]
  refine w_rounds [2, 3] [] 2 (by simp) (sm12 a b) a.ps.length ⟨by simp, 0, by simp, by simp, by simp [Ch.v, Ch.cells, h1, h2', h3, h4]⟩ ?_
  rintro m S ⟨i, hi, ht, rfl⟩
  by_cases hm : i < a.ps.length
  · have i1 : (i : Int) < a.ps.length := by omega
    have i0 : ¬ (i : Int) < 0 := by omega
    have hm' : i < b.ps.length := by omega
    have p1 := pv_get hm
    have p2 := pv_get hm'
    by_cases he : a.ps[i] = b.ps[i]
    · rw [← he] at p2
      simp -implicitDefEqProofs [Ch.v, Ch.cells, i1, i0, p1, p2]
      exact ⟨m - 1, by omega, i + 1, by omega, take_eq1 hm hm' ht he, by rw [wrap64 (by have := ha.ps; omega)]; rfl⟩
    · have : ¬ a = b := fun q => he (by subst q; rfl)
      have he' : (a.ps[i].frm == b.ps[i].frm && a.ps[i].to == b.ps[i].to) = false := by
        cases q : (a.ps[i].frm == b.ps[i].frm && a.ps[i].to == b.ps[i].to)
        · rfl
        · simp at q
          exact absurd (Pr.ext' q.1 q.2) he
      simp -implicitDefEqProofs [Ch.v, Ch.cells, i1, i0, p1, p2, he', this]
  · have i1 : ¬ (i : Int) < a.ps.length := by omega
    have h6 : a.ps = b.ps := by rwa [List.take_of_length_le (by omega), List.take_of_length_le (by omega)] at ht
    have : a = b := Ch.ext' h1 h2' h6 h4 h3
    have i2 : ¬ i < b.ps.length := by omega
    simp -implicitDefEqProofs [Ch.v, Ch.cells, i2, this]
end Go.Proofs.Ytbbhenjhghbimaa

namespace Go.Proofs.Ytbbhenjhghbimaa
open Go.RowKit Go.Proofs

/-- what the functions return -/
def zC : V := .agg [.s (.slice none 0 0), .s (.int .i64 0), .s (.slice none 0 0), .s (.slice none 0 0), .s (.bool false)]
def res (e : Int) (c : Ch) : V := .tup [if e = 0 then c.v else zC, .s (.int .i64 e)]
/-- rows of its own -/
def Ch.ow (c : Ch) : V := .agg [.own true 42 2 (gv c.g), .s (.int .i64 c.start), .own true 58 2 (pv c.ps), .own true 4 1 (lv c.seen), .s (.bool c.dec)]
def resO (e : Int) (c : Ch) : V := .tup [if e = 0 then c.ow else zC, .s (.int .i64 e)]
def begE (g : List Nd) (s : Int) : Int := if gOk g = false then 2 else if s < 0 ∨ g.length ≤ s then 1 else if (nodeAt g s).k = 0 then 14 else 0
def begC (g : List Nd) (s : Int) : Ch := ⟨g, s, prs s (nodeAt g s).next, List.replicate g.length false, false⟩
theorem lv_rep (n : Nat) : lv (List.replicate n false) = List.replicate n (.s (.bool false)) := by simp [lv]
theorem gOk_node {g : List Nd} (h : gOk g = true) {i : Int} (h0 : 0 ≤ i) (h1 : i < g.length) : 0 ≤ (nodeAt g i).k ∧ (nodeAt g i).k ≤ (nodeAt g i).next.length ∧ ((nodeAt g i).k = 0 → (nodeAt g i).next.length = 0) ∧ asc (-1) g.length (nodeAt g i).next = true := by
  simp only [gOk, Bool.and_eq_true, List.all_eq_true] at h
  have := h.2 _ (nodeAt_mem h0 h1)
  simp only [Nd.ok, Bool.and_eq_true, decide_eq_true_eq] at this
  exact ⟨this.1.1, this.1.2.1, this.1.2.2, this.2⟩
theorem gOk_len {g : List Nd} (h : gOk g = true) : g.length ≤ 160 := by simp only [gOk, Bool.and_eq_true, decide_eq_true_eq] at h; exact h.1
theorem node_getElem {g : List Nd} {i : Nat} (h : i < g.length) : g[i] = nodeAt g i := by
  rw [nodeAt, List.getD_eq_getElem?_getD]; simp [List.getElem?_eq_getElem h]
/-- send's contract, for a start that is a number of its own -/
theorem sendOk (x : V) (l : List Pr) (hxl : isP l x) (hl : l.length ≤ 1000000) (g : List Nd) (i : Int) (h0 : 0 ≤ i) (hi : i < g.length) (hx : (nodeAt g i).next.length ≤ 1000000) : AC Try.prog 28 [x, .list 2 (gv g), .s (.int .i64 i)] [] (fun r bs => isP (l ++ prs i (nodeAt g i).next) r ∧ bs = []) := by
  have h : i.toNat < g.length := by omega
  have e : ((i.toNat : Nat) : Int) = i := by omega
  have := send_ac x l hxl hl g i.toNat h (by rw [node_getElem h, e]; exact hx)
  rwa [node_getElem h, e] at this
theorem probesOk (g : List Nd) (i : Int) (h0 : 0 ≤ i) (hi : i < g.length) (hx : (nodeAt g i).next.length ≤ 1000000) : PC Try.prog 31 [.list 2 (gv g), .s (.int .i64 i)] (fun r => r = .own true 58 2 (pv (prs i (nodeAt g i).next))) := by
  have h : i.toNat < g.length := by omega
  have e : ((i.toNat : Nat) : Int) = i := by omega
  have := probes_pc g i.toNat h (by rw [node_getElem h, e]; exact hx)
  rwa [node_getElem h, e] at this

theorem send0 {bx : List (List V)} {z : Nat} {xs : List V} {v u : Value} : handOk bx [.s u, .list z xs, .s v] [] [] [.s u, .list z xs, .s v] [] :=
  ⟨by simp [ren, renA, renL, fzs], rfl, rfl, rfl, by simp, by simp, by simp⟩
theorem send1 {bx : List (List V)} {z e y : Nat} {xs ys : List V} {v : Value} : handOk bx [.own true e y ys, .list z xs, .s v] [] [] [.own true e y ys, .list z xs, .s v] [] :=
  ⟨by simp [ren, renA, renL, fzs], rfl, rfl, rfl, by simp, by simp, by simp⟩
set_option maxHeartbeats 8000000 in
set_option maxRecDepth 10000 in
theorem Begin_pc (g : List Nd) (s : Int) (hl : g.length ≤ 1000000) (hn : ∀ n ∈ g, n.next.length ≤ 1000000) : PC Try.prog 10 [.list 2 (gv g), .s (.int .i64 s)] (fun r => r = res (begE g s) (begC g s)) := by
  refine pc_end c10 mixed rfl ?_
  simp -implicitDefEqProofs [a10, F10]
  refine wk_take ?_
  simp -implicitDefEqProofs
  refine wc_of (wValid_pc g hn) (by simp) (by simp) ?_
  rintro _ rfl
  by_cases g1 : gOk g = false
  · simp -implicitDefEqProofs [g1, res, begE, zC]
  have g1 : gOk g = true := by simpa using g1
  by_cases g2 : s < 0
  · simp -implicitDefEqProofs [g1, g2, res, begE, zC]
  by_cases g3 : s ≥ g.length
  · have g3' : (g.length : Int) ≤ s := g3
    simp -implicitDefEqProofs [g1, g2, g3, g3', res, begE, zC]
  have g4 := gv_at (g := g) (i := s) (by omega) (by omega)
  cases g5 : ((nodeAt g s).k == 0)
  case' true =>
    have g5' : (nodeAt g s).k = 0 := eq_of_beq g5
    have g3' : ¬ (g.length : Int) ≤ s := g3
    simp -implicitDefEqProofs [g1, g2, g3, g3', g4, g5, g5', res, begE, zC]
  have g5' : ¬ (nodeAt g s).k = 0 := by simpa using g5
  simp -implicitDefEqProofs [g1, g2, g3, g4, g5]
  refine wkd_take ?_
  simp -implicitDefEqProofs
  refine wcd_of (copyGraph_pc g hl hn) (by simp) (by simp) ?_
  have b1 : g.length ≤ maxLen ∧ g.length ≤ 140737488355328 := by simp [maxLen]; omega
  have hx := hn _ (nodeAt_mem (g := g) (i := s) (by omega) (by omega))
  simp -implicitDefEqProofs [b1]
  refine wk_hand ?_
  simp -implicitDefEqProofs
  have hne : (nodeAt g s).next ≠ [] := by
    intro q
    have := gOk_node g1 (i := s) (by omega) (by omega)
    rw [q] at this
    simp at this
    omega
  refine wa_of (sendOk (.s (.slice none 0 0)) [] (.inr ⟨rfl, rfl⟩) (by simp) g s (by omega) (by omega) hx) send0 ?_
  rintro y _ ⟨hy, rfl⟩
  refine ⟨rfl, ?_⟩
  rcases hy with rfl | ⟨hy, _⟩
  · have g3' : ¬ (g.length : Int) ≤ s := g3
    simp -implicitDefEqProofs [g1, g2, g3', g5', res, begE, begC, Ch.v, Ch.cells, lv_rep]
  · exact absurd (by simpa [prs] using hy) hne
set_option maxHeartbeats 8000000 in
set_option maxRecDepth 10000 in
theorem rBegin_pc (g : List Nd) (s : Int) (hl : g.length ≤ 1000000) (hn : ∀ n ∈ g, n.next.length ≤ 1000000) : PC Try.prog 11 [.list 2 (gv g), .s (.int .i64 s)] (fun r => r = resO (begE g s) (begC g s)) := by
  refine pc_end c11 mixed rfl ?_
  simp -implicitDefEqProofs [a11, F11]
  refine wk_take ?_
  simp -implicitDefEqProofs
  refine wc_of (rgValid_pc g hn) (by simp) (by simp) ?_
  rintro _ rfl
  by_cases g1 : gOk g = false
  · simp -implicitDefEqProofs [g1, resO, begE, zC]
  have g1 : gOk g = true := by simpa using g1
  by_cases g2 : s < 0
  · simp -implicitDefEqProofs [g1, g2, resO, begE, zC]
  by_cases g3 : s ≥ g.length
  · have g3' : (g.length : Int) ≤ s := g3
    simp -implicitDefEqProofs [g1, g2, g3, g3', resO, begE, zC]
  have g4 := gv_at (g := g) (i := s) (by omega) (by omega)
  have g3' : ¬ (g.length : Int) ≤ s := g3
  cases g5 : ((nodeAt g s).k == 0)
  case' true =>
    have g5' : (nodeAt g s).k = 0 := eq_of_beq g5
    simp -implicitDefEqProofs [g1, g2, g3, g3', g4, g5, g5', resO, begE, zC]
  have g5' : ¬ (nodeAt g s).k = 0 := by simpa using g5
  simp -implicitDefEqProofs [g1, g2, g3, g4, g5]
  refine wkd_take ?_
  simp -implicitDefEqProofs
  refine wcd_of (rCopy_pc g hl hn) (by simp) (by simp) ?_
  have b1 : g.length ≤ maxLen ∧ g.length ≤ 140737488355328 := by simp [maxLen]; omega
  have hx := hn _ (nodeAt_mem (g := g) (i := s) (by omega) (by omega))
  simp -implicitDefEqProofs [b1]
  refine wkd_take ?_
  simp -implicitDefEqProofs
  refine wcd_of (probesOk g s (by omega) (by omega) hx) (by simp) (by simp) ?_
  simp -implicitDefEqProofs [b1, g1, g2, g3', g5', resO, begE, begC, Ch.ow, lv_rep]
end Go.Proofs.Ytbbhenjhghbimaa

namespace Go.Proofs.Ytbbhenjhghbimaa
open Go.RowKit Go.Proofs

def cut (l : List Pr) (k : Nat) : List Pr := l.take k ++ l.drop (k + 1)
def toAt (l : List Pr) (k : Nat) : Int := (l.getD k ⟨0, 0⟩).to
theorem toAt_get {l : List Pr} {k : Nat} (h : k < l.length) : l[k].to = toAt l k := by
  rw [toAt, List.getD_eq_getElem?_getD, List.getElem?_eq_getElem h]; rfl
def stepC (c : Ch) (k : Nat) : Ch :=
  if toAt c.ps k = c.start then ⟨c.g, c.start, cut c.ps k, c.seen, true⟩
  else if (nodeAt c.g (toAt c.ps k)).k ≠ 0 ∧ seenAt c.seen (toAt c.ps k) = false then ⟨c.g, c.start, cut c.ps k ++ prs (toAt c.ps k) (nodeAt c.g (toAt c.ps k)).next, c.seen.set (toAt c.ps k).toNat true, c.dec⟩
  else ⟨c.g, c.start, cut c.ps k, c.seen, c.dec⟩
def stepE (c : Ch) (k : Int) : Int := if ¬ c.ok then 2 else if k < 0 ∨ (c.ps.length : Int) ≤ k then 1 else 0
theorem pv_take (l : List Pr) (n : Nat) : (pv l).take n = pv (l.take n) := by simp [pv, List.map_take]
theorem pv_drop (l : List Pr) (n : Nat) : (pv l).drop n = pv (l.drop n) := by simp [pv, List.map_drop]
theorem lv_set (s : List Bool) (i : Nat) (b : Bool) : (lv s).set i (.s (.bool b)) = lv (s.set i b) := by simp [lv, List.map_set]
theorem ok_to {c : Ch} (h : c.ok) {k : Nat} (hk : k < c.ps.length) : 0 ≤ toAt c.ps k ∧ toAt c.ps k < c.g.length := by
  have hp := h.2.2.2.2.2.2 _ (List.getElem_mem hk)
  have := asc_mem (gOk_node h.1 hp.1 hp.2.1).2.2.2 _ hp.2.2.2
  rw [toAt_get hk] at this
  omega
theorem ok_k {c : Ch} (h : c.ok) {i : Int} (h0 : 0 ≤ i) (h1 : i < c.g.length) : 0 ≤ (nodeAt c.g i).k := (gOk_node h.1 h0 h1).1
set_option maxHeartbeats 16000000 in
set_option maxRecDepth 10000 in
theorem Step_pc (c : Ch) (k : Int) (hs : c.sm) : PC Try.prog 14 [c.v, .s (.int .i64 k)] (fun r => r = res (stepE c k) (stepC c k.toNat)) := by
  refine pc_end c14 mixed rfl ?_
  have hv := Valid_pc c hs
  simp only [Ch.v, Ch.cells] at hv
  simp -implicitDefEqProofs [a14, F14, Ch.v, Ch.cells]
  refine wk_take ?_
  simp -implicitDefEqProofs
  refine wc_of hv (by simp) (by simp) ?_
  rintro _ rfl
  by_cases ho : c.ok
  case neg => simp -implicitDefEqProofs [ho, res, stepE, zC]
  by_cases k1 : k < 0
  · simp -implicitDefEqProofs [ho, k1, res, stepE, zC]
  by_cases k2 : k ≥ c.ps.length
  · have k2' : (c.ps.length : Int) ≤ k := k2
    simp -implicitDefEqProofs [ho, k1, k2, k2', res, stepE, zC]
  obtain ⟨n, rfl⟩ : ∃ n : Nat, k = n := ⟨k.toNat, by omega⟩
  have k1 : ¬ (n : Int) < 0 := k1
  have hn : n < c.ps.length := by omega
  have hto := ok_to ho hn
  have hps := hs.ps
  have hsn := hs.seen
  have hst : (stepE c n) = 0 := by
    have : ¬ ((n : Int) < 0 ∨ (c.ps.length : Int) ≤ n) := by omega
    rw [stepE, if_neg (fun h => h ho), if_neg this]
  simp -implicitDefEqProofs [ho, k1, k2]
  refine wkd_take ?_
  simp -implicitDefEqProofs
  refine wcd_of (copyGraph_pc c.g hs.g hs.nx) (by simp) (by simp) ?_
  have b1 : c.seen.length ≤ maxLen ∧ c.seen.length ≤ maxBytes := by simp [maxLen, maxBytes]; omega
  have n1 : n ≤ c.ps.length := by omega
  have n2 : min n c.ps.length = n := by omega
  have m1 : n ≤ maxLen ∧ n * 16 ≤ maxBytes := by simp [maxLen, maxBytes]; omega
  have m2 : n + (c.ps.length - (n + 1)) ≤ maxLen ∧ (n + (c.ps.length - (n + 1))) * 16 ≤ maxBytes := by simp [maxLen, maxBytes]; omega
  have w1 : IntKind.i64.wrap ((n : Int) + 1) = ((n + 1 : Nat) : Int) := by rw [wrap64 (by omega)]; rfl
  have l3 : ¬ ((n : Int) + 1) < 0 := by omega
  have l4 : n + 1 ≤ c.ps.length := by omega
  have l5 : (c.ps.drop (n + 1)).take (c.ps.length - (n + 1)) = c.ps.drop (n + 1) := List.take_of_length_le (by simp)
  have hpt : (pv c.ps)[n]? = some (.agg [.s (.int .i64 c.ps[n].frm), .s (.int .i64 (toAt c.ps n))]) := by rw [pv_get hn, toAt_get hn]
  simp -implicitDefEqProofs [natlt0, b1, n1, n2, m1, m2, w1, l3, l4, l5, pv_take, pv_drop, hpt]
  have t3 : ¬ toAt c.ps n < 0 := by omega
  by_cases t1' : toAt c.ps n = c.start
  · have t1 : (toAt c.ps n == c.start) = true := by simpa using t1'
    simp -implicitDefEqProofs [t1, res, hst, stepC, cut, Ch.v, Ch.cells, t1']
  have t1 : (toAt c.ps n == c.start) = false := by simpa using t1'
  have hg := gv_at (g := c.g) (i := toAt c.ps n) hto.1 hto.2
  have hl := lv_at (s := c.seen) (i := toAt c.ps n) hto.1 (by have := ho.2.2.2.2.1; omega)
  have hx := hs.nx _ (nodeAt_mem (g := c.g) (i := toAt c.ps n) hto.1 hto.2)
  have hlen : (toAt c.ps n).toNat < c.seen.length := by have := ho.2.2.2.2.1; omega
  have hle : (lv c.seen)[(toAt c.ps n).toNat]'(by simpa using hlen) = .s (.bool (seenAt c.seen (toAt c.ps n))) := by
    have := List.getElem?_eq_getElem (l := lv c.seen) (i := (toAt c.ps n).toNat) (by simpa using hlen)
    rw [hl] at this
    exact (Option.some.inj this).symm
  by_cases t2' : (nodeAt c.g (toAt c.ps n)).k = 0
  · have t2 : ((nodeAt c.g (toAt c.ps n)).k != 0) = false := by simpa using t2'
    simp -implicitDefEqProofs [t1, res, hst, stepC, cut, Ch.v, Ch.cells, t1', t2, t2', t3, hg]
  have t2 : ((nodeAt c.g (toAt c.ps n)).k != 0) = true := by simpa using t2'
  by_cases t4 : seenAt c.seen (toAt c.ps n) = true
  · simp -implicitDefEqProofs [t1, res, hst, stepC, cut, Ch.v, Ch.cells, t1', t2, t2', t3, t4, hg, hle, hlen]
  have t4 : seenAt c.seen (toAt c.ps n) = false := by simpa using t4
  simp -implicitDefEqProofs [t1, t2, t3, t4, hg, hle, hlen, lv_set]
  refine wk_hand ?_
  simp -implicitDefEqProofs
  refine wa_of (sendOk _ (cut c.ps n) (.inl (by simp [cut])) (by simp [cut]; omega) c.g (toAt c.ps n) hto.1 hto.2 hx) send1 ?_
  rintro y _ ⟨hy, rfl⟩
  refine ⟨rfl, ?_⟩
  rcases hy with rfl | ⟨hy, _⟩
  · simp -implicitDefEqProofs [res, hst, stepC, cut, Ch.v, Ch.cells, t1', t2', t4]
  · have h1 := gOk_node ho.1 hto.1 hto.2
    have h2 := congrArg List.length (List.append_eq_nil_iff.1 hy).2
    rw [prs_length, List.length_nil] at h2
    omega
end Go.Proofs.Ytbbhenjhghbimaa

namespace Go.Proofs.Ytbbhenjhghbimaa
open Go.RowKit Go.Proofs

set_option maxHeartbeats 16000000 in
set_option maxRecDepth 10000 in
theorem rStep_pc (c : Ch) (k : Int) (hs : c.sm) : PC Try.prog 15 [c.v, .s (.int .i64 k)] (fun r => r = res (stepE c k) (stepC c k.toNat)) := by
  refine pc_end c15 mixed rfl ?_
  have hv := rValid_pc c hs
  simp only [Ch.v, Ch.cells] at hv
  simp -implicitDefEqProofs [a15, F15, Ch.v, Ch.cells]
  refine wk_take ?_
  simp -implicitDefEqProofs
  refine wc_of hv (by simp) (by simp) ?_
  rintro _ rfl
  by_cases ho : c.ok
  case neg => simp -implicitDefEqProofs [ho, res, stepE, zC]
  by_cases k1 : k < 0
  · simp -implicitDefEqProofs [ho, k1, res, stepE, zC]
  by_cases k2 : k ≥ c.ps.length
  · have k2' : (c.ps.length : Int) ≤ k := k2
    simp -implicitDefEqProofs [ho, k1, k2, k2', res, stepE, zC]
  obtain ⟨n, rfl⟩ : ∃ n : Nat, k = n := ⟨k.toNat, by omega⟩
  have k1 : ¬ (n : Int) < 0 := k1
  have hn : n < c.ps.length := by omega
  have hto := ok_to ho hn
  have hps := hs.ps
  have hsn := hs.seen
  have hst : (stepE c n) = 0 := by
    have : ¬ ((n : Int) < 0 ∨ (c.ps.length : Int) ≤ n) := by omega
    rw [stepE, if_neg (fun h => h ho), if_neg this]
  have b1 : c.seen.length ≤ maxLen ∧ c.seen.length ≤ maxBytes := by simp [maxLen, maxBytes]; omega
  have n1 : n ≤ c.ps.length := by omega
  have n2 : min n c.ps.length = n := by omega
  have m1 : n ≤ maxLen ∧ n * 16 ≤ maxBytes := by simp [maxLen, maxBytes]; omega
  have m2 : n + (c.ps.length - (n + 1)) ≤ maxLen ∧ (n + (c.ps.length - (n + 1))) * 16 ≤ maxBytes := by simp [maxLen, maxBytes]; omega
  have w1 : IntKind.i64.wrap ((n : Int) + 1) = ((n + 1 : Nat) : Int) := by rw [wrap64 (by omega)]; rfl
  have l3 : ¬ ((n : Int) + 1) < 0 := by omega
  have l4 : n + 1 ≤ c.ps.length := by omega
  have l5 : (c.ps.drop (n + 1)).take (c.ps.length - (n + 1)) = c.ps.drop (n + 1) := List.take_of_length_le (by simp)
  have hpt : (pv c.ps)[n]? = some (.agg [.s (.int .i64 c.ps[n].frm), .s (.int .i64 (toAt c.ps n))]) := by rw [pv_get hn, toAt_get hn]
  simp -implicitDefEqProofs [ho, k1, k2, natlt0, hpt]
  refine wkd_take ?_
  simp -implicitDefEqProofs
  refine wcd_of (rCopy_pc c.g hs.g hs.nx) (by simp) (by simp) ?_
  simp -implicitDefEqProofs [natlt0, b1, n1, n2, m1, m2, w1, l3, l4, l5, pv_take, pv_drop, hpt]
  have t3 : ¬ toAt c.ps n < 0 := by omega
  by_cases t1' : toAt c.ps n = c.start
  · have t1 : (toAt c.ps n == c.start) = true := by simpa using t1'
    simp -implicitDefEqProofs [t1, res, hst, stepC, cut, Ch.v, Ch.cells, t1']
  have t1 : (toAt c.ps n == c.start) = false := by simpa using t1'
  have hg := gv_at (g := c.g) (i := toAt c.ps n) hto.1 hto.2
  have hl := lv_at (s := c.seen) (i := toAt c.ps n) hto.1 (by have := ho.2.2.2.2.1; omega)
  have hx := hs.nx _ (nodeAt_mem (g := c.g) (i := toAt c.ps n) hto.1 hto.2)
  have hkk := ok_k ho hto.1 hto.2
  by_cases t2' : (nodeAt c.g (toAt c.ps n)).k = 0
  · have t2 : ¬ (nodeAt c.g (toAt c.ps n)).k > 0 := by omega
    simp -implicitDefEqProofs [t1, res, hst, stepC, cut, Ch.v, Ch.cells, t1', t2, t2', t3, hg]
  have t2 : 0 < (nodeAt c.g (toAt c.ps n)).k := by omega
  by_cases t4 : seenAt c.seen (toAt c.ps n) = true
  · simp -implicitDefEqProofs [t1, res, hst, stepC, cut, Ch.v, Ch.cells, t1', t2, t2', t3, t4, hg, hl]
  have t4 : seenAt c.seen (toAt c.ps n) = false := by simpa using t4
  have hlen : (toAt c.ps n).toNat < c.seen.length := by have := ho.2.2.2.2.1; omega
  have hle : (lv c.seen)[(toAt c.ps n).toNat]'(by simpa using hlen) = .s (.bool (seenAt c.seen (toAt c.ps n))) := by
    have := List.getElem?_eq_getElem (l := lv c.seen) (i := (toAt c.ps n).toNat) (by simpa using hlen)
    rw [hl] at this
    exact (Option.some.inj this).symm
  have m3 : n + (c.ps.length - (n + 1)) + (nodeAt c.g (toAt c.ps n)).next.length ≤ maxLen ∧ (n + (c.ps.length - (n + 1)) + (nodeAt c.g (toAt c.ps n)).next.length) * 16 ≤ maxBytes := by simp [maxLen, maxBytes]; omega
  simp -implicitDefEqProofs [t1, t2, t3, t4, hg, hle, hlen, lv_set]
  refine wkd_take ?_
  simp -implicitDefEqProofs
  refine wcd_of (probesOk c.g (toAt c.ps n) hto.1 hto.2 hx) (by simp) (by simp) ?_
  simp -implicitDefEqProofs [res, hst, stepC, cut, Ch.v, Ch.cells, t1', t2', t4, n2, m3]
end Go.Proofs.Ytbbhenjhghbimaa

namespace Go.Proofs.Ytbbhenjhghbimaa
open Go.RowKit Go.Proofs

def smallG (g : List Nd) : Bool := decide (g.length ≤ 30) && g.all fun n => decide (n.next.length ≤ 30)
def smInv (g : List Nd) (m : Nat) (S : St) : Prop := ∃ i, i + m = g.length ∧ smallG g = (g.drop i).all (fun n => decide (n.next.length ≤ 30)) ∧ S = ⟨tmL [(8, .list 2 (gv g)), (9, .s (.int .i64 g.length)), (10, .s (.int .i64 i))], [.list 2 (gv g), .s (.bool false)], [], 0⟩
theorem small_pc (g : List Nd) : PC Try.prog 7 [.list 2 (gv g)] (fun r => r = .s (.bool (smallG g))) := by
  refine pc_end c7 mixed rfl ?_
  by_cases h : g.length ≤ 30
  · have h' : ¬ (g.length : Int) > 30 := by omega
    simp -implicitDefEqProofs [a7, F7, h']
    refine w_rounds [8, 9, 10] [] 0 (Nat.le_refl _) (smInv g) g.length ⟨by simp, 0, by simp, by simp [smallG, h], by simp⟩ ?_
    rintro m S ⟨i, hi, ha, rfl⟩
    by_cases hm : i < g.length
    · have h1 : (i : Int) < g.length := by omega
      have h0 : ¬ (i : Int) < 0 := by omega
      rw [all_drop hm] at ha
      by_cases hx : g[i].next.length ≤ 30
      · have hx' : ¬ (g[i].next.length : Int) > 30 := by omega
        simp -implicitDefEqProofs [h1, h0, gv_get hm, hx']
        exact ⟨m - 1, by omega, i + 1, by omega, by rw [ha, decide_eq_true hx, Bool.true_and], by rw [wrap64 (by omega)]; rfl⟩
      · have hx' : (g[i].next.length : Int) > 30 := by omega
        have : smallG g = false := by rw [ha, decide_eq_false hx]; rfl
        simp -implicitDefEqProofs [h1, h0, gv_get hm, hx', this]
    · have h1 : ¬ (i : Int) < g.length := by omega
      have : smallG g = true := by rw [ha, List.drop_eq_nil_of_le (by omega)]; rfl
      simp -implicitDefEqProofs [h1, this]
  · have h' : (g.length : Int) > 30 := by omega
    have : smallG g = false := by simp [smallG, h]
    simp -implicitDefEqProofs [a7, F7, h', this]
theorem smallG_of {g : List Nd} (h : smallG g = true) : g.length ≤ 30 ∧ ∀ n ∈ g, n.next.length ≤ 30 := by
  simp only [smallG, Bool.and_eq_true, decide_eq_true_eq, List.all_eq_true] at h
  exact h
def edgs (g : List Nd) : Nat := (g.map fun n => n.next.length).sum
def edInv (g : List Nd) (m : Nat) (S : St) : Prop := ∃ i n, i + m = g.length ∧ n + edgs (g.drop i) = edgs g ∧ S = ⟨tmL [(6, .list 2 (gv g)), (7, .s (.int .i64 g.length)), (8, .s (.int .i64 i))], [.list 2 (gv g), .s (.int .i64 0), .s (.int .i64 (n : Nat))], [], 0⟩
theorem edgs_pc (g : List Nd) (hl : g.length ≤ 1000000) (he : edgs g ≤ 1000000) : PC Try.prog 22 [.list 2 (gv g)] (fun r => r = .s (.int .i64 (edgs g))) := by
  refine pc_end c22 mixed rfl ?_
  simp -implicitDefEqProofs [a22, F22]
  refine w_rounds [6, 7, 8] [] 0 (Nat.le_refl _) (edInv g) g.length ⟨by simp, 0, 0, by simp, by simp, by simp⟩ ?_
  rintro m S ⟨i, n, hi, ha, rfl⟩
  by_cases hm : i < g.length
  · have h1 : (i : Int) < g.length := by omega
    have h0 : ¬ (i : Int) < 0 := by omega
    have e1 : edgs (g.drop i) = g[i].next.length + edgs (g.drop (i + 1)) := by rw [List.drop_eq_getElem_cons hm]; rfl
    simp -implicitDefEqProofs [h1, h0, gv_get hm]
    exact ⟨m - 1, by omega, i + 1, n + g[i].next.length, by omega, by omega, by rw [wrap64 (by omega), wrap64 (by omega)]; rfl⟩
  · have h1 : ¬ (i : Int) < g.length := by omega
    have : n = edgs g := by rw [List.drop_eq_nil_of_le (by omega)] at ha; simpa [edgs] using ha
    simp -implicitDefEqProofs [h1, this]
def g0 : List Nd := [⟨1, [1]⟩, ⟨1, [0]⟩]
def c0 : Ch := ⟨g0, 0, [⟨0, 1⟩], [false, false], false⟩
def c1 : Ch := ⟨g0, 0, [⟨1, 0⟩], [false, true], false⟩
def c2 : Ch := ⟨g0, 0, [], [false, true], true⟩
theorem c0_ok : c0.ok := by decide
theorem c1_ok : c1.ok := by decide
theorem c2_ok : c2.ok := by decide
theorem c0_sm : c0.sm := ⟨by decide, by decide, by decide, by decide⟩
theorem c1_sm : c1.sm := ⟨by decide, by decide, by decide, by decide⟩
theorem c2_sm : c2.sm := ⟨by decide, by decide, by decide, by decide⟩
theorem aw1 : PC Try.prog 10 [.list 2 (gv g0), .s (.int .i64 0)] (fun r => r = .tup [c0.v, .s (.int .i64 0)]) := Begin_pc g0 0 (by decide) (by decide)
theorem aw2 : PC Try.prog 14 [c0.v, .s (.int .i64 0)] (fun r => r = .tup [c1.v, .s (.int .i64 0)]) := by
  have e1 : stepE c0 0 = 0 := by decide
  have e2 : stepC c0 0 = c1 := by decide
  have := Step_pc c0 0 c0_sm
  rwa [e1, show (0 : Int).toNat = 0 from rfl, e2] at this
theorem aw3 : PC Try.prog 14 [c1.v, .s (.int .i64 0)] (fun r => r = .tup [c2.v, .s (.int .i64 0)]) := by
  have e1 : stepE c1 0 = 0 := by decide
  have e2 : stepC c1 0 = c2 := by decide
  have := Step_pc c1 0 c1_sm
  rwa [e1, show (0 : Int).toNat = 0 from rfl, e2] at this
theorem aw4 : PC Try.prog 16 [c2.v] (fun r => r = .s (.bool true)) := by
  have e1 : c2.over = true := by decide
  have := Over_pc c2 c2_sm
  rwa [e1] at this
theorem aw5 : PC Try.prog 18 [c2.v] (fun r => r = .s (.bool true)) := by
  have := Valid_pc c2 c2_sm
  rwa [decide_eq_true c2_ok] at this
theorem awake_pc : PC Try.prog 8 [] (fun r => r = .s (.bool true)) := by
  refine pc_end c8 mixed rfl ?_
  simp -implicitDefEqProofs [a8, F8]
  refine wk_take ?_
  simp -implicitDefEqProofs
  refine wc_of aw1 (by rfl) (by rfl) ?_
  rintro _ rfl
  simp -implicitDefEqProofs [Ch.v, Ch.cells, c0, pv]
  refine wk_take ?_
  simp -implicitDefEqProofs
  refine wc_of aw2 (by rfl) (by rfl) ?_
  rintro _ rfl
  simp -implicitDefEqProofs [Ch.v, Ch.cells, c1, pv]
  refine wk_take ?_
  simp -implicitDefEqProofs
  refine wc_of aw3 (by rfl) (by rfl) ?_
  rintro _ rfl
  simp -implicitDefEqProofs [Ch.v, Ch.cells, c2, pv]
  refine wk_take ?_
  simp -implicitDefEqProofs
  refine wc_of aw4 (by rfl) (by rfl) ?_
  rintro _ rfl
  simp -implicitDefEqProofs
  refine wk_take ?_
  simp -implicitDefEqProofs
  refine wc_of aw5 (by rfl) (by rfl) ?_
  rintro _ rfl
  simp -implicitDefEqProofs
end Go.Proofs.Ytbbhenjhghbimaa
