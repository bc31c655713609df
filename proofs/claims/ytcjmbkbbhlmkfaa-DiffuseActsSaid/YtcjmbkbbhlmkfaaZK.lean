/- Texts put behind one another: K1, K2, K3, K4, K5, K6, K7. -/
import Derived.Test.YtcjmbkbbhlmkfaaZL
import Derived.Test.YtcjmbkbbhlmkfaaZE
set_option linter.unusedVariables false
set_option linter.unusedSimpArgs false
namespace Go.Proofs.Ytcjmbkbbhlmkfaa
open Go.RowKit Go.Proofs

theorem wrap64 {n : Int} (h : -9223372036854775808 ≤ n ∧ n < 9223372036854775808) : IntKind.i64.wrap n = n := by rw [IntKind.wrap_i64]; omega
def iv (xs : List Int) : List V := xs.map fun n => .s (.int .i64 n)
@[simp] theorem iv_length (xs : List Int) : (iv xs).length = xs.length := by simp [iv]
theorem iv_get {xs : List Int} {i : Nat} (h : i < xs.length) : (iv xs)[i]? = some (.s (.int .i64 xs[i])) := by simp [iv, h]
def lv (xs : List Bool) : List V := xs.map fun b => .s (.bool b)
@[simp] theorem lv_length (xs : List Bool) : (lv xs).length = xs.length := by simp [lv]
theorem lv_get {xs : List Bool} {i : Nat} (h : i < xs.length) : (lv xs)[i]? = some (.s (.bool xs[i])) := by simp [lv, h]
theorem mem_take1 {l : List Int} {i : Nat} (h : i < l.length) (x : Int) : x ∈ l.take (i + 1) ↔ x ∈ l.take i ∨ x = l[i] := by
  rw [List.take_add_one, List.getElem?_eq_getElem h, List.mem_append]; simp
theorem take_eq1 {α : Type} {l k : List α} {i : Nat} (h1 : i < l.length) (h2 : i < k.length) (ht : l.take i = k.take i) (h : l[i] = k[i]) : l.take (i + 1) = k.take (i + 1) := by
  rw [List.take_add_one, List.take_add_one, ht, List.getElem?_eq_getElem h1, List.getElem?_eq_getElem h2, h]
theorem tmod_pos {n m : Int} (h : 0 < m) : (n.tmod m < 0 ∧ n.tmod m + m = n % m) ∨ (¬ n.tmod m < 0 ∧ n.tmod m = n % m) := by
  rw [Int.tmod_eq_emod]
  have hb := Int.emod_nonneg n (b := m) (by omega)
  have hc := Int.emod_lt_of_pos n h
  split
  · right; omega
  · left; omega

theorem Mod_pc (n m : Int) (h1 : 1 ≤ m) (h2 : m ≤ 4611686018427387904) : PC Try.prog 13 [.s (.int .i64 n), .s (.int .i64 m)] (fun r => r = .s (.int .i64 (n % m))) := by
  refine pc_end c13 mixed rfl ?_
  have e1 : ¬ m < 1 := by omega
  have e2 : ¬ m = 0 := by omega
  have hb := Int.emod_nonneg n (b := m) (by omega)
  have hc := Int.emod_lt_of_pos n (b := m) (by omega)
  rcases tmod_pos (n := n) (m := m) (by omega) with ⟨h3, h4⟩ | ⟨h3, h4⟩
  · have e3 : IntKind.i64.wrap (n % m) = n % m := wrap64 (by omega)
    simp -implicitDefEqProofs [a13, F13, e1, e2, h3, h4, e3]
  · have h5 : ¬ n % m < 0 := by omega
    simp -implicitDefEqProofs [a13, F13, e1, e2, h4, h5]
/-- a tape in a box -/
def tapeB (xs : List Int) (k : Nat) : List V := [.list 1 (iv xs), .s (.int .i64 k)]
def nx (xs : List Int) (k : Nat) (m : Int) : Int := if h : k < xs.length then xs[k] % m else 0
def nat1 (xs : List Int) (k : Nat) : Nat := if k < xs.length then k + 1 else k
theorem nx_bd (xs : List Int) (k : Nat) {m : Int} (h : 0 < m) : 0 ≤ nx xs k m ∧ nx xs k m < m := by
  unfold nx
  split
  · exact ⟨Int.emod_nonneg _ (by omega), Int.emod_lt_of_pos _ h⟩
  · exact ⟨Int.le_refl _, h⟩
theorem nat1_le {xs : List Int} {k : Nat} (h : k ≤ xs.length) : nat1 xs k ≤ xs.length ∧ k ≤ nat1 xs k := by unfold nat1; split <;> omega
theorem Next_ac (xs : List Int) (k : Nat) (m : Int) (h1 : 1 ≤ m) (h2 : m ≤ 4611686018427387904) (hk : k ≤ 1000000) : AC Try.prog 24 [.ptr 0 0, .s (.int .i64 m)] [tapeB xs k] (fun r bs => r = .s (.int .i64 (nx xs k m)) ∧ bs = [tapeB xs (nat1 xs k)]) := by
  refine ac_end c24 mixed rfl ?_
  by_cases h : k < xs.length
  · have g1 : ¬ (k : Int) ≥ xs.length := by omega
    have w1 : IntKind.i64.wrap ((k : Int) + 1) = (k : Int) + 1 := wrap64 (by omega)
    have w2 : IntKind.i64.wrap ((k : Int) + 1 - 1) = (k : Int) := by rw [wrap64 (by omega)]; omega
    have w3 : IntKind.i64.wrap (k : Int) = (k : Int) := wrap64 (by omega)
    have k0 : ¬ (k : Int) < 0 := by omega
    simp -implicitDefEqProofs [a24, F24, tapeB, g1, w1, w2, w3, k0, iv_get h]
    refine wkd_take ?_
    simp -implicitDefEqProofs
    refine wcd_of (Mod_pc xs[k] m h1 h2) (by simp) (by simp) ?_
    simp -implicitDefEqProofs
    refine retA_of 1 ?_
    simp -implicitDefEqProofs [tapeB, nx, nat1, h]
  · have g1 : (k : Int) ≥ xs.length := by omega
    simp -implicitDefEqProofs [a24, F24, tapeB, g1]
    refine retA_of 1 ?_
    simp -implicitDefEqProofs [tapeB, nx, nat1, h]

def ixInv (l : List Int) (x : Int) (m : Nat) (S : St) : Prop := ∃ i, i + m = l.length ∧ x ∉ l.take i ∧ S = ⟨tmL [(6, .list 1 (iv l)), (7, .s (.int .i64 l.length)), (8, .s (.int .i64 i))], [.list 1 (iv l), .s (.int .i64 x), .s (.int .i64 0), .no], [], 0⟩
theorem Index_pc (l : List Int) (x : Int) (hl : l.length ≤ 1000000) : PC Try.prog 42 [.list 1 (iv l), .s (.int .i64 x)] (fun r => ∃ n : Int, r = .s (.int .i64 n) ∧ (0 ≤ n ↔ x ∈ l)) := by
  refine pc_end c42 mixed rfl ?_
  simp -implicitDefEqProofs [a42, F42]
  refine w_rounds [6, 7, 8] [3] 0 (Nat.le_refl _) (ixInv l x) l.length ⟨by simp, 0, by simp, by simp, by simp⟩ ?_
  rintro m S ⟨i, hi, hx, rfl⟩
  by_cases hm : i < l.length
  · have h1 : (i : Int) < l.length := by omega
    have h0 : ¬ (i : Int) < 0 := by omega
    by_cases he : x = l[i]
    · have : x ∈ l := he ▸ List.getElem_mem hm
      simp -implicitDefEqProofs [h1, h0, iv_get hm, ← he, this]
    · have he' : (x == l[i]) = false := by simpa using he
      simp -implicitDefEqProofs [h1, h0, iv_get hm, he']
      exact ⟨m - 1, by omega, i + 1, by omega, by rw [mem_take1 hm]; exact fun q => q.elim hx he, by rw [wrap64 (by omega)]; rfl⟩
  · have h1 : ¬ (i : Int) < l.length := by omega
    have : x ∉ l := by rwa [List.take_of_length_le (by omega)] at hx
    have h2 : i = l.length := by omega
    simp -implicitDefEqProofs [h2, this]
theorem Contains_pc (l : List Int) (x : Int) (hl : l.length ≤ 1000000) : PC Try.prog 41 [.list 1 (iv l), .s (.int .i64 x)] (fun r => r = .s (.bool (decide (x ∈ l)))) := by
  refine pc_end c41 mixed rfl ?_
  simp -implicitDefEqProofs [a41, F41]
  refine wk_take ?_
  simp -implicitDefEqProofs
  refine wc_of (Index_pc l x hl) (by simp) (by simp) ?_
  rintro _ ⟨n, rfl, hn⟩
  simp -implicitDefEqProofs [hn]
def siInv (xs ys : List Int) (m : Nat) (S : St) : Prop := ∃ i, i + m = xs.length ∧ xs.take i = ys.take i ∧ S = ⟨tmL [], [.list 1 (iv xs), .list 1 (iv ys), .s (.bool false), .s (.int .i64 i)], [], 0⟩
theorem SameInts_pc (xs ys : List Int) (hl : xs.length ≤ 1000000) : PC Try.prog 32 [.list 1 (iv xs), .list 1 (iv ys)] (fun r => r = .s (.bool (decide (xs = ys)))) := by
  refine pc_end c32 mixed rfl ?_
  by_cases h : xs.length = ys.length
  · simp -implicitDefEqProofs [a32, F32, h]
    refine w_rounds [] [] 0 (Nat.le_refl _) (siInv xs ys) xs.length ⟨by simp, 0, by simp, by simp, by simp⟩ ?_
    rintro m S ⟨i, hi, ht, rfl⟩
    by_cases hm : i < xs.length
    · have h1 : (i : Int) < xs.length := by omega
      have h0 : ¬ (i : Int) < 0 := by omega
      have hm' : i < ys.length := by omega
      by_cases he : xs[i] = ys[i]
      · simp -implicitDefEqProofs [h1, h0, iv_get hm, iv_get hm', he]
        exact ⟨m - 1, by omega, i + 1, by omega, take_eq1 hm hm' ht he, by rw [wrap64 (by omega)]; rfl⟩
      · have he' : (xs[i] != ys[i]) = true := by simpa using he
        have : xs ≠ ys := fun q => he (by subst q; rfl)
        simp -implicitDefEqProofs [h1, h0, iv_get hm, iv_get hm', he', this]
    · have h1 : ¬ (i : Int) < xs.length := by omega
      have : xs = ys := by rwa [List.take_of_length_le (by omega), List.take_of_length_le (by omega)] at ht
      subst this
      simp -implicitDefEqProofs [hm]
  · have h' : ((xs.length : Int) != ys.length) = true := by
      have : ¬ (xs.length : Int) = ys.length := by omega
      simpa using this
    have : xs ≠ ys := fun q => h (by rw [q])
    simp -implicitDefEqProofs [a32, F32, h', this]
def sbInv (xs ys : List Bool) (m : Nat) (S : St) : Prop := ∃ i, i + m = xs.length ∧ xs.take i = ys.take i ∧ S = ⟨tmL [], [.list 1 (lv xs), .list 1 (lv ys), .s (.bool false), .s (.int .i64 i)], [], 0⟩
theorem SameBools_pc (xs ys : List Bool) (hl : xs.length ≤ 1000000) : PC Try.prog 22 [.list 1 (lv xs), .list 1 (lv ys)] (fun r => r = .s (.bool (decide (xs = ys)))) := by
  refine pc_end c22 mixed rfl ?_
  by_cases h : xs.length = ys.length
  · simp -implicitDefEqProofs [a22, F22, h]
    refine w_rounds [] [] 0 (Nat.le_refl _) (sbInv xs ys) xs.length ⟨by simp, 0, by simp, by simp, by simp⟩ ?_
    rintro m S ⟨i, hi, ht, rfl⟩
    by_cases hm : i < xs.length
    · have h1 : (i : Int) < xs.length := by omega
      have h0 : ¬ (i : Int) < 0 := by omega
      have hm' : i < ys.length := by omega
      by_cases he : xs[i] = ys[i]
      · simp -implicitDefEqProofs [h1, h0, lv_get hm, lv_get hm', he]
        exact ⟨m - 1, by omega, i + 1, by omega, take_eq1 hm hm' ht he, by rw [wrap64 (by omega)]; rfl⟩
      · have he' : (xs[i] == ys[i]) = false := by simpa using he
        have : xs ≠ ys := fun q => he (by subst q; rfl)
        simp -implicitDefEqProofs [h1, h0, lv_get hm, lv_get hm', he', this]
    · have h1 : ¬ (i : Int) < xs.length := by omega
      have : xs = ys := by rwa [List.take_of_length_le (by omega), List.take_of_length_le (by omega)] at ht
      subst this
      simp -implicitDefEqProofs [hm]
  · have h' : ((xs.length : Int) != ys.length) = true := by
      have : ¬ (xs.length : Int) = ys.length := by omega
      simpa using this
    have : xs ≠ ys := fun q => h (by rw [q])
    simp -implicitDefEqProofs [a22, F22, h', this]
theorem Clone_pc (xs : List Int) (hl : xs.length ≤ 1000000) : PC Try.prog 38 [.list 1 (iv xs)] (fun r => r = .list 1 (iv xs)) := by
  refine pc_frz ?_
  refine pc_end c38 mixed rfl ?_
  have h1 : xs.length ≤ maxLen ∧ xs.length * 8 ≤ maxBytes := by simp [maxLen, maxBytes]; omega
  simp -implicitDefEqProofs [a38, F38, h1]
end Go.Proofs.Ytcjmbkbbhlmkfaa

namespace Go.Proofs.Ytcjmbkbbhlmkfaa
open Go.RowKit Go.Proofs

structure Nd where
  k : Int
  next : List Int
deriving DecidableEq
def Nd.v (n : Nd) : V := .agg [.s (.int .i64 n.k), .list 1 (iv n.next)]
def gv (g : List Nd) : List V := g.map Nd.v
@[simp] theorem gv_length (g : List Nd) : (gv g).length = g.length := by simp [gv]
theorem gv_get {g : List Nd} {i : Nat} (h : i < g.length) : (gv g)[i]? = some (.agg [.s (.int .i64 g[i].k), .list 1 (iv g[i].next)]) := by simp [gv, Nd.v, h]
/-- ascending numbers between two bounds -/
def asc (lo N : Int) : List Int → Bool
  | [] => true
  | j :: r => decide (lo < j) && decide (j < N) && asc j N r
theorem asc_len {N : Int} : ∀ {l : List Int} {lo : Int}, asc lo N l = true → lo < N → lo + l.length < N
  | [], lo, _, h => by simpa using h
  | j :: r, lo, h, hl => by
    simp only [asc, Bool.and_eq_true, decide_eq_true_eq] at h
    have := asc_len h.2 h.1.2
    simp
    omega
theorem asc_mem {N : Int} : ∀ {l : List Int} {lo : Int}, asc lo N l = true → ∀ x ∈ l, lo < x ∧ x < N
  | [], lo, _, x, hx => by simp at hx
  | j :: r, lo, h, x, hx => by
    simp only [asc, Bool.and_eq_true, decide_eq_true_eq] at h
    rcases List.mem_cons.1 hx with rfl | hx
    · exact h.1
    · have := asc_mem h.2 x hx
      omega
def Nd.ok (N : Int) (n : Nd) : Bool := decide (0 ≤ n.k ∧ n.k ≤ n.next.length ∧ (n.k = 0 → n.next.length = 0)) && asc (-1) N n.next
def gOk (g : List Nd) : Bool := decide (g.length ≤ 160) && g.all (Nd.ok g.length)
theorem natlt0 (n : Nat) : ((n : Int) < 0) = False := by simp
theorem all_drop {α : Type} {g : List α} {i : Nat} (h : i < g.length) (f : α → Bool) : (g.drop i).all f = (f g[i] && (g.drop (i + 1)).all f) := by rw [List.drop_eq_getElem_cons h]; rfl
theorem asc_drop {l : List Int} {i : Nat} (h : i < l.length) (lo N : Int) : asc lo N (l.drop i) = (decide (lo < l[i]) && decide (l[i] < N) && asc l[i] N (l.drop (i + 1))) := by rw [List.drop_eq_getElem_cons h]; rfl
/-- production -/
def vfOut (g : List Nd) (m : Nat) (S : St) : Prop := ∃ i, i + m = g.length ∧ g.all (Nd.ok g.length) = (g.drop i).all (Nd.ok g.length) ∧ S = ⟨tmL [(11, .list 2 (gv g)), (12, .s (.int .i64 g.length)), (13, .s (.int .i64 i))], [.list 2 (gv g), .s (.bool false), .no, .no], [], 0⟩
def vfIn (g : List Nd) (n : Nd) (i : Nat) (m : Nat) (S : St) : Prop := ∃ j last, j + m = n.next.length ∧ asc (-1) g.length n.next = asc last g.length (n.next.drop j) ∧ S = ⟨tmL [(4, .ptr 0 0), (11, .list 2 (gv g)), (12, .s (.int .i64 g.length)), (13, .s (.int .i64 i)), (40, .list 1 (iv n.next)), (41, .s (.int .i64 n.next.length)), (42, .s (.int .i64 j))], [.list 2 (gv g), .s (.bool false), .s (.int .i64 last), .no], [[.s (.int .i64 n.k), .list 1 (iv n.next)]], 0⟩
set_option maxHeartbeats 8000000 in
set_option maxRecDepth 10000 in
theorem wValid_pc (g : List Nd) (hn : ∀ n ∈ g, n.next.length ≤ 1000000) : PC Try.prog 25 [.list 2 (gv g)] (fun r => r = .s (.bool (gOk g))) := by
  refine pc_end c25 mixed rfl ?_
  by_cases hlen : g.length ≤ 160
  · have l1 : ¬ (g.length : Int) > 160 := by omega
    have hg : gOk g = g.all (Nd.ok g.length) := by simp [gOk, hlen]
    simp -implicitDefEqProofs [a25, F25, l1]
    refine w_rounds [11, 12, 13] [2, 3] 0 (Nat.le_refl _) (vfOut g) g.length ⟨by simp, 0, by simp, by simp, by simp⟩ ?_
    rintro m S ⟨i, hi, ha, rfl⟩
    by_cases hm : i < g.length
    · have h1 : (i : Int) < g.length := by omega
      have h0 : ¬ (i : Int) < 0 := by omega
      have hx := hn g[i] (List.getElem_mem hm)
      rw [all_drop hm] at ha
      rw [← hg] at ha
      revert ha hx
      generalize hnd : g[i] = n
      intro ha hx
      have hgv := gv_get hm
      rw [hnd] at hgv
      have no : ¬ (0 ≤ n.k ∧ n.k ≤ n.next.length ∧ (n.k = 0 → n.next.length = 0)) → gOk g = false := fun q => by rw [ha, Nd.ok, decide_eq_false q]; rfl
      by_cases k1 : n.k < 0
      · have := no (by omega)
        simp -implicitDefEqProofs [h1, h0, hgv, k1, this]
      by_cases k2 : n.k > n.next.length
      · have := no (by omega)
        simp -implicitDefEqProofs [h1, h0, hgv, k1, k2, this]
      by_cases k3 : n.k = 0 ∧ n.next.length ≠ 0
      · have := no (by omega)
        have k4 : 0 < n.next.length := by omega
        simp -implicitDefEqProofs [h1, h0, hgv, k3.1, k4, this, natlt0]
      rw [Nd.ok, decide_eq_true (show _ ∧ _ from ⟨by omega, by omega, by omega⟩), Bool.true_and] at ha
      have k4 : (n.k == 0) = true → decide (0 < n.next.length) = false := by intro q; have := eq_of_beq q; rw [decide_eq_false_iff_not]; omega
      cases hb : (n.k == 0)
      case' false => simp -implicitDefEqProofs [h1, h0, hgv, k1, k2, hb, natlt0]
      case' true => simp -implicitDefEqProofs [h1, h0, hgv, k1, k2, hb, k4 hb, natlt0]
      all_goals
        refine w_rounds [4, 11, 12, 13, 40, 41, 42] [3] 1 (Nat.zero_le _) (vfIn g n i) n.next.length ⟨by simp, 0, -1, by simp, by simp, by simp⟩ ?_
        rintro m' S ⟨j, last, hj, hb, rfl⟩
        by_cases hmj : j < n.next.length
        · have j1 : (j : Int) < n.next.length := by omega
          have j0 : ¬ (j : Int) < 0 := by omega
          rw [asc_drop hmj] at hb
          by_cases c1 : n.next[j] ≤ last
          · have : gOk g = false := by rw [ha, hb, decide_eq_false (show ¬ last < n.next[j] by omega)]; rfl
            simp -implicitDefEqProofs [j1, j0, iv_get hmj, c1, this]
          by_cases c2 : n.next[j] ≥ g.length
          · have : gOk g = false := by rw [ha, hb, decide_eq_false (show ¬ n.next[j] < g.length by omega)]; simp
            simp -implicitDefEqProofs [j1, j0, iv_get hmj, c1, c2, this]
          rw [decide_eq_true (show last < n.next[j] by omega), decide_eq_true (show n.next[j] < g.length by omega), Bool.true_and, Bool.true_and] at hb
          simp -implicitDefEqProofs [j1, j0, iv_get hmj, c1, c2]
          exact ⟨m' - 1, by omega, j + 1, n.next[j], by omega, hb, by rw [wrap64 (by omega)]; rfl⟩
        · have j1 : ¬ (j : Int) < n.next.length := by omega
          have hje : j = n.next.length := by omega
          rw [List.drop_eq_nil_of_le (by omega)] at hb
          rw [hb] at ha
          subst hje
          simp -implicitDefEqProofs
          exact ⟨m - 1, by omega, i + 1, by omega, by rw [← hg, ha]; rfl, by rw [wrap64 (by omega)]; rfl⟩
    · have h1 : ¬ (i : Int) < g.length := by omega
      have h2 : i = g.length := by omega
      have : gOk g = true := by rw [hg, ha, List.drop_eq_nil_of_le (by omega)]; rfl
      simp -implicitDefEqProofs [h2, this]
  · have l1 : (g.length : Int) > 160 := by omega
    have : gOk g = false := by simp [gOk, hlen]
    simp -implicitDefEqProofs [a25, F25, l1, this]
end Go.Proofs.Ytcjmbkbbhlmkfaa

namespace Go.Proofs.Ytcjmbkbbhlmkfaa
open Go.RowKit Go.Proofs

/-- the reference -/
def rfOut (g : List Nd) (m : Nat) (S : St) : Prop := ∃ i, i + m = g.length ∧ g.all (Nd.ok g.length) = (g.drop i).all (Nd.ok g.length) ∧ S = ⟨tmL [], [.list 2 (gv g), .s (.bool false), .s (.int .i64 i), .no], [], 0⟩
def rfIn (g : List Nd) (n : Nd) (i : Nat) (m : Nat) (S : St) : Prop := ∃ j last, j + m = n.next.length ∧ asc (-1) g.length n.next = asc last g.length (n.next.drop j) ∧ -1 ≤ last ∧ (j = 0 → last = -1) ∧ (0 < j → (iv n.next)[j - 1]? = some (.s (.int .i64 last))) ∧ S = ⟨tmL [], [.list 2 (gv g), .s (.bool false), .s (.int .i64 i), .s (.int .i64 j)], [], 0⟩
set_option maxHeartbeats 8000000 in
set_option maxRecDepth 10000 in
theorem rgValid_pc (g : List Nd) (hn : ∀ n ∈ g, n.next.length ≤ 1000000) : PC Try.prog 28 [.list 2 (gv g)] (fun r => r = .s (.bool (gOk g))) := by
  refine pc_end c28 mixed rfl ?_
  by_cases hlen : g.length ≤ 160
  · have l1 : ¬ (g.length : Int) > 160 := by omega
    have hg : gOk g = g.all (Nd.ok g.length) := by simp [gOk, hlen]
    simp -implicitDefEqProofs [a28, F28, l1]
    refine w_rounds [] [3] 0 (Nat.le_refl _) (rfOut g) g.length ⟨by simp, 0, by simp, by simp, by simp⟩ ?_
    rintro m S ⟨i, hi, ha, rfl⟩
    by_cases hm : i < g.length
    · have h1 : (i : Int) < g.length := by omega
      have h0 : ¬ (i : Int) < 0 := by omega
      have hx := hn g[i] (List.getElem_mem hm)
      rw [all_drop hm] at ha
      rw [← hg] at ha
      revert ha hx
      generalize hnd : g[i] = n
      intro ha hx
      have hgv := gv_get hm
      rw [hnd] at hgv
      have no : ¬ (0 ≤ n.k ∧ n.k ≤ n.next.length ∧ (n.k = 0 → n.next.length = 0)) → gOk g = false := fun q => by rw [ha, Nd.ok, decide_eq_false q]; rfl
      by_cases k0 : n.next.length > 160
      · have k0' : (n.next.length : Int) > 160 := by omega
        have : gOk g = false := by
          rw [ha, Nd.ok]
          cases hq : asc (-1) g.length n.next
          · simp
          · have := asc_len hq (by omega); omega
        simp -implicitDefEqProofs [h1, h0, hgv, k0', this]
      have k0' : ¬ (n.next.length : Int) > 160 := by omega
      by_cases k1 : n.k < 0
      · have := no (by omega)
        simp -implicitDefEqProofs [h1, h0, hgv, k0', k1, this]
      by_cases k2 : n.k > n.next.length
      · have := no (by omega)
        simp -implicitDefEqProofs [h1, h0, hgv, k0', k1, k2, this]
      by_cases k3 : n.k = 0 ∧ n.next.length ≠ 0
      · have := no (by omega)
        have k4 : 0 < n.next.length := by omega
        simp -implicitDefEqProofs [h1, h0, hgv, k0', k3.1, k4, this, natlt0]
      rw [Nd.ok, decide_eq_true (show _ ∧ _ from ⟨by omega, by omega, by omega⟩), Bool.true_and] at ha
      have k4 : (n.k == 0) = true → decide (0 < n.next.length) = false := by intro q; have := eq_of_beq q; rw [decide_eq_false_iff_not]; omega
      cases hb : (n.k == 0)
      case' false => simp -implicitDefEqProofs [h1, h0, hgv, k0', k1, k2, hb, natlt0]
      case' true => simp -implicitDefEqProofs [h1, h0, hgv, k0', k1, k2, hb, k4 hb, natlt0]
      all_goals
        refine w_rounds [] [] 0 (Nat.zero_le _) (rfIn g n i) n.next.length ⟨by simp, 0, -1, by simp, by simp, by simp, by simp, by simp, by simp⟩ ?_
        rintro m' S ⟨j, last, hj, hb, hl, hl0, hl1, rfl⟩
        by_cases hmj : j < n.next.length
        · have j1 : (j : Int) < n.next.length := by omega
          have j0 : ¬ (j : Int) < 0 := by omega
          rw [asc_drop hmj] at hb
          by_cases c0 : n.next[j] < 0
          · by_cases c1 : n.next[j] ≤ last
            · have : gOk g = false := by rw [ha, hb, decide_eq_false (show ¬ last < n.next[j] by omega)]; rfl
              simp -implicitDefEqProofs [h1, h0, hgv, j1, j0, iv_get hmj, c0, this]
            · omega
          by_cases c2 : n.next[j] ≥ g.length
          · have : gOk g = false := by rw [ha, hb, decide_eq_false (show ¬ n.next[j] < g.length by omega)]; simp
            simp -implicitDefEqProofs [h1, h0, hgv, j1, j0, iv_get hmj, c0, c2, this]
          have fin : last < n.next[j] → ∃ m'' < m', rfIn g n i m'' ⟨tmL [], [.list 2 (gv g), .s (.bool false), .s (.int .i64 i), .s (.int .i64 (IntKind.i64.wrap ((j : Int) + 1)))], [], 0⟩ := by
            intro c3
            rw [decide_eq_true c3, decide_eq_true (show n.next[j] < g.length by omega), Bool.true_and, Bool.true_and] at hb
            exact ⟨m' - 1, by omega, j + 1, n.next[j], by omega, hb, by omega, by omega, fun _ => by simpa using iv_get hmj, by rw [wrap64 (by omega)]; rfl⟩
          by_cases hj0 : j = 0
          · have := hl0 hj0
            have p1 : decide (0 < j) = false := by rw [decide_eq_false_iff_not]; omega
            simp -implicitDefEqProofs [h1, h0, hgv, j1, j0, iv_get hmj, c0, c2, p1]
            exact fin (by omega)
          · have p1 : 0 < j := by omega
            have p2 : IntKind.i64.wrap ((j : Int) - 1) = ((j - 1 : Nat) : Int) := by rw [wrap64 (by omega)]; omega
            have p3 : ¬ ((j - 1 : Nat) : Int) < 0 := by omega
            have p4 := hl1 (by omega)
            by_cases c3 : last ≥ n.next[j]
            · have : gOk g = false := by rw [ha, hb, decide_eq_false (show ¬ last < n.next[j] by omega)]; rfl
              simp -implicitDefEqProofs [h1, h0, hgv, j1, j0, iv_get hmj, c0, c2, p1, p2, p3, p4, c3, this]
            · simp -implicitDefEqProofs [h1, h0, hgv, j1, j0, iv_get hmj, c0, c2, p1, p2, p3, p4, c3]
              exact fin (by omega)
        · have j1 : ¬ (j : Int) < n.next.length := by omega
          have hje : j = n.next.length := by omega
          rw [List.drop_eq_nil_of_le (by omega)] at hb
          rw [hb] at ha
          subst hje
          simp -implicitDefEqProofs [h1, h0, hgv]
          exact ⟨m - 1, by omega, i + 1, by omega, by rw [← hg, ha]; rfl, by rw [wrap64 (by omega)]; rfl⟩
    · have h1 : ¬ (i : Int) < g.length := by omega
      have h2 : i = g.length := by omega
      have : gOk g = true := by rw [hg, ha, List.drop_eq_nil_of_le (by omega)]; rfl
      simp -implicitDefEqProofs [h2, this]
  · have l1 : (g.length : Int) > 160 := by omega
    have : gOk g = false := by simp [gOk, hlen]
    simp -implicitDefEqProofs [a28, F28, l1, this]
end Go.Proofs.Ytcjmbkbbhlmkfaa

namespace Go.Proofs.Ytcjmbkbbhlmkfaa
open Go.RowKit Go.Proofs

theorem Nd.ext' {a b : Nd} (h1 : a.k = b.k) (h2 : a.next = b.next) : a = b := by cases a; cases b; simp_all
def sgInv (xs ys : List Nd) (m : Nat) (S : St) : Prop := ∃ i, i + m = xs.length ∧ xs.take i = ys.take i ∧ S = ⟨tmL [], [.list 2 (gv xs), .list 2 (gv ys), .s (.bool false), .s (.int .i64 i)], [], 0⟩
theorem SameG_pc (xs ys : List Nd) (hl : xs.length ≤ 1000000) (hn : ∀ n ∈ xs, n.next.length ≤ 1000000) : PC Try.prog 31 [.list 2 (gv xs), .list 2 (gv ys)] (fun r => r = .s (.bool (decide (xs = ys)))) := by
  refine pc_end c31 mixed rfl ?_
  by_cases h : xs.length = ys.length
  · simp -implicitDefEqProofs [a31, F31, h]
    refine w_rounds [] [] 0 (Nat.le_refl _) (sgInv xs ys) xs.length ⟨by simp, 0, by simp, by simp, by simp⟩ ?_
    rintro m S ⟨i, hi, ht, rfl⟩
    by_cases hm : i < xs.length
    · have h1 : (i : Int) < xs.length := by omega
      have h0 : ¬ (i : Int) < 0 := by omega
      have hm' : i < ys.length := by omega
      by_cases hk : xs[i].k = ys[i].k
      · have hk' : (xs[i].k != ys[i].k) = false := by simpa using hk
        simp -implicitDefEqProofs [h1, h0, gv_get hm, gv_get hm', hk']
        refine wkd_take ?_
        simp -implicitDefEqProofs
        refine wcd_of (SameInts_pc xs[i].next ys[i].next (hn _ (List.getElem_mem hm))) (by simp) (by simp) ?_
        by_cases he : xs[i].next = ys[i].next
        · simp -implicitDefEqProofs [he]
          exact ⟨m - 1, by omega, i + 1, by omega, take_eq1 hm hm' ht (Nd.ext' hk he), by rw [wrap64 (by omega)]; rfl⟩
        · have : xs ≠ ys := fun q => he (by subst q; rfl)
          simp -implicitDefEqProofs [he, this]
      · have hk' : (xs[i].k != ys[i].k) = true := by simpa using hk
        have : xs ≠ ys := fun q => hk (by subst q; rfl)
        simp -implicitDefEqProofs [h1, h0, gv_get hm, gv_get hm', hk', this]
    · have h1 : ¬ (i : Int) < xs.length := by omega
      have : xs = ys := by rwa [List.take_of_length_le (by omega), List.take_of_length_le (by omega)] at ht
      subst this
      simp -implicitDefEqProofs [hm]
  · have h' : ((xs.length : Int) != ys.length) = true := by
      have : ¬ (xs.length : Int) = ys.length := by omega
      simpa using this
    have : xs ≠ ys := fun q => h (by rw [q])
    simp -implicitDefEqProofs [a31, F31, h', this]
theorem gv_take1 {g : List Nd} {i : Nat} (h : i < g.length) : gv (g.take i) ++ [.agg [.s (.int .i64 g[i].k), .list 1 (iv g[i].next)]] = gv (g.take (i + 1)) := by
  rw [gv, gv, List.take_add_one, List.getElem?_eq_getElem h, List.map_append]; rfl
def rcInv (g : List Nd) (m : Nat) (S : St) : Prop := ∃ i, i + m = g.length ∧ S = ⟨tmL [(6, .list 2 (gv g)), (7, .s (.int .i64 g.length)), (8, .s (.int .i64 i))], [.list 2 (gv g), .s (.slice none 0 0), .own true 42 2 (gv (g.take i))], [], 0⟩
theorem rCopy_pc (g : List Nd) (hl : g.length ≤ 1000000) (hn : ∀ n ∈ g, n.next.length ≤ 1000000) : PC Try.prog 29 [.list 2 (gv g)] (fun r => r = .own true 42 2 (gv g)) := by
  refine pc_end c29 mixed rfl ?_
  simp -implicitDefEqProofs [a29, F29]
  refine w_rounds [6, 7, 8] [] 0 (Nat.le_refl _) (rcInv g) g.length ⟨by simp, 0, by simp, by simp [gv]⟩ ?_
  rintro m S ⟨i, hi, rfl⟩
  by_cases hm : i < g.length
  · have h1 : (i : Int) < g.length := by omega
    have h0 : ¬ (i : Int) < 0 := by omega
    have hx := hn _ (List.getElem_mem hm)
    have hlen : min i g.length = i := by omega
    have b1 : i + 1 ≤ maxLen ∧ (i + 1) * 32 ≤ maxBytes := by simp [maxLen, maxBytes]; omega
    have b2 : g[i].next.length ≤ maxLen ∧ g[i].next.length * 8 ≤ maxBytes := by simp [maxLen, maxBytes]; omega
    simp -implicitDefEqProofs [h1, h0, gv_get hm, hlen, b1, b2, gv_take1 hm]
    exact ⟨m - 1, by omega, i + 1, by omega, by rw [wrap64 (by omega)]; rfl⟩
  · have h1 : ¬ (i : Int) < g.length := by omega
    have h2 : i = g.length := by omega
    simp -implicitDefEqProofs [h2]
def zN : V := .agg [.s (.int .i64 0), .s (.slice none 0 0)]
def fillG (g : List Nd) (i : Nat) : List V := gv (g.take i) ++ List.replicate (g.length - i) zN
theorem fillG_len {g : List Nd} {i : Nat} (h : i ≤ g.length) : (fillG g i).length = g.length := by simp [fillG]; omega
theorem fillG_set {g : List Nd} {i : Nat} (h : i < g.length) : (fillG g i).set i (.agg [.s (.int .i64 g[i].k), .list 1 (iv g[i].next)]) = fillG g (i + 1) := by
  have hl : (gv (g.take i)).length = i := by simp; omega
  unfold fillG
  rw [List.set_append_right _ _ (by omega), hl, Nat.sub_self, ← gv_take1 h, show g.length - i = (g.length - (i + 1)) + 1 from by omega, List.replicate_succ]
  simp
theorem fillG_at {g : List Nd} {i : Nat} (h : i < g.length) (h' : i < (fillG g i).length) : (fillG g i)[i] = .agg [.s (.int .i64 0), .s (.slice none 0 0)] := by
  have hl : (gv (g.take i)).length = i := by simp; omega
  simp only [fillG]
  rw [List.getElem_append_right (by omega)]
  simp [zN]
def cgInv (g : List Nd) (m : Nat) (S : St) : Prop := ∃ i, i + m = g.length ∧ S = ⟨tmL [(9, .list 2 (gv g)), (10, .s (.int .i64 g.length)), (11, .s (.int .i64 i))], [.list 2 (gv g), .s (.slice none 0 0), .own true 42 2 (fillG g i), .no], [], 0⟩
theorem copyGraph_pc (g : List Nd) (hl : g.length ≤ 1000000) (hn : ∀ n ∈ g, n.next.length ≤ 1000000) : PC Try.prog 26 [.list 2 (gv g)] (fun r => r = .list 2 (gv g)) := by
  refine pc_end c26 mixed rfl ?_
  have b1 : g.length ≤ maxLen ∧ g.length * 32 ≤ 140737488355328 := by simp [maxLen]; omega
  simp -implicitDefEqProofs [a26, F26, b1]
  refine w_rounds [9, 10, 11] [3] 0 (Nat.le_refl _) (cgInv g) g.length ⟨by simp, 0, by simp, by simp [fillG, gv, zN]⟩ ?_
  rintro m S ⟨i, hi, rfl⟩
  by_cases hm : i < g.length
  · have h1 : (i : Int) < g.length := by omega
    have h0 : ¬ (i : Int) < 0 := by omega
    have hx := hn _ (List.getElem_mem hm)
    have hlen := fillG_len (g := g) (i := i) (by omega)
    have hg : (gv g)[i]'(by simpa using hm) = .agg [.s (.int .i64 g[i].k), .list 1 (iv g[i].next)] := List.getElem_map _
    simp -implicitDefEqProofs [h1, h0, hg, hlen, hm, fillG_at hm]
    refine wkd_take ?_
    simp -implicitDefEqProofs
    refine wcd_of (Clone_pc g[i].next hx) (by simp) (by simp) ?_
    simp -implicitDefEqProofs [h1, h0, hlen, hm, fillG_at hm, fillG_set hm]
    exact ⟨m - 1, by omega, i + 1, by omega, by rw [wrap64 (by omega)]; rfl⟩
  · have h1 : ¬ (i : Int) < g.length := by omega
    have h2 : i = g.length := by omega
    have : fillG g g.length = gv g := by simp [fillG]
    simp -implicitDefEqProofs [h2, this]
/-- mails: from, to, reply -/
structure Ml where
  frm : Int
  to : Int
  rep : Bool
deriving DecidableEq
def Ml.v (p : Ml) : V := .agg [.s (.int .i64 p.frm), .s (.int .i64 p.to), .s (.bool p.rep)]
def mv (l : List Ml) : List V := l.map Ml.v
@[simp] theorem mv_length (l : List Ml) : (mv l).length = l.length := by simp [mv]
theorem mv_get {l : List Ml} {i : Nat} (h : i < l.length) : (mv l)[i]? = some (.agg [.s (.int .i64 l[i].frm), .s (.int .i64 l[i].to), .s (.bool l[i].rep)]) := by simp [mv, Ml.v, h]
@[simp] theorem mv_append (a b : List Ml) : mv (a ++ b) = mv a ++ mv b := by simp [mv]
/-- the queries of a node -/
def qrs (i : Int) (l : List Int) : List Ml := l.map fun j => ⟨i, j, false⟩
@[simp] theorem qrs_length (i : Int) (l : List Int) : (qrs i l).length = l.length := by simp [qrs]
theorem qrs_take1 {l : List Int} {j : Nat} (h : j < l.length) (i : Int) : mv (qrs i (l.take j)) ++ [.agg [.s (.int .i64 i), .s (.int .i64 l[j]), .s (.bool false)]] = mv (qrs i (l.take (j + 1))) := by
  rw [mv, mv, qrs, qrs, List.take_add_one, List.getElem?_eq_getElem h, List.map_append, List.map_append]; rfl
def rpInv (g : List Nd) (i : Nat) (l : List Int) (m : Nat) (S : St) : Prop := ∃ j, j + m = l.length ∧ S = ⟨tmL [(12, .list 1 (iv l)), (13, .s (.int .i64 l.length)), (14, .s (.int .i64 j))], [.list 2 (gv g), .s (.int .i64 i), .s (.slice none 0 0), .own true 59 3 (mv (qrs i (l.take j))), .no], [], 0⟩
theorem queries_pc (g : List Nd) (i : Nat) (hi : i < g.length) (hx : g[i].next.length ≤ 1000000) : PC Try.prog 30 [.list 2 (gv g), .s (.int .i64 i)] (fun r => r = .own true 59 3 (mv (qrs i g[i].next))) := by
  refine pc_end c30 mixed rfl ?_
  have h1 : (i : Int) < g.length := by omega
  have h0 : ¬ (i : Int) < 0 := by omega
  simp -implicitDefEqProofs [a30, F30, h1, h0, gv_get hi]
  revert hx
  generalize g[i].next = l
  intro hx
  refine w_rounds [12, 13, 14] [4] 0 (Nat.le_refl _) (rpInv g i l) l.length ⟨by simp, 0, by simp, by simp [mv, qrs]⟩ ?_
  rintro m S ⟨j, hj, rfl⟩
  by_cases hm : j < l.length
  · have h1 : (j : Int) < l.length := by omega
    have h0 : ¬ (j : Int) < 0 := by omega
    have hlen : min j l.length = j := by omega
    have b1 : j + 1 ≤ maxLen ∧ (j + 1) * 24 ≤ maxBytes := by simp [maxLen, maxBytes]; omega
    simp -implicitDefEqProofs [h1, h0, iv_get hm, hlen, b1, qrs_take1 hm]
    exact ⟨m - 1, by omega, j + 1, by omega, by rw [wrap64 (by omega)]; rfl⟩
  · have h1 : ¬ (j : Int) < l.length := by omega
    have h2 : j = l.length := by omega
    simp -implicitDefEqProofs [h2]
end Go.Proofs.Ytcjmbkbbhlmkfaa

namespace Go.Proofs.Ytcjmbkbbhlmkfaa
open Go.RowKit Go.Proofs

def nodeAt (g : List Nd) (i : Int) : Nd := g.getD i.toNat ⟨0, []⟩
def bAt (s : List Bool) (i : Int) : Bool := s.getD i.toNat false
def iAt (s : List Int) (i : Int) : Int := s.getD i.toNat 0
theorem gv_at {g : List Nd} {i : Int} (h0 : 0 ≤ i) (h1 : i < g.length) : (gv g)[i.toNat]? = some (.agg [.s (.int .i64 (nodeAt g i).k), .list 1 (iv (nodeAt g i).next)]) := by
  have h : i.toNat < g.length := by omega
  rw [gv_get h, nodeAt, List.getD_eq_getElem?_getD, List.getElem?_eq_getElem h]; rfl
theorem gv_atn {g : List Nd} {i : Nat} (h1 : i < g.length) : (gv g)[i]? = some (.agg [.s (.int .i64 (nodeAt g i).k), .list 1 (iv (nodeAt g i).next)]) := by
  have := gv_at (g := g) (i := i) (by omega) (by omega)
  simpa using this
theorem lv_at {s : List Bool} {i : Int} (h0 : 0 ≤ i) (h1 : i < s.length) : (lv s)[i.toNat]? = some (.s (.bool (bAt s i))) := by
  have h : i.toNat < s.length := by omega
  rw [lv_get h, bAt, List.getD_eq_getElem?_getD, List.getElem?_eq_getElem h]; rfl
theorem iv_at {s : List Int} {i : Int} (h0 : 0 ≤ i) (h1 : i < s.length) : (iv s)[i.toNat]? = some (.s (.int .i64 (iAt s i))) := by
  have h : i.toNat < s.length := by omega
  rw [iv_get h, iAt, List.getD_eq_getElem?_getD, List.getElem?_eq_getElem h]; rfl
theorem ate_of {l : List V} {i : Nat} {x : V} (h : i < l.length) (he : l[i]? = some x) : l[i] = x := by
  rw [List.getElem?_eq_getElem h] at he; exact Option.some.inj he
theorem gv_ate {g : List Nd} {i : Int} (h0 : 0 ≤ i) (h : i.toNat < g.length) : (gv g)[i.toNat]'(by simpa using h) = .agg [.s (.int .i64 (nodeAt g i).k), .list 1 (iv (nodeAt g i).next)] := ate_of _ (gv_at h0 (by omega))
theorem lv_ate {s : List Bool} {i : Int} (h0 : 0 ≤ i) (h : i.toNat < s.length) : (lv s)[i.toNat]'(by simpa using h) = .s (.bool (bAt s i)) := ate_of _ (lv_at h0 (by omega))
theorem iv_ate {s : List Int} {i : Int} (h0 : 0 ≤ i) (h : i.toNat < s.length) : (iv s)[i.toNat]'(by simpa using h) = .s (.int .i64 (iAt s i)) := ate_of _ (iv_at h0 (by omega))
theorem nodeAt_mem {g : List Nd} {i : Int} (h0 : 0 ≤ i) (h1 : i < g.length) : nodeAt g i ∈ g := by
  have h : i.toNat < g.length := by omega
  rw [nodeAt, List.getD_eq_getElem?_getD, List.getElem?_eq_getElem h]
  exact List.getElem_mem h

/-- a computation -/
structure Df where
  g : List Nd
  start : Int
  ml : List Ml
  eng : List Bool
  par : List Int
  opn : List Int
  dec : Bool
deriving DecidableEq
def Df.cells (d : Df) : List V := [.list 2 (gv d.g), .s (.int .i64 d.start), .list 3 (mv d.ml), .list 1 (lv d.eng), .list 1 (iv d.par), .list 1 (iv d.opn), .s (.bool d.dec)]
def Df.v (d : Df) : V := .agg d.cells
/-- node i is engaged and waits for j -/
def eOk (d : Df) (i j : Int) : Prop := 0 ≤ i ∧ i < d.g.length ∧ bAt d.eng i = true ∧ j ∈ (nodeAt d.g i).next
instance (d : Df) (i j : Int) : Decidable (eOk d i j) := by unfold eOk; infer_instance
def nOk (d : Df) (i : Int) : Prop := if bAt d.eng i = true then (nodeAt d.g i).k ≠ 0 ∧ 0 ≤ iAt d.opn i ∧ iAt d.opn i ≤ (nodeAt d.g i).next.length ∧ (if i = d.start then iAt d.par i = -1 else iAt d.par i ≠ i ∧ eOk d (iAt d.par i) i) else iAt d.par i = -1 ∧ iAt d.opn i = 0
instance (d : Df) (i : Int) : Decidable (nOk d i) := by unfold nOk; infer_instance
def mOk (d : Df) (m : Ml) : Prop := if m.rep = true then eOk d m.to m.frm ∧ bAt d.eng m.frm = true else eOk d m.frm m.to
instance (d : Df) (m : Ml) : Decidable (mOk d m) := by unfold mOk; infer_instance
structure Df.ok (d : Df) : Prop where
  g : gOk d.g = true
  s0 : 0 ≤ d.start
  s1 : d.start < d.g.length
  el : d.eng.length = d.g.length
  pl : d.par.length = d.g.length
  ol : d.opn.length = d.g.length
  es : bAt d.eng d.start = true
  nd : ∀ i : Nat, i < d.g.length → nOk d i
  ml : ∀ m ∈ d.ml, mOk d m
  nu : d.ml.Nodup
theorem Df.ok_iff (d : Df) : d.ok ↔ gOk d.g = true ∧ 0 ≤ d.start ∧ d.start < d.g.length ∧ d.eng.length = d.g.length ∧ d.par.length = d.g.length ∧ d.opn.length = d.g.length ∧ bAt d.eng d.start = true ∧ (∀ i : Nat, i < d.g.length → nOk d i) ∧ (∀ m ∈ d.ml, mOk d m) ∧ d.ml.Nodup :=
  ⟨fun ⟨a, b, c, d, e, f, g, h, i, j⟩ => ⟨a, b, c, d, e, f, g, h, i, j⟩, fun ⟨a, b, c, d, e, f, g, h, i, j⟩ => ⟨a, b, c, d, e, f, g, h, i, j⟩⟩
instance (d : Df) : Decidable d.ok := decidable_of_iff' _ d.ok_iff
def wf64 (n : Int) : Prop := -9223372036854775808 ≤ n ∧ n < 9223372036854775808
/-- not too long -/
structure Df.sm (d : Df) : Prop where
  g : d.g.length ≤ 1000000
  nx : ∀ n ∈ d.g, n.next.length ≤ 1000000
  ml : d.ml.length ≤ 1000000
  eng : d.eng.length ≤ 1000000
  par : d.par.length ≤ 1000000
  opn : d.opn.length ≤ 1000000
  wf : ∀ m ∈ d.ml, wf64 m.frm ∧ wf64 m.to
theorem asc_next {g : List Nd} (hg : gOk g = true) {i : Int} (h0 : 0 ≤ i) (h1 : i < g.length) : 0 ≤ (nodeAt g i).k ∧ (nodeAt g i).k ≤ (nodeAt g i).next.length ∧ ((nodeAt g i).k = 0 → (nodeAt g i).next.length = 0) ∧ asc (-1) g.length (nodeAt g i).next = true := by
  simp only [gOk, Bool.and_eq_true, List.all_eq_true] at hg
  have := hg.2 _ (nodeAt_mem h0 h1)
  simp only [Nd.ok, Bool.and_eq_true, decide_eq_true_eq] at this
  exact ⟨this.1.1, this.1.2.1, this.1.2.2, this.2⟩

theorem edge_pc (d : Df) (hs : d.sm) (hl : d.eng.length = d.g.length) (i j : Int) : PC Try.prog 40 [d.v, .s (.int .i64 i), .s (.int .i64 j)] (fun r => r = .s (.bool (decide (eOk d i j)))) := by
  refine pc_end c40 mixed rfl ?_
  by_cases h0 : i ≥ 0
  case neg =>
    have : ¬ eOk d i j := fun h => h0 h.1
    simp -implicitDefEqProofs [a40, F40, Df.v, Df.cells, h0, this]
  by_cases h1 : i < d.g.length
  case neg =>
    have : ¬ eOk d i j := fun h => h1 h.2.1
    simp -implicitDefEqProofs [a40, F40, Df.v, Df.cells, h0, h1, this]
  have h0' : ¬ i < 0 := by omega
  have hge := gv_ate (g := d.g) (i := i) h0 (by omega)
  have hee := lv_ate (s := d.eng) (i := i) h0 (by omega)
  have h1n : i.toNat < d.g.length := by omega
  cases h2 : bAt d.eng i
  case false =>
    have : ¬ eOk d i j := fun h => by have := h.2.2.1; simp [h2] at this
    simp -implicitDefEqProofs [a40, F40, Df.v, Df.cells, h0, h1, h1n, hl, h0', hee, h2, this]
  simp -implicitDefEqProofs [a40, F40, Df.v, Df.cells, h0, h1, h1n, hl, h0', hee, h2, hge]
  refine wk_take ?_
  simp -implicitDefEqProofs
  refine wc_of (Contains_pc (nodeAt d.g i).next j (hs.nx _ (nodeAt_mem h0 h1))) (by simp) (by simp) ?_
  rintro _ rfl
  by_cases h3 : j ∈ (nodeAt d.g i).next
  · have : eOk d i j := ⟨h0, h1, h2, h3⟩
    simp -implicitDefEqProofs [h3, this]
  · have : ¬ eOk d i j := fun h => h3 h.2.2.2
    simp -implicitDefEqProofs [h3, this]
/-- the reference's edge -/
def reOk (g : List Nd) (i j : Int) : Prop := 0 ≤ i ∧ i < g.length ∧ j ∈ (nodeAt g i).next
instance (g : List Nd) (i j : Int) : Decidable (reOk g i j) := by unfold reOk; infer_instance
def hasInv (g : List Nd) (i x : Int) (l : List Int) (m : Nat) (S : St) : Prop := ∃ j, j + m = l.length ∧ x ∉ l.take j ∧ S = ⟨tmL [(21, .list 1 (iv l)), (22, .s (.int .i64 l.length)), (23, .s (.int .i64 j))], [.list 2 (gv g), .s (.int .i64 i), .s (.int .i64 x), .s (.bool false), .no], [], 0⟩
theorem redge_pc (g : List Nd) (hn : ∀ n ∈ g, n.next.length ≤ 1000000) (i x : Int) : PC Try.prog 37 [.list 2 (gv g), .s (.int .i64 i), .s (.int .i64 x)] (fun r => r = .s (.bool (decide (reOk g i x)))) := by
  refine pc_end c37 mixed rfl ?_
  by_cases h0 : i < 0
  · have : ¬ reOk g i x := fun h => by have := h.1; omega
    simp -implicitDefEqProofs [a37, F37, h0, this]
  by_cases h1 : i ≥ g.length
  · have : ¬ reOk g i x := fun h => by have := h.2.1; omega
    simp -implicitDefEqProofs [a37, F37, h0, h1, this]
  have hg := gv_at (g := g) (i := i) (by omega) (by omega)
  have hl := hn _ (nodeAt_mem (g := g) (i := i) (by omega) (by omega))
  have hr : reOk g i x ↔ x ∈ (nodeAt g i).next := ⟨fun h => h.2.2, fun h => ⟨by omega, by omega, h⟩⟩
  simp -implicitDefEqProofs [a37, F37, h0, h1, hg, hr]
  revert hl
  generalize (nodeAt g i).next = l
  intro hl
  refine w_rounds [21, 22, 23] [4] 0 (Nat.le_refl _) (hasInv g i x l) l.length ⟨by simp, 0, by simp, by simp, by simp⟩ ?_
  rintro m S ⟨i, hi, hx, rfl⟩
  by_cases hm : i < l.length
  · have h1 : (i : Int) < l.length := by omega
    have h0 : ¬ (i : Int) < 0 := by omega
    by_cases he : l[i] = x
    · have : x ∈ l := he ▸ List.getElem_mem hm
      simp -implicitDefEqProofs [h1, h0, iv_get hm, he, this]
    · have he' : (l[i] == x) = false := by simpa using he
      simp -implicitDefEqProofs [h1, h0, iv_get hm, he']
      exact ⟨m - 1, by omega, i + 1, by omega, by rw [mem_take1 hm]; exact fun q => q.elim hx fun q => he q.symm, by rw [wrap64 (by omega)]; rfl⟩
  · have h1 : ¬ (i : Int) < l.length := by omega
    have : x ∉ l := by rwa [List.take_of_length_le (by omega)] at hx
    have h2 : i = l.length := by omega
    simp -implicitDefEqProofs [h2, this]
end Go.Proofs.Ytcjmbkbbhlmkfaa

namespace Go.Proofs.Ytcjmbkbbhlmkfaa
open Go.RowKit Go.Proofs

set_option maxHeartbeats 8000000 in
set_option maxRecDepth 10000 in
theorem validNode_pc (d : Df) (hs : d.sm) (e1 : d.eng.length = d.g.length) (e2 : d.par.length = d.g.length) (e3 : d.opn.length = d.g.length) (i : Nat) (hi : i < d.g.length) : PC Try.prog 35 [d.v, .s (.int .i64 i)] (fun r => r = .s (.bool (decide (nOk d i)))) := by
  refine pc_end c35 mixed rfl ?_
  have h0 : ¬ (i : Int) < 0 := by omega
  have i1 : i < d.eng.length := by omega
  have i2 : i < d.par.length := by omega
  have i3 : i < d.opn.length := by omega
  have i4 : (i : Int) < d.g.length := by omega
  have he := lv_ate (s := d.eng) (i := (i : Int)) (by omega) (by omega)
  have hp := iv_ate (s := d.par) (i := (i : Int)) (by omega) (by omega)
  have ho := iv_ate (s := d.opn) (i := (i : Int)) (by omega) (by omega)
  have hg := gv_ate (g := d.g) (i := (i : Int)) (by omega) (by omega)
  simp only [Int.toNat_natCast] at he hp ho hg
  cases h1 : bAt d.eng (i : Int)
  case false =>
    have hn : nOk d (i : Nat) ↔ (iAt d.par (i : Int) = -1 ∧ iAt d.opn (i : Int) = 0) := by simp [nOk, h1]
    cases h2 : (iAt d.par (i : Int) == -1)
    · have : ¬ nOk d (i : Nat) := fun q => by have := (hn.1 q).1; simp [this] at h2
      simp -implicitDefEqProofs [a35, F35, Df.v, Df.cells, h0, e1, e2, e3, hi, i4, he, hp, ho, h1, h2, this]
    · have h3 := eq_of_beq h2
      cases h4 : (iAt d.opn (i : Int) == 0)
      · have : ¬ nOk d (i : Nat) := fun q => by have := (hn.1 q).2; simp [this] at h4
        simp -implicitDefEqProofs [a35, F35, Df.v, Df.cells, h0, e1, e2, e3, hi, i4, he, hp, ho, h1, h2, h4, this]
      · have : nOk d (i : Nat) := hn.2 ⟨h3, eq_of_beq h4⟩
        simp -implicitDefEqProofs [a35, F35, Df.v, Df.cells, h0, e1, e2, e3, hi, i4, he, hp, ho, h1, h2, h4, this]
  have hn : nOk d (i : Nat) ↔ ((nodeAt d.g i).k ≠ 0 ∧ 0 ≤ iAt d.opn i ∧ iAt d.opn i ≤ (nodeAt d.g i).next.length ∧ (if (i : Int) = d.start then iAt d.par i = -1 else iAt d.par i ≠ i ∧ eOk d (iAt d.par i) i)) := by simp only [nOk, h1, if_true]
  cases h2 : ((nodeAt d.g (i : Int)).k == 0)
  case true =>
    have : ¬ nOk d (i : Nat) := fun q => (hn.1 q).1 (eq_of_beq h2)
    simp -implicitDefEqProofs [a35, F35, Df.v, Df.cells, h0, e1, e2, e3, hi, i4, he, hp, ho, hg, h1, h2, this]
  by_cases h3 : iAt d.opn (i : Int) < 0
  · have : ¬ nOk d (i : Nat) := fun q => by have := (hn.1 q).2.1; omega
    simp -implicitDefEqProofs [a35, F35, Df.v, Df.cells, h0, e1, e2, e3, hi, i4, he, hp, ho, hg, h1, h2, h3, this]
  by_cases h4 : iAt d.opn (i : Int) > (nodeAt d.g (i : Int)).next.length
  · have : ¬ nOk d (i : Nat) := fun q => by have := (hn.1 q).2.2.1; omega
    simp -implicitDefEqProofs [a35, F35, Df.v, Df.cells, h0, e1, e2, e3, hi, i4, he, hp, ho, hg, h1, h2, h3, h4, this]
  have h2' : (nodeAt d.g (i : Int)).k ≠ 0 := by simpa using h2
  cases h5 : ((i : Int) == d.start)
  case true =>
    have h5' := eq_of_beq h5
    have hn2 : nOk d (i : Nat) ↔ iAt d.par i = -1 := by rw [hn, if_pos h5']; exact ⟨fun q => q.2.2.2, fun q => ⟨h2', by omega, by omega, q⟩⟩
    cases h6 : (iAt d.par (i : Int) == -1)
    · have : ¬ nOk d (i : Nat) := fun q => by have := hn2.1 q; simp [this] at h6
      simp -implicitDefEqProofs [a35, F35, Df.v, Df.cells, h0, e1, e2, e3, hi, i4, he, hp, ho, hg, h1, h2, h3, h4, h5, h6, this]
    · have : nOk d (i : Nat) := hn2.2 (eq_of_beq h6)
      simp -implicitDefEqProofs [a35, F35, Df.v, Df.cells, h0, e1, e2, e3, hi, i4, he, hp, ho, hg, h1, h2, h3, h4, h5, h6, this]
  have h5' : ¬ (i : Int) = d.start := by simpa using h5
  have hn2 : nOk d (i : Nat) ↔ iAt d.par i ≠ i ∧ eOk d (iAt d.par i) i := by rw [hn, if_neg h5']; exact ⟨fun q => q.2.2.2, fun q => ⟨h2', by omega, by omega, q⟩⟩
  cases h6 : (iAt d.par (i : Int) != i)
  · have : ¬ nOk d (i : Nat) := fun q => by have := (hn2.1 q).1; simp at h6; exact this h6
    simp -implicitDefEqProofs [a35, F35, Df.v, Df.cells, h0, e1, e2, e3, hi, i4, he, hp, ho, hg, h1, h2, h3, h4, h5, h6, this]
  · have h6' : iAt d.par (i : Int) ≠ i := by simpa using h6
    simp -implicitDefEqProofs [a35, F35, Df.v, Df.cells, h0, e1, e2, e3, hi, i4, he, hp, ho, hg, h1, h2, h3, h4, h5, h6]
    refine wk_take ?_
    simp -implicitDefEqProofs
    have hv := edge_pc d hs e1 (iAt d.par i) i
    simp only [Df.v, Df.cells] at hv
    refine wc_of hv (by simp) (by simp) ?_
    rintro _ rfl
    by_cases h7 : eOk d (iAt d.par i) i
    · have : nOk d (i : Nat) := hn2.2 ⟨h6', h7⟩
      simp -implicitDefEqProofs [h7, this]
    · have : ¬ nOk d (i : Nat) := fun q => h7 (hn2.1 q).2
      simp -implicitDefEqProofs [h7, this]
theorem validMail_pc (d : Df) (hs : d.sm) (hg : gOk d.g = true) (e1 : d.eng.length = d.g.length) (m : Ml) : PC Try.prog 36 [d.v, m.v] (fun r => r = .s (.bool (decide (mOk d m)))) := by
  refine pc_end c36 mixed rfl ?_
  cases hr : m.rep
  · simp -implicitDefEqProofs [a36, F36, Df.v, Df.cells, Ml.v, hr]
    refine wk_take ?_
    simp -implicitDefEqProofs
    have hv := edge_pc d hs e1 m.frm m.to
    simp only [Df.v, Df.cells] at hv
    refine wc_of hv (by simp) (by simp) ?_
    rintro _ rfl
    simp -implicitDefEqProofs [mOk, hr]
  · simp -implicitDefEqProofs [a36, F36, Df.v, Df.cells, Ml.v, hr]
    refine wk_take ?_
    simp -implicitDefEqProofs
    have hv := edge_pc d hs e1 m.to m.frm
    simp only [Df.v, Df.cells] at hv
    refine wc_of hv (by simp) (by simp) ?_
    rintro _ rfl
    by_cases h : eOk d m.to m.frm
    · have hb := asc_mem (asc_next hg h.1 h.2.1).2.2.2 _ h.2.2.2
      have h0 : ¬ m.frm < 0 := by omega
      have h1 : m.frm.toNat < d.g.length := by omega
      have h2 : m.frm < d.g.length := by omega
      have he := lv_ate (s := d.eng) (i := m.frm) (by omega) (by omega)
      simp -implicitDefEqProofs [mOk, hr, h, h0, h1, h2, e1, he]
    · simp -implicitDefEqProofs [mOk, hr, h]
end Go.Proofs.Ytcjmbkbbhlmkfaa

namespace Go.Proofs.Ytcjmbkbbhlmkfaa
open Go.RowKit Go.Proofs

theorem mv_ate {l : List Ml} {i : Nat} (h : i < l.length) : (mv l)[i]'(by simpa using h) = .agg [.s (.int .i64 l[i].frm), .s (.int .i64 l[i].to), .s (.bool l[i].rep)] := ate_of _ (mv_get h)
theorem mOk_r {d : Df} (hg : gOk d.g = true) (m : Ml) : mOk d m ↔ (0 ≤ m.frm ∧ m.frm < d.g.length ∧ 0 ≤ m.to ∧ m.to < d.g.length ∧ bAt d.eng m.frm = true ∧ (if m.rep = true then bAt d.eng m.to = true ∧ reOk d.g m.to m.frm else reOk d.g m.frm m.to)) := by
  cases hr : m.rep
  · simp only [mOk, hr, if_neg (show ¬ (false = true) by decide), eOk, reOk]
    constructor
    · rintro ⟨a, b, c, e⟩
      have := asc_mem (asc_next hg a b).2.2.2 _ e
      exact ⟨a, b, by omega, by omega, c, a, b, e⟩
    · rintro ⟨a, b, _, _, c, _, _, e⟩
      exact ⟨a, b, c, e⟩
  · simp only [mOk, hr, if_pos, eOk, reOk]
    constructor
    · rintro ⟨⟨a, b, c, e⟩, f⟩
      have := asc_mem (asc_next hg a b).2.2.2 _ e
      exact ⟨by omega, by omega, a, b, f, c, a, b, e⟩
    · rintro ⟨_, _, _, _, c, f, a, b, e⟩
      exact ⟨⟨a, b, f, e⟩, c⟩
theorem Ml.ext' {a b : Ml} (h1 : a.frm = b.frm) (h2 : a.to = b.to) (h3 : a.rep = b.rep) : a = b := by cases a; cases b; simp_all
theorem nodup_take1 {α : Type} {l : List α} {i : Nat} (h : i < l.length) : (l.take (i + 1)).Nodup ↔ (l.take i).Nodup ∧ ∀ j (hj : j < l.length), j < i → l[j] ≠ l[i] := by
  rw [List.take_add_one, List.getElem?_eq_getElem h]
  simp only [Option.toList]
  rw [List.nodup_append]
  constructor
  · rintro ⟨a, _, b⟩
    exact ⟨a, fun j hj hji => b _ (List.mem_take_iff_getElem.2 ⟨j, by omega, rfl⟩) _ (by simp)⟩
  · rintro ⟨a, b⟩
    refine ⟨a, by simp, fun x hx y hy => ?_⟩
    obtain ⟨j, hj, rfl⟩ := List.mem_take_iff_getElem.1 hx
    simp at hy
    subst hy
    exact b j (by omega) (by omega)
def v19a (d : Df) (m : Nat) (S : St) : Prop := ∃ i : Nat, i + m = d.g.length ∧ (∀ j, j < i → nOk d (j : Nat)) ∧ S = ⟨tmL [(1, .ptr 0 0)], [d.v, .s (.bool false), .s (.int .i64 d.g.length), .s (.int .i64 i), .no, .no, .no, .no, .no], [d.cells], 0⟩
def v19b (d : Df) (m : Nat) (S : St) : Prop := ∃ i, i + m = d.ml.length ∧ (∀ j (h : j < d.ml.length), j < i → mOk d d.ml[j]) ∧ (d.ml.take i).Nodup ∧ S = ⟨tmL [(1, .ptr 0 0), (156, .list 3 (mv d.ml)), (157, .s (.int .i64 d.ml.length)), (158, .s (.int .i64 i))], [d.v, .s (.bool false), .s (.int .i64 d.g.length), .no, .no, .no, .no, .no, .no], [d.cells], 0⟩
def v19c (d : Df) (p : Ml) (i : Nat) (m : Nat) (S : St) : Prop := ∃ j, j + m = i ∧ (∀ q (h : q < d.ml.length), q < j → d.ml[q] ≠ p) ∧ S = ⟨tmL [(1, .ptr 0 0), (7, .ptr 1 0), (156, .list 3 (mv d.ml)), (157, .s (.int .i64 d.ml.length)), (158, .s (.int .i64 i)), (231, .list 3 (mv (d.ml.take i))), (232, .s (.int .i64 i)), (233, .s (.int .i64 j))], [d.v, .s (.bool false), .s (.int .i64 d.g.length), .no, .no, .no, .no, .no, .s (.int .i64 i)], [d.cells, [.s (.int .i64 p.frm), .s (.int .i64 p.to), .s (.bool p.rep)]], 0⟩
theorem mv_take (l : List Ml) (n : Nat) : (mv l).take n = mv (l.take n) := by simp [mv, List.map_take]
theorem mv_drop (l : List Ml) (n : Nat) : (mv l).drop n = mv (l.drop n) := by simp [mv, List.map_drop]
set_option maxHeartbeats 16000000 in
set_option maxRecDepth 10000 in
theorem rValid_pc (d : Df) (hs : d.sm) : PC Try.prog 19 [d.v] (fun r => r = .s (.bool (decide d.ok))) := by
  refine pc_end c19 mixed rfl ?_
  simp -implicitDefEqProofs [a19, F19, Df.v, Df.cells]
  refine wk_take ?_
  simp -implicitDefEqProofs
  refine wc_of (rgValid_pc d.g hs.nx) (by simp) (by simp) ?_
  rintro _ rfl
  by_cases g1 : gOk d.g = false
  · have : ¬ d.ok := fun h => by simp [h.g] at g1
    simp -implicitDefEqProofs [g1, this]
  have g1 : gOk d.g = true := by simpa using g1
  by_cases g2 : d.start < 0
  · have : ¬ d.ok := fun h => by have := h.s0; omega
    simp -implicitDefEqProofs [g1, g2, this]
  by_cases g3 : d.start ≥ d.g.length
  · have : ¬ d.ok := fun h => by have := h.s1; omega
    simp -implicitDefEqProofs [g1, g2, g3, this]
  cases g4 : ((d.eng.length : Int) != d.g.length)
  case' true =>
    have : ¬ d.ok := fun h => by simp [h.el] at g4
    simp -implicitDefEqProofs [g1, g2, g3, g4, this]
  cases g5 : ((d.par.length : Int) != d.g.length)
  case' true =>
    have : ¬ d.ok := fun h => by simp [h.pl] at g5
    simp -implicitDefEqProofs [g1, g2, g3, g4, g5, this]
  cases g6 : ((d.opn.length : Int) != d.g.length)
  case' true =>
    have : ¬ d.ok := fun h => by simp [h.ol] at g6
    simp -implicitDefEqProofs [g1, g2, g3, g4, g5, g6, this]
  have e1 : d.eng.length = d.g.length := by simp at g4; omega
  have e2 : d.par.length = d.g.length := by simp at g5; omega
  have e3 : d.opn.length = d.g.length := by simp at g6; omega
  have s1 : d.start.toNat < d.g.length := by omega
  have s2 : d.start < d.g.length := by omega
  have hse := lv_ate (s := d.eng) (i := d.start) (by omega) (by omega)
  cases g7 : bAt d.eng d.start
  case' false =>
    have : ¬ d.ok := fun h => by have := h.es; simp [g7] at this
    simp -implicitDefEqProofs [g1, g2, g3, g4, g5, g6, e1, s1, s2, hse, g7, this]
  simp -implicitDefEqProofs [g1, g2, g3, g4, g5, g6, e1, s1, s2, hse, g7]
  clear hse
  have hgl := hs.g
  refine w_rounds [1] [4, 5, 6, 7] 1 (by simp) (v19a d) d.g.length ⟨by simp, 0, by simp, by simp, by simp [Df.v, Df.cells]⟩ ?_
  rintro m S ⟨i, hi, ha, rfl⟩
  by_cases hm : i < d.g.length
  · have h1 : (i : Int) < d.g.length := by omega
    have h0 : ¬ (i : Int) < 0 := by omega
    have he := lv_ate (s := d.eng) (i := (i : Int)) (by omega) (by omega)
    have hp := iv_ate (s := d.par) (i := (i : Int)) (by omega) (by omega)
    have ho := iv_ate (s := d.opn) (i := (i : Int)) (by omega) (by omega)
    have hg := gv_ate (g := d.g) (i := (i : Int)) (by omega) (by omega)
    simp only [Int.toNat_natCast] at he hp ho hg
    have wi : IntKind.i64.wrap ((i : Int) + 1) = ((i + 1 : Nat) : Int) := by rw [wrap64 (by omega)]; rfl
    have fin : nOk d (i : Nat) → ∃ m' < m, v19a d m' ⟨tmL [(1, .ptr 0 0)], [d.v, .s (.bool false), .s (.int .i64 d.g.length), .s (.int .i64 (IntKind.i64.wrap ((i : Int) + 1))), .no, .no, .no, .no, .no], [d.cells], 0⟩ := by
      intro hk
      refine ⟨m - 1, by omega, i + 1, by omega, fun j hj => ?_, by rw [wi]⟩
      by_cases hji : j = i
      · subst hji; exact hk
      · exact ha j (by omega)
    have no : ¬ nOk d (i : Nat) → ¬ d.ok := fun h q => h (q.nd i hm)
    cases h2 : bAt d.eng (i : Int)
    case false =>
      have hn : nOk d (i : Nat) ↔ (iAt d.par (i : Int) = -1 ∧ iAt d.opn (i : Int) = 0) := by simp [nOk, h2]
      have h3' : ¬ (i : Int) = d.start := fun q => by rw [q, g7] at h2; cases h2
      have h3 : ((i : Int) == d.start) = false := by simpa using h3'
      cases h4 : (iAt d.par (i : Int) != -1)
      case true =>
        have := no (fun q => by have := (hn.1 q).1; simp [this] at h4)
        simp -implicitDefEqProofs [Df.v, Df.cells, h1, h0, hm, e1, e2, e3, he, hp, ho, hg, h2, h3, h4, this]
      have h4' : iAt d.par (i : Int) = -1 := by simpa using h4
      by_cases h5 : iAt d.opn (i : Int) < 0
      · have := no (fun q => by have := (hn.1 q).2; omega)
        simp -implicitDefEqProofs [Df.v, Df.cells, h1, h0, hm, e1, e2, e3, he, hp, ho, hg, h2, h3, h4, h5, this]
      by_cases h6 : iAt d.opn (i : Int) > (nodeAt d.g (i : Int)).next.length
      · have := no (fun q => by have := (hn.1 q).2; omega)
        simp -implicitDefEqProofs [Df.v, Df.cells, h1, h0, hm, e1, e2, e3, he, hp, ho, hg, h2, h3, h4, h5, h6, this]
      cases h7 : (iAt d.opn (i : Int) != 0)
      case true =>
        have := no (fun q => by have := (hn.1 q).2; simp [this] at h7)
        simp -implicitDefEqProofs [Df.v, Df.cells, h1, h0, hm, e1, e2, e3, he, hp, ho, hg, h2, h3, h4, h5, h6, h7, this]
      simp -implicitDefEqProofs [Df.v, Df.cells, h1, h0, hm, e1, e2, e3, he, hp, ho, hg, h2, h3, h4, h5, h6, h7]
      exact fin (hn.2 ⟨h4', by simpa using h7⟩)
    have hn : nOk d (i : Nat) ↔ ((nodeAt d.g i).k ≠ 0 ∧ 0 ≤ iAt d.opn i ∧ iAt d.opn i ≤ (nodeAt d.g i).next.length ∧ (if (i : Int) = d.start then iAt d.par i = -1 else iAt d.par i ≠ i ∧ eOk d (iAt d.par i) i)) := by simp only [nOk, h2, if_true]
    cases h3 : ((nodeAt d.g (i : Int)).k == 0)
    case true =>
      have := no (fun q => (hn.1 q).1 (eq_of_beq h3))
      simp -implicitDefEqProofs [Df.v, Df.cells, h1, h0, hm, e1, e2, e3, he, hp, ho, hg, h2, h3, this]
    have h3' : (nodeAt d.g (i : Int)).k ≠ 0 := by simpa using h3
    cases h4 : ((i : Int) == d.start)
    case' true =>
      have h4' := eq_of_beq h4
      have hn2 : nOk d (i : Nat) ↔ (0 ≤ iAt d.opn i ∧ iAt d.opn i ≤ (nodeAt d.g i).next.length) ∧ iAt d.par i = -1 := by rw [hn, if_pos h4']; exact ⟨fun q => ⟨⟨q.2.1, q.2.2.1⟩, q.2.2.2⟩, fun q => ⟨h3', q.1.1, q.1.2, q.2⟩⟩
      cases h5 : (iAt d.par (i : Int) != -1)
      case' true =>
        have := no (fun q => by have := (hn2.1 q).2; simp [this] at h5)
        simp -implicitDefEqProofs [Df.v, Df.cells, h1, h0, hm, e1, e2, e3, he, hp, ho, hg, h2, h3, h4, h5, this]
      have h5' : iAt d.par (i : Int) = -1 := by simpa using h5
      have hn3 : nOk d (i : Nat) ↔ (0 ≤ iAt d.opn i ∧ iAt d.opn i ≤ (nodeAt d.g i).next.length) := by rw [hn2]; exact ⟨fun q => q.1, fun q => ⟨q, h5'⟩⟩
      simp -implicitDefEqProofs [Df.v, Df.cells, h1, h0, hm, e1, e2, e3, he, hp, ho, hg, h2, h3, h4, h5]
    case' false =>
      have h4' : ¬ (i : Int) = d.start := by simpa using h4
      have hn2 : nOk d (i : Nat) ↔ (0 ≤ iAt d.opn i ∧ iAt d.opn i ≤ (nodeAt d.g i).next.length) ∧ iAt d.par i ≠ i ∧ eOk d (iAt d.par i) i := by rw [hn, if_neg h4']; exact ⟨fun q => ⟨⟨q.2.1, q.2.2.1⟩, q.2.2.2⟩, fun q => ⟨h3', q.1.1, q.1.2, q.2⟩⟩
      cases h5 : (iAt d.par (i : Int) == i)
      case' true =>
        have := no (fun q => (hn2.1 q).2.1 (eq_of_beq h5))
        simp -implicitDefEqProofs [Df.v, Df.cells, h1, h0, hm, e1, e2, e3, he, hp, ho, hg, h2, h3, h4, h5, this]
      have h5' : iAt d.par (i : Int) ≠ i := by simpa using h5
      simp -implicitDefEqProofs [Df.v, Df.cells, h1, h0, hm, e1, e2, e3, he, hp, ho, hg, h2, h3, h4, h5]
      refine wk_take ?_
      simp -implicitDefEqProofs
      refine wc_of (redge_pc d.g hs.nx (iAt d.par i) i) (by simp) (by simp) ?_
      rintro _ rfl
      by_cases h6 : reOk d.g (iAt d.par i) i
      case' neg =>
        have := no (fun q => h6 (by have := (hn2.1 q).2.2; exact ⟨this.1, this.2.1, this.2.2.2⟩))
        simp -implicitDefEqProofs [h6, this]
      have p0 : ¬ iAt d.par (i : Int) < 0 := by have := h6.1; omega
      have p1 : iAt d.par (i : Int) < d.g.length := h6.2.1
      have p2 : (iAt d.par (i : Int)).toNat < d.g.length := by omega
      have hep := lv_ate (s := d.eng) (i := iAt d.par (i : Int)) (by omega) (by omega)
      cases h7 : bAt d.eng (iAt d.par (i : Int))
      case' false =>
        have := no (fun q => by have := (hn2.1 q).2.2.2.2.1; simp [h7] at this)
        simp -implicitDefEqProofs [h6, p0, p1, p2, e1, hep, h7, this]
      have hn3 : nOk d (i : Nat) ↔ (0 ≤ iAt d.opn i ∧ iAt d.opn i ≤ (nodeAt d.g i).next.length) := by rw [hn2]; exact ⟨fun q => q.1, fun q => ⟨q, h5', h6.1, h6.2.1, h7, h6.2.2⟩⟩
      simp -implicitDefEqProofs [h6, p0, p1, p2, h0, h1, hm, e1, e2, e3, he, hp, ho, hg, hep, h2, h7]
    all_goals
      by_cases h8 : iAt d.opn (i : Int) < 0
      · have := no (fun q => by have := (hn3.1 q).1; omega)
        simp -implicitDefEqProofs [h0, h1, hm, e1, e2, e3, he, hp, ho, hg, h2, h8, this]
      by_cases h9 : iAt d.opn (i : Int) > (nodeAt d.g (i : Int)).next.length
      · have := no (fun q => by have := (hn3.1 q).2; omega)
        simp -implicitDefEqProofs [h0, h1, hm, e1, e2, e3, he, hp, ho, hg, h2, h8, h9, this]
      simp -implicitDefEqProofs [h0, h1, hm, e1, e2, e3, he, hp, ho, hg, h2, h8, h9]
      exact fin (hn3.2 ⟨by omega, by omega⟩)
  · have h1 : ¬ (i : Int) < d.g.length := by omega
    simp -implicitDefEqProofs [Df.v, Df.cells, h1]
    have hall : ∀ j, j < d.g.length → nOk d (j : Nat) := fun j hj => ha j (by omega)
    have hml := hs.ml
    refine w_rounds [1, 156, 157, 158] [3, 8] 1 (by simp) (v19b d) d.ml.length ⟨by simp, 0, by simp, by simp, by simp, by simp [Df.v, Df.cells]⟩ ?_
    clear ha hi h1 hm
    rintro m' S ⟨i, hi, hb, hnd, rfl⟩
    by_cases hm : i < d.ml.length
    · have h1 : (i : Int) < d.ml.length := by omega
      have h0 : ¬ (i : Int) < 0 := by omega
      have hmv := mv_ate hm
      have hnt := nodup_take1 hm
      have no : ¬ mOk d d.ml[i] → ¬ d.ok := fun h q => h (q.ml _ (List.getElem_mem hm))
      have no2 : ¬ (d.ml.take (i + 1)).Nodup → ¬ d.ok := fun h q => h (q.nu.sublist (List.take_sublist _ _))
      have wi : IntKind.i64.wrap ((i : Int) + 1) = ((i + 1 : Nat) : Int) := by rw [wrap64 (by omega)]; rfl
      have fin : mOk d d.ml[i] → (d.ml.take (i + 1)).Nodup → ∃ m'' < m', v19b d m'' ⟨tmL [(1, .ptr 0 0), (156, .list 3 (mv d.ml)), (157, .s (.int .i64 d.ml.length)), (158, .s (.int .i64 (IntKind.i64.wrap ((i : Int) + 1))))], [d.v, .s (.bool false), .s (.int .i64 d.g.length), .no, .no, .no, .no, .no, .no], [d.cells], 0⟩ := by
        intro hk hk2
        refine ⟨m' - 1, by omega, i + 1, by omega, fun j hj hji => ?_, hk2, by rw [wi]⟩
        by_cases hje : j = i
        · subst hje; exact hk
        · exact hb j hj (by omega)
      have hle : i ≤ d.ml.length := by omega
      have hmi : min i d.ml.length = i := by omega
      revert hmv no fin hnt
      generalize hpp : d.ml[i] = p
      intro hmv hnt no fin
      have mr := mOk_r g1 p
      by_cases c1 : p.frm < 0
      · have := no (fun q => by have := (mr.1 q).1; omega)
        simp -implicitDefEqProofs [Df.v, Df.cells, h1, h0, hm, hmv, c1, this]
      by_cases c2 : p.frm ≥ d.g.length
      · have := no (fun q => by have := (mr.1 q).2.1; omega)
        simp -implicitDefEqProofs [Df.v, Df.cells, h1, h0, hm, hmv, c1, c2, this]
      by_cases c3 : p.to < 0
      · have := no (fun q => by have := (mr.1 q).2.2.1; omega)
        simp -implicitDefEqProofs [Df.v, Df.cells, h1, h0, hm, hmv, c1, c2, c3, this]
      by_cases c4 : p.to ≥ d.g.length
      · have := no (fun q => by have := (mr.1 q).2.2.2.1; omega)
        simp -implicitDefEqProofs [Df.v, Df.cells, h1, h0, hm, hmv, c1, c2, c3, c4, this]
      have f1 : p.frm.toNat < d.g.length := by omega
      have f2 : p.to.toNat < d.g.length := by omega
      have f3 : p.frm < d.g.length := by omega
      have f4 : p.to < d.g.length := by omega
      have hf := lv_ate (s := d.eng) (i := p.frm) (by omega) (by omega)
      have ht := lv_ate (s := d.eng) (i := p.to) (by omega) (by omega)
      cases c5 : bAt d.eng p.frm
      case' false =>
        have := no (fun q => by have := (mr.1 q).2.2.2.2.1; simp [c5] at this)
        simp -implicitDefEqProofs [Df.v, Df.cells, h1, h0, hm, hmv, c1, c2, c3, c4, f1, f3, e1, hf, c5, this]
      cases c6 : p.rep
      case' false =>
        have mr2 : mOk d p ↔ reOk d.g p.frm p.to := by rw [mr, if_neg (by simp [c6])]; exact ⟨fun q => q.2.2.2.2.2, fun q => ⟨by omega, f3, by omega, f4, c5, q⟩⟩
        simp -implicitDefEqProofs [Df.v, Df.cells, h1, h0, hm, hmv, c1, c2, c3, c4, f1, f3, e1, hf, c5, c6]
        refine wk_take ?_
        simp -implicitDefEqProofs
        refine wc_of (redge_pc d.g hs.nx p.frm p.to) (by simp) (by simp) ?_
        rintro _ rfl
        by_cases c7 : reOk d.g p.frm p.to
        case' neg =>
          have := no (fun q => c7 (mr2.1 q))
          simp -implicitDefEqProofs [c7, this]
        have mok := mr2.2 c7
        simp -implicitDefEqProofs [c7, h0, hle, hm, h1, hmi, mv_take]
      case' true =>
        have mr2 : mOk d p ↔ bAt d.eng p.to = true ∧ reOk d.g p.to p.frm := by rw [mr, if_pos c6]; exact ⟨fun q => q.2.2.2.2.2, fun q => ⟨by omega, f3, by omega, f4, c5, q⟩⟩
        cases c7 : bAt d.eng p.to
        case' false =>
          have := no (fun q => by have := (mr2.1 q).1; simp [c7] at this)
          simp -implicitDefEqProofs [Df.v, Df.cells, h1, h0, hm, hmv, c1, c2, c3, c4, f1, f2, f3, f4, e1, hf, ht, c5, c6, c7, this]
        simp -implicitDefEqProofs [Df.v, Df.cells, h1, h0, hm, hmv, c1, c2, c3, c4, f1, f2, f3, f4, e1, hf, ht, c5, c6, c7]
        refine wk_take ?_
        simp -implicitDefEqProofs
        refine wc_of (redge_pc d.g hs.nx p.to p.frm) (by simp) (by simp) ?_
        rintro _ rfl
        by_cases c8 : reOk d.g p.to p.frm
        case' neg =>
          have := no (fun q => c8 (mr2.1 q).2)
          simp -implicitDefEqProofs [c8, this]
        have mok := mr2.2 ⟨c7, c8⟩
        simp -implicitDefEqProofs [c8, h0, hle, hm, h1, hmi, mv_take]
      all_goals
        refine w_rounds [1, 7, 156, 157, 158, 231, 232, 233] [] 2 (by simp) (v19c d p i) i ⟨by simp, 0, by simp, by simp, by simp [Df.v, Df.cells, c6]⟩ ?_
        rintro m'' S ⟨j, hj, hne, rfl⟩
        by_cases hjm : j < i
        · have j1 : (j : Int) < i := by omega
          have j0 : ¬ (j : Int) < 0 := by omega
          have hjl : j < (d.ml.take i).length := by simp; omega
          have hmj := mv_ate hjl
          have hjt : (d.ml.take i)[j] = d.ml[j]'(by omega) := List.getElem_take
          rw [hjt] at hmj
          have wj : IntKind.i64.wrap ((j : Int) + 1) = ((j + 1 : Nat) : Int) := by rw [wrap64 (by omega)]; rfl
          by_cases he : d.ml[j]'(by omega) = p
          · have : ¬ d.ok := no2 (fun q => (hnt.1 q).2 j (by omega) hjm (by rw [he]))
            rw [he] at hmj
            simp -implicitDefEqProofs [Df.v, Df.cells, j1, j0, hjm, hmi, hmj, this]
          · have he' : ((d.ml[j]'(by omega)).frm == p.frm && ((d.ml[j]'(by omega)).to == p.to && (d.ml[j]'(by omega)).rep == p.rep)) = false := by
              cases q : ((d.ml[j]'(by omega)).frm == p.frm && ((d.ml[j]'(by omega)).to == p.to && (d.ml[j]'(by omega)).rep == p.rep))
              · rfl
              · simp at q
                exact absurd (Ml.ext' q.1 q.2.1 q.2.2) he
            revert hmj he'
            generalize hqq : d.ml[j]'(by omega) = y at he
            intro hmj he'
            simp -implicitDefEqProofs [Df.v, Df.cells, j1, j0, hjm, hmi, hmj, he']
            refine ⟨m'' - 1, by omega, j + 1, by omega, fun q hq hqj => ?_, by rw [wj]; rfl⟩
            by_cases hqe : q = j
            · subst hqe; rw [hqq]; exact he
            · exact hne q hq (by omega)
        · have j1 : ¬ (j : Int) < i := by omega
          simp -implicitDefEqProofs [Df.v, Df.cells, j1]
          exact fin mok (hnt.2 ⟨hnd, fun j' h1' h2' => hne j' h1' (by omega)⟩)
    · have h1 : ¬ (i : Int) < d.ml.length := by omega
      have : d.ok := ⟨g1, by omega, by omega, e1, e2, e3, g7, hall, fun p hp => by
        obtain ⟨j, hj, rfl⟩ := List.getElem_of_mem hp
        exact hb j hj (by omega), by rwa [List.take_of_length_le (by omega)] at hnd⟩
      simp -implicitDefEqProofs [h1, this]
end Go.Proofs.Ytcjmbkbbhlmkfaa
