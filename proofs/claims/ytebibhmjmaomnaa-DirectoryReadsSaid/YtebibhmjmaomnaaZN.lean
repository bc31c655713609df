/- Texts put behind one another: D9, D10, D11, D12, D13, D14, D15, D16, D17, D18, D19, D20, D21, D22, D23, Sh. -/
import Derived.Test.YtebibhmjmaomnaaZM
import Derived.Test.YtebibhmjmaomnaaZK
import Derived.Test.YtebibhmjmaomnaaZL
import Derived.Below
import Derived.WalkKit
import Derived.Deep.LoopGhost
import Derived.Deep.Draws
import Derived.RegionTactic
import Derived.Lib.Hide
import Derived.Test.YtebibhmjmaomnaaZE
set_option linter.unusedVariables false
set_option linter.unusedSimpArgs false
namespace Go.Proofs.Ytebibhmjmaomnaa
open Go.RowKit Go.Proofs
def mx (b r : Rp) : Rp := if b.ver < r.ver then r else b
def best (l : List Rp) : Rp := l.foldl mx (l.getD 0 Rp.z)
def clash (b r : Rp) : Bool := decide (r.ver = b.ver ∧ r.cat ≠ b.cat)
def nwE (l : List Rp) : Int := if l = [] then 1 else if l.all rpOk = false then 2 else if l.any (clash (best l)) = true then 13 else 0
def nwR (l : List Rp) : Rp := if nwE l = 0 then best l else Rp.z
theorem pl_ge {l : List Rp} {i : Nat} (h : i < (pl l).length) : (pl l)[i] = (l[i]'(by simpa using h)).v := by simp [pl]
theorem nwE_bad {l : List Rp} (h : l.all rpOk = false) : nwE l = 2 := by
  have : l ≠ [] := fun q => by subst q; simp at h
  simp [nwE, this, h]
theorem nwE_clash {l : List Rp} (hn : l ≠ []) (h : l.all rpOk = true) (hc : l.any (clash (best l)) = true) : nwE l = 13 := by
  unfold nwE; rw [if_neg hn, h, if_neg (by simp), if_pos hc]
theorem nwE_ok {l : List Rp} (hn : l ≠ []) (h : l.all rpOk = true) (hc : l.any (clash (best l)) = false) : nwE l = 0 := by
  unfold nwE; rw [if_neg hn, h, if_neg (by simp), if_neg (by simp [hc])]
theorem best_eq {l : List Rp} (h : 0 < l.length) : best l = l.foldl mx l[0] := by simp [best, List.getD, h]
theorem fold_mem : ∀ (l : List Rp) (a : Rp), l.foldl mx a = a ∨ l.foldl mx a ∈ l
  | [], a => .inl rfl
  | x :: l, a => by
    rw [List.foldl_cons]
    rcases fold_mem l (mx a x) with h | h
    · rw [h]
      unfold mx
      split
      · exact .inr (by simp)
      · exact .inl rfl
    · exact .inr (List.mem_cons_of_mem _ h)
def n112 (l : List Rp) (a : Rp) (m : Nat) (S : St) : Prop := ∃ i : Nat, i + m = l.length ∧ (l.take i).all rpOk = true ∧ S = ⟨tmL [(2, .ptr 0 0), (4, .ptr 1 0), (16, .list 2 (pl l)), (17, .s (.int .i64 l.length)), (18, .s (.int .i64 i))], [.list 2 (pl l), .s (.int .i64 0)], [[.s (.int .i64 0), .s (.slice none 0 0)], ((l.take i).foldl mx a).cs], 0⟩
def n212 (l : List Rp) (b : Rp) (m : Nat) (S : St) : Prop := ∃ i : Nat, i + m = l.length ∧ (l.take i).any (clash b) = false ∧ S = ⟨tmL [(2, .ptr 0 0), (4, .ptr 1 0), (33, .list 2 (pl l)), (34, .s (.int .i64 l.length)), (35, .s (.int .i64 i))], [.list 2 (pl l), .s (.int .i64 0)], [[.s (.int .i64 0), .s (.slice none 0 0)], b.cs], 0⟩
set_option maxHeartbeats 8000000 in
theorem Newest_pc (l : List Rp) (hl : l.length ≤ 1000000) (hs : ∀ x ∈ l, x.sm) : PC Try.prog 12 [.list 2 (pl l)] (fun q => q = .tup [(nwR l).v, .s (.int .i64 (nwE l))]) := by
  refine pc_list (q := fun q => frT q (.tup [(nwR l).v, .s (.int .i64 (nwE l))])) ?_ fun x hx _ => ⟨_, hx, rfl, rfl⟩
  refine pc_end c12 mixed rfl ?_
  cases h0 : ((l.length : Int) == 0)
  case' true =>
    have h9 : (l.length : Int) = 0 := by simpa only [beq_iff_eq] using h0
    have : l = [] := List.length_eq_zero_iff.1 (by omega)
    subst this
    simp -implicitDefEqProofs [a12, F12, nwR, nwE, Rp.z, Rp.v, frT, frAs, frA, frLs, frL, immC]
  have h9 : ¬ (l.length : Int) = 0 := by simpa only [beq_eq_false_iff_ne, ne_eq] using h0
  have hn : 0 < l.length := by omega
  have hz : (0 : Int) < l.length := by omega
  have hne : l ≠ [] := fun q => by subst q; simp at hn
  have hz2 : ¬ (l.length : Int) ≤ 0 := by omega
  simp -implicitDefEqProofs [a12, F12, h0, pl_ge, Rp.v, hn, hz, hz2]
  refine w_rounds [2, 4, 16, 17, 18] [] 2 (by simp) (n112 l l[0]) l.length ⟨by simp, 0, by simp, by simp, by simp [Rp.cs]⟩ ?_
  rintro m S ⟨i, hi, hx, rfl⟩
  by_cases hm : i < l.length
  · have h1 : (i : Int) < l.length := by omega
    have hi0 : ¬ (i : Int) < 0 := by omega
    have hw := wrap64 (n := (i : Int) + 1) (by omega)
    have v1 := rpValid_pc l[i] (hs _ (List.getElem_mem hm))
    have hf := fold_take (f := mx) (a := l[0]) hm
    generalize hb : (l.take i).foldl mx l[0] = b at hf
    simp -implicitDefEqProofs [h1, hi0, pl_get hm, Rp.v, Rp.cs]
    refine wk_take ?_
    simp -implicitDefEqProofs
    refine wc_of v1 (by simp [Rp.v]) (by simp [Rp.v]) ?_
    rintro _ rfl
    cases h2 : rpOk l[i]
    · have hE : nwE l = 2 := nwE_bad (by rw [List.all_eq_false]; exact ⟨_, List.getElem_mem hm, by simp [h2]⟩)
      simp -implicitDefEqProofs [nwR, hE, Rp.z, Rp.v, frT, frAs, frA, frLs, frL, immC]
    have hx2 : (l.take (i + 1)).all rpOk = true := by rw [all_take1 hm, hx, h2]; rfl
    by_cases h3 : b.ver < (l[i]).ver
    · have e : mx b l[i] = l[i] := by simp [mx, h3]
      rw [e] at hf
      simp -implicitDefEqProofs [h3, hw]
      exact ⟨m - 1, by omega, i + 1, by omega, hx2, by rw [hf]; simp [Rp.cs, Rp.v]⟩
    · have e : mx b l[i] = b := by simp [mx, h3]
      rw [e] at hf
      simp -implicitDefEqProofs [h3, hw]
      exact ⟨m - 1, by omega, i + 1, by omega, hx2, by rw [hf]; simp [Rp.cs, Rp.v]⟩
  have e : i = l.length := by omega
  rw [List.take_of_length_le (by omega)] at hx
  rw [List.take_of_length_le (by omega)]
  generalize hb : l.foldl mx l[0] = b
  have hbm : b.sm := by
    have := fold_mem l l[0]
    rw [hb] at this
    rcases this with q | q
    · rw [q]; exact hs _ (List.getElem_mem hn)
    · exact hs _ q
  have c1 := clone_pc b hbm
  have hbs : best l = b := by rw [← hb]; exact best_eq hn
  simp -implicitDefEqProofs [e, Rp.cs]
  refine w_rounds [2, 4, 33, 34, 35] [] 2 (by simp) (n212 l b) l.length ⟨by simp, 0, by simp, by simp, by simp [Rp.cs]⟩ ?_
  rintro m S ⟨i, hi, hy, rfl⟩
  by_cases hm : i < l.length
  · have h1 : (i : Int) < l.length := by omega
    have hi0 : ¬ (i : Int) < 0 := by omega
    have hw := wrap64 (n := (i : Int) + 1) (by omega)
    have q1 := Equal_pc (l[i]).cat b.cat (hs _ (List.getElem_mem hm))
    cases h2 : ((l[i]).ver == b.ver)
    · have hc : clash b l[i] = false := by simp [clash]; intro h; simp [h] at h2
      simp -implicitDefEqProofs [h1, hi0, pl_get hm, Rp.v, Rp.cs, h2, hw]
      exact ⟨m - 1, by omega, i + 1, by omega, by rw [any_tk1 hm, hy, hc]; rfl, by simp [Rp.cs]⟩
    simp -implicitDefEqProofs [h1, hi0, pl_get hm, Rp.v, Rp.cs, h2]
    refine wk_take ?_
    simp -implicitDefEqProofs
    refine wc_of q1 (by simp [Rp.v]) (by simp [Rp.v]) ?_
    rintro _ rfl
    have h3 : (l[i]).ver = b.ver := by simpa using h2
    by_cases h4 : (l[i]).cat = b.cat
    · have hc : clash b l[i] = false := by simp [clash, h4]
      
      simp -implicitDefEqProofs [h4, hw]
      exact ⟨m - 1, by omega, i + 1, by omega, by rw [any_tk1 hm, hy, hc]; rfl, by simp [Rp.cs]⟩
    · have hc : clash b l[i] = true := by simp [clash, h4, h3]
      
      have hE : nwE l = 13 := nwE_clash hne hx (by rw [hbs]; exact List.any_eq_true.2 ⟨_, List.getElem_mem hm, hc⟩)
      simp -implicitDefEqProofs [h4, nwR, hE, Rp.z, Rp.v, frT, frAs, frA, frLs, frL, immC]
  · have e : i = l.length := by omega
    rw [List.take_of_length_le (by omega)] at hy
    have hE : nwE l = 0 := nwE_ok hne hx (by rw [hbs]; exact hy)
    have hR : nwR l = b := by simp [nwR, hE, hbs]
    simp -implicitDefEqProofs [e, Rp.cs]
    refine wk_take ?_
    simp -implicitDefEqProofs
    refine wc_of c1 (by simp [Rp.v]) (by simp [Rp.v]) ?_
    rintro _ rfl
    simp -implicitDefEqProofs [hE, hR, Rp.v, frT, frAs, frA, frLs, frL, immC]
end Go.Proofs.Ytebibhmjmaomnaa
namespace Go.Proofs.Ytebibhmjmaomnaa
open Go.RowKit Go.Proofs
noncomputable def vlOk (l : List Rp) (n : Int) (q : List Int) : Bool := okB n q && decide ((l.length : Int) = n) && l.all rpOk
def v46 (l : List Rp) (n : Int) (q : List Int) (m : Nat) (S : St) : Prop := ∃ i : Nat, i + m = l.length ∧ (l.take i).all rpOk = true ∧ S = ⟨tmL [(17, .list 2 (pl l)), (18, .s (.int .i64 l.length)), (19, .s (.int .i64 i))], [.list 2 (pl l), cP n q, .s (.bool false)], [], 0⟩
set_option maxHeartbeats 8000000 in
theorem vList_pc (l : List Rp) (n : Int) (q : List Int) (hl : l.length ≤ 1000000) (hs : ∀ x ∈ l, x.sm) (hq : q.length ≤ 1000) : PC Try.prog 46 [.list 2 (pl l), cP n q] (fun r => r = .s (.bool (vlOk l n q))) := by
  have c1 := Valid_pc n q (by omega)
  refine pc_end c46 mixed rfl ?_
  simp -implicitDefEqProofs [a46, F46, cP]
  refine wk_take ?_
  simp -implicitDefEqProofs
  refine wc_of c1 (by simp [cP]) (by simp [cP]) ?_
  rintro _ rfl
  cases h1 : okB n q
  case' false => simp -implicitDefEqProofs [vlOk, h1]
  cases h2 : ((l.length : Int) != n)
  case' true =>
    have h3 : ¬ (l.length : Int) = n := by simpa using h2
    simp -implicitDefEqProofs [vlOk, h1, h2, h3]
  have h3 : (l.length : Int) = n := by simpa using h2
  simp -implicitDefEqProofs [h2]
  refine w_rounds [17, 18, 19] [] 0 (Nat.le_refl _) (v46 l n q) l.length ⟨by simp, 0, by simp, by simp, by simp [cP]⟩ ?_
  rintro m S ⟨i, hi, hx, rfl⟩
  by_cases hm : i < l.length
  · have g1 : (i : Int) < l.length := by omega
    have hi0 : ¬ (i : Int) < 0 := by omega
    have hw := wrap64 (n := (i : Int) + 1) (by omega)
    have v1 := rpValid_pc l[i] (hs _ (List.getElem_mem hm))
    simp -implicitDefEqProofs [g1, hi0, pl_get hm, Rp.v]
    refine wk_take ?_
    simp -implicitDefEqProofs
    refine wc_of v1 (by simp [Rp.v]) (by simp [Rp.v]) ?_
    rintro _ rfl
    cases h4 : rpOk l[i]
    · have nk : l.all rpOk = false := by rw [List.all_eq_false]; exact ⟨_, List.getElem_mem hm, by simp [h4]⟩
      simp -implicitDefEqProofs [vlOk, nk]
    · simp -implicitDefEqProofs [hw, cP]
      exact ⟨m - 1, by omega, i + 1, by omega, by rw [all_take1 hm, hx, h4]; rfl, by simp [cP]⟩
  · have e : i = l.length := by omega
    rw [List.take_of_length_le (by omega)] at hx
    simp -implicitDefEqProofs [e, vlOk, h1, h3, hx]
end Go.Proofs.Ytebibhmjmaomnaa
namespace Go.Proofs.Ytebibhmjmaomnaa
open Go.RowKit Go.Proofs
def pickU (s : Nat) (l : List Rp) (i : Nat) : List Rp := ((List.range i).filter fun j => s.testBit j).map fun j => l.getD j Rp.z
def pick (s : Nat) (l : List Rp) : List Rp := pickU s l l.length
theorem pickU_succ {s : Nat} {l : List Rp} {i : Nat} (h : i < l.length) : pickU s l (i + 1) = if s.testBit i then pickU s l i ++ [l[i]] else pickU s l i := by
  unfold pickU
  rw [List.range_succ, List.filter_append, List.map_append]
  cases e : s.testBit i <;> simp [e, List.getD, h]
theorem pickU_len (s : Nat) (l : List Rp) (i : Nat) : (pickU s l i).length ≤ i := by
  unfold pickU
  rw [List.length_map]
  exact Nat.le_trans (List.length_filter_le _ _) (by simp)
theorem pickU_mem {s : Nat} {l : List Rp} {i : Nat} (h : i ≤ l.length) {x : Rp} (hx : x ∈ pickU s l i) : x ∈ l := by
  unfold pickU at hx
  simp only [List.mem_map, List.mem_filter, List.mem_range] at hx
  obtain ⟨j, ⟨hj, _⟩, rfl⟩ := hx
  simp [List.getD, show j < l.length by omega]
theorem and_pow (s i : Nat) : s &&& 2 ^ i = if s.testBit i then 2 ^ i else 0 := by
  apply Nat.eq_of_testBit_eq
  intro j
  rw [Nat.testBit_and, Nat.testBit_two_pow]
  by_cases h : i = j
  · subst h
    cases e : s.testBit i <;> simp
  · cases e : s.testBit i <;> simp [h, Nat.testBit_two_pow]
theorem bit_code {s i : Nat} (hs : s < 512) (hi : i < 9) : (bits .and .i64 (s : Int) ((2 ^ i : Nat) : Int) != 0) = s.testBit i := by
  have h1 : 2 ^ i ≤ 2 ^ 8 := Nat.pow_le_pow_right (by omega) (by omega)
  have h2 := band_nat (a := s) (b := 2 ^ i) hs (by omega)
  unfold band at h2
  rw [h2, and_pow]
  have h3 : 0 < 2 ^ i := Nat.two_pow_pos i
  cases e : s.testBit i
  · simp
  · simp only [if_true]
    have : ¬ ((2 ^ i : Nat) : Int) = 0 := by omega
    simpa using this
end Go.Proofs.Ytebibhmjmaomnaa
namespace Go.Proofs.Ytebibhmjmaomnaa
open Go.RowKit Go.Proofs
noncomputable def rdE (l : List Rp) (n : Int) (q : List Int) (up : Int) : Int := if vlOk l n q = false then 2 else match availE n q up with
  | none => 21
  | some s => nwE (pick s.toNat l)
noncomputable def rdR (l : List Rp) (n : Int) (q : List Int) (up : Int) : Rp := if rdE l n q up = 0 then best (pick ((availE n q up).getD 0).toNat l) else Rp.z
theorem avail_mem {up s0 : Int} : ∀ {q : List Int}, avail up q = some s0 → s0 ∈ q
  | [], h => by simp [avail] at h
  | t :: q, h => by
    unfold avail at h
    split at h
    · cases h; simp
    · exact List.mem_cons_of_mem _ (avail_mem h)
theorem vl_bits {l : List Rp} {n : Int} {q : List Int} {up s0 : Int} (h1 : vlOk l n q = true) (h2 : availE n q up = some s0) : ∃ s : Nat, s0 = (s : Int) ∧ s < 512 ∧ l.length ≤ 9 := by
  obtain ⟨h3, h4⟩ := Bool.and_eq_true_iff.1 h1
  obtain ⟨h3, h5⟩ := Bool.and_eq_true_iff.1 h3
  have hok := okB_iff.1 h3
  have hn9 := hok.n1
  have hlen : (l.length : Int) = n := by simpa using h5
  have hcv := okC_cv hok
  have hm : s0 ∈ q := by
    unfold availE at h2
    rw [if_pos h3] at h2
    exact avail_mem h2
  have hk9 := hcv.k1
  rw [hcv.q] at hm
  unfold zi at hm
  obtain ⟨t, ht, rfl⟩ := List.mem_map.1 hm
  exact ⟨t, rfl, hcv.lt t ht, by omega⟩
def r21 (l : List Rp) (n : Int) (q : List Int) (up : Int) (s : Nat) (m : Nat) (S : St) : Prop := ∃ i : Nat, i + m = l.length ∧ S = ⟨tmL [(6, .ptr 1 0), (27, .list 2 (pl l)), (28, .s (.int .i64 l.length)), (29, .s (.int .i64 i))], [.list 2 (pl l), cP n q, .s (.int .i64 up), .s (.int .i64 0), .s (.int .i64 s), .s (.bool true), .own true 32 2 (pl (pickU s l i)), .no], [[.s (.int .i64 n), .list 1 (iv q)], [.s (.int .i64 0), .s (.slice none 0 0)]], 0⟩
set_option maxHeartbeats 8000000 in
theorem Read_pc (l : List Rp) (n : Int) (q : List Int) (up : Int) (hl : l.length ≤ 1000000) (hs : ∀ x ∈ l, x.sm) (hq : q.length ≤ 1000) : PC Try.prog 21 [.list 2 (pl l), cP n q, .s (.int .i64 up)] (fun r => r = .tup [(rdR l n q up).v, .s (.int .i64 (rdE l n q up))]) := by
  refine pc_list (q := fun r => frT r (.tup [(rdR l n q up).v, .s (.int .i64 (rdE l n q up))])) ?_ fun x hx _ => ⟨_, hx, rfl, rfl⟩
  have c1 := vList_pc l n q hl hs hq
  have c2 := Avail_pc n q up hq
  refine pc_end c21b mixed rfl ?_
  simp -implicitDefEqProofs [a21b, F21, cP]
  refine wk_take ?_
  simp -implicitDefEqProofs
  refine wc_of c1 (by simp [cP]) (by simp [cP]) ?_
  rintro _ rfl
  cases h1 : vlOk l n q
  case' false =>
    have hE : rdE l n q up = 2 := by simp [rdE, h1]
    simp -implicitDefEqProofs [rdR, hE, Rp.z, Rp.v, frT, frAs, frA, frLs, frL, immC]
  simp -implicitDefEqProofs
  refine wk_take ?_
  simp -implicitDefEqProofs
  refine wc_of c2 (by simp [cP]) (by simp [cP]) ?_
  rintro _ rfl
  cases h2 : availE n q up
  case' none =>
    have hE : rdE l n q up = 21 := by simp [rdE, h1, h2]
    simp -implicitDefEqProofs [avR, rdR, hE, Rp.z, Rp.v, frT, frAs, frA, frLs, frL, immC]
  next s0 =>
  obtain ⟨s, rfl, hs9, hl9⟩ := vl_bits h1 h2
  have hEq : rdE l n q up = nwE (pick s l) := by simp [rdE, h1, h2]
  have hRq : rdR l n q up = nwR (pick s l) := by simp [rdR, hEq, h2, nwR]
  simp -implicitDefEqProofs [avR]
  refine w_rounds [6, 27, 28, 29] [7] 2 (by simp) (r21 l n q up s) l.length ⟨by simp, 0, by simp, by simp [cP, pickU]⟩ ?_
  rintro m S ⟨i, hi, rfl⟩
  have hlen := pickU_len s l i
  have b1 : (pickU s l i).length + 1 ≤ maxLen ∧ ((pickU s l i).length + 1) * 32 ≤ maxBytes := by simp [maxLen, maxBytes]; omega
  by_cases hm : i < l.length
  · have g1 : (i : Int) < l.length := by omega
    have hi0 : ¬ (i : Int) < 0 := by omega
    have hw := wrap64 (n := (i : Int) + 1) (by omega)
    have hsh := shl1 (n := i) (by omega)
    have hbit := bit_code (s := s) (i := i) hs9 (by omega)
    have hpk := pickU_succ (s := s) hm
    have h2n : (2 : Int) ^ min i IntKind.i64.bits = ((2 ^ i : Nat) : Int) := by
      rw [show min i IntKind.i64.bits = i by simp [IntKind.bits]; omega]; simp
    rw [h2n] at hsh
    generalize hpu : pickU s l i = out at hpk b1
    generalize ((2 ^ i : Nat) : Int) = p at hsh hbit h2n
    cases hb : s.testBit i
    · rw [hb] at hbit
      have hpk2 : pickU s l (i + 1) = out := by rw [hpk, hb]; rfl
      simp -implicitDefEqProofs [g1, hi0, pl_get hm, Rp.v, cP, h2n, hsh, ↓binS_and, hbit, hw]
      exact ⟨m - 1, by omega, i + 1, by omega, by rw [hpk2]; simp [cP]⟩
    · rw [hb] at hbit
      have hpk2 : pickU s l (i + 1) = out ++ [l[i]] := by rw [hpk, hb]; rfl
      simp -implicitDefEqProofs [g1, hi0, pl_get hm, Rp.v, cP, h2n, hsh, ↓binS_and, hbit, hw, b1]
      exact ⟨m - 1, by omega, i + 1, by omega, by rw [hpk2]; simp [cP, pl, Rp.v]⟩
  · have e : i = l.length := by omega
    subst e
    have hpk : pickU s l l.length = pick s l := rfl
    have c3 := Newest_pc (pick s l) (by rw [← hpk]; omega) (fun x hx => hs x (pickU_mem (Nat.le_refl _) hx))
    rw [hpk]
    simp -implicitDefEqProofs [cP]
    refine wk_take ?_
    simp -implicitDefEqProofs
    refine wc_of c3 (by simp) (by simp) ?_
    rintro _ rfl
    simp -implicitDefEqProofs [Rp.v, hEq, hRq, frT, frAs, frA, frLs, frL, immC]
end Go.Proofs.Ytebibhmjmaomnaa
namespace Go.Proofs.Ytebibhmjmaomnaa
open Go.RowKit Go.Proofs
def wrF (s : Nat) (l : List Rp) (r : Rp) : Nat → Int
  | 0 => 0
  | i + 1 => if wrF s l r i ≠ 0 then wrF s l r i else if s.testBit i then accE (l.getD i Rp.z) r else 0
def wrU (s : Nat) (l : List Rp) (r : Rp) (i : Nat) : List Rp := (List.range i).map fun j => if s.testBit j then accR (l.getD j Rp.z) r else l.getD j Rp.z
noncomputable def wrE (l : List Rp) (n : Int) (q : List Int) (up : Int) (r : Rp) : Int := if vlOk l n q = false ∨ rpOk r = false then 2 else match availE n q up with
  | none => 21
  | some s => wrF s.toNat l r l.length
noncomputable def wrR (l : List Rp) (n : Int) (q : List Int) (up : Int) (r : Rp) : List Rp := if wrE l n q up r = 0 then wrU ((availE n q up).getD 0).toNat l r l.length else []
theorem wrF_succ {s : Nat} {l : List Rp} {r : Rp} {i : Nat} (h : i < l.length) : wrF s l r (i + 1) = if wrF s l r i ≠ 0 then wrF s l r i else if s.testBit i then accE l[i] r else 0 := by
  simp [wrF, List.getD, h]
theorem wrF_stop {s : Nat} {l : List Rp} {r : Rp} {i j : Nat} (h : i ≤ j) (he : wrF s l r i ≠ 0) : wrF s l r j = wrF s l r i := by
  induction h with
  | refl => rfl
  | step _ ih =>
    show (if wrF s l r _ ≠ 0 then _ else _) = _
    rw [ih, if_pos he]
theorem wrU_succ {s : Nat} {l : List Rp} {r : Rp} {i : Nat} (h : i < l.length) : wrU s l r (i + 1) = wrU s l r i ++ [if s.testBit i then accR l[i] r else l[i]] := by
  unfold wrU
  rw [List.range_succ, List.map_append]
  simp [List.getD, h]
def r23 (l : List Rp) (n : Int) (q : List Int) (up : Int) (r : Rp) (s : Nat) (m : Nat) (S : St) : Prop := ∃ i : Nat, i + m = l.length ∧ wrF s l r i = 0 ∧ S = ⟨tmL [(7, .ptr 1 0), (34, .list 2 (pl l)), (35, .s (.int .i64 l.length)), (36, .s (.int .i64 i))], [.list 2 (pl l), cP n q, .s (.int .i64 up), r.v, .s (.slice none 0 0), .s (.int .i64 0), .s (.int .i64 s), .s (.bool true), .own true 32 2 (pl (wrU s l r i)), .no, .no], [[.s (.int .i64 n), .list 1 (iv q)], r.cs], 0⟩
set_option maxHeartbeats 8000000 in
theorem Write_pc (l : List Rp) (n : Int) (q : List Int) (up : Int) (r : Rp) (hl : l.length ≤ 1000000) (hs : ∀ x ∈ l, x.sm) (hq : q.length ≤ 1000) (hr : r.sm) : PC Try.prog 23 [.list 2 (pl l), cP n q, .s (.int .i64 up), r.v] (fun x => x = .tup [.list 2 (pl (wrR l n q up r)), .s (.int .i64 (wrE l n q up r))]) := by
  refine pc_list (q := fun x => frT x (.tup [.list 2 (pl (wrR l n q up r)), .s (.int .i64 (wrE l n q up r))])) ?_ fun x hx _ => ⟨_, hx, rfl, rfl⟩
  have c1 := vList_pc l n q hl hs hq
  have c2 := Avail_pc n q up hq
  have c4 := rpValid_pc r hr
  refine pc_end c23 mixed rfl ?_
  simp -implicitDefEqProofs [a23, F23, cP, Rp.v]
  refine wk_take ?_
  simp -implicitDefEqProofs
  refine wc_of c1 (by simp [cP]) (by simp [cP]) ?_
  rintro _ rfl
  cases h1 : vlOk l n q
  case' false =>
    have hE : wrE l n q up r = 2 := by simp [wrE, h1]
    simp -implicitDefEqProofs [wrR, hE, pl, frT, frAs, frA, frLs, frL, immC]
  simp -implicitDefEqProofs
  refine wk_take ?_
  simp -implicitDefEqProofs
  refine wc_of c4 (by simp [Rp.v]) (by simp [Rp.v]) ?_
  rintro _ rfl
  cases h8 : rpOk r
  case' false =>
    have hE : wrE l n q up r = 2 := by simp [wrE, h1, h8]
    simp -implicitDefEqProofs [wrR, hE, pl, frT, frAs, frA, frLs, frL, immC]
  simp -implicitDefEqProofs
  refine wk_take ?_
  simp -implicitDefEqProofs
  refine wc_of c2 (by simp [cP]) (by simp [cP]) ?_
  rintro _ rfl
  cases h2 : availE n q up
  case' none =>
    have hE : wrE l n q up r = 21 := by simp [wrE, h1, h8, h2]
    simp -implicitDefEqProofs [avR, wrR, hE, pl, frT, frAs, frA, frLs, frL, immC]
  next s0 =>
  obtain ⟨s, rfl, hs9, hl9⟩ := vl_bits h1 h2
  have hEq : wrE l n q up r = wrF s l r l.length := by simp [wrE, h1, h8, h2]
  simp -implicitDefEqProofs [avR]
  refine w_rounds [7, 34, 35, 36] [9, 10] 2 (by simp) (r23 l n q up r s) l.length ⟨by simp, 0, by simp, by simp [wrF], by simp [cP, wrU, Rp.v, Rp.cs, pl]⟩ ?_
  rintro m S ⟨i, hi, hF, rfl⟩
  have hlen : (wrU s l r i).length = i := by simp [wrU]
  have b1 : (wrU s l r i).length + 1 ≤ maxLen ∧ ((wrU s l r i).length + 1) * 32 ≤ maxBytes := by simp [maxLen, maxBytes]; omega
  by_cases hm : i < l.length
  · have g1 : (i : Int) < l.length := by omega
    have hi0 : ¬ (i : Int) < 0 := by omega
    have hw := wrap64 (n := (i : Int) + 1) (by omega)
    have hsh := shl1 (n := i) (by omega)
    have hbit := bit_code (s := s) (i := i) hs9 (by omega)
    have hU := wrU_succ (s := s) (r := r) hm
    have k1 := clone_pc l[i] (hs _ (List.getElem_mem hm))
    have k2 := Accept_pc l[i] r (hs _ (List.getElem_mem hm)) hr
    have h2n : (2 : Int) ^ min i IntKind.i64.bits = ((2 ^ i : Nat) : Int) := by
      rw [show min i IntKind.i64.bits = i by simp [IntKind.bits]; omega]; simp
    rw [h2n] at hsh
    have hFe : s.testBit i = true → wrF s l r (i + 1) = accE l[i] r := fun h => by rw [wrF_succ hm, if_neg (by simpa using hF), if_pos h]
    have hFz : s.testBit i = false → wrF s l r (i + 1) = 0 := fun h => by rw [wrF_succ hm, if_neg (by simpa using hF), h]; rfl
    have hst := fun h => wrF_stop (s := s) (l := l) (r := r) (i := i + 1) (j := l.length) (by omega) h
    generalize hpu : wrU s l r i = out at hU b1
    generalize ((2 ^ i : Nat) : Int) = p at hsh hbit h2n
    cases hb : s.testBit i
    · rw [hb] at hbit
      have hbe : (bits .and .i64 (s : Int) p == 0) = true := by simpa using hbit
      have hU2 : wrU s l r (i + 1) = out ++ [l[i]] := by rw [hU, hb]; rfl
      simp -implicitDefEqProofs [g1, hi0, pl_get hm, Rp.v, Rp.cs, cP, h2n, hsh, ↓binS_and, hbe]
      refine wk_take ?_
      simp -implicitDefEqProofs
      refine wc_of k1 (by simp [Rp.v]) (by simp [Rp.v]) ?_
      rintro _ rfl
      simp -implicitDefEqProofs [Rp.v, b1, hw]
      exact ⟨m - 1, by omega, i + 1, by omega, hFz hb, by rw [hU2]; simp [cP, pl, Rp.v, Rp.cs]⟩
    · rw [hb] at hbit
      have hbe : (bits .and .i64 (s : Int) p == 0) = false := by simpa using hbit
      have hU2 : wrU s l r (i + 1) = out ++ [accR l[i] r] := by rw [hU, hb]; rfl
      simp -implicitDefEqProofs [g1, hi0, pl_get hm, Rp.v, Rp.cs, cP, h2n, hsh, ↓binS_and, hbe]
      refine wk_take ?_
      simp -implicitDefEqProofs
      refine wc_of k2 (by simp [Rp.v]) (by simp [Rp.v]) ?_
      rintro _ rfl
      cases he : (accE l[i] r != 0)
      · have he0 : accE l[i] r = 0 := by simpa using he
        simp -implicitDefEqProofs [Rp.v, he, b1, hw]
        exact ⟨m - 1, by omega, i + 1, by omega, by rw [hFe hb, he0], by rw [hU2]; simp [cP, pl, Rp.v, Rp.cs]⟩
      · have he0 : ¬ accE l[i] r = 0 := by simpa using he
        have hEf : wrE l n q up r = accE l[i] r := by rw [hEq, hst (by rw [hFe hb]; exact he0), hFe hb]
        simp -implicitDefEqProofs [Rp.v, he, wrR, hEf, he0, pl, frT, frAs, frA, frLs, frL, immC]
  · have e : i = l.length := by omega
    subst e
    have hR : wrR l n q up r = wrU s l r l.length := by simp [wrR, hEq, hF, h2]
    rw [hF] at hEq
    simp -implicitDefEqProofs [hEq, hR, frT, frAs, frA, frLs, frL, immC]
end Go.Proofs.Ytebibhmjmaomnaa
namespace Go.Proofs.Ytebibhmjmaomnaa
open Go.RowKit Go.Proofs
theorem z_sm : Rp.z.sm := by simp [Rp.sm, Rp.z]
theorem best_sm {l : List Rp} (h : ∀ x ∈ l, x.sm) : (best l).sm := by
  unfold best
  have h0 : (l.getD 0 Rp.z).sm := by
    cases l with
    | nil => exact z_sm
    | cons a l => exact h _ (by simp)
  rcases fold_mem l (l.getD 0 Rp.z) with q | q
  · rw [q]; exact h0
  · exact h _ q
theorem rdR_sm {l : List Rp} {n : Int} {q : List Int} {up : Int} (h : ∀ x ∈ l, x.sm) : (rdR l n q up).sm := by
  unfold rdR
  split
  · exact best_sm fun x hx => h x (pickU_mem (Nat.le_refl _) hx)
  · exact z_sm
theorem catOk_len {l : List Rs} (h : catOk l = true) : l.length ≤ 8 := by
  unfold catOk at h
  simp only [Bool.and_eq_true, decide_eq_true_eq] at h
  exact h.1.1
theorem insV_len (l : List Rs) (x : Rs) : (insV l x).length ≤ l.length + 1 := by
  unfold insV
  simp
  omega
theorem chgR_sm (r : Rp) (add : Bool) (x : Rs) : (chgR r add x).sm := by
  unfold chgR
  split
  · rename_i h
    have h1 : rpOk r = true := by
      cases e : rpOk r
      · simp [chgE, e] at h
      · rfl
    have h2 : r.cat.length ≤ 8 := catOk_len (by unfold rpOk at h1; simp only [Bool.and_eq_true] at h1; exact h1.2)
    unfold Rp.sm
    cases add
    · simp only [Bool.false_eq_true, if_false]
      unfold delL
      split
      · simp; omega
      · simp
    · simp only [if_true]
      unfold insL
      have := insV_len r.cat x
      split
      · omega
      · simp
  · exact z_sm
noncomputable def upE (l : List Rp) (n : Int) (q : List Int) (rd wr : Int) (add : Bool) (x : Rs) : Int := if rdE l n q rd ≠ 0 then rdE l n q rd else if chgE (rdR l n q rd) add x ≠ 0 then chgE (rdR l n q rd) add x else wrE l n q wr (chgR (rdR l n q rd) add x)
noncomputable def upR (l : List Rp) (n : Int) (q : List Int) (rd wr : Int) (add : Bool) (x : Rs) : List Rp := if upE l n q rd wr add x = 0 then wrR l n q wr (chgR (rdR l n q rd) add x) else []
end Go.Proofs.Ytebibhmjmaomnaa
namespace Go.Proofs.Ytebibhmjmaomnaa
open Go.RowKit Go.Proofs
def uB (l : List Rp) (n : Int) (q : List Int) (rd wr : Int) (add : Bool) (x : Rs) (r : Rp) : List V := [.list 2 (pl l), .s (.int .i64 n), .list 1 (iv q), .s (.int .i64 rd), .s (.int .i64 wr), .s (.bool add), .s (.string x.nm), .s (.int .i64 x.kd), .s (.int .i64 x.un), .s (.int .i64 x.hm), .s (.int .i64 r.ver), .list 4 (rl r.cat)]
set_option maxHeartbeats 8000000 in
theorem uread_ac (l : List Rp) (n : Int) (q : List Int) (rd wr : Int) (add : Bool) (x : Rs) (r : Rp) (hl : l.length ≤ 1000000) (hs : ∀ x ∈ l, x.sm) (hq : q.length ≤ 1000) :
    AC Try.prog 49 [.ptr 0 0] [uB l n q rd wr add x r] fun y bs => y = .s (.int .i64 (rdE l n q rd)) ∧ bs = [uB l n q rd wr add x (rdR l n q rd)] := by
  have c1 := Read_pc l n q rd hl hs hq
  refine ac_end c49 mixed rfl ?_
  simp -implicitDefEqProofs [a49, F49, uB]
  refine wkd_take ?_
  simp -implicitDefEqProofs
  refine wcd_of c1 (by simp [cP]) (by simp [cP]) ?_
  simp -implicitDefEqProofs [Rp.v]
  refine retA_of 1 ?_
  simp -implicitDefEqProofs [uB]
set_option maxHeartbeats 8000000 in
theorem uchange_ac (l : List Rp) (n : Int) (q : List Int) (rd wr : Int) (add : Bool) (x : Rs) (r : Rp) (hr : r.sm) :
    AC Try.prog 50 [.ptr 0 0] [uB l n q rd wr add x r] fun y bs => y = .s (.int .i64 (chgE r add x)) ∧ bs = [uB l n q rd wr add x (chgR r add x)] := by
  have c1 := Change_pc r add x hr
  refine ac_end c50 mixed rfl ?_
  simp -implicitDefEqProofs [a50, F50, uB]
  refine wkd_take ?_
  simp -implicitDefEqProofs
  refine wcd_of c1 (by simp [Rp.v, Rs.v]) (by simp [Rp.v, Rs.v]) ?_
  simp -implicitDefEqProofs [Rp.v]
  refine retA_of 1 ?_
  simp -implicitDefEqProofs [uB]
set_option maxHeartbeats 8000000 in
theorem uwrite_ac (l : List Rp) (n : Int) (q : List Int) (rd wr : Int) (add : Bool) (x : Rs) (r : Rp) (hl : l.length ≤ 1000000) (hs : ∀ x ∈ l, x.sm) (hq : q.length ≤ 1000) (hr : r.sm) :
    AC Try.prog 51 [.ptr 0 0] [uB l n q rd wr add x r] fun y bs => y = .s (.int .i64 (wrE l n q wr r)) ∧ bs = [uB (wrR l n q wr r) n q rd wr add x r] := by
  have c1 := Write_pc l n q wr r hl hs hq hr
  refine ac_end c51 mixed rfl ?_
  simp -implicitDefEqProofs [a51, F51, uB]
  refine wkd_take ?_
  simp -implicitDefEqProofs
  refine wcd_of c1 (by simp [cP, Rp.v]) (by simp [cP, Rp.v]) ?_
  simp -implicitDefEqProofs [Rp.v]
  refine retA_of 1 ?_
  simp -implicitDefEqProofs [uB]
end Go.Proofs.Ytebibhmjmaomnaa
namespace Go.Proofs.Ytebibhmjmaomnaa
open Go.RowKit Go.Proofs
structure MB (g : Gh) (w : World) (k : Nat) (cs : List V) : Prop where
  box : ∃ vs ty, w.heap[k]? = some (.cells vs ty (0, 0)) ∧ vs.size = cs.length ∧ ∀ (j : Nat) (u : V) (c : Value), cs[j]? = some u → vs[j]? = some c → Rep g w u c ∧ c.oneCell' = true
  I0 : g.I k = 0
  Ilt : ∀ b, 0 < g.I b → b < w.heap.size
theorem imm_phi {g g' : Gh} {w : World} {u : V} {v : Value} (h : Rep g w u v) (hi : immC u = true) (hI : g'.I = g.I) : Rep g' w u v := by
  refine h.keep (fun b o hb => ⟨by rw [hI]; exact hb, rfl⟩) (fun p k ho => rfl) fun p b o hs => ?_
  obtain ⟨_, q⟩ := immC_sub hi hs
  subst q
  simp [immC] at hi
theorem bd_box {g : Gh} {w : World} {k : Nat} {cs : List V} (h : MB g w k cs) (hi : ∀ u ∈ cs, immC u = true) :
    Bd ⟨g.I, fun _ => k⟩ w [.ptr 0 0] #[.pointer (some ⟨k, 0, none⟩)] [cs] ∧ ∀ k', OwnB ⟨g.I, fun _ => k⟩ w [.ptr 0 0] #[.pointer (some ⟨k, 0, none⟩)] [cs] k' → k' = k := by
  obtain ⟨vs, ty, hh, hsz, hrep⟩ := h.box
  have hat : ∀ l x, (Stn [V.ptr 0 0] [cs]).at l = some x → (l = .var 0 ∧ x = .ptr 0 0 ∧ valAt (Frn 1) ⟨g.I, fun _ => k⟩ w ⟨#[.pointer (some ⟨k, 0, none⟩)], []⟩ l = some (.pointer (some ⟨k, 0, none⟩))) ∨
      ∃ o, l = .cell 0 o ∧ immC x = true ∧ ∃ v, valAt (Frn 1) ⟨g.I, fun _ => k⟩ w ⟨#[.pointer (some ⟨k, 0, none⟩)], []⟩ l = some v ∧ v.oneCell' = true ∧ Rep ⟨g.I, fun _ => k⟩ w x v := by
    intro l x hx
    cases l with
    | var i =>
      refine .inl ?_
      match i, hx with
      | 0, hx => cases hx; exact ⟨rfl, rfl, rfl⟩
      | i + 1, hx => simp [Stn, St.at] at hx
    | cell b o =>
      refine .inr ?_
      match b, hx with
      | 0, hx =>
        have hx : cs[o]? = some x := by simpa [Stn, St.at] using hx
        have ho := (List.getElem?_eq_some_iff.1 hx).1
        have hm := hi x (List.mem_of_getElem? hx)
        obtain ⟨r1, r2⟩ := hrep o x (vs[o]'(by omega)) hx (by simp [hsz, ho])
        refine ⟨o, rfl, hm, vs[o]'(by omega), ?_, r2, imm_phi r1 hm rfl⟩
        show w.cell? ⟨k, o, none⟩ = _
        rw [cell_row hh]
        simp [hsz, ho]
      | b + 1, hx => simp [Stn, St.at] at hx
  have hown : ∀ r p j, ¬ Own (Frn 1) ⟨g.I, fun _ => k⟩ w (Stn [V.ptr 0 0] [cs]) ⟨#[.pointer (some ⟨k, 0, none⟩)], []⟩ r p j := by
    intro r p j ⟨x, v, hh, ho⟩
    cases r with
    | t t =>
      obtain ⟨rfl, rfl⟩ := hh
      rcases ho with ⟨_, _, _, _, q, _⟩ | ⟨_, q, _⟩
      · cases p <;> simp [Stn, V.sub] at q
      · simp [Stn, lentNow] at q
    | l l =>
      rcases hat l x hh.1 with ⟨_, rfl, _⟩ | ⟨o, _, hm, _⟩
      · rcases ho with ⟨_, _, _, _, q, _⟩ | ⟨_, q, _⟩
        · cases p <;> simp [V.sub] at q
        · simp [lentNow] at q
      · rcases ho with ⟨_, _, _, _, q, _⟩ | ⟨_, q, _⟩
        · obtain ⟨_, q⟩ := immC_sub hm q
          subst q; simp [immC] at hm
        · obtain ⟨d, e, z, xs, q1, _⟩ := lentNow_lent q
          subst q1
          simp [immC] at hm
  refine ⟨⟨rfl, rfl, ?_, ?_, ?_, ?_, ?_, ?_, ?_, ?_, ?_, ?_, ?_, h.Ilt, ?_, ?_, ?_, ?_⟩, fun k' ho => ?_⟩
  · intro r x v hh
    cases r with
    | t t => obtain ⟨rfl, rfl⟩ := hh; exact .no
    | l l =>
      rcases hat l x hh.1 with ⟨_, rfl, q⟩ | ⟨o, _, hm, v', q, _, hr⟩
      · have := hh.2.symm.trans q
        cases this
        rw [← ptrV_lt (o := 0) (by omega)]
        exact .ptr (g := ⟨g.I, fun _ => k⟩) (b := 0)
      · have := hh.2.symm.trans q
        cases this
        exact hr
  · intro l x hx
    rcases hat l x hx with ⟨rfl, _, q⟩ | ⟨o, _, hm, v', q, q1, hr⟩
    · exact ⟨_, q, fun ⟨b, o, e⟩ => by cases e⟩
    · exact ⟨_, q, fun _ => q1⟩
  · intro l d e z xs v hx _
    rcases hat l _ hx with ⟨_, q, _⟩ | ⟨o, _, hm, _⟩
    · cases q
    · simp [immC] at hm
  · intro b c hb
    match b, hb with
    | 0, hb => cases hb; exact ⟨vs, ty, hh, hsz, h.I0⟩
    | b + 1, hb => simp [Stn] at hb
  · intro b b' hb hb' _
    simp [Stn] at hb hb'
    omega
  · intro r x v p b o hh hs
    cases r with
    | t t => obtain ⟨rfl, rfl⟩ := hh; cases p <;> simp [Stn, V.sub] at hs
    | l l =>
      rcases hat l x hh.1 with ⟨_, rfl, _⟩ | ⟨o, _, hm, _⟩
      · cases p <;> simp [V.sub] at hs
        rw [← hs.1]; simp [Stn]
      · obtain ⟨_, q⟩ := immC_sub hm hs
        subst q; simp [immC] at hm
  · intro r p j ho; exact absurd ho (hown r p j)
  · intro r p r' p' j ho; exact absurd ho (hown r p j)
  · intro t p x v hx hv
    cases p with
    | nil => simp [Stn, V.sub] at hx; subst hx; trivial
    | cons i p => simp [Stn, V.sub] at hx
  · intro l x hx p
    rcases hat l x hx with ⟨_, rfl, _⟩ | ⟨o, _, hm, _⟩
    · refine ⟨?_, ?_, ?_, ?_⟩ <;> intros <;> intro hs <;> cases p <;> simp [V.sub] at hs
    · refine ⟨?_, ?_, ?_, ?_⟩ <;> intros <;> intro hs <;> obtain ⟨_, q⟩ := immC_sub hm hs <;> subst q <;> simp [immC] at hm
  · intro t p d e0 e z xs hs
    cases p <;> simp [Stn, V.sub] at hs
  · intro t _; rfl
  · intro t p x hx
    cases p with
    | nil => simp [Stn, V.sub] at hx; subst hx; exact Nat.zero_le _
    | cons i p => simp [Stn, V.sub] at hx
  · intro l x hx
    rcases hat l x hx with ⟨_, rfl, _⟩ | ⟨o, _, hm, _⟩
    · exact Nat.zero_le _
    · cases x <;> simp [immC] at hm <;> exact Nat.zero_le _
  · intro l d e z xs v k hx
    rcases hat l _ hx with ⟨_, q, _⟩ | ⟨o, _, hm, _⟩
    · cases q
    · simp [immC] at hm
  · rcases ho with ⟨r, p, ho⟩ | ⟨b, hb, q⟩
    · exact absurd ho (hown r p k')
    · exact q.symm
theorem ac_box {P : Program} {f : FuncId} {cs cs' : List V} {E : Value} (hac : AC P f [.ptr 0 0] [cs] fun y bs => y = .s E ∧ bs = [cs']) (hi : ∀ u ∈ cs, immC u = true)
    {g : Gh} {w : World} {k : Nat} (h : MB g w k cs) (hk : k < w.heap.size) :
    Calls P f #[.pointer (some ⟨k, 0, none⟩)] w fun e w' => ∃ g', e = .returned E ∧ MB g' w' k cs' ∧ Below k w w' ∧ (∀ b, b < w.heap.size → b ≠ k → w'.heap[b]? = w.heap[b]? ∧ g'.I b = g.I b) := by
  obtain ⟨hb, ho⟩ := bd_box h hi
  refine (hac _ w _ hb).mono ?_
  rintro e w' ⟨v, r, bs', g', rfl, ⟨rfl, rfl⟩, hok, hbd, hx⟩
  have hv : v = E := (hbd.rep (.l (.var 0)) _ v ⟨rfl, rfl⟩).of_s rfl
  have hphi : g'.φ 0 = k := hx.phi 0 (by simp)
  obtain ⟨vs, ty, q1, q2, q3⟩ := hbd.box 0 cs' rfl
  rw [hphi] at q1 q3
  have hsame : ∀ b, b < w.heap.size → b ≠ k → w'.heap[b]? = w.heap[b]? ∧ g'.I b = g.I b := fun b hb hne => hx.same b hb fun q => hne (ho b q)
  refine ⟨g', by rw [hv], ⟨⟨vs, ty, q1, q2, fun j u c hu hc => ?_⟩, q3, hbd.Ilt⟩, ⟨hx.os, hx.tape, hx.output, hx.size, fun b hb => (hsame b (by omega) (by omega)).1⟩, hsame⟩
  have hval : valAt (Frn [V.s E].length) g' w' ⟨#[v], []⟩ (.cell 0 j) = some c := by
    show w'.cell? ⟨g'.φ 0, j, none⟩ = _
    rw [hphi, cell_row q1]
    exact hc
  have hat : (Stn [V.s E] [cs']).at (.cell 0 j) = some u := by simpa [Stn, St.at] using hu
  refine ⟨hbd.rep (.l (.cell 0 j)) u c ⟨hat, hval⟩, ?_⟩
  obtain ⟨c', e1, e2⟩ := hbd.lookv _ _ hat
  rw [hval] at e1
  cases e1
  exact e2 ⟨0, j, rfl⟩
end Go.Proofs.Ytebibhmjmaomnaa
namespace Go.Proofs.Ytebibhmjmaomnaa
open Go.RowKit Go.Proofs
theorem enter49 : ∀ args w, (callFunc 49 args).run Try.prog w = .ok (.enter 49 args) w := enters_of Try.func49 (by kernel_rfl) rfl
theorem enter50 : ∀ args w, (callFunc 50 args).run Try.prog w = .ok (.enter 50 args) w := enters_of Try.func50 (by kernel_rfl) rfl
theorem enter51 : ∀ args w, (callFunc 51 args).run Try.prog w = .ok (.enter 51 args) w := enters_of Try.func51 (by kernel_rfl) rfl
def upW (w : World) (vl vn vq vr vw va vnm vk vu vh : Value) : World :=
  ((((w.alloc (.cells #[vn, vq] 25)).alloc (.cells #[vnm, vk, vu, vh] 27)).alloc (.cells #[vl, vn, vq, vr, vw, va, vnm, vk, vu, vh, .int .i64 0, .slice none 0 0] 74)).alloc
    (.cells #[.func (.func 49) #[.pointer (some ⟨w.heap.size + 1 + 1, 0, none⟩)] #[], .func (.func 50) #[.pointer (some ⟨w.heap.size + 1 + 1, 0, none⟩)] #[], .func (.func 51) #[.pointer (some ⟨w.heap.size + 1 + 1, 0, none⟩)] #[]] 75))
set_option maxHeartbeats 4000000 in
theorem update_calls (w : World) (A B : Option Addr) (l1 c1 l2 c2 : Nat) (n rd wr : Int) (add : Bool) (nm : ByteArray) (kd un hm : Int) (U : Nat → World → Prop) (E : Nat → Int) (Fin : Ending → World → Prop)
    (hU0 : U 0 (upW w (.slice A l1 c1) (.int .i64 n) (.slice B l2 c2) (.int .i64 rd) (.int .i64 wr) (.bool add) (.string nm) (.int .i64 kd) (.int .i64 un) (.int .i64 hm)))
    (hfn : ∀ i W, U i W → W.cell? ⟨w.heap.size + 1 + 1 + 1, 0, none⟩ = some (.func (.func 49) #[.pointer (some ⟨w.heap.size + 1 + 1, 0, none⟩)] #[]) ∧ W.cell? ⟨w.heap.size + 1 + 1 + 1, 1, none⟩ = some (.func (.func 50) #[.pointer (some ⟨w.heap.size + 1 + 1, 0, none⟩)] #[]) ∧ W.cell? ⟨w.heap.size + 1 + 1 + 1, 2, none⟩ = some (.func (.func 51) #[.pointer (some ⟨w.heap.size + 1 + 1, 0, none⟩)] #[]))
    (hc0 : ∀ W, U 0 W → Calls Try.prog 49 #[.pointer (some ⟨w.heap.size + 1 + 1, 0, none⟩)] W fun e W' => e = .returned (.int .i64 (E 0)) ∧ U 1 W')
    (hc1 : ∀ W, U 1 W → Calls Try.prog 50 #[.pointer (some ⟨w.heap.size + 1 + 1, 0, none⟩)] W fun e W' => e = .returned (.int .i64 (E 1)) ∧ U 2 W')
    (hc2 : ∀ W, U 2 W → Calls Try.prog 51 #[.pointer (some ⟨w.heap.size + 1 + 1, 0, none⟩)] W fun e W' => e = .returned (.int .i64 (E 2)) ∧ U 3 W')
    (hbad : ∀ i, i < 3 → E i ≠ 0 → (∀ j, j < i → E j = 0) → ∀ W', U (i + 1) W' → Fin (.returned (.tuple #[.slice none 0 0, .int .i64 (E i)])) W')
    (hgood : (∀ j, j < 3 → E j = 0) → ∀ W', U 3 W' → ∃ v, W'.cell? ⟨w.heap.size + 1 + 1, 0, none⟩ = some v ∧ Fin (.returned (.tuple #[v, .int .i64 0])) W') :
    Calls Try.prog 25 #[.slice A l1 c1, .agg #[.int .i64 n, .slice B l2 c2], .int .i64 rd, .int .i64 wr, .bool add, .agg #[.string nm, .int .i64 kd, .int .i64 un, .int .i64 hm]] w Fin := by
  have H0 := Lib.hid hU0
  have H1 := Lib.hid hfn
  have K0 := Lib.hid hc0
  have K1 := Lib.hid hc1
  have K2 := Lib.hid hc2
  have G1 := Lib.hid hbad
  have G2 := Lib.hid hgood
  have E49 := Lib.hid enter49
  have E50 := Lib.hid enter50
  have E51 := Lib.hid enter51
  clear hU0 hfn hc0 hc1 hc2 hbad hgood
  go_enter Try.func25, Try.ntmps25
  go_wp2
  go_loopg [34] 3 (fun kx s34 W => ∃ i : Nat, s34 = .int .i64 i ∧ i ≤ 3 ∧ 3 - i ≤ kx ∧ (∀ j, j < i → E j = 0) ∧ U i W)
  case atStart => exact ⟨0, rfl, by omega, by omega, fun j hj => absurd hj (Nat.not_lt_zero _), H0.out⟩
  case round =>
    obtain ⟨i, rfl, hi, hm, hz, hU⟩ := hrel
    have HZ := Lib.hid hz
    clear hz
    obtain ⟨f0, f1, f2⟩ := H1.out i _ hU
    have hcase : i = 0 ∨ i = 1 ∨ i = 2 ∨ i = 3 := by omega
    rcases hcase with rfl | rfl | rfl | rfl
    · have hc := K0.out _ hU
      have eg := E49.out
      cases he : (E 0 != 0)
      · go_wp2_with (go_at_fn 49; refine hc.mono ?_; rintro e w' ⟨rfl, hU'⟩)
        go_roundg (3 - 1)
        case measure => omega
        case rel =>
          refine ⟨1, rfl, by omega, by omega, fun j hj => ?_, hU'⟩
          by_cases hj' : j < 0
          · exact HZ.out j hj'
          · have : j = 0 := by omega
            subst this
            simpa using he
      · go_wp2_with (go_at_fn 49; refine hc.mono ?_; rintro e w' ⟨rfl, hU'⟩)
        exact G1.out 0 (by omega) (by simpa using he) HZ.out _ hU'
    · have hc := K1.out _ hU
      have eg := E50.out
      cases he : (E 1 != 0)
      · go_wp2_with (go_at_fn 50; refine hc.mono ?_; rintro e w' ⟨rfl, hU'⟩)
        go_roundg (3 - 2)
        case measure => omega
        case rel =>
          refine ⟨2, rfl, by omega, by omega, fun j hj => ?_, hU'⟩
          by_cases hj' : j < 1
          · exact HZ.out j hj'
          · have : j = 1 := by omega
            subst this
            simpa using he
      · go_wp2_with (go_at_fn 50; refine hc.mono ?_; rintro e w' ⟨rfl, hU'⟩)
        exact G1.out 1 (by omega) (by simpa using he) HZ.out _ hU'
    · have hc := K2.out _ hU
      have eg := E51.out
      cases he : (E 2 != 0)
      · go_wp2_with (go_at_fn 51; refine hc.mono ?_; rintro e w' ⟨rfl, hU'⟩)
        go_roundg (3 - 3)
        case measure => omega
        case rel =>
          refine ⟨3, rfl, by omega, by omega, fun j hj => ?_, hU'⟩
          by_cases hj' : j < 2
          · exact HZ.out j hj'
          · have : j = 2 := by omega
            subst this
            simpa using he
      · go_wp2_with (go_at_fn 51; refine hc.mono ?_; rintro e w' ⟨rfl, hU'⟩)
        exact G1.out 2 (by omega) (by simpa using he) HZ.out _ hU'
    · obtain ⟨v, hv, hF⟩ := G2.out HZ.out _ hU
      go_wp2
      exact hF
end Go.Proofs.Ytebibhmjmaomnaa
namespace Go.Proofs.Ytebibhmjmaomnaa
open Go.RowKit Go.Proofs
theorem rep_list {g : Gh} {w : World} {z : Nat} {xs : List V} {v : Value} (h : Rep g w (.list z xs) v) : ∃ A c, v = .slice A xs.length c := by
  cases h with
  | list vals hc hm hA hz hi hcell hr => exact ⟨_, _, rfl⟩
theorem rep_agg2 {g : Gh} {w : World} {cs : List V} {v : Value} (h : Rep g w (.agg cs) v) : ∃ vs : Array Value, v = .agg vs ∧ cs.length = vs.size ∧ ∀ (j : Nat) (u : V) (c : Value), cs[j]? = some u → vs[j]? = some c → Rep g w u c := by
  cases h with
  | agg hl h1 h => exact ⟨_, rfl, hl, h⟩
theorem rep_cP {g : Gh} {w : World} {n : Int} {q : List Int} {v : Value} (h : Rep g w (cP n q) v) : ∃ B c, v = .agg #[.int .i64 n, .slice B q.length c] ∧ Rep g w (.list 1 (iv q)) (.slice B q.length c) := by
  obtain ⟨vs, rfl, hl, hr⟩ := rep_agg2 h
  match vs, hl with
  | ⟨[a, b]⟩, _ =>
    have r0 := (hr 0 _ a rfl rfl).of_s rfl
    have r1 := hr 1 _ b rfl rfl
    obtain ⟨B, c, e⟩ := rep_list r1
    have e2 : (iv q).length = q.length := by simp [iv]
    rw [e2] at e
    subst r0
    subst e
    exact ⟨B, c, rfl, r1⟩
theorem rep_rs {g : Gh} {w : World} {x : Rs} {v : Value} (h : Rep g w x.v v) : v = .agg #[.string x.nm, .int .i64 x.kd, .int .i64 x.un, .int .i64 x.hm] := by
  obtain ⟨vs, rfl, hl, hr⟩ := rep_agg2 h
  match vs, hl with
  | ⟨[a, b, c, d]⟩, _ =>
    have r0 := (hr 0 _ a rfl rfl).of_s rfl
    have r1 := (hr 1 _ b rfl rfl).of_s rfl
    have r2 := (hr 2 _ c rfl rfl).of_s rfl
    have r3 := (hr 3 _ d rfl rfl).of_s rfl
    subst r0 r1 r2 r3
    rfl
theorem rep_nil {g : Gh} {w : World} {z : Nat} : Rep g w (.list z []) (.slice none 0 0) :=
  .list (xs := []) (fun _ => undef) (Nat.le_refl _) (by simp [maxLen]) (fun _ => rfl) (fun x hx => by simp at hx) (fun u hu => by simp [flat] at hu) (fun j hj => by simp [flat] at hj) (fun j u hu => by simp [flat] at hu)
noncomputable def csq (l : List Rp) (n : Int) (q : List Int) (rd wr : Int) (add : Bool) (x : Rs) : Nat → List V
  | 0 => uB l n q rd wr add x Rp.z
  | 1 => uB l n q rd wr add x (rdR l n q rd)
  | 2 => uB l n q rd wr add x (chgR (rdR l n q rd) add x)
  | _ => uB (wrR l n q wr (chgR (rdR l n q rd) add x)) n q rd wr add x (chgR (rdR l n q rd) add x)
noncomputable def Eq3 (l : List Rp) (n : Int) (q : List Int) (rd wr : Int) (add : Bool) (x : Rs) : Nat → Int
  | 0 => rdE l n q rd
  | 1 => chgE (rdR l n q rd) add x
  | _ => wrE l n q wr (chgR (rdR l n q rd) add x)
theorem csq_imm (l : List Rp) (n : Int) (q : List Int) (rd wr : Int) (add : Bool) (x : Rs) (i : Nat) : ∀ u ∈ csq l n q rd wr add x i, immC u = true := by
  intro u hu
  unfold csq at hu
  split at hu <;> simp [uB] at hu <;> rcases hu with rfl | rfl | rfl | rfl | rfl | rfl | rfl | rfl | rfl | rfl | rfl | rfl <;> rfl
def UpS (cs : Nat → List V) (g : Gh) (w : World) (i : Nat) (W : World) : Prop :=
  ∃ g', MB g' W (w.heap.size + 1 + 1) (cs i) ∧ W.heap[w.heap.size + 1 + 1 + 1]? = some (.cells #[.func (.func 49) #[.pointer (some ⟨w.heap.size + 1 + 1, 0, none⟩)] #[], .func (.func 50) #[.pointer (some ⟨w.heap.size + 1 + 1, 0, none⟩)] #[], .func (.func 51) #[.pointer (some ⟨w.heap.size + 1 + 1, 0, none⟩)] #[]] 75 (0, 0)) ∧
    Below w.heap.size w W ∧ ∀ b, b < w.heap.size → g'.I b = g.I b
theorem ups_step {cs : Nat → List V} {g : Gh} {w : World} {i : Nat} {f : FuncId} {E : Int} (hac : AC Try.prog f [.ptr 0 0] [cs i] fun y bs => y = .s (.int .i64 E) ∧ bs = [cs (i + 1)]) (hi : ∀ u ∈ cs i, immC u = true) (W : World) (h : UpS cs g w i W) :
    Calls Try.prog f #[.pointer (some ⟨w.heap.size + 1 + 1, 0, none⟩)] W fun e W' => e = .returned (.int .i64 E) ∧ UpS cs g w (i + 1) W' := by
  obtain ⟨g', hm, hf, hb, hI⟩ := h
  have hlt := (Array.getElem?_eq_some_iff.1 hf).1
  refine (ac_box hac hi hm (by omega)).mono ?_
  rintro e W' ⟨g2, rfl, hm2, hb2, hs⟩
  refine ⟨rfl, g2, hm2, ?_, hb.trans ⟨hb2.os, hb2.tape, hb2.output, hb2.size, fun b hb' => hb2.block b (by omega)⟩, fun b hb' => ?_⟩
  · rw [(hs _ hlt (by omega)).1]; exact hf
  · rw [(hs b (by omega) (by omega)).2]; exact hI b hb'
theorem heap_new (w : World) (o : Obj) {k : Nat} (h : k = w.heap.size) : (w.alloc o).heap[k]? = some o := by
  subst h
  show (w.heap.push o)[w.heap.size]? = some o
  rw [Array.getElem?_push_size]
theorem upW_heap (w : World) (vl vn vq vr vw va vnm vk vu vh : Value) : (upW w vl vn vq vr vw va vnm vk vu vh).heap[w.heap.size + 1 + 1]? = some (.cells #[vl, vn, vq, vr, vw, va, vnm, vk, vu, vh, .int .i64 0, .slice none 0 0] 74 (0, 0)) ∧
    (upW w vl vn vq vr vw va vnm vk vu vh).heap[w.heap.size + 1 + 1 + 1]? = some (.cells #[.func (.func 49) #[.pointer (some ⟨w.heap.size + 1 + 1, 0, none⟩)] #[], .func (.func 50) #[.pointer (some ⟨w.heap.size + 1 + 1, 0, none⟩)] #[], .func (.func 51) #[.pointer (some ⟨w.heap.size + 1 + 1, 0, none⟩)] #[]] 75 (0, 0)) := by
  refine ⟨?_, heap_new _ _ (by simp)⟩
  exact (Below.heap_alloc _ _ _ (by simp)).trans (heap_new _ _ (by simp))
set_option maxHeartbeats 4000000 in
theorem Update_pc (l : List Rp) (n : Int) (q : List Int) (rd wr : Int) (add : Bool) (x : Rs) (hl : l.length ≤ 1000000) (hs : ∀ x ∈ l, x.sm) (hq : q.length ≤ 1000) : PC Try.prog 25 [.list 2 (pl l), cP n q, .s (.int .i64 rd), .s (.int .i64 wr), .s (.bool add), x.v] (fun y => y = .tup [.list 2 (pl (upR l n q rd wr add x)), .s (.int .i64 (upE l n q rd wr add x))]) := by
  have hm := rdR_sm (n := n) (q := q) (up := rd) hs
  have a0 : AC Try.prog 49 [.ptr 0 0] [csq l n q rd wr add x 0] fun y bs => y = .s (.int .i64 (Eq3 l n q rd wr add x 0)) ∧ bs = [csq l n q rd wr add x (0 + 1)] := uread_ac l n q rd wr add x Rp.z hl hs hq
  have a1 : AC Try.prog 50 [.ptr 0 0] [csq l n q rd wr add x 1] fun y bs => y = .s (.int .i64 (Eq3 l n q rd wr add x 1)) ∧ bs = [csq l n q rd wr add x (1 + 1)] := uchange_ac l n q rd wr add x _ hm
  have a2 : AC Try.prog 51 [.ptr 0 0] [csq l n q rd wr add x 2] fun y bs => y = .s (.int .i64 (Eq3 l n q rd wr add x 2)) ∧ bs = [csq l n q rd wr add x (2 + 1)] := uwrite_ac l n q rd wr add x _ hl hs hq (chgR_sm _ _ _)
  refine pc_imm (by intro x hx; simp [cP, Rs.v] at hx; rcases hx with rfl | rfl | rfl | rfl | rfl | rfl <;> rfl) fun g w vs hsz hrep hlt => ?_
  match vs, hsz with
  | ⟨[v0, v1, v2, v3, v4, v5]⟩, _ =>
  have r0 := hrep 0 _ v0 rfl rfl
  have r1 := hrep 1 _ v1 rfl rfl
  have r2 := (hrep 2 _ v2 rfl rfl).of_s rfl
  have r3 := (hrep 3 _ v3 rfl rfl).of_s rfl
  have r4 := (hrep 4 _ v4 rfl rfl).of_s rfl
  have r5 := rep_rs (hrep 5 _ v5 rfl rfl)
  obtain ⟨A, c1, rfl⟩ := rep_list r0
  obtain ⟨B, c2, rfl, rq⟩ := rep_cP r1
  subst r2 r3 r4 r5
  clear hrep r1
  refine update_calls w A B (pl l).length c1 q.length c2 n rd wr add x.nm x.kd x.un x.hm (UpS (csq l n q rd wr add x) g w) (Eq3 l n q rd wr add x) _ ?_ ?_ (fun W h => ups_step a0 (csq_imm l n q rd wr add x 0) W h) (fun W h => ups_step a1 (csq_imm l n q rd wr add x 1) W h) (fun W h => ups_step a2 (csq_imm l n q rd wr add x 2) W h) ?_ ?_
  · have hbel : Below w.heap.size w (upW w (.slice A (pl l).length c1) (.int .i64 n) (.slice B q.length c2) (.int .i64 rd) (.int .i64 wr) (.bool add) (.string x.nm) (.int .i64 x.kd) (.int .i64 x.un) (.int .i64 x.hm)) :=
      ((((Below.refl _ w).alloc (Nat.le_refl _) _).alloc (by simp) _).alloc (by simp; omega) _).alloc (by simp; omega) _
    have hk : ∀ {u : V} {v : Value}, immC u = true → Rep g w u v → Rep g (upW w (.slice A (pl l).length c1) (.int .i64 n) (.slice B q.length c2) (.int .i64 rd) (.int .i64 wr) (.bool add) (.string x.nm) (.int .i64 x.kd) (.int .i64 x.un) (.int .i64 x.hm)) u v := by
      intro u v hi hr
      refine hr.keep (fun b o hb => ⟨hb, World.cell?_of_block (a := ⟨b, o, none⟩) (hbel.block b (hlt b (by omega)))⟩) ?_ ?_
      · intro p k ⟨_, _, _, _, s, _⟩
        obtain ⟨_, s⟩ := immC_sub hi s
        subst s; simp [immC] at hi
      · intro p b o s
        obtain ⟨_, s⟩ := immC_sub hi s
        subst s; simp [immC] at hi
    have h0 := hk rfl r0
    have h1 := hk rfl rq
    refine ⟨g, ⟨⟨_, _, (upW_heap ..).1, rfl, ?_⟩, ?_, ?_⟩, (upW_heap ..).2, hbel, fun _ _ => rfl⟩
    · intro j u c hu hc
      match j with
      | 0 => cases hu; cases hc; exact ⟨h0, rfl⟩
      | 1 => cases hu; cases hc; exact ⟨.s rfl, rfl⟩
      | 2 => cases hu; cases hc; exact ⟨h1, rfl⟩
      | 3 => cases hu; cases hc; exact ⟨.s rfl, rfl⟩
      | 4 => cases hu; cases hc; exact ⟨.s rfl, rfl⟩
      | 5 => cases hu; cases hc; exact ⟨.s rfl, rfl⟩
      | 6 => cases hu; cases hc; exact ⟨.s rfl, rfl⟩
      | 7 => cases hu; cases hc; exact ⟨.s rfl, rfl⟩
      | 8 => cases hu; cases hc; exact ⟨.s rfl, rfl⟩
      | 9 => cases hu; cases hc; exact ⟨.s rfl, rfl⟩
      | 10 => cases hu; cases hc; exact ⟨.s rfl, rfl⟩
      | 11 => cases hu; cases hc; exact ⟨rep_nil, rfl⟩
      | j + 12 => cases hu
    · have := hlt (w.heap.size + 1 + 1)
      omega
    · intro b hb
      have := hbel.size
      have := hlt b hb
      omega
  · rintro i W ⟨g', _, hf, _⟩
    exact ⟨cell_row hf, cell_row hf, cell_row hf⟩
  · rintro i hi he hz W' ⟨g', hm', _, hbel, hI⟩
    have hE : upE l n q rd wr add x = Eq3 l n q rd wr add x i := by
      have hc : i = 0 ∨ i = 1 ∨ i = 2 := by omega
      rcases hc with rfl | rfl | rfl
      · have he : rdE l n q rd ≠ 0 := he
        simp [upE, Eq3, he]
      · have h0 : rdE l n q rd = 0 := hz 0 (by omega)
        have he : chgE (rdR l n q rd) add x ≠ 0 := he
        simp [upE, Eq3, he, h0]
      · have h0 : rdE l n q rd = 0 := hz 0 (by omega)
        have h1 : chgE (rdR l n q rd) add x = 0 := hz 1 (by omega)
        simp [upE, Eq3, h1, h0]
    refine ⟨_, _, g'.I, rfl, rfl, rfl, rfl, hI, hm'.Ilt, ?_, hbel⟩
    rw [upR, hE, if_neg he]
    refine .tup rfl fun j u c hu hc => ?_
    match j with
    | 0 => cases hu; cases hc; exact rep_nil
    | 1 => cases hu; cases hc; exact .s rfl
    | j + 2 => cases hu
  · rintro hz W' ⟨g', hm', _, hbel, hI⟩
    obtain ⟨vs, ty, q1, q2, q3⟩ := hm'.box
    have h12 : vs.size = 12 := q2
    have hv0 : vs[0]? = some vs[0] := by simp [h12]
    obtain ⟨p1, p2⟩ := q3 0 _ vs[0] rfl hv0
    have h0 : rdE l n q rd = 0 := hz 0 (by omega)
    have h1 : chgE (rdR l n q rd) add x = 0 := hz 1 (by omega)
    have h2 : wrE l n q wr (chgR (rdR l n q rd) add x) = 0 := hz 2 (by omega)
    have hE : upE l n q rd wr add x = 0 := by simp [upE, h0, h1, h2]
    refine ⟨vs[0], by rw [cell_row q1]; exact hv0, _, _, g'.I, rfl, rfl, rfl, rfl, hI, hm'.Ilt, ?_, hbel⟩
    rw [upR, hE, if_pos rfl]
    refine .tup rfl fun j u c hu hc => ?_
    match j with
    | 0 => cases hu; cases hc; exact imm_phi p1 rfl rfl
    | 1 => cases hu; cases hc; exact .s rfl
    | j + 2 => cases hu
end Go.Proofs.Ytebibhmjmaomnaa
namespace Go.Proofs.Ytebibhmjmaomnaa
open Go.RowKit Go.Proofs
def lk (s : ByteArray) : Rs := ⟨s, 1, 1, 0⟩
theorem lock_pc (s : ByteArray) : PC Try.prog 10 [.s (.string s)] (fun r => r = (lk s).v) := by
  refine pc_list (q := fun y => frT y ((lk s).v)) ?_ fun x hx _ => ⟨_, hx, rfl, rfl⟩
  refine pc_end c10 mixed rfl ?_
  simp -implicitDefEqProofs [a10, F10, Rs.v, lk, frT, frA, frLs, frL, immC]
def bA : ByteArray := ByteArray.mk #[97]
def bB : ByteArray := ByteArray.mk #[98]
def bC : ByteArray := ByteArray.mk #[99]
def mdB (n d : Int) : Bool := bits .and .i64 (n.fdiv d) 1 == 1
def mdI (n d : Int) (s : ByteArray) : List Rs := if mdB n d then [lk s] else []
def mdC (n : Int) : Nat → List Rs
  | 0 => []
  | 1 => mdI n 4 bA
  | 2 => mdI n 4 bA ++ mdI n 8 bB
  | _ => mdI n 4 bA ++ mdI n 8 bB ++ mdI n 16 bC
def made (n : Int) : Rp := ⟨n % 4, mdC n 3⟩
end Go.Proofs.Ytebibhmjmaomnaa
namespace Go.Proofs.Ytebibhmjmaomnaa
open Go.RowKit Go.Proofs
def asRep (x y : V) : Prop := ∀ (g : Gh) (w : World) (v : Value), Rep g w x v → Rep g w y v
theorem asRep.refl (x : V) : asRep x x := fun _ _ _ h => h
theorem asRep_list {z : Nat} {xs ys : List V} (hl : xs.length = ys.length) (hz : ∀ y ∈ ys, (cellsOf y).length = z) (hn : nilLs (flat xs) (flat ys)) (hi : ∀ u ∈ flat ys, immC u = true) : asRep (.list z xs) (.list z ys) := by
  intro g w v hr
  obtain ⟨k1, k2⟩ := nilLs_get hn
  cases hr with
  | list vals hc hm hA hz' hi' hcell hrep =>
    rw [hl]
    refine .list vals (by omega) hm hA hz hi (fun j hj => hcell j (by omega)) fun j u hu => ?_
    obtain ⟨x, q1, q2⟩ := k2 j u hu
    exact nilL_rep q2 (hrep j x q1)
def asReps : List V → List V → Prop
  | [], [] => True
  | x :: r, y :: s => asRep x y ∧ asReps r s
  | _, _ => False
theorem asReps_get : ∀ {xs ys : List V}, asReps xs ys → xs.length = ys.length ∧ ∀ (i : Nat) (y : V), ys[i]? = some y → ∃ x, xs[i]? = some x ∧ asRep x y
  | [], [], _ => by simp
  | x :: r, y :: s, h => by
    obtain ⟨h1, h2⟩ := h
    obtain ⟨k1, k2⟩ := asReps_get h2
    refine ⟨by simp [k1], fun i z hz => ?_⟩
    cases i with
    | zero => simp at hz; subst hz; exact ⟨x, rfl, h1⟩
    | succ i => simp at hz ⊢; exact k2 i z hz
  | [], _ :: _, h => h.elim
  | _ :: _, [], h => h.elim
theorem pc_as {P : Program} {f : Nat} {xs ys : List V} {q : V → Prop} (h : PC P f ys q) (hn : asReps xs ys) (hi : ys.all immA = true) : PC P f xs q := by
  intro g w vals hb
  obtain ⟨k1, k2⟩ := asReps_get hn
  have hsz : vals.size = xs.length := hb.sz
  obtain ⟨hbd, hno⟩ := bd_imm (g := g) (w := w) (args := ys) (vals := vals) (by omega) (fun x hx => List.all_eq_true.1 hi x hx) (fun i y v hy hv => by
    obtain ⟨x, q1, q2⟩ := k2 i y hy
    refine q2 g w v (hb.rep (.l (.var i)) x v ⟨q1, ?_⟩)
    have hi := (List.getElem?_eq_some_iff.1 q1).1
    have hi2 : i < vals.size := by omega
    rw [Array.getElem?_eq_getElem hi2] at hv
    cases hv
    simp [valAt, Frn, Act.tv, hi, hi2]) hb.Ilt
  refine (h g w vals hbd).mono ?_
  rintro e w' ⟨v, r, bs', g', h1, h2, h3, h4, h5⟩
  exact ⟨v, r, bs', g', h1, h2, h3, h4, ⟨h5.os, h5.tape, h5.output, h5.size, fun k hk _ => h5.same k hk (hno k), fun k hk => (h5.owned k hk).elim (fun q => absurd q (hno k)) .inr, h5.phi⟩⟩
end Go.Proofs.Ytebibhmjmaomnaa
namespace Go.Proofs.Ytebibhmjmaomnaa
open Go.RowKit Go.Proofs
instance (r : Rp) : Decidable r.sm := inferInstanceAs (Decidable (_ ≤ _))
def e3 : List Int := [3, 5, 6]
theorem md3 : Md 3 [3, 5, 6] := by have := major_md (n := 3) (by omega) (by omega); rwa [major3] at this
theorem ok3 : okB 3 e3 = true := md3.ok
theorem av3 (up : Int) : availE 3 e3 up = avail up e3 := by unfold availE; rw [if_pos ok3]
def z3 : List Rp := [Rp.z, Rp.z, Rp.z]
def r1 : Rp := ⟨1, [lk bA]⟩
def l3 : List Rp := [r1, Rp.z, r1]
theorem vl3 {l : List Rp} (h1 : l.length = 3) (h2 : l.all rpOk = true) : vlOk l 3 e3 = true := by
  simp [vlOk, ok3, h1, h2]
theorem rd_of {l : List Rp} {n : Int} {q : List Int} {up s : Int} (h1 : vlOk l n q = true) (h2 : availE n q up = some s) : rdE l n q up = nwE (pick s.toNat l) ∧ rdR l n q up = nwR (pick s.toNat l) := by
  have h : rdE l n q up = nwE (pick s.toNat l) := by simp [rdE, h1, h2]
  exact ⟨h, by simp [rdR, h, h2, nwR]⟩
theorem wr_of {l : List Rp} {n : Int} {q : List Int} {up s : Int} {r : Rp} (h1 : vlOk l n q = true) (h8 : rpOk r = true) (h2 : availE n q up = some s) : wrE l n q up r = wrF s.toNat l r l.length ∧ (wrF s.toNat l r l.length = 0 → wrR l n q up r = wrU s.toNat l r l.length) := by
  have h : wrE l n q up r = wrF s.toNat l r l.length := by simp [wrE, h1, h8, h2]
  exact ⟨h, fun h0 => by simp [wrR, h, h0, h2]⟩
theorem ups : upE z3 3 e3 3 5 true (lk bA) = 0 ∧ upR z3 3 e3 3 5 true (lk bA) = l3 := by
  have hv := vl3 (l := z3) rfl (by decide +kernel)
  have a1 : availE 3 e3 3 = some 3 := by rw [av3]; decide +kernel
  have a2 : availE 3 e3 5 = some 5 := by rw [av3]; decide +kernel
  obtain ⟨r1, r2⟩ := rd_of hv a1
  have r3 : rdE z3 3 e3 3 = 0 := by rw [r1]; decide +kernel
  have r4 : rdR z3 3 e3 3 = Rp.z := by rw [r2]; decide +kernel
  have c1 : chgE Rp.z true (lk bA) = 0 := by decide +kernel
  have c2 : chgR Rp.z true (lk bA) = ⟨1, [lk bA]⟩ := by decide +kernel
  obtain ⟨w1, w2⟩ := wr_of (r := ⟨1, [lk bA]⟩) hv (by decide +kernel) a2
  have w0 : wrF (5 : Int).toNat z3 ⟨1, [lk bA]⟩ z3.length = 0 := by decide +kernel
  have w3 := w2 w0
  rw [w0] at w1
  have hE : upE z3 3 e3 3 5 true (lk bA) = 0 := by simp [upE, r3, r4, c1, c2, w1]
  refine ⟨hE, ?_⟩
  rw [upR, if_pos hE, r4, c2, w3]
  decide +kernel
theorem rds : (rdE l3 3 e3 6 = 0 ∧ rdR l3 3 e3 6 = r1) ∧ rdE l3 3 e3 1 = 21 := by
  have hv := vl3 (l := l3) rfl (by decide +kernel)
  have a1 : availE 3 e3 6 = some 6 := by rw [av3]; decide +kernel
  have a2 : availE 3 e3 1 = none := by rw [av3]; decide +kernel
  obtain ⟨r1, r2⟩ := rd_of hv a1
  refine ⟨⟨by rw [r1]; decide +kernel, by rw [r2]; decide +kernel⟩, ?_⟩
  simp [rdE, hv, a2]
set_option maxHeartbeats 8000000 in
theorem awake_pc : PC Try.prog 8 [] (fun r => r = .s (.bool true)) := by
  have cU := Update_pc z3 3 e3 3 5 true (lk bA) (by decide) (by decide) (by decide)
  rw [ups.1, ups.2] at cU
  have cU2 : PC Try.prog 25 [.list 2 [.agg [.s (.int .i64 0), .s (.slice none 0 0)], .agg [.s (.int .i64 0), .s (.slice none 0 0)], .agg [.s (.int .i64 0), .s (.slice none 0 0)]], cP 3 e3, .s (.int .i64 3), .s (.int .i64 5), .s (.bool true), (lk bA).v] (fun y => y = .tup [.list 2 (pl l3), .s (.int .i64 0)]) :=
    pc_as cU ⟨asRep_list rfl (by intro y hy; simp [pl, z3, Rp.v, cellsOf] at hy; subst hy; rfl) (by simp [flat, cellsOf, pl, z3, Rp.v, Rp.z, rl, nilLs, nilL]) (by simp [flat, cellsOf, pl, z3, Rp.v, Rp.z, rl, immC]), asRep.refl _, asRep.refl _, asRep.refl _, asRep.refl _, asRep.refl _, trivial⟩ rfl
  have cR1 := Read_pc l3 3 e3 6 (by decide) (by decide) (by decide)
  rw [rds.1.1, rds.1.2] at cR1
  have cR2 := Read_pc l3 3 e3 1 (by decide) (by decide) (by decide)
  rw [rds.2] at cR2
  have cV := rpValid_pc r1 (by decide)
  rw [show rpOk r1 = true by decide +kernel] at cV
  have cL := lock_pc bA
  refine pc_end c8b mixed rfl ?_
  have hmx : 3 ≤ maxLen ∧ 3 * 32 ≤ maxBytes := by simp [maxLen, maxBytes]
  simp -implicitDefEqProofs [a8b, F8, hmx]
  refine wkd_take ?_
  simp -implicitDefEqProofs
  refine wcd_of cL (by simp [bA]) (by simp) ?_
  simp -implicitDefEqProofs
  refine wkd_take ?_
  simp -implicitDefEqProofs
  refine wcd_of cU2 (by simp [cP, e3, iv, Rs.v, lk]) (by simp [cP, Rs.v]) ?_
  have hp : pl l3 = [.agg [.s (.int .i64 1), .list 4 (rl [lk bA])], .agg [.s (.int .i64 0), .list 4 []], .agg [.s (.int .i64 1), .list 4 (rl [lk bA])]] := rfl
  have hr1 : r1.v = .agg [.s (.int .i64 1), .list 4 (rl [lk bA])] := rfl
  have hl : (lk bA).v = .agg [.s (.string bA), .s (.int .i64 1), .s (.int .i64 1), .s (.int .i64 0)] := rfl
  have he : cP 3 e3 = .agg [.s (.int .i64 3), .list 1 [.s (.int .i64 3), .s (.int .i64 5), .s (.int .i64 6)]] := rfl
  have hlen : (rl [lk bA]).length = 1 := rfl
  rw [hp, he] at cR1 cR2
  rw [hr1] at cR1 cV
  simp -implicitDefEqProofs [hp, hl]
  refine wk_take ?_
  simp -implicitDefEqProofs
  refine wc_of cR1 (by simp) (by simp) ?_
  rintro _ rfl
  simp -implicitDefEqProofs
  refine wk_take ?_
  simp -implicitDefEqProofs
  refine wc_of cR2 (by simp) (by simp) ?_
  rintro _ rfl
  generalize rdR l3 3 e3 1 = r9
  simp -implicitDefEqProofs [Rp.v, hlen]
  refine wk_take ?_
  simp -implicitDefEqProofs
  refine wc_of cV (by simp) (by simp) ?_
  rintro _ rfl
  simp -implicitDefEqProofs
end Go.Proofs.Ytebibhmjmaomnaa
namespace Go.Proofs.Ytebibhmjmaomnaa
open Go.RowKit Go.Proofs
end Go.Proofs.Ytebibhmjmaomnaa
namespace Go.Proofs.Ytebibhmjmaomnaa
open Go.RowKit Go.Proofs
def nm5 : Nat → ByteArray
  | 0 => ByteArray.mk #[97]
  | 1 => ByteArray.mk #[98]
  | 2 => ByteArray.mk #[99]
  | 3 => ByteArray.mk #[100]
  | _ => ByteArray.mk #[101]
end Go.Proofs.Ytebibhmjmaomnaa
namespace Go.Proofs.Ytebibhmjmaomnaa
open Go.RowKit Go.Proofs
theorem sh_int0 {dep : Nat} {el : List V} (h : Shape Try.prog (dep + 1) 3 el) : ∃ n : Int, el = [.s (.int .i64 n)] := by
  unfold Shape at h
  rw [Try.underlying3] at h
  obtain ⟨n, _, hn⟩ := h
  exact ⟨n, by simpa using hn⟩
theorem sh_els {α : Type} {dep : Nat} {t : TypeId} {f : α → V} (hf : ∀ el, Shape Try.prog dep t el → ∃ a, elemD Try.prog t el = f a) : ∀ (els : List (List V)), (∀ el ∈ els, Shape Try.prog dep t el) → ∃ m : List α, els.map (elemD Try.prog t) = m.map f
  | [], _ => ⟨[], rfl⟩
  | x :: r, h => by
    obtain ⟨m, hm⟩ := sh_els hf r (fun el hel => h el (by simp [hel]))
    obtain ⟨a, ha⟩ := hf x (h x (by simp))
    exact ⟨a :: m, by rw [List.map_cons, hm, ha]; rfl⟩
theorem sh_ints0 {dep : Nat} {el : List V} (h : Shape Try.prog (dep + 2) 23 el) : ∃ l : List Int, el = [.list 1 (iv l)] := by
  unfold Shape at h
  rw [Try.underlying23] at h
  obtain ⟨els, hx, _, hb⟩ := h
  have e1 : Try.prog.cellsOf 3 = 1 := by kernel_rfl
  have e2 : aggT Try.prog 3 = some false := by kernel_rfl
  rw [e1] at hx
  obtain ⟨m, hm⟩ := sh_els (f := fun n : Int => V.s (.int .i64 n)) (fun el hel => by
    obtain ⟨n, rfl⟩ := sh_int0 hel
    exact ⟨n, by simp [elemD, e2]⟩) els hb
  rw [hm] at hx
  exact ⟨m, hx⟩
theorem sh_byte {dep : Nat} {x : V} (h : ArgShape Try.prog (dep + 1) 5 x) : ∃ n : Nat, n < 256 ∧ x = .s (.int .u8 n) := by
  unfold ArgShape at h
  rw [Try.underlying5] at h
  simp only at h
  unfold Shape at h
  rw [Try.underlying5] at h
  obtain ⟨n, hn, hx⟩ := h
  have hb : 0 ≤ n ∧ n ≤ 255 := by simpa [Lit.wf, IntKind.min, IntKind.max, IntKind.signed, IntKind.bits] using hn
  exact ⟨n.toNat, by omega, by rw [show ((n.toNat : Nat) : Int) = n by omega]; simpa using hx⟩
theorem sh_ints {dep : Nat} {x : V} (h : ArgShape Try.prog (dep + 2) 23 x) : ∃ l : List Int, x = .list 1 (iv l) := by
  unfold ArgShape at h
  rw [Try.underlying23] at h
  simp only at h
  obtain ⟨l, hl⟩ := sh_ints0 h
  exact ⟨l, by simpa using hl⟩
end Go.Proofs.Ytebibhmjmaomnaa
