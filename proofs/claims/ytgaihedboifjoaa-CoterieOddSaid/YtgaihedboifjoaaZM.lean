/- Texts put behind one another: K11, K12, K13, K14, K15, K16, K17, K18, K19. -/
import Derived.Test.YtgaihedboifjoaaZK
set_option linter.unusedVariables false
set_option linter.unusedSimpArgs false
namespace Go.Proofs.Ytgaihedboifjoaa
open Go.RowKit Go.Proofs

theorem minF_nat {L : List Nat} (hL : ∀ t ∈ L, t < 512) {s : Nat} (hs : s < 512) : minF (zi L) s = (decide (s ∈ L) && minim s L) := by
  unfold minF
  have h1 : (zi L).any (minA s) = decide (s ∈ L) := by
    rw [Bool.eq_iff_iff]
    simp only [List.any_eq_true, zi, List.mem_map, minA, beq_iff_eq, decide_eq_true_eq]
    constructor
    · rintro ⟨x, ⟨a, ha, rfl⟩, h⟩
      have : a = s := by omega
      exact this ▸ ha
    · exact fun h => ⟨(s : Int), ⟨s, h, rfl⟩, rfl⟩
  rw [h1]
  congr 1
  rw [zi_all (q := fun t => decide (Sub t s → t = s)) fun t ht => ?_]
  · rw [Bool.eq_iff_iff, minim_iff, List.all_eq_true]
    simp only [decide_eq_true_eq]
  · unfold minL
    rw [band_nat (hL t ht) hs, Bool.eq_iff_iff]
    simp only [Bool.or_eq_true, beq_iff_eq, Bool.not_eq_true', beq_eq_false_iff_ne, decide_eq_true_eq]
    unfold Sub
    constructor
    · rintro (h | h) hh
      · omega
      · omega
    · intro h
      by_cases he : t &&& s = t
      · have := h he; left; omega
      · right; omega
theorem filt_min {k : Nat} (hk : k ≤ 9) {L : List Nat} (hL : ∀ t ∈ L, 1 ≤ t ∧ t < 512) : (from0 (2 ^ k)).filter (minF (zi L)) = zi (reduce k L) := by
  have h512 : 2 ^ k ≤ 2 ^ 9 := Nat.pow_le_pow_right (by omega) hk
  rw [from0, filter_zi (q := fun s => decide (s ∈ L) && minim s L)]
  · unfold reduce subs
    rw [List.filter_filter]
    congr 1
    refine List.filter_congr fun s hs => ?_
    rw [Bool.eq_iff_iff]
    simp only [Bool.and_eq_true, decide_eq_true_eq]
    constructor
    · rintro ⟨h1, h2⟩
      exact ⟨⟨h1, h2⟩, (hL s h1).1⟩
    · exact fun h => h.1
  · intro s hs
    exact minF_nat (fun t ht => (hL t ht).2) (by have := List.mem_range.1 hs; omega)
theorem reduce_mall {k : Nat} {Q : List Nat} : reduce k (mall k Q) = trans k Q := by
  unfold reduce trans
  conv => rhs; rw [mall, List.filter_filter]
  refine List.filter_congr fun s hs => ?_
  rw [Bool.eq_iff_iff]
  simp only [Bool.and_eq_true, decide_eq_true_eq]
  constructor
  · rintro ⟨h1, h2⟩
    have := List.mem_filter.1 h1
    exact ⟨h2, this.2⟩
  · rintro ⟨h1, h2⟩
    exact ⟨List.mem_filter.2 ⟨hs, h2⟩, h1⟩
def rtO (k K : Nat) (q : List Int) (m : Nat) (S : St) : Prop := ∃ i : Nat, 1 ≤ i ∧ i + m = K ∧ S = ⟨tmL [(1, .ptr 0 0)], [.agg [.s (.int .i64 k), .list 1 (iv q)], .s (.slice none 0 0), .own true 3 1 (iv ((upto i).filter fun s => q.all (pMeet s))), .s (.int .i64 i), .no, .no], [[.s (.int .i64 k), .list 1 (iv q)]], 0⟩
def rtI (k : Nat) (q : List Int) (i : Nat) (m : Nat) (S : St) : Prop := ∃ j : Nat, j + m = q.length ∧ S = ⟨tmL [(1, .ptr 0 0), (19, .list 1 (iv q)), (20, .s (.int .i64 q.length)), (21, .s (.int .i64 j))], [.agg [.s (.int .i64 k), .list 1 (iv q)], .s (.slice none 0 0), .own true 3 1 (iv ((upto i).filter fun s => q.all (pMeet s))), .s (.int .i64 i), .s (.bool ((q.take j).all (pMeet i))), .no], [[.s (.int .i64 k), .list 1 (iv q)]], 0⟩
set_option maxHeartbeats 8000000 in
theorem rTrans_pc (n : Int) (q : List Int) (hq : q.length ≤ 1000) : PC Try.prog 26 [cP n q] (fun r => r = .list 1 (iv (trZ n q))) := by
  refine pc_list (q := fun r => r = if okB n q = true then .list 1 (iv (trZ n q)) else .s (.slice none 0 0)) ?_ fun x hx _ => ⟨.list 1 (iv (trZ n q)), ?_, rfl, rfl⟩
  case refine_2 =>
    subst hx
    split
    · exact lv_of_list _
    · next h => exact lv_of_nil (trZ_f (by simpa using h))
  refine pc_end c26 mixed rfl ?_
  simp -implicitDefEqProofs [a26, F26, cP]
  refine wk_take ?_
  simp -implicitDefEqProofs
  refine wc_of (rValid_pc n q (by omega)) (by simp [cP]) (by simp [cP]) ?_
  rintro _ rfl
  cases ho : okB n q
  · simp -implicitDefEqProofs
  have hok := okB_iff.1 ho
  have hc := okC_cv hok
  have hz := trZ_t hok hc
  generalize n.toNat = k at hc hz
  generalize q.map Int.toNat = Q at hc hz
  have e1 := hc.n
  have e2 := hc.q
  subst e1
  have hk := hc.k1.2
  have h512 : 2 ^ k ≤ 2 ^ 9 := Nat.pow_le_pow_right (by omega) hk
  have h1n : 1 ≤ 2 ^ k := Nat.pow_pos (by omega)
  have es := shl1 (n := k) (by omega)
  have k0 : ¬ (k : Int) < 0 := by omega
  have hF : (upto (2 ^ k)).filter (fun s => q.all (pMeet s)) = zi (mall k Q) := by rw [e2]; exact filt_mall hk hc.lt
  have hM := rmin_pc k hk (zi (mall k Q)) (by rw [zi_length]; have := mall_len (Q := Q) hk; omega)
  rw [filt_min hk (fun t ht => mall_lt hk ht), reduce_mall] at hM
  clear hc e2
  generalize 2 ^ k = K at *
  simp -implicitDefEqProofs
  refine w_rounds [1] [4, 5] 1 (by decide) (rtO k K q) (K - 1) ⟨by simp, 1, by omega, by omega, by simp [upto]⟩ ?_
  rintro m S ⟨i, hi1, hi, rfl⟩
  have hfl : ((upto i).filter fun s => q.all (pMeet s)).length ≤ i - 1 := Nat.le_trans (List.length_filter_le _ _) (by simp)
  by_cases hm : i < K
  case neg =>
    have h6 : i = K := by omega
    subst h6
    simp -implicitDefEqProofs [k0, es]
    refine wk_take ?_
    simp -implicitDefEqProofs
    rw [hF]
    refine wc_of hM (by simp) (by simp) ?_
    rintro _ rfl
    simp -implicitDefEqProofs [hz]
  have g1 : (i : Int) < (K : Int) := by omega
  have hw := wrap64 (n := (i : Int) + 1) (by omega)
  simp -implicitDefEqProofs [k0, es, g1]
  refine w_rounds [1, 19, 20, 21] [5] 1 (by decide) (rtI k q i) q.length ⟨by simp, 0, by simp, by simp⟩ ?_
  rintro m' S ⟨j, hj, rfl⟩
  by_cases hjl : j < q.length
  · have j1 : (j : Int) < q.length := by omega
    have j0 : ¬ (j : Int) < 0 := by omega
    have hwj := wrap64 (n := (j : Int) + 1) (by omega)
    have t2 := all_take1 hjl (pMeet i)
    have m2 : pMeet i q[j] = !(bits .and .i64 (i : Int) q[j] == 0) := rfl
    cases b2 : (q.take j).all (pMeet i) <;> cases b3 : (bits .and .i64 (i : Int) q[j] == 0) <;> rw [b2, m2, b3] at t2
    all_goals
      have b3' : (bits .and .i64 (i : Int) q[j] != 0) = _ := congrArg (!·) b3
      simp -implicitDefEqProofs [j1, j0, iv_get hjl, ↓binS_and, b3', hwj]
      exact ⟨m' - 1, by omega, j + 1, by omega, by rw [t2]; simp⟩
  · have h6 : j = q.length := by omega
    have e2 : (q.take j).all (pMeet i) = q.all (pMeet i) := by rw [List.take_of_length_le (by omega)]
    have hs := upto_filter_succ hi1 (fun s => q.all (pMeet s))
    have b5 : ((upto i).filter fun s => q.all (pMeet s)).length + 1 ≤ maxLen ∧ (((upto i).filter fun s => q.all (pMeet s)).length + 1) * 8 ≤ maxBytes := by simp [maxLen, maxBytes]; omega
    rw [e2]
    subst h6
    cases b2 : q.all (pMeet i) <;> simp only [b2] at hs <;> simp -implicitDefEqProofs [hw, b5] <;> exact ⟨m - 1, by omega, i + 1, by omega, by omega, by rw [hs]; simp [iv]⟩
end Go.Proofs.Ytgaihedboifjoaa

namespace Go.Proofs.Ytgaihedboifjoaa
open Go.RowKit Go.Proofs

def inA (s t : Int) : Bool := band t s == t
def domS (q : List Int) (s : Int) : Bool := q.all (pMeet s) && !q.any (inA s)
theorem dom_plain {k : Nat} {Q : List Nat} (hk : k ≤ 9) (h : Cot k Q) (hQ : ∀ t ∈ Q, t < 512) : (∀ s ∈ upto (2 ^ k), domS (zi Q) s = false) ↔ trans k Q = Q := by
  rw [h.nd, upto_subs]
  have hd : ∀ s : Nat, s < 512 → domS (zi Q) (s : Int) = (meets s Q && !Q.any fun t => decide (Sub t s)) := by
    intro s hs
    unfold domS
    rw [meets_zi hs hQ]
    congr 2
    rw [Bool.eq_iff_iff]
    simp only [List.any_eq_true, zi, List.mem_map, inA, beq_iff_eq, decide_eq_true_eq]
    constructor
    · rintro ⟨x, ⟨a, ha, rfl⟩, h⟩
      rw [band_nat (hQ a ha) hs] at h
      exact ⟨a, ha, by unfold Sub; omega⟩
    · rintro ⟨a, ha, h⟩
      refine ⟨(a : Int), ⟨a, ha, rfl⟩, ?_⟩
      rw [band_nat (hQ a ha) hs]
      unfold Sub at h
      omega
  constructor
  · intro hh s hs
    have hs1 := mall_mem.1 hs
    have := hh (s : Int) (List.mem_map.2 ⟨s, subs_mem.2 hs1.1, rfl⟩)
    rw [hd s (mall_lt hk hs).2, meets_iff.2 hs1.2] at this
    simp at this
    obtain ⟨x, h1, h2⟩ := this
    exact ⟨x, h1, h2⟩
  · intro hh s hs
    obtain ⟨a, ha, rfl⟩ := List.mem_map.1 hs
    rw [hd a (subs_lt ha hk).2]
    cases hm : meets a Q
    · rfl
    · obtain ⟨x, h1, h2⟩ := hh a (mall_mem.2 ⟨subs_mem.1 ha, meets_iff.1 hm⟩)
      simp
      exact ⟨x, h1, h2⟩
def rdO (k K : Nat) (q : List Int) (m : Nat) (S : St) : Prop := ∃ i : Nat, 1 ≤ i ∧ i + m = K ∧ (∀ s ∈ upto i, domS q s = false) ∧ S = ⟨tmL [(1, .ptr 0 0)], [.agg [.s (.int .i64 k), .list 1 (iv q)], .s (.bool false), .s (.int .i64 i), .no, .no, .no], [[.s (.int .i64 k), .list 1 (iv q)]], 0⟩
def rdI (k : Nat) (q : List Int) (i : Nat) (m : Nat) (S : St) : Prop := ∃ j : Nat, j + m = q.length ∧ S = ⟨tmL [(1, .ptr 0 0), (19, .list 1 (iv q)), (20, .s (.int .i64 q.length)), (21, .s (.int .i64 j))], [.agg [.s (.int .i64 k), .list 1 (iv q)], .s (.bool false), .s (.int .i64 i), .s (.bool ((q.take j).all (pMeet i))), .s (.bool ((q.take j).any (inA i))), .no], [[.s (.int .i64 k), .list 1 (iv q)]], 0⟩
set_option maxHeartbeats 8000000 in
theorem rDom_pc (n : Int) (q : List Int) (hq : q.length ≤ 1000) : PC Try.prog 28 [cP n q] (fun r => r = .s (.bool (domB n q))) := by
  refine pc_end c28 mixed rfl ?_
  simp -implicitDefEqProofs [a28, F28, cP]
  refine wk_take ?_
  simp -implicitDefEqProofs
  refine wc_of (rValid_pc n q (by omega)) (by simp [cP]) (by simp [cP]) ?_
  rintro _ rfl
  cases ho : okB n q
  · simp -implicitDefEqProofs [domB, ho]
  have hok := okB_iff.1 ho
  have hc := okC_cv hok
  have hz := trZ_t hok hc
  generalize n.toNat = k at hc hz
  generalize q.map Int.toNat = Q at hc hz
  have e1 := hc.n
  have e2 := hc.q
  subst e1
  have hk := hc.k1.2
  have h512 : 2 ^ k ≤ 2 ^ 9 := Nat.pow_le_pow_right (by omega) hk
  have h1n : 1 ≤ 2 ^ k := Nat.pow_pos (by omega)
  have es := shl1 (n := k) (by omega)
  have k0 : ¬ (k : Int) < 0 := by omega
  have hD := dom_plain hk hc.cot hc.lt
  rw [← e2] at hD
  have hdt : (∀ s ∈ upto (2 ^ k), domS q s = false) → domB k q = false := fun h => by
    have h2 := hD.1 h
    unfold domB
    rw [hz, h2, ← e2]
    simp
  have hdf : (¬ ∀ s ∈ upto (2 ^ k), domS q s = false) → domB k q = true := fun h => by
    have h2 : trans k Q ≠ Q := fun e => h (hD.2 e)
    have h3 : ¬ zi (trans k Q) = q := fun e => h2 (by
      rw [e2] at e
      have := congrArg (List.map Int.toNat) e
      simpa [zi, List.map_map, Function.comp_def] using this)
    simp [domB, ho, hz, h3]
  clear hD hc e2 hz
  generalize 2 ^ k = K at *
  simp -implicitDefEqProofs
  refine w_rounds [1] [3, 4, 5] 1 (by decide) (rdO k K q) (K - 1) ⟨by simp, 1, by omega, by omega, by simp [upto], by simp⟩ ?_
  rintro m S ⟨i, hi1, hi, hx, rfl⟩
  by_cases hm : i < K
  case neg =>
    have h6 : i = K := by omega
    subst h6
    simp -implicitDefEqProofs [k0, es, hdt hx]
  have g1 : (i : Int) < (K : Int) := by omega
  have hw := wrap64 (n := (i : Int) + 1) (by omega)
  simp -implicitDefEqProofs [k0, es, g1]
  refine w_rounds [1, 19, 20, 21] [5] 1 (by decide) (rdI k q i) q.length ⟨by simp, 0, by simp, by simp⟩ ?_
  rintro m' S ⟨j, hj, rfl⟩
  by_cases hjl : j < q.length
  · have j1 : (j : Int) < q.length := by omega
    have j0 : ¬ (j : Int) < 0 := by omega
    have hwj := wrap64 (n := (j : Int) + 1) (by omega)
    have t1 := any_take1 hjl (inA i)
    have t2 := all_take1 hjl (pMeet i)
    have m1 : inA i q[j] = (band q[j] i == q[j]) := rfl
    have m2 : pMeet i q[j] = !(bits .and .i64 (i : Int) q[j] == 0) := rfl
    have fin : ∀ {b1 b2 : Bool}, (q.take (j + 1)).any (inA i) = b1 → (q.take (j + 1)).all (pMeet i) = b2 → ∀ S', S' = (⟨tmL [(1, .ptr 0 0), (19, .list 1 (iv q)), (20, .s (.int .i64 q.length)), (21, .s (.int .i64 ((j : Int) + 1)))], [.agg [.s (.int .i64 k), .list 1 (iv q)], .s (.bool false), .s (.int .i64 i), .s (.bool b2), .s (.bool b1), .no], [[.s (.int .i64 k), .list 1 (iv q)]], 0⟩ : St) → ∃ m'' < m', rdI k q i m'' S' :=
      fun h1 h2 S' hS => ⟨m' - 1, by omega, j + 1, by omega, by rw [hS, h1, h2]; simp⟩
    cases b1 : (q.take j).any (inA i) <;> cases b2 : (q.take j).all (pMeet i) <;> cases b3 : (bits .and .i64 (i : Int) q[j] == 0) <;> rw [b1, m1] at t1 <;> rw [b2, m2, b3] at t2
    all_goals
      have b3' : (bits .and .i64 (i : Int) q[j] != 0) = _ := congrArg (!·) b3
      first
      | (simp -implicitDefEqProofs [j1, j0, iv_get hjl, ↓binS_and, b3', hwj]; exact fin t1 t2 _ rfl)
      | (simp -implicitDefEqProofs [j1, j0, iv_get hjl, ↓binS_and, b3']
         refine wk_take ?_
         simp -implicitDefEqProofs
         refine wc_of (inside_pc q[j] i) (by simp) (by simp) ?_
         rintro _ rfl
         simp -implicitDefEqProofs [hwj]
         exact fin (by rw [t1]; simp) t2 _ rfl)
  · have h6 : j = q.length := by omega
    have e1 : (q.take j).any (inA i) = q.any (inA i) := by rw [List.take_of_length_le (by omega)]
    have e2 : (q.take j).all (pMeet i) = q.all (pMeet i) := by rw [List.take_of_length_le (by omega)]
    have hF : domS q i = (q.all (pMeet i) && !q.any (inA i)) := rfl
    have hst : domS q i = true → domB k q = true := fun h => hdf fun hh => by
      have := hh (i : Int) (by
        simp only [upto, List.mem_map, List.mem_range]
        exact ⟨i - 1, by omega, by omega⟩)
      rw [h] at this
      cases this
    have hgo : domS q i = false → ∀ s ∈ upto (i + 1), domS q s = false := fun h s hs => by
      rw [upto_succ hi1] at hs
      simp at hs
      rcases hs with hs | rfl
      · exact hx s hs
      · exact h
    rw [e1, e2]
    subst h6
    cases b1 : q.any (inA i) <;> cases b2 : q.all (pMeet i) <;> rw [b1, b2] at hF
    case false.true => simp -implicitDefEqProofs [hst hF]
    all_goals
      simp -implicitDefEqProofs [hw]
      exact ⟨m - 1, by omega, i + 1, by omega, by omega, hgo hF, by simp⟩
end Go.Proofs.Ytgaihedboifjoaa

namespace Go.Proofs.Ytgaihedboifjoaa
open Go.RowKit Go.Proofs

def inR (k : Nat) (s : Int) : Bool := decide (1 ≤ s ∧ s < ((2 ^ k : Nat) : Int))
def meetAll (L : List Nat) : Bool := L.all fun s => meets s L
def redE (n : Int) (l : List Int) : Int :=
  if 1 ≤ n ∧ n ≤ 9 ∧ l ≠ [] then (if l.all (inR n.toNat) = true then (if meetAll (l.map Int.toNat) = true then (if (reduce n.toNat (l.map Int.toNat)).length ≤ 64 then 0 else 4) else 13) else 1) else 1
def redQ (n : Int) (l : List Int) : List Nat := reduce n.toNat (l.map Int.toNat)
def seenV (l : List Int) : List V := (List.range 512).map fun i : Nat => .s (.bool (decide ((i : Int) ∈ l)))
theorem seenV_len (l : List Int) : (seenV l).length = 512 := by simp [seenV]
theorem seenV_get (l : List Int) {a : Nat} (h : a < 512) : (seenV l)[a]? = some (.s (.bool (decide ((a : Int) ∈ l)))) := by simp [seenV, h]
theorem seenV_cell (l : List Int) : ∀ x ∈ seenV l, ∃ b : Bool, x = .s (.bool b) := fun x hx => by
  simp only [seenV, List.mem_map] at hx
  obtain ⟨i, _, rfl⟩ := hx
  exact ⟨_, rfl⟩
theorem seenV_cellK (l : List Int) (n : Nat) : ∀ x ∈ seenV l, cellK n x = true := fun x hx => by obtain ⟨b, rfl⟩ := seenV_cell l x hx; rfl
theorem seenV_cellB (l : List Int) : ∀ x ∈ seenV l, cellB x = true := fun x hx => by obtain ⟨b, rfl⟩ := seenV_cell l x hx; rfl
theorem seenV_all (l : List Int) (p : V → Bool) (hp : ∀ b, p (.s (.bool b)) = true) : (seenV l).all p = true := by
  rw [List.all_eq_true]
  intro x hx
  obtain ⟨b, rfl⟩ := seenV_cell l x hx
  exact hp b
theorem z512_map : z512.map V.s = List.replicate 512 (.s (.bool false)) := by unfold z512; rw [List.map_replicate]
theorem seenV_nil : z512.map V.s = seenV [] := by
  rw [z512_map]
  apply List.ext_getElem?
  intro i
  by_cases hi : i < 512
  · rw [seenV_get _ hi, List.getElem?_replicate, if_pos hi]
    simp
  · rw [List.getElem?_eq_none (by rw [List.length_replicate]; omega), List.getElem?_eq_none (by rw [seenV_len]; omega)]
theorem seenV_set (l : List Int) (a : Nat) : (seenV l).set a (.s (.bool true)) = seenV (l ++ [(a : Int)]) := by
  apply List.ext_getElem?
  intro i
  by_cases hi : i < 512
  · rw [seenV_get _ hi]
    by_cases he : a = i
    · subst he
      rw [List.getElem?_set_self (by rw [seenV_len]; exact hi)]
      simp
    · rw [List.getElem?_set_ne he, seenV_get _ hi]
      have : ¬ (i : Int) = (a : Int) := by omega
      simp [this]
  · rw [List.getElem?_eq_none (by simp [seenV_len]; omega), List.getElem?_eq_none (by rw [seenV_len]; omega)]
theorem drop_take1 {α : Type} {l : List α} {a : Nat} {x : α} (h : l[a]? = some x) : (l.drop a).take 1 = [x] := by
  obtain ⟨hl, e⟩ := List.getElem?_eq_some_iff.1 h
  rw [List.drop_eq_getElem_cons hl, List.take_succ_cons, List.take_zero, e]
theorem seenV_drop (l : List Int) {a : Nat} (h : a < 512) : ((seenV l).drop a).take 1 = [.s (.bool (decide ((a : Int) ∈ l)))] := drop_take1 (seenV_get l h)
theorem red1_ac (l : List Int) (a : Nat) (h : a < 512) : AC Try.prog 37 [.s (.int .i64 a), .ptr 0 0] [seenV l] (fun r bs => r = .s (.bool (decide ((a : Int) ∈ l))) ∧ bs = [seenV l]) := by
  refine ac_end c37 mixed rfl ?_
  have a0 : (0 : Int) ≤ (a : Int) ∧ (a : Int) < 512 := by omega
  have a1 : a < 1000000000 := by omega
  have a2 : a + 1 ≤ 512 := by omega
  simp -implicitDefEqProofs [a37, F37, a0, a1, a2, seenV_get l h, seenV_len, seenV_drop l h]
  refine retA_of 1 ?_
  simp -implicitDefEqProofs
  exact fun x hx => seenV_cellK l 1 x hx
theorem red2_ac (q : List Int) (hq : q.length ≤ 1000) (s : Int) : AC Try.prog 40 [.s (.int .i64 s), .ptr 0 0] [[.list 1 (iv q)]] (fun r bs => r = .s (.bool (q.all (pMin s))) ∧ bs = [[.list 1 (iv q)]]) := by
  refine ac_end c40 mixed rfl ?_
  simp -implicitDefEqProofs [a40, F40]
  refine wk_take ?_
  simp -implicitDefEqProofs
  refine wc_of (minimal_pc s q (by omega)) (by simp) (by simp) ?_
  rintro _ rfl
  simp -implicitDefEqProofs
  refine retA_of 1 ?_
  simp -implicitDefEqProofs
/-- the sets that were seen, ascending -/
def col (k : Nat) (L : List Nat) : List Nat := (subs k).filter fun s => decide (s ∈ L)
theorem col_mem {k : Nat} {L : List Nat} (hL : ∀ t ∈ L, 1 ≤ t ∧ t < 2 ^ k) {s : Nat} : s ∈ col k L ↔ s ∈ L := by
  unfold col
  rw [List.mem_filter, subs_mem]
  simp only [decide_eq_true_eq]
  exact ⟨fun h => h.2, fun h => ⟨hL s h, h⟩⟩
theorem col_len {k : Nat} {L : List Nat} (hk : k ≤ 9) : (col k L).length ≤ 512 := by
  have h2 : 2 ^ k ≤ 2 ^ 9 := Nat.pow_le_pow_right (by omega) hk
  have h3 := List.length_filter_le (fun s => decide (s ∈ L)) (subs k)
  have h4 := List.length_filter_le (fun s => decide (1 ≤ s)) (List.range (2 ^ k))
  have h5 : (subs k).length ≤ 2 ^ k := by simpa [subs] using h4
  have h6 : (col k L).length ≤ (subs k).length := h3
  omega
theorem zi_mem {a : Nat} {L : List Nat} : (a : Int) ∈ zi L ↔ a ∈ L := by
  simp only [zi, List.mem_map]
  constructor
  · rintro ⟨b, hb, h⟩
    have : b = a := by omega
    exact this ▸ hb
  · exact fun h => ⟨a, h, rfl⟩
theorem filt_col (k : Nat) (L : List Nat) : (upto (2 ^ k)).filter (fun s => decide (s ∈ zi L)) = zi (col k L) := by
  rw [upto_subs]
  exact filter_zi _ _ _ fun s _ => by simp only [zi_mem]
theorem filt_red {k : Nat} (hk : k ≤ 9) {L : List Nat} (hL : ∀ t ∈ L, 1 ≤ t ∧ t < 2 ^ k) : (zi (col k L)).filter (fun s => (zi (col k L)).all (pMin s)) = zi (reduce k L) := by
  have h2 : 2 ^ k ≤ 2 ^ 9 := Nat.pow_le_pow_right (by omega) hk
  have hlt : ∀ t ∈ col k L, t < 512 := fun t ht => by have := hL t ((col_mem hL).1 ht); omega
  rw [filter_zi (q := fun s => minim s (col k L)) (h := fun s hs => minim_zi (hlt s hs) hlt)]
  congr 1
  unfold reduce
  conv => lhs; rw [col, List.filter_filter]
  refine List.filter_congr fun s hs => ?_
  rw [Bool.and_comm]
  congr 1
  rw [Bool.eq_iff_iff, minim_iff, minim_iff]
  constructor
  · exact fun h t ht => h t ((col_mem hL).2 ht)
  · exact fun h t ht => h t ((col_mem hL).1 ht)
theorem meetAll_col {k : Nat} {L : List Nat} (hL : ∀ t ∈ L, 1 ≤ t ∧ t < 2 ^ k) : meetAll L = (col k L).all (fun s => meets s (col k L)) := by
  unfold meetAll
  rw [Bool.eq_iff_iff, List.all_eq_true, List.all_eq_true]
  constructor
  · intro h s hs
    have := meets_iff.1 (h s ((col_mem hL).1 hs))
    exact meets_iff.2 fun t ht => this t ((col_mem hL).1 ht)
  · intro h s hs
    have := meets_iff.1 (h s ((col_mem hL).2 hs))
    exact meets_iff.2 fun t ht => this t ((col_mem hL).2 ht)
def reO1 (k : Nat) (l : List Int) (m : Nat) (S : St) : Prop := ∃ i : Nat, i + m = l.length ∧ (l.take i).all (inR k) = true ∧ S = ⟨tmL [(4, .ptr 0 0), (6, .ptr 1 0), (22, .list 1 (iv l)), (23, .s (.int .i64 l.length)), (24, .s (.int .i64 i))], [.s (.int .i64 k), .list 1 (iv l), .s (.int .i64 0), .no, .no, .no], [[.s (.int .i64 0), .s (.slice none 0 0)], seenV (l.take i)], 0⟩
def reO2 (k : Nat) (l c : List Int) (m : Nat) (S : St) : Prop := ∃ i : Nat, i + m = c.length ∧ (c.take i).all (fun s => c.all (pMeet s)) = true ∧ S = ⟨tmL [(4, .ptr 0 0), (9, .ptr 2 0), (39, .list 1 (iv c)), (40, .s (.int .i64 c.length)), (41, .s (.int .i64 i))], [.s (.int .i64 k), .list 1 (iv l), .s (.int .i64 0), .no, .no, .no], [[.s (.int .i64 0), .s (.slice none 0 0)], seenV l, [.list 1 (iv c)]], 0⟩
set_option maxHeartbeats 8000000 in
theorem Reduce_pc0 (n : Int) (l : List Int) (hl : l.length ≤ 1000) : PC Try.prog 16 [.s (.int .i64 n), .list 1 (iv l)] (fun r => r = raw (redE n l) n (redQ n l)) := by
  refine pc_end c16 mixed rfl ?_
  simp -implicitDefEqProofs [a16, F16]
  refine wk_take ?_
  simp -implicitDefEqProofs
  refine wc_of (voters_pc n) (by simp) (by simp) ?_
  rintro _ rfl
  by_cases h1 : 1 ≤ n ∧ n ≤ 9
  case neg =>
    have e : redE n l = 1 := by unfold redE; rw [if_neg fun h => h1 ⟨h.1, h.2.1⟩]
    simp -implicitDefEqProofs [h1, e, raw, eV]
  by_cases h2 : l = []
  · have e : redE n l = 1 := by unfold redE; rw [if_neg fun h => h.2.2 h2]
    simp -implicitDefEqProofs [h1, h2, raw, eV]
    subst h2
    simp -implicitDefEqProofs [e]
  obtain ⟨k, rfl⟩ : ∃ k : Nat, n = k := ⟨n.toNat, by omega⟩
  have hk : k ≤ 9 := by omega
  have h512 : 2 ^ k ≤ 2 ^ 9 := Nat.pow_le_pow_right (by omega) hk
  have e0 : redE k l = if l.all (inR k) = true then (if meetAll (l.map Int.toNat) = true then (if (reduce k (l.map Int.toNat)).length ≤ 64 then 0 else 4) else 13) else 1 := by
    unfold redE
    rw [if_pos ⟨h1.1, h1.2, h2⟩, Int.toNat_natCast]
  have hl0 : ((l.length : Int) == 0) = false := by
    have : l.length ≠ 0 := fun h => h2 (List.eq_nil_of_length_eq_zero h)
    simp; exact h2
  simp -implicitDefEqProofs [h1, h2, hl0, seenV_nil]
  refine w_rounds [4, 6, 22, 23, 24] [3, 4, 5] 2 (by decide) (reO1 k l) l.length ⟨?_, 0, by simp, by simp, by simp⟩ ?_
  · simp -implicitDefEqProofs
    exact fun x hx => seenV_cellK _ 2 x hx
  rintro m S ⟨i, hi, hx, rfl⟩
  by_cases hm : i < l.length
  · have i1 : (i : Int) < l.length := by omega
    have i0 : ¬ (i : Int) < 0 := by omega
    have hw := wrap64 (n := (i : Int) + 1) (by omega)
    simp -implicitDefEqProofs [i1, i0, iv_get hm]
    refine wk_take ?_
    simp -implicitDefEqProofs
    refine wc_of (isSet_pc l[i] k (by omega)) (by simp) (by simp) ?_
    rintro _ rfl
    by_cases h4 : 1 ≤ l[i] ∧ l[i] < ((2 ^ k : Nat) : Int)
    case neg =>
      have hf : inR k l[i] = false := by unfold inR; exact decide_eq_false h4
      have e : redE k l = 1 := by rw [e0, all_false hm _ hf]; rfl
      rw [decide_eq_false h4]
      simp -implicitDefEqProofs [e, raw, eV]
    have ht : inR k l[i] = true := by unfold inR; exact decide_eq_true h4
    rw [decide_eq_true h4]
    obtain ⟨a, ha⟩ : ∃ a : Nat, l[i] = a := ⟨l[i].toNat, by omega⟩
    have ha5 : a < 512 := by omega
    have a0 : (0 : Int) ≤ (a : Int) ∧ (a : Int) < 512 := by omega
    have a1 : a < 1000000000 := by omega
    have hs := seenV_set (l.take i) a
    have htk : l.take (i + 1) = l.take i ++ [(a : Int)] := by rw [List.take_add_one, List.getElem?_eq_getElem hm, ha]; rfl
    rw [← htk] at hs
    simp -implicitDefEqProofs [ha, a0, a1, seenV_get _ ha5, hs, hw]
    refine ⟨fun x hx => seenV_cellK _ 2 x hx, m - 1, by omega, i + 1, by omega, by rw [all_take1 hm, hx, ht]; rfl, by simp⟩
  have h6 : i = l.length := by omega
  rw [List.take_of_length_le (by omega)] at hx ⊢
  subst h6
  -- all are sets
  obtain ⟨L, hL⟩ : ∃ L, L = l.map Int.toNat := ⟨_, rfl⟩
  have hlL : l = zi L := by
    rw [hL]
    unfold zi
    rw [List.map_map]
    exact (List.map_id l).symm.trans (List.map_congr_left fun s hs => by
      have := List.all_eq_true.1 hx s hs
      unfold inR at this
      have := of_decide_eq_true this
      simp; omega)
  have hLr : ∀ t ∈ L, 1 ≤ t ∧ t < 2 ^ k := fun t ht => by
    have h3 := List.all_eq_true.1 hx (t : Int) (by rw [hlL]; exact zi_mem.2 ht)
    unfold inR at h3
    have := of_decide_eq_true h3
    omega
  rw [hx, if_pos rfl, ← hL] at e0
  have hq : redQ k l = reduce k L := by unfold redQ; rw [← hL, Int.toNat_natCast]
  have hc5 := col_len (L := L) hk
  have hclt : ∀ t ∈ col k L, t < 512 := fun t ht => by have := hLr t ((col_mem hLr).1 ht); omega
  have hF1 : Fn1 37 (seenV l) (fun s => decide (s ∈ l)) (upto (2 ^ k)) := ⟨by kernel_rfl, seenV_all _ _ fun _ => rfl, seenV_all _ _ fun _ => rfl, fun s hs => by
    obtain ⟨a, rfl, _, h3⟩ := upto_mem hs
    exact red1_ac l a (by omega)⟩
  have hS := subsets_ac (f := 37) hk hF1
  have hfc := filt_col k L
  rw [← hlL] at hfc
  rw [hfc] at hS
  simp -implicitDefEqProofs
  refine wk_hand ?_
  simp -implicitDefEqProofs
  refine wa_of (mask := []) (sel := [1]) hS (hand_sf (q := 1) (by simp) (seenV_all _ _ fun _ => rfl)) ?_
  rintro _ _ ⟨rfl, rfl⟩
  refine ⟨by simp -implicitDefEqProofs; exact seenV_cellB l, ?_⟩
  have hcz : (zi (col k L)).length = (col k L).length := zi_length _
  have hcm : ∀ {s : Nat}, s ∈ col k L → (zi (col k L)).all (pMeet s) = meets s (col k L) := fun hs => meets_zi (hclt _ hs) hclt
  have hMA : meetAll L = (zi (col k L)).all (fun s => (zi (col k L)).all (pMeet s)) := by
    rw [meetAll_col hLr, zi_all fun s hs => hcm hs]
  have hFR := filt_red hk hLr
  obtain ⟨c, hc⟩ : ∃ c, c = zi (col k L) := ⟨_, rfl⟩
  rw [← hc] at hcz hMA hFR ⊢
  simp -implicitDefEqProofs
  refine w_rounds [4, 9, 39, 40, 41] [3, 4, 5] 3 (by decide) (reO2 k l c) c.length ⟨?_, 0, by simp, by simp, by simp [hcz]⟩ ?_
  · simp -implicitDefEqProofs
    exact fun x hx => seenV_cellK _ 3 x hx
  rintro m S ⟨i, hi, hy, rfl⟩
  by_cases hm : i < c.length
  · have i1 : (i : Int) < c.length := by omega
    have i0 : ¬ (i : Int) < 0 := by omega
    have hw := wrap64 (n := (i : Int) + 1) (by omega)
    simp -implicitDefEqProofs [i1, i0, iv_get hm]
    refine wk_take ?_
    simp -implicitDefEqProofs
    refine wc_of (meet_pc c[i] c (by omega)) (by simp) (by simp) ?_
    rintro _ rfl
    cases hb : c.all (pMeet c[i])
    · have e : redE k l = 13 := by rw [e0, hMA, all_false hm _ hb]; rfl
      simp -implicitDefEqProofs [e, raw, eV]
    · simp -implicitDefEqProofs [hw]
      refine ⟨fun x hx => seenV_cellK _ 3 x hx, m - 1, by omega, i + 1, by omega, by rw [all_take1 hm, hy, hb]; rfl, by simp⟩
  have h6 : i = c.length := by omega
  rw [List.take_of_length_le (by omega)] at hy
  rw [hMA, hy, if_pos rfl] at e0
  simp -implicitDefEqProofs [h6]
  refine wk_hand ?_
  simp -implicitDefEqProofs
  have hF : Fn1 40 [.list 1 (iv c)] (fun s => c.all (pMin s)) c := ⟨by kernel_rfl, rfl, rfl, fun s _ => red2_ac c (by omega) s⟩
  refine wa_of (mask := []) (sel := [2]) (filter_ac (f := 40) hF (by omega)) (hand_lf (q := 2) (by simp) rfl) ?_
  rintro _ _ ⟨rfl, rfl⟩
  refine ⟨rfl, ?_⟩
  rw [hFR]
  by_cases h7 : (reduce k L).length ≤ 64
  · have g1 : ¬ (64 : Int) < ((reduce k L).length : Int) := by omega
    rw [if_pos h7] at e0
    simp -implicitDefEqProofs [g1, e0, raw, rV, cV, hq]
  · have g1 : (64 : Int) < ((reduce k L).length : Int) := by omega
    rw [if_neg h7] at e0
    simp -implicitDefEqProofs [g1, e0, raw, eV]
theorem Reduce_pc (n : Int) (l : List Int) (hl : l.length ≤ 1000) : PC Try.prog 16 [.s (.int .i64 n), .list 1 (iv l)] (fun r => r = res (redE n l) n (redQ n l)) := pc_res (Reduce_pc0 n l hl)
end Go.Proofs.Ytgaihedboifjoaa

namespace Go.Proofs.Ytgaihedboifjoaa
open Go.RowKit Go.Proofs

def rr1 (k : Nat) (l : List Int) (m : Nat) (S : St) : Prop := ∃ i : Nat, i + m = l.length ∧ (l.take i).all (inR k) = true ∧ S = ⟨tmL [(4, .ptr 0 0), (25, .list 1 (iv l)), (26, .s (.int .i64 l.length)), (27, .s (.int .i64 i))], [.s (.int .i64 k), .list 1 (iv l), .s (.int .i64 0), .no, .no, .no], [[.s (.int .i64 0), .s (.slice none 0 0)]], 0⟩
def rr2 (k : Nat) (l : List Int) (m : Nat) (S : St) : Prop := ∃ i : Nat, i + m = l.length ∧ (l.take i).all (fun s => l.all (pMeet s)) = true ∧ S = ⟨tmL [(4, .ptr 0 0), (41, .list 1 (iv l)), (42, .s (.int .i64 l.length)), (43, .s (.int .i64 i))], [.s (.int .i64 k), .list 1 (iv l), .s (.int .i64 0), .no, .no, .no], [[.s (.int .i64 0), .s (.slice none 0 0)]], 0⟩
def rr3 (k : Nat) (l : List Int) (i : Nat) (s : Int) (m : Nat) (S : St) : Prop := ∃ j : Nat, j + m = l.length ∧ (l.take j).all (pMeet s) = true ∧ S = ⟨tmL [(4, .ptr 0 0), (41, .list 1 (iv l)), (42, .s (.int .i64 l.length)), (43, .s (.int .i64 i)), (47, .list 1 (iv l)), (48, .s (.int .i64 l.length)), (49, .s (.int .i64 j))], [.s (.int .i64 k), .list 1 (iv l), .s (.int .i64 0), .no, .s (.int .i64 s), .no], [[.s (.int .i64 0), .s (.slice none 0 0)]], 0⟩
set_option maxHeartbeats 8000000 in
theorem rReduce_pc0 (n : Int) (l : List Int) (hl : l.length ≤ 1000) : PC Try.prog 17 [.s (.int .i64 n), .list 1 (iv l)] (fun r => r = raw (redE n l) n (redQ n l)) := by
  refine pc_end c17 mixed rfl ?_
  by_cases h1 : n < 1
  · have e : redE n l = 1 := by unfold redE; rw [if_neg fun h => by omega]
    simp -implicitDefEqProofs [a17, F17, h1, e, raw, eV]
  by_cases h1' : 9 < n
  · have e : redE n l = 1 := by unfold redE; rw [if_neg fun h => by omega]
    simp -implicitDefEqProofs [a17, F17, h1, h1', e, raw, eV]
  by_cases h2 : l = []
  · have e : redE n l = 1 := by unfold redE; rw [if_neg fun h => h.2.2 h2]
    subst h2
    simp -implicitDefEqProofs [a17, F17, h1, h1', e, raw, eV]
  have hn : 1 ≤ n ∧ n ≤ 9 := by omega
  obtain ⟨k, rfl⟩ : ∃ k : Nat, n = k := ⟨n.toNat, by omega⟩
  have hk : k ≤ 9 := by omega
  have h512 : 2 ^ k ≤ 2 ^ 9 := Nat.pow_le_pow_right (by omega) hk
  have e0 : redE k l = if l.all (inR k) = true then (if meetAll (l.map Int.toNat) = true then (if (reduce k (l.map Int.toNat)).length ≤ 64 then 0 else 4) else 13) else 1 := by
    unfold redE
    rw [if_pos ⟨hn.1, hn.2, h2⟩, Int.toNat_natCast]
  have es := shl1 (n := k) (by omega)
  have k0 : ¬ (k : Int) < 0 := by omega
  obtain ⟨K, hK⟩ : ∃ K : Nat, K = 2 ^ k := ⟨_, rfl⟩
  rw [← hK] at es
  have hl0 : ((l.length : Int) == 0) = false := by
    simp; exact h2
  simp -implicitDefEqProofs [a17, F17, h1, h1', h2, hl0]
  refine w_rounds [4, 25, 26, 27] [3, 4, 5] 1 (by decide) (rr1 k l) l.length ⟨by simp, 0, by simp, by simp, by simp⟩ ?_
  rintro m S ⟨i, hi, hx, rfl⟩
  by_cases hm : i < l.length
  · have i1 : (i : Int) < l.length := by omega
    have i0 : ¬ (i : Int) < 0 := by omega
    have hw := wrap64 (n := (i : Int) + 1) (by omega)
    have hR : inR k l[i] = decide (1 ≤ l[i] ∧ l[i] < (K : Int)) := by unfold inR; rw [← hK]
    by_cases c1 : l[i] < 1
    · have hf : inR k l[i] = false := by rw [hR]; exact decide_eq_false (by omega)
      have e : redE k l = 1 := by rw [e0, all_false hm _ hf]; rfl
      simp -implicitDefEqProofs [i1, i0, iv_get hm, c1, e, raw, eV]
    by_cases c2 : (K : Int) ≤ l[i]
    · have hf : inR k l[i] = false := by rw [hR]; exact decide_eq_false (by omega)
      have e : redE k l = 1 := by rw [e0, all_false hm _ hf]; rfl
      simp -implicitDefEqProofs [i1, i0, iv_get hm, c1, k0, es, c2, e, raw, eV]
    have ht : inR k l[i] = true := by rw [hR]; exact decide_eq_true (by omega)
    simp -implicitDefEqProofs [i1, i0, iv_get hm, c1, k0, es, c2, hw]
    refine ⟨m - 1, by omega, i + 1, by omega, by rw [all_take1 hm, hx, ht]; rfl, by simp⟩
  have h6 : i = l.length := by omega
  rw [List.take_of_length_le (by omega)] at hx
  subst h6
  obtain ⟨L, hL⟩ : ∃ L, L = l.map Int.toNat := ⟨_, rfl⟩
  have hlL : l = zi L := by
    rw [hL]
    unfold zi
    rw [List.map_map]
    exact (List.map_id l).symm.trans (List.map_congr_left fun s hs => by
      have := List.all_eq_true.1 hx s hs
      unfold inR at this
      have := of_decide_eq_true this
      simp; omega)
  have hLr : ∀ t ∈ L, 1 ≤ t ∧ t < 2 ^ k := fun t ht => by
    have h3 := List.all_eq_true.1 hx (t : Int) (by rw [hlL]; exact zi_mem.2 ht)
    unfold inR at h3
    have := of_decide_eq_true h3
    omega
  have hL5 : ∀ t ∈ L, t < 512 := fun t ht => by have := hLr t ht; omega
  rw [hx, if_pos rfl, ← hL] at e0
  have hq : redQ k l = reduce k L := by unfold redQ; rw [← hL, Int.toNat_natCast]
  have hMA : meetAll L = l.all (fun s => l.all (pMeet s)) := by
    rw [hlL]
    unfold meetAll
    rw [zi_all fun s hs => meets_zi (hL5 s hs) hL5]
  have hmin := rmin_pc k hk l hl
  have hfm := filt_min hk (L := L) fun t ht => by have := hLr t ht; omega
  rw [← hlL] at hfm
  rw [hfm] at hmin
  simp -implicitDefEqProofs
  refine w_rounds [4, 41, 42, 43] [3, 4, 5] 1 (by decide) (rr2 k l) l.length ⟨by simp, 0, by simp, by simp, by simp⟩ ?_
  rintro m S ⟨i, hi, hy, rfl⟩
  by_cases hm : i < l.length
  · have i1 : (i : Int) < l.length := by omega
    have i0 : ¬ (i : Int) < 0 := by omega
    have hw := wrap64 (n := (i : Int) + 1) (by omega)
    simp -implicitDefEqProofs [i1, i0, iv_get hm]
    refine w_rounds [4, 41, 42, 43, 47, 48, 49] [5] 1 (by decide) (rr3 k l i l[i]) l.length ⟨by simp, 0, by simp, by simp, by simp⟩ ?_
    rintro m' S ⟨j, hj, hz, rfl⟩
    by_cases hjm : j < l.length
    · have j1 : (j : Int) < l.length := by omega
      have j0 : ¬ (j : Int) < 0 := by omega
      have hwj := wrap64 (n := (j : Int) + 1) (by omega)
      have hP : pMeet l[i] l[j] = !(bits .and .i64 l[i] l[j] == 0) := rfl
      cases hb : (bits .and .i64 l[i] l[j] == 0)
      · rw [hb] at hP
        simp -implicitDefEqProofs [j1, j0, iv_get hjm, ↓binS_and, hb, hwj]
        refine ⟨m' - 1, by omega, j + 1, by omega, by rw [all_take1 hjm, hz, hP]; rfl, by simp⟩
      · rw [hb] at hP
        have hf : l.all (pMeet l[i]) = false := all_false hjm _ hP
        have e : redE k l = 13 := by rw [e0, hMA, all_false hm _ hf]; rfl
        simp -implicitDefEqProofs [j1, j0, iv_get hjm, ↓binS_and, hb, e, raw, eV]
    · have h6 : j = l.length := by omega
      rw [List.take_of_length_le (by omega)] at hz
      subst h6
      simp -implicitDefEqProofs [hw]
      refine ⟨m - 1, by omega, i + 1, by omega, by rw [all_take1 hm, hy, hz]; rfl, by simp⟩
  have h6 : i = l.length := by omega
  rw [List.take_of_length_le (by omega)] at hy
  rw [hMA, hy, if_pos rfl] at e0
  simp -implicitDefEqProofs [h6]
  refine wk_take ?_
  simp -implicitDefEqProofs
  refine wc_of hmin (by simp) (by simp) ?_
  rintro _ rfl
  by_cases h7 : (reduce k L).length ≤ 64
  · have g1 : ¬ (64 : Int) < ((reduce k L).length : Int) := by omega
    rw [if_pos h7] at e0
    simp -implicitDefEqProofs [g1, e0, raw, rV, cV, hq]
  · have g1 : (64 : Int) < ((reduce k L).length : Int) := by omega
    rw [if_neg h7] at e0
    simp -implicitDefEqProofs [g1, e0, raw, eV]
theorem rReduce_pc (n : Int) (l : List Int) (hl : l.length ≤ 1000) : PC Try.prog 17 [.s (.int .i64 n), .list 1 (iv l)] (fun r => r = res (redE n l) n (redQ n l)) := pc_res (rReduce_pc0 n l hl)
end Go.Proofs.Ytgaihedboifjoaa

namespace Go.Proofs.Ytgaihedboifjoaa
open Go.RowKit Go.Proofs

def rn (e n : Int) : Int := if e = 0 then n else 0
def rq (e : Int) (q : List Nat) : List Nat := if e = 0 then q else []
theorem res_eq (e n : Int) (q : List Nat) : res e n q = .tup [cV (rn e n) (rq e q), .s (.int .i64 e)] := by
  unfold res rn rq
  split
  · next h => rw [h]; rfl
  · rfl
theorem res_fr (e n : Int) (q : List Nat) : frT (res e n q) (res e n q) := by
  rw [res_eq]
  simp [cV, frT, frAs, frA, frLs, frL, immC]
theorem err_fr (e n : Int) (q : List Nat) (h : e ≠ 0) : frT (eV e) (res e n q) := by
  unfold res
  rw [if_neg h]
  simp [rV, cV, eV, frT, frAs, frA, frLs, frL, immC]
def cr1 (c i k : Nat) : Nat := (List.range k).foldl (fun s k => s ||| 2 ^ (i * c + k)) 0
def cr2 (c i j k : Nat) : Nat := (List.range k).foldl (fun s k => s ||| 2 ^ (k * c + j)) (cr1 c i c)
theorem cr1_succ (c i k : Nat) : cr1 c i (k + 1) = cr1 c i k ||| 2 ^ (i * c + k) := by simp [cr1, List.range_succ]
theorem cr2_succ (c i j k : Nat) : cr2 c i j (k + 1) = cr2 c i j k ||| 2 ^ (k * c + j) := by simp [cr2, List.range_succ]
theorem cr1_lt {c i k : Nat} (h : i * c + k ≤ 9) : cr1 c i k < 512 := by
  induction k with
  | zero => simp [cr1]
  | succ k ih =>
    rw [cr1_succ]
    have h2 : 2 ^ (i * c + k) < 2 ^ 9 := Nat.pow_lt_pow_right (by omega) (by omega)
    exact Nat.or_lt_two_pow (n := 9) (ih (by omega)) h2
theorem cr2_lt {r c i j k : Nat} (h : r * c ≤ 9) (hi : i < r) (hj : j < c) (hk : k ≤ r) : cr2 c i j k < 512 := by
  induction k with
  | zero =>
    have : i * c + c ≤ r * c := by have := Nat.mul_le_mul_right c (show i + 1 ≤ r by omega); rw [Nat.add_mul] at this; omega
    exact cr1_lt (by omega)
  | succ k ih =>
    rw [cr2_succ]
    have : k * c + c ≤ r * c := by have := Nat.mul_le_mul_right c (show k + 1 ≤ r by omega); rw [Nat.add_mul] at this; omega
    have h2 : 2 ^ (k * c + j) < 2 ^ 9 := Nat.pow_lt_pow_right (by omega) (by omega)
    exact Nat.or_lt_two_pow (n := 9) (ih (by omega)) h2
theorem cross_cr (r c i j : Nat) : cross r c i j = cr2 c i j r := rfl
def gl (r c i j : Nat) : List Nat := ((List.range i).flatMap fun i' => (List.range c).map (cross r c i')) ++ (List.range j).map (cross r c i)
theorem gl_succ (r c i j : Nat) : gl r c i (j + 1) = gl r c i j ++ [cross r c i j] := by simp [gl, List.range_succ]
theorem gl_row (r c i : Nat) : gl r c i c = gl r c (i + 1) 0 := by simp [gl, List.range_succ]
theorem gl_all (r c : Nat) : gl r c r 0 = grid r c := by simp [gl, grid]
theorem gl_len (r c i j : Nat) : (gl r c i j).length = i * c + j := by
  have h : ((List.range i).flatMap fun i' => (List.range c).map (cross r c i')).length = i * c := by
    induction i with
    | zero => simp
    | succ i ih => rw [List.range_succ, List.flatMap_append, List.length_append, ih, Nat.add_mul]; simp
  unfold gl
  rw [List.length_append, h]
  simp
theorem zi_snoc (l : List Nat) (a : Nat) : zi (l ++ [a]) = zi l ++ [(a : Int)] := by simp [zi]
def grE (a b : Int) : Int := if (1 ≤ a ∧ a ≤ 9) ∧ (1 ≤ b ∧ b ≤ 9) ∧ a * b ≤ 9 then redE (a * b) (zi (grid a.toNat b.toNat)) else 1
def grQ (a b : Int) : List Nat := redQ (a * b) (zi (grid a.toNat b.toNat))
/-- what a step of the inner loops reckons -/
theorem stepO {a b x e : Nat} (hab : a * b + x = e) (he : e ≤ 8) : IntKind.i64.wrap ((a : Int) * (b : Int)) = ((a * b : Nat) : Int) ∧ IntKind.i64.wrap (((a * b : Nat) : Int) + (x : Int)) = (e : Int) := by
  refine ⟨?_, ?_⟩
  · rw [← Int.natCast_mul]
    generalize a * b = p at hab
    exact wrap64 (by omega)
  · rw [← hab]
    generalize a * b = p at hab
    rw [wrap64 (by omega)]
    omega
theorem orN {x e : Nat} (hx : x < 512) (he : e ≤ 8) : bits .or .i64 (x : Int) ((2 ^ e : Nat) : Int) = ((x ||| 2 ^ e : Nat) : Int) := by
  have h2 : 2 ^ e ≤ 2 ^ 8 := Nat.pow_le_pow_right (by omega) he
  exact i64_or_nat x (2 ^ e) (by omega) (by omega)
def gr1 (r c : Nat) (m : Nat) (S : St) : Prop := ∃ i : Nat, i + m = r ∧ S = ⟨tmL [(4, .ptr 0 0), (28, .s (.int .i64 r)), (29, .s (.int .i64 i))], [.s (.int .i64 r), .s (.int .i64 c), .s (.int .i64 0), .own true 3 1 (iv (zi (gl r c i 0))), .no, .no, .no, .no, .no], [[.s (.int .i64 0), .s (.slice none 0 0)]], 0⟩
def gr2 (r c i : Nat) (m : Nat) (S : St) : Prop := ∃ j : Nat, j + m = c ∧ S = ⟨tmL [(4, .ptr 0 0), (28, .s (.int .i64 r)), (29, .s (.int .i64 i)), (32, .s (.int .i64 c)), (33, .s (.int .i64 j))], [.s (.int .i64 r), .s (.int .i64 c), .s (.int .i64 0), .own true 3 1 (iv (zi (gl r c i j))), .s (.int .i64 i), .no, .no, .no, .no], [[.s (.int .i64 0), .s (.slice none 0 0)]], 0⟩
def gr3 (r c i j : Nat) (m : Nat) (S : St) : Prop := ∃ k : Nat, k + m = c ∧ S = ⟨tmL [(4, .ptr 0 0), (28, .s (.int .i64 r)), (29, .s (.int .i64 i)), (32, .s (.int .i64 c)), (33, .s (.int .i64 j)), (36, .s (.int .i64 c)), (37, .s (.int .i64 k))], [.s (.int .i64 r), .s (.int .i64 c), .s (.int .i64 0), .own true 3 1 (iv (zi (gl r c i j))), .s (.int .i64 i), .s (.int .i64 j), .s (.int .i64 (cr1 c i k)), .no, .no], [[.s (.int .i64 0), .s (.slice none 0 0)]], 0⟩
def gr4 (r c i j : Nat) (m : Nat) (S : St) : Prop := ∃ k : Nat, k + m = r ∧ S = ⟨tmL [(4, .ptr 0 0), (28, .s (.int .i64 r)), (29, .s (.int .i64 i)), (32, .s (.int .i64 c)), (33, .s (.int .i64 j)), (49, .s (.int .i64 r)), (50, .s (.int .i64 k))], [.s (.int .i64 r), .s (.int .i64 c), .s (.int .i64 0), .own true 3 1 (iv (zi (gl r c i j))), .s (.int .i64 i), .s (.int .i64 j), .s (.int .i64 (cr2 c i j k)), .no, .no], [[.s (.int .i64 0), .s (.slice none 0 0)]], 0⟩
set_option maxHeartbeats 8000000 in
theorem Grid_pc0 (a b : Int) : PC Try.prog 12 [.s (.int .i64 a), .s (.int .i64 b)] (fun r => r = if (1 ≤ a ∧ a ≤ 9) ∧ (1 ≤ b ∧ b ≤ 9) ∧ a * b ≤ 9 then res (redE (a * b) (zi (grid a.toNat b.toNat))) (a * b) (grQ a b) else eV 1) := by
  refine pc_end c12 mixed rfl ?_
  simp -implicitDefEqProofs [a12, F12]
  refine wk_take ?_
  simp -implicitDefEqProofs
  refine wc_of (voters_pc a) (by simp) (by simp) ?_
  rintro _ rfl
  by_cases h1 : 1 ≤ a ∧ a ≤ 9
  case neg =>
    have hn : ¬ ((1 ≤ a ∧ a ≤ 9) ∧ (1 ≤ b ∧ b ≤ 9) ∧ a * b ≤ 9) := fun h => h1 h.1
    rw [if_neg hn, decide_eq_false h1]
    simp -implicitDefEqProofs [eV]
  rw [decide_eq_true h1]
  simp -implicitDefEqProofs
  refine wk_take ?_
  simp -implicitDefEqProofs
  refine wc_of (voters_pc b) (by simp) (by simp) ?_
  rintro _ rfl
  by_cases h2 : 1 ≤ b ∧ b ≤ 9
  case neg =>
    have hn : ¬ ((1 ≤ a ∧ a ≤ 9) ∧ (1 ≤ b ∧ b ≤ 9) ∧ a * b ≤ 9) := fun h => h2 h.2.1
    rw [if_neg hn, decide_eq_false h2]
    simp -implicitDefEqProofs [eV]
  rw [decide_eq_true h2]
  have hab1 : a * b ≤ 9 * 9 := Int.mul_le_mul h1.2 h2.2 (by omega) (by omega)
  have hab0 : 1 * 1 ≤ a * b := Int.mul_le_mul h1.1 h2.1 (by omega) (by omega)
  have wab := wrap64 (n := a * b) (by omega)
  simp -implicitDefEqProofs [wab]
  refine wk_take ?_
  simp -implicitDefEqProofs
  refine wc_of (voters_pc (a * b)) (by simp) (by simp) ?_
  rintro _ rfl
  by_cases h3 : a * b ≤ 9
  case neg =>
    have hn : ¬ ((1 ≤ a ∧ a ≤ 9) ∧ (1 ≤ b ∧ b ≤ 9) ∧ a * b ≤ 9) := fun h => h3 h.2.2
    have h4 : ¬ (1 ≤ a * b ∧ a * b ≤ 9) := fun h => h3 h.2
    rw [if_neg hn, decide_eq_false h4]
    simp -implicitDefEqProofs [eV]
  have h4 : 1 ≤ a * b ∧ a * b ≤ 9 := by omega
  rw [decide_eq_true h4]
  rw [if_pos ⟨h1, h2, h3⟩]
  obtain ⟨r, rfl⟩ : ∃ r : Nat, a = r := ⟨a.toNat, by omega⟩
  obtain ⟨c, rfl⟩ : ∃ c : Nat, b = c := ⟨b.toNat, by omega⟩
  have hrc : r * c ≤ 9 := by have : ((r * c : Nat) : Int) ≤ 9 := by rw [Int.natCast_mul]; exact h3
                             omega
  have hwm : IntKind.i64.wrap ((r : Int) * (c : Int)) = ((r * c : Nat) : Int) := by
    rw [← Int.natCast_mul]
    generalize r * c = p at hrc
    exact wrap64 (by omega)
  have hgl : (zi (grid r c)).length ≤ 1000 := by rw [zi_length, ← gl_all, gl_len]; omega
  have hR := Reduce_pc ((r : Int) * (c : Int)) (zi (grid r c)) hgl
  rw [res_eq] at hR
  rw [res_eq]
  simp only [grQ, Int.toNat_natCast]
  generalize hE : redE ((r : Int) * (c : Int)) (zi (grid r c)) = E at hR ⊢
  generalize hQ : redQ ((r : Int) * (c : Int)) (zi (grid r c)) = Q at hR ⊢
  simp -implicitDefEqProofs
  refine w_rounds [4, 28, 29] [4, 5, 6, 7, 8] 1 (by decide) (gr1 r c) r ⟨by simp, 0, by simp, by simp [gl]⟩ ?_
  rintro m S ⟨i, hi, rfl⟩
  by_cases hm : i < r
  case neg =>
    have h6 : i = r := by omega
    subst h6
    rw [gl_all]
    have hmz : IntKind.i64.wrap ((i : Int) * (c : Int)) = (i : Int) * (c : Int) := by rw [hwm, Int.natCast_mul]
    simp -implicitDefEqProofs [hmz]
    refine wk_take ?_
    simp -implicitDefEqProofs
    refine wc_of hR (by simp) (by simp) ?_
    rintro _ rfl
    simp -implicitDefEqProofs [cV]
  have i1 : (i : Int) < (r : Int) := by omega
  have wi := wrap64 (n := (i : Int) + 1) (by omega)
  have hic : i * c + c ≤ r * c := by have := Nat.mul_le_mul_right c (show i + 1 ≤ r by omega); rw [Nat.add_mul] at this; omega
  simp -implicitDefEqProofs [i1]
  refine w_rounds [4, 28, 29, 32, 33] [5, 6, 7, 8] 1 (by decide) (gr2 r c i) c ⟨by simp, 0, by simp, by simp⟩ ?_
  rintro m2 S ⟨j, hj, rfl⟩
  by_cases hjm : j < c
  case neg =>
    have h6 : j = c := by omega
    subst h6
    rw [gl_row]
    simp -implicitDefEqProofs [wi]
    exact ⟨m - 1, by omega, i + 1, by omega, by simp⟩
  have j1 : (j : Int) < (c : Int) := by omega
  have wj := wrap64 (n := (j : Int) + 1) (by omega)
  simp -implicitDefEqProofs [j1]
  refine w_rounds [4, 28, 29, 32, 33, 36, 37] [7, 8] 1 (by decide) (gr3 r c i j) c ⟨by simp, 0, by simp, by simp [cr1]⟩ ?_
  rintro m3 S ⟨k, hk, rfl⟩
  by_cases hkm : k < c
  · have k1 : (k : Int) < (c : Int) := by omega
    have wk := wrap64 (n := (k : Int) + 1) (by omega)
    obtain ⟨e, he⟩ : ∃ e, i * c + k = e := ⟨_, rfl⟩
    obtain ⟨s1, s2⟩ := stepO he (by omega)
    have es := shl1 (n := e) (by omega)
    have e0 : ¬ (e : Int) < 0 := by omega
    have ho := orN (x := cr1 c i k) (e := e) (cr1_lt (by omega)) (by omega)
    have hs := cr1_succ c i k
    rw [he] at hs
    rw [← hs] at ho
    generalize i * c = p at s1 s2
    generalize 2 ^ e = E2 at es ho
    simp -implicitDefEqProofs [k1, s1, s2, e0, es, ↓binS_or, ho, wk]
    exact ⟨m3 - 1, by omega, k + 1, by omega, by simp⟩
  have h6 : k = c := by omega
  subst h6
  simp -implicitDefEqProofs
  refine w_rounds [4, 28, 29, 32, 33, 49, 50] [7, 8] 1 (by decide) (gr4 r k i j) r ⟨by simp, 0, by simp, by simp [cr2]⟩ ?_
  rintro m4 S ⟨q, hq, rfl⟩
  by_cases hqm : q < r
  · have q1 : (q : Int) < (r : Int) := by omega
    have wq := wrap64 (n := (q : Int) + 1) (by omega)
    have hqc : q * k + k ≤ r * k := by have := Nat.mul_le_mul_right k (show q + 1 ≤ r by omega); rw [Nat.add_mul] at this; omega
    obtain ⟨e, he⟩ : ∃ e, q * k + j = e := ⟨_, rfl⟩
    obtain ⟨s1, s2⟩ := stepO he (by omega)
    have es := shl1 (n := e) (by omega)
    have e0 : ¬ (e : Int) < 0 := by omega
    have ho := orN (x := cr2 k i j q) (e := e) (cr2_lt hrc hm hjm (by omega)) (by omega)
    have hs := cr2_succ k i j q
    rw [he] at hs
    rw [← hs] at ho
    generalize q * k = p at s1 s2
    generalize 2 ^ e = E2 at es ho
    simp -implicitDefEqProofs [q1, s1, s2, e0, es, ↓binS_or, ho, wq]
    exact ⟨m4 - 1, by omega, q + 1, by omega, by simp⟩
  have h6 : q = r := by omega
  subst h6
  have hl9 := gl_len q k i j
  have b1 : (gl q k i j).length + 1 ≤ maxLen ∧ ((gl q k i j).length + 1) * 8 ≤ maxBytes := by rw [hl9]; simp [maxLen, maxBytes]; omega
  simp -implicitDefEqProofs [b1, wj]
  exact ⟨m2 - 1, by omega, j + 1, by omega, by rw [gl_succ, cross_cr, zi_snoc]; simp [iv]⟩
theorem Grid_pc (a b : Int) : PC Try.prog 12 [.s (.int .i64 a), .s (.int .i64 b)] (fun r => r = res (grE a b) (a * b) (grQ a b)) := by
  refine pc_list (Grid_pc0 a b) fun x hx _ => ⟨res (grE a b) (a * b) (grQ a b), ?_, res_ok _ _ _, rfl⟩
  subst hx
  unfold grE
  split
  · exact res_fr _ _ _
  · exact err_fr _ _ _ (by omega)
end Go.Proofs.Ytgaihedboifjoaa

namespace Go.Proofs.Ytgaihedboifjoaa
open Go.RowKit Go.Proofs

def hr1 (r c : Nat) (m : Nat) (S : St) : Prop := ∃ i : Nat, i + m = r ∧ S = ⟨tmL [(4, .ptr 0 0)], [.s (.int .i64 r), .s (.int .i64 c), .s (.int .i64 0), .own true 3 1 (iv (zi (gl r c i 0))), .s (.int .i64 i), .no, .no, .no, .no], [[.s (.int .i64 0), .s (.slice none 0 0)]], 0⟩
def hr2 (r c i : Nat) (m : Nat) (S : St) : Prop := ∃ j : Nat, j + m = c ∧ S = ⟨tmL [(4, .ptr 0 0)], [.s (.int .i64 r), .s (.int .i64 c), .s (.int .i64 0), .own true 3 1 (iv (zi (gl r c i j))), .s (.int .i64 i), .s (.int .i64 j), .no, .no, .no], [[.s (.int .i64 0), .s (.slice none 0 0)]], 0⟩
def hr3 (r c i j : Nat) (m : Nat) (S : St) : Prop := ∃ k : Nat, k + m = c ∧ S = ⟨tmL [(4, .ptr 0 0)], [.s (.int .i64 r), .s (.int .i64 c), .s (.int .i64 0), .own true 3 1 (iv (zi (gl r c i j))), .s (.int .i64 i), .s (.int .i64 j), .s (.int .i64 (cr1 c i k)), .s (.int .i64 k), .no], [[.s (.int .i64 0), .s (.slice none 0 0)]], 0⟩
def hr4 (r c i j : Nat) (m : Nat) (S : St) : Prop := ∃ k : Nat, k + m = r ∧ S = ⟨tmL [(4, .ptr 0 0)], [.s (.int .i64 r), .s (.int .i64 c), .s (.int .i64 0), .own true 3 1 (iv (zi (gl r c i j))), .s (.int .i64 i), .s (.int .i64 j), .s (.int .i64 (cr2 c i j k)), .no, .s (.int .i64 k)], [[.s (.int .i64 0), .s (.slice none 0 0)]], 0⟩
set_option maxHeartbeats 8000000 in
theorem rGrid_pc0 (a b : Int) : PC Try.prog 13 [.s (.int .i64 a), .s (.int .i64 b)] (fun r => r = if (1 ≤ a ∧ a ≤ 9) ∧ (1 ≤ b ∧ b ≤ 9) ∧ a * b ≤ 9 then res (redE (a * b) (zi (grid a.toNat b.toNat))) (a * b) (grQ a b) else eV 1) := by
  refine pc_end c13 mixed rfl ?_
  by_cases h1 : 1 ≤ a ∧ a ≤ 9
  case neg =>
    have hn : ¬ ((1 ≤ a ∧ a ≤ 9) ∧ (1 ≤ b ∧ b ≤ 9) ∧ a * b ≤ 9) := fun h => h1 h.1
    rw [if_neg hn]
    by_cases c1 : a < 1
    · simp -implicitDefEqProofs [a13, F13, c1, eV]
    by_cases c2 : b < 1
    · simp -implicitDefEqProofs [a13, F13, c1, c2, eV]
    have c3 : 9 < a := by omega
    simp -implicitDefEqProofs [a13, F13, c1, c2, c3, eV]
  have c1 : ¬ a < 1 := by omega
  have c3 : ¬ 9 < a := by omega
  by_cases h2 : 1 ≤ b ∧ b ≤ 9
  case neg =>
    have hn : ¬ ((1 ≤ a ∧ a ≤ 9) ∧ (1 ≤ b ∧ b ≤ 9) ∧ a * b ≤ 9) := fun h => h2 h.2.1
    rw [if_neg hn]
    by_cases c2 : b < 1
    · simp -implicitDefEqProofs [a13, F13, c1, c2, eV]
    have c4 : 9 < b := by omega
    simp -implicitDefEqProofs [a13, F13, c1, c2, c3, c4, eV]
  have c2 : ¬ b < 1 := by omega
  have c4 : ¬ 9 < b := by omega
  have hab1 : a * b ≤ 9 * 9 := Int.mul_le_mul h1.2 h2.2 (by omega) (by omega)
  have hab0 : 1 * 1 ≤ a * b := Int.mul_le_mul h1.1 h2.1 (by omega) (by omega)
  have wab := wrap64 (n := a * b) (by omega)
  by_cases h3 : a * b ≤ 9
  case neg =>
    have hn : ¬ ((1 ≤ a ∧ a ≤ 9) ∧ (1 ≤ b ∧ b ≤ 9) ∧ a * b ≤ 9) := fun h => h3 h.2.2
    have c5 : 9 < a * b := by omega
    rw [if_neg hn]
    simp -implicitDefEqProofs [a13, F13, c1, c2, c3, c4, wab, c5, eV]
  have c5 : ¬ 9 < a * b := by omega
  rw [if_pos ⟨h1, h2, h3⟩]
  obtain ⟨r, rfl⟩ : ∃ r : Nat, a = r := ⟨a.toNat, by omega⟩
  obtain ⟨c, rfl⟩ : ∃ c : Nat, b = c := ⟨b.toNat, by omega⟩
  have hrc : r * c ≤ 9 := by have : ((r * c : Nat) : Int) ≤ 9 := by rw [Int.natCast_mul]; exact h3
                             omega
  have hwm : IntKind.i64.wrap ((r : Int) * (c : Int)) = ((r * c : Nat) : Int) := by
    rw [← Int.natCast_mul]
    generalize r * c = p at hrc
    exact wrap64 (by omega)
  have hgl : (zi (grid r c)).length ≤ 1000 := by rw [zi_length, ← gl_all, gl_len]; omega
  have hR := rReduce_pc ((r : Int) * (c : Int)) (zi (grid r c)) hgl
  rw [res_eq] at hR
  rw [res_eq]
  simp only [grQ, Int.toNat_natCast]
  generalize hE : redE ((r : Int) * (c : Int)) (zi (grid r c)) = E at hR ⊢
  generalize hQ : redQ ((r : Int) * (c : Int)) (zi (grid r c)) = Q at hR ⊢
  simp -implicitDefEqProofs [a13, F13, c1, c2, c3, c4, wab, c5]
  refine w_rounds [4] [5, 6, 7, 8] 1 (by decide) (hr1 r c) r ⟨by simp, 0, by simp, by simp [gl]⟩ ?_
  rintro m S ⟨i, hi, rfl⟩
  by_cases hm : i < r
  case neg =>
    have h6 : i = r := by omega
    subst h6
    rw [gl_all]
    have hmz : IntKind.i64.wrap ((i : Int) * (c : Int)) = (i : Int) * (c : Int) := by rw [hwm, Int.natCast_mul]
    simp -implicitDefEqProofs [hmz]
    refine wk_take ?_
    simp -implicitDefEqProofs
    refine wc_of hR (by simp) (by simp) ?_
    rintro _ rfl
    simp -implicitDefEqProofs [cV]
  have i1 : (i : Int) < (r : Int) := by omega
  have wi := wrap64 (n := (i : Int) + 1) (by omega)
  have hic : i * c + c ≤ r * c := by have := Nat.mul_le_mul_right c (show i + 1 ≤ r by omega); rw [Nat.add_mul] at this; omega
  simp -implicitDefEqProofs [i1]
  refine w_rounds [4] [6, 7, 8] 1 (by decide) (hr2 r c i) c ⟨by simp, 0, by simp, by simp⟩ ?_
  rintro m2 S ⟨j, hj, rfl⟩
  by_cases hjm : j < c
  case neg =>
    have h6 : j = c := by omega
    subst h6
    rw [gl_row]
    simp -implicitDefEqProofs [wi]
    exact ⟨m - 1, by omega, i + 1, by omega, by simp⟩
  have j1 : (j : Int) < (c : Int) := by omega
  have wj := wrap64 (n := (j : Int) + 1) (by omega)
  simp -implicitDefEqProofs [j1]
  refine w_rounds [4] [8] 1 (by decide) (hr3 r c i j) c ⟨by simp, 0, by simp, by simp [cr1]⟩ ?_
  rintro m3 S ⟨k, hk, rfl⟩
  by_cases hkm : k < c
  · have k1 : (k : Int) < (c : Int) := by omega
    have wk := wrap64 (n := (k : Int) + 1) (by omega)
    obtain ⟨e, he⟩ : ∃ e, i * c + k = e := ⟨_, rfl⟩
    obtain ⟨s1, s2⟩ := stepO he (by omega)
    have es := shl1 (n := e) (by omega)
    have e0 : ¬ (e : Int) < 0 := by omega
    have ho := orN (x := cr1 c i k) (e := e) (cr1_lt (by omega)) (by omega)
    have hs := cr1_succ c i k
    rw [he] at hs
    rw [← hs] at ho
    generalize i * c = p at s1 s2
    generalize 2 ^ e = E2 at es ho
    simp -implicitDefEqProofs [k1, s1, s2, e0, es, ↓binS_or, ho, wk]
    exact ⟨m3 - 1, by omega, k + 1, by omega, by simp⟩
  have h6 : k = c := by omega
  subst h6
  simp -implicitDefEqProofs
  refine w_rounds [4] [7] 1 (by decide) (hr4 r k i j) r ⟨by simp, 0, by simp, by simp [cr2]⟩ ?_
  rintro m4 S ⟨q, hq, rfl⟩
  by_cases hqm : q < r
  · have q1 : (q : Int) < (r : Int) := by omega
    have wq := wrap64 (n := (q : Int) + 1) (by omega)
    have hqc : q * k + k ≤ r * k := by have := Nat.mul_le_mul_right k (show q + 1 ≤ r by omega); rw [Nat.add_mul] at this; omega
    obtain ⟨e, he⟩ : ∃ e, q * k + j = e := ⟨_, rfl⟩
    obtain ⟨s1, s2⟩ := stepO he (by omega)
    have es := shl1 (n := e) (by omega)
    have e0 : ¬ (e : Int) < 0 := by omega
    have ho := orN (x := cr2 k i j q) (e := e) (cr2_lt hrc hm hjm (by omega)) (by omega)
    have hs := cr2_succ k i j q
    rw [he] at hs
    rw [← hs] at ho
    generalize q * k = p at s1 s2
    generalize 2 ^ e = E2 at es ho
    simp -implicitDefEqProofs [q1, s1, s2, e0, es, ↓binS_or, ho, wq]
    exact ⟨m4 - 1, by omega, q + 1, by omega, by simp⟩
  have h6 : q = r := by omega
  subst h6
  have hl9 := gl_len q k i j
  have b1 : (gl q k i j).length + 1 ≤ maxLen ∧ ((gl q k i j).length + 1) * 8 ≤ maxBytes := by rw [hl9]; simp [maxLen, maxBytes]; omega
  simp -implicitDefEqProofs [b1, wj]
  exact ⟨m2 - 1, by omega, j + 1, by omega, by rw [gl_succ, cross_cr, zi_snoc]; simp [iv]⟩
theorem rGrid_pc (a b : Int) : PC Try.prog 13 [.s (.int .i64 a), .s (.int .i64 b)] (fun r => r = res (grE a b) (a * b) (grQ a b)) := by
  refine pc_list (rGrid_pc0 a b) fun x hx _ => ⟨res (grE a b) (a * b) (grQ a b), ?_, res_ok _ _ _, rfl⟩
  subst hx
  unfold grE
  split
  · exact res_fr _ _ _
  · exact err_fr _ _ _ (by omega)
end Go.Proofs.Ytgaihedboifjoaa

namespace Go.Proofs.Ytgaihedboifjoaa
open Go.RowKit Go.Proofs

theorem or_nat {x y : Nat} (hx : x < 512) (hy : y < 512) : bits .or .i64 (x : Int) (y : Int) = ((x ||| y : Nat) : Int) := i64_or_nat x y (by omega) (by omega)
theorem or_lt {x y : Nat} (hx : x < 512) (hy : y < 512) : x ||| y < 512 := Nat.or_lt_two_pow (n := 9) hx hy
theorem zi_get {l : List Nat} {i : Nat} (h : i < l.length) : (iv (zi l))[i]? = some (.s (.int .i64 (l[i] : Int))) := by
  rw [iv_get (by rw [zi_length]; exact h)]
  simp [zi]
theorem zi_take1 {l : List Nat} {i : Nat} (h : i < l.length) (f : Nat → Nat) : (l.take (i + 1)).map f = (l.take i).map f ++ [f l[i]] := by
  rw [List.take_add_one, List.getElem?_eq_getElem h, List.map_append]; rfl
def tRow (B : List Nat) (p s : Nat) : List Nat := (s ||| p) :: B.map fun t => s ||| t
def tPre (A B : List Nat) (p k : Nat) : List Nat := (A.take k).flatMap (tRow B p)
theorem tPre_succ {A B : List Nat} {p k : Nat} (h : k < A.length) : tPre A B p (k + 1) = tPre A B p k ++ tRow B p A[k] := by
  unfold tPre
  rw [List.take_add_one, List.getElem?_eq_getElem h, List.flatMap_append]
  simp
theorem tPre_len {A B : List Nat} {p : Nat} : ∀ k, k ≤ A.length → (tPre A B p k).length = k * (B.length + 1)
  | 0, _ => by simp [tPre]
  | k + 1, h => by rw [tPre_succ h, List.length_append, tPre_len k (by omega)]; simp [tRow, Nat.add_mul]
theorem below_lt : ∀ (f i n : Nat), n ≤ 7 → i < n → ∀ s ∈ below f i n, s < 512
  | 0, _, _, _, _, s, h => by simp [below] at h
  | f + 1, i, n, hn, hi, s, h => by
    have hp : 2 ^ i < 512 := by have : 2 ^ i < 2 ^ 9 := Nat.pow_lt_pow_right (by omega) (by omega); omega
    unfold below at h
    split at h
    · simp at h; omega
    · next hc =>
      by_cases hc2 : 2 * i + 2 < n
      · have ha := below_lt f (2 * i + 1) n hn (by omega)
        have hb := below_lt f (2 * i + 2) n hn hc2
        simp only [List.mem_append, List.mem_flatMap, List.mem_cons, List.mem_map] at h
        rcases h with ⟨a, h1, rfl | ⟨b, h2, rfl⟩⟩ | ⟨b, h2, rfl⟩
        · exact or_lt (ha a h1) hp
        · exact or_lt (ha a h1) (hb b h2)
        · exact or_lt (hb b h2) hp
      · have ha := below_lt f (2 * i + 1) n hn (by omega)
        have hb : below f (2 * i + 2) n = [] ∨ below f (2 * i + 2) n = [2 ^ (2 * i + 2)] := by
          cases f with
          | zero => exact .inl rfl
          | succ f => right; unfold below; rw [if_pos (by omega)]
        have hp2 : 2 ^ (2 * i + 2) < 512 := by have : 2 ^ (2 * i + 2) < 2 ^ 9 := Nat.pow_lt_pow_right (by omega) (by omega); omega
        have hb' : ∀ s ∈ below f (2 * i + 2) n, s < 512 := by
          rcases hb with e | e <;> rw [e]
          · simp
          · intro s hs; simp at hs; omega
        simp only [List.mem_append, List.mem_flatMap, List.mem_cons, List.mem_map] at h
        rcases h with ⟨a, h1, rfl | ⟨b, h2, rfl⟩⟩ | ⟨b, h2, rfl⟩
        · exact or_lt (ha a h1) hp
        · exact or_lt (ha a h1) (hb' b h2)
        · exact or_lt (hb' b h2) hp
def bl : Nat → Nat
  | 0 => 1
  | f + 1 => bl f * (bl f + 1) + bl f
theorem bl_pos : ∀ f, 1 ≤ bl f
  | 0 => Nat.le_refl _
  | f + 1 => by have := bl_pos f; simp only [bl]; omega
theorem below_eq {f i n : Nat} (h : ¬ 2 * i + 1 ≥ n) : below (f + 1) i n = tPre (below f (2 * i + 1) n) (below f (2 * i + 2) n) (2 ^ i) (below f (2 * i + 1) n).length ++ (below f (2 * i + 2) n).map fun t => t ||| 2 ^ i := by
  conv => lhs; unfold below
  rw [if_neg h]
  unfold tPre
  rw [List.take_length]
  rfl
theorem below_bl : ∀ (f i n : Nat), (below f i n).length ≤ bl f
  | 0, _, _ => by simp [below]
  | f + 1, i, n => by
    by_cases h : 2 * i + 1 ≥ n
    · unfold below
      rw [if_pos h]
      have := bl_pos (f + 1)
      simpa using this
    · rw [below_eq h, List.length_append, tPre_len _ (Nat.le_refl _), List.length_map]
      have h1 := below_bl f (2 * i + 1) n
      have h2 := below_bl f (2 * i + 2) n
      have h3 := Nat.mul_le_mul h1 (Nat.add_le_add_right h2 1)
      simp only [bl]
      omega
def be1 (i n p : Nat) (A B : List Nat) (m : Nat) (S : St) : Prop := ∃ k : Nat, k + m = A.length ∧ S = ⟨tmL [(32, .list 1 (iv (zi A))), (33, .s (.int .i64 A.length)), (34, .s (.int .i64 k))], [.s (.int .i64 i), .s (.int .i64 n), .s (.slice none 0 0), .list 1 (iv (zi A)), .list 1 (iv (zi B)), .own true 3 1 (iv (zi (tPre A B p k))), .no, .no, .no], [], 0⟩
def be2 (i n p : Nat) (A B : List Nat) (k s : Nat) (m : Nat) (S : St) : Prop := ∃ j : Nat, j + m = B.length ∧ S = ⟨tmL [(32, .list 1 (iv (zi A))), (33, .s (.int .i64 A.length)), (34, .s (.int .i64 k)), (45, .list 1 (iv (zi B))), (46, .s (.int .i64 B.length)), (47, .s (.int .i64 j))], [.s (.int .i64 i), .s (.int .i64 n), .s (.slice none 0 0), .list 1 (iv (zi A)), .list 1 (iv (zi B)), .own true 3 1 (iv (zi (tPre A B p k ++ (s ||| p) :: (B.take j).map fun t => s ||| t))), .s (.int .i64 s), .no, .no], [], 0⟩
def be3 (i n p : Nat) (A B : List Nat) (m : Nat) (S : St) : Prop := ∃ j : Nat, j + m = B.length ∧ S = ⟨tmL [(59, .list 1 (iv (zi B))), (60, .s (.int .i64 B.length)), (61, .s (.int .i64 j))], [.s (.int .i64 i), .s (.int .i64 n), .s (.slice none 0 0), .list 1 (iv (zi A)), .list 1 (iv (zi B)), .own true 3 1 (iv (zi (tPre A B p A.length ++ (B.take j).map fun t => t ||| p))), .no, .no, .no], [], 0⟩
set_option maxHeartbeats 8000000 in
theorem below_pc : ∀ (f i n : Nat), i < n → n ≤ 7 → n % 2 = 1 → n < (i + 1) * 2 ^ f → f ≤ 3 → PC Try.prog 34 [.s (.int .i64 i), .s (.int .i64 n)] (fun r => r = .list 1 (iv (zi (below f i n)))) := by
  intro f
  induction f with
  | zero => intro i n h1 _ _ h3; simp at h3; omega
  | succ f ih =>
    intro i n hi hn hodd hfn hf3
    refine pc_frz ?_
    refine pc_end c34 mixed rfl ?_
    have es := shl1 (n := i) (by omega)
    have i0 : ¬ (i : Int) < 0 := by omega
    have w1 : IntKind.i64.wrap (2 * (i : Int)) = 2 * (i : Int) := wrap64 (by omega)
    have w2 : IntKind.i64.wrap (2 * (i : Int) + 1) = ((2 * i + 1 : Nat) : Int) := by rw [wrap64 (by omega)]; omega
    have w3 : IntKind.i64.wrap (2 * (i : Int) + 2) = ((2 * i + 2 : Nat) : Int) := by rw [wrap64 (by omega)]; omega
    have hp : 2 ^ i < 512 := by have : 2 ^ i < 2 ^ 9 := Nat.pow_lt_pow_right (by omega) (by omega); omega
    by_cases hc : 2 * i + 1 ≥ n
    · have g : (n : Int) ≤ ((2 * i + 1 : Nat) : Int) := by omega
      have e : below (f + 1) i n = [2 ^ i] := by unfold below; rw [if_pos hc]
      rw [e]
      generalize 2 ^ i = p at es
      generalize ((2 * i + 1 : Nat) : Int) = x at w2 g
      simp -implicitDefEqProofs [a34, F34, w1, w2, g, i0, es, zi, iv]
    have hg : ¬ (n : Int) ≤ ((2 * i + 1 : Nat) : Int) := by omega
    have hpow : 2 ^ (f + 1) = 2 * 2 ^ f := by rw [Nat.pow_succ, Nat.mul_comm]
    have q1 : (i + 1) * (2 * 2 ^ f) = (2 * i + 2) * 2 ^ f := by rw [← Nat.mul_assoc]; congr 1; omega
    have q2 : (2 * i + 2) * 2 ^ f ≤ (2 * i + 2 + 1) * 2 ^ f := Nat.mul_le_mul_right _ (by omega)
    have hA := ih (2 * i + 1) n (by omega) hn hodd (by rw [hpow, q1] at hfn; exact hfn) (by omega)
    have hB := ih (2 * i + 2) n (by omega) hn hodd (by rw [hpow, q1] at hfn; exact Nat.lt_of_lt_of_le hfn q2) (by omega)
    have hAl := below_lt f (2 * i + 1) n hn (by omega)
    have hBl := below_lt f (2 * i + 2) n hn (by omega)
    have hbf : bl f ≤ 271 := by
      have : f = 0 ∨ f = 1 ∨ f = 2 := by omega
      rcases this with rfl | rfl | rfl <;> decide
    have hA5 := Nat.le_trans (below_bl f (2 * i + 1) n) hbf
    have hB5 := Nat.le_trans (below_bl f (2 * i + 2) n) hbf
    rw [below_eq hc]
    generalize below f (2 * i + 1) n = A at *
    generalize below f (2 * i + 2) n = B at *
    obtain ⟨p, hpe⟩ : ∃ p, p = 2 ^ i := ⟨_, rfl⟩
    rw [← hpe] at es hp ⊢
    have or1 : ∀ {s : Nat}, s < 512 → bits .or .i64 (s : Int) (p : Int) = ((s ||| p : Nat) : Int) := fun h => or_nat h hp
    obtain ⟨x1, hx1⟩ : ∃ x : Int, x = ((2 * i + 1 : Nat) : Int) := ⟨_, rfl⟩
    obtain ⟨x2, hx2⟩ : ∃ x : Int, x = ((2 * i + 2 : Nat) : Int) := ⟨_, rfl⟩
    rw [← hx1] at w2 hg hA
    rw [← hx2] at w3 hB
    simp -implicitDefEqProofs [a34, F34, w1, w2, hg]
    refine wk_take ?_
    simp -implicitDefEqProofs
    refine wc_of hA (by simp) (by simp) ?_
    rintro _ rfl
    simp -implicitDefEqProofs [w1, w3]
    refine wk_take ?_
    simp -implicitDefEqProofs
    refine wc_of hB (by simp) (by simp) ?_
    rintro _ rfl
    simp -implicitDefEqProofs
    refine w_rounds [32, 33, 34] [6, 7, 8] 0 (by decide) (be1 i n p A B) A.length ⟨by simp, 0, by simp, by simp [tPre]⟩ ?_
    rintro m S ⟨k, hk, rfl⟩
    by_cases hkm : k < A.length
    · have k1 : (k : Int) < (A.length : Int) := by omega
      have k0 : ¬ (k : Int) < 0 := by omega
      have wk := wrap64 (n := (k : Int) + 1) (by omega)
      have hs5 : A[k] < 512 := hAl _ (List.getElem_mem hkm)
      have o1 := or1 hs5
      have hpl := tPre_len (A := A) (B := B) (p := p) k (by omega)
      have hkb : k * (B.length + 1) ≤ 271 * 272 := Nat.mul_le_mul (by omega) (by omega)
      have b1 : (tPre A B p k).length + 1 ≤ maxLen ∧ ((tPre A B p k).length + 1) * 8 ≤ maxBytes := by rw [hpl]; simp [maxLen, maxBytes]; omega
      simp -implicitDefEqProofs [k1, k0, zi_get hkm, i0, es, ↓binS_or, o1, b1]
      refine w_rounds [32, 33, 34, 45, 46, 47] [7, 8] 0 (by decide) (be2 i n p A B k A[k]) B.length ⟨by simp, 0, by simp, by simp [iv, zi]⟩ ?_
      rintro m2 S ⟨j, hj, rfl⟩
      by_cases hjm : j < B.length
      · have j1 : (j : Int) < (B.length : Int) := by omega
        have j0 : ¬ (j : Int) < 0 := by omega
        have wj := wrap64 (n := (j : Int) + 1) (by omega)
        have o2 := or_nat hs5 (hBl _ (List.getElem_mem hjm))
        have b2 : (tPre A B p k ++ (A[k] ||| p) :: (B.take j).map fun t => A[k] ||| t).length + 1 ≤ maxLen ∧ ((tPre A B p k ++ (A[k] ||| p) :: (B.take j).map fun t => A[k] ||| t).length + 1) * 8 ≤ maxBytes := by
          rw [List.length_append, hpl]
          simp [maxLen, maxBytes]
          omega
        simp only [List.length_append, List.length_cons, List.length_map, List.length_take] at b2
        simp -implicitDefEqProofs [j1, j0, zi_get hjm, ↓binS_or, o2, wj, b2]
        refine ⟨m2 - 1, by omega, j + 1, by omega, ?_⟩
        rw [zi_take1 hjm, ← List.cons_append, ← List.append_assoc, zi_snoc]
        simp [iv]
      · have h6 : j = B.length := by omega
        subst h6
        simp -implicitDefEqProofs [wk]
        refine ⟨m - 1, by omega, k + 1, by omega, ?_⟩
        rw [tPre_succ hkm]
        simp [tRow]
    · have h6 : k = A.length := by omega
      subst h6
      have hpl := tPre_len (A := A) (B := B) (p := p) A.length (Nat.le_refl _)
      have hkb : A.length * (B.length + 1) ≤ 271 * 272 := Nat.mul_le_mul (by omega) (by omega)
      simp -implicitDefEqProofs
      refine w_rounds [59, 60, 61] [6, 7, 8] 0 (by decide) (be3 i n p A B) B.length ⟨by simp, 0, by simp, by simp⟩ ?_
      rintro m2 S ⟨j, hj, rfl⟩
      by_cases hjm : j < B.length
      · have j1 : (j : Int) < (B.length : Int) := by omega
        have j0 : ¬ (j : Int) < 0 := by omega
        have wj := wrap64 (n := (j : Int) + 1) (by omega)
        have o2 := or1 (hBl _ (List.getElem_mem hjm))
        have b2 : (tPre A B p A.length ++ (B.take j).map fun t => t ||| p).length + 1 ≤ maxLen ∧ ((tPre A B p A.length ++ (B.take j).map fun t => t ||| p).length + 1) * 8 ≤ maxBytes := by
          rw [List.length_append, hpl]
          simp [maxLen, maxBytes]
          omega
        simp only [List.length_append, List.length_map, List.length_take] at b2
        simp -implicitDefEqProofs [j1, j0, zi_get hjm, i0, es, ↓binS_or, o2, wj, b2]
        refine ⟨m2 - 1, by omega, j + 1, by omega, ?_⟩
        rw [zi_take1 hjm, ← List.append_assoc, zi_snoc]
        simp [iv]
      · have h6 : j = B.length := by omega
        subst h6
        simp -implicitDefEqProofs
end Go.Proofs.Ytgaihedboifjoaa

namespace Go.Proofs.Ytgaihedboifjoaa
open Go.RowKit Go.Proofs

theorem iv_zi_app (A B : List Nat) : iv (zi A) ++ iv (zi B) = iv (zi (A ++ B)) := by simp [iv, zi]
def uPre (A B : List Nat) (k : Nat) : List Nat := (A.take k).flatMap fun s => B.map fun t => s ||| t
theorem uPre_succ {A B : List Nat} {k : Nat} (h : k < A.length) : uPre A B (k + 1) = uPre A B k ++ B.map fun t => A[k] ||| t := by
  unfold uPre
  rw [List.take_add_one, List.getElem?_eq_getElem h, List.flatMap_append]
  simp
theorem uPre_len {A B : List Nat} : ∀ k, k ≤ A.length → (uPre A B k).length = k * B.length
  | 0, _ => by simp [uPre]
  | k + 1, h => by rw [uPre_succ h, List.length_append, uPre_len k (by omega)]; simp [Nat.add_mul]
theorem rbelow_eq {f i n : Nat} (h : ¬ 2 * i + 2 ≥ n) : rbelow (f + 1) i n = (rbelow f (2 * i + 1) n ++ rbelow f (2 * i + 2) n).map (fun s => s ||| 2 ^ i) ++ uPre (rbelow f (2 * i + 1) n) (rbelow f (2 * i + 2) n) (rbelow f (2 * i + 1) n).length := by
  conv => lhs; unfold rbelow
  rw [if_neg h]
  unfold uPre
  rw [List.take_length]
theorem rbelow_lt : ∀ (f i n : Nat), n ≤ 7 → i < n → ∀ s ∈ rbelow f i n, s < 512
  | 0, _, _, _, _, s, h => by simp [rbelow] at h
  | f + 1, i, n, hn, hi, s, h => by
    have hp : 2 ^ i < 512 := by have : 2 ^ i < 2 ^ 9 := Nat.pow_lt_pow_right (by omega) (by omega); omega
    unfold rbelow at h
    split at h
    · simp at h; omega
    · next hc =>
      have ha := rbelow_lt f (2 * i + 1) n hn (by omega)
      have hb := rbelow_lt f (2 * i + 2) n hn (by omega)
      simp only [List.mem_append, List.mem_flatMap, List.mem_map] at h
      rcases h with ⟨a, h1 | h1, rfl⟩ | ⟨a, h1, b, h2, rfl⟩
      · exact or_lt (ha a h1) hp
      · exact or_lt (hb a h1) hp
      · exact or_lt (ha a h1) (hb b h2)
theorem rbelow_bl : ∀ (f i n : Nat), (rbelow f i n).length ≤ bl f
  | 0, _, _ => by simp [rbelow]
  | f + 1, i, n => by
    by_cases h : 2 * i + 2 ≥ n
    · unfold rbelow
      rw [if_pos h]
      have := bl_pos (f + 1)
      simpa using this
    · rw [rbelow_eq h, List.length_append, uPre_len _ (Nat.le_refl _), List.length_map, List.length_append]
      have h1 := rbelow_bl f (2 * i + 1) n
      have h2 := rbelow_bl f (2 * i + 2) n
      have h3 := Nat.mul_le_mul h1 h2
      simp only [bl, Nat.mul_add, Nat.mul_one]
      omega
def ra1 (i n p : Nat) (A B : List Nat) (m : Nat) (S : St) : Prop := ∃ k : Nat, k + m = (A ++ B).length ∧ S = ⟨tmL [(35, .list 1 (iv (zi (A ++ B)))), (36, .s (.int .i64 (A ++ B).length)), (37, .s (.int .i64 k))], [.s (.int .i64 i), .s (.int .i64 n), .s (.slice none 0 0), .list 1 (iv (zi A)), .list 1 (iv (zi B)), .own true 3 1 (iv (zi (((A ++ B).take k).map fun s => s ||| p))), .no, .no, .no], [], 0⟩
def ra2 (i n p : Nat) (A B : List Nat) (m : Nat) (S : St) : Prop := ∃ k : Nat, k + m = A.length ∧ S = ⟨tmL [(49, .list 1 (iv (zi A))), (50, .s (.int .i64 A.length)), (51, .s (.int .i64 k))], [.s (.int .i64 i), .s (.int .i64 n), .s (.slice none 0 0), .list 1 (iv (zi A)), .list 1 (iv (zi B)), .own true 3 1 (iv (zi (((A ++ B).map fun s => s ||| p) ++ uPre A B k))), .no, .no, .no], [], 0⟩
def ra3 (i n p : Nat) (A B : List Nat) (k s : Nat) (m : Nat) (S : St) : Prop := ∃ j : Nat, j + m = B.length ∧ S = ⟨tmL [(49, .list 1 (iv (zi A))), (50, .s (.int .i64 A.length)), (51, .s (.int .i64 k)), (55, .list 1 (iv (zi B))), (56, .s (.int .i64 B.length)), (57, .s (.int .i64 j))], [.s (.int .i64 i), .s (.int .i64 n), .s (.slice none 0 0), .list 1 (iv (zi A)), .list 1 (iv (zi B)), .own true 3 1 (iv (zi (((A ++ B).map fun s => s ||| p) ++ uPre A B k ++ (B.take j).map fun t => s ||| t))), .no, .s (.int .i64 s), .no], [], 0⟩
set_option maxHeartbeats 8000000 in
theorem tree_pc : ∀ (f i n : Nat), i < n → n ≤ 7 → n % 2 = 1 → n < (i + 1) * 2 ^ f → f ≤ 3 → PC Try.prog 35 [.s (.int .i64 i), .s (.int .i64 n)] (fun r => r = .list 1 (iv (zi (rbelow f i n)))) := by
  intro f
  induction f with
  | zero => intro i n h1 _ _ h3; simp at h3; omega
  | succ f ih =>
    intro i n hi hn hodd hfn hf3
    refine pc_frz ?_
    refine pc_end c35 mixed rfl ?_
    have es := shl1 (n := i) (by omega)
    have i0 : ¬ (i : Int) < 0 := by omega
    have w1 : IntKind.i64.wrap (2 * (i : Int)) = 2 * (i : Int) := wrap64 (by omega)
    have w2 : IntKind.i64.wrap (2 * (i : Int) + 1) = ((2 * i + 1 : Nat) : Int) := by rw [wrap64 (by omega)]; omega
    have w3 : IntKind.i64.wrap (2 * (i : Int) + 2) = ((2 * i + 2 : Nat) : Int) := by rw [wrap64 (by omega)]; omega
    have hp : 2 ^ i < 512 := by have : 2 ^ i < 2 ^ 9 := Nat.pow_lt_pow_right (by omega) (by omega); omega
    by_cases hc : 2 * i + 2 ≥ n
    · have g : (n : Int) ≤ ((2 * i + 2 : Nat) : Int) := by omega
      have e : rbelow (f + 1) i n = [2 ^ i] := by unfold rbelow; rw [if_pos hc]
      rw [e]
      generalize 2 ^ i = p at es
      generalize ((2 * i + 2 : Nat) : Int) = x at w3 g
      simp -implicitDefEqProofs [a35, F35, w1, w3, g, i0, es, zi, iv]
    have hg : ¬ (n : Int) ≤ ((2 * i + 2 : Nat) : Int) := by omega
    have hpow : 2 ^ (f + 1) = 2 * 2 ^ f := by rw [Nat.pow_succ, Nat.mul_comm]
    have q1 : (i + 1) * (2 * 2 ^ f) = (2 * i + 2) * 2 ^ f := by rw [← Nat.mul_assoc]; congr 1; omega
    have q2 : (2 * i + 2) * 2 ^ f ≤ (2 * i + 2 + 1) * 2 ^ f := Nat.mul_le_mul_right _ (by omega)
    have hA := ih (2 * i + 1) n (by omega) hn hodd (by rw [hpow, q1] at hfn; exact hfn) (by omega)
    have hB := ih (2 * i + 2) n (by omega) hn hodd (by rw [hpow, q1] at hfn; exact Nat.lt_of_lt_of_le hfn q2) (by omega)
    have hAl := rbelow_lt f (2 * i + 1) n hn (by omega)
    have hBl := rbelow_lt f (2 * i + 2) n hn (by omega)
    have hbf : bl f ≤ 271 := by
      have : f = 0 ∨ f = 1 ∨ f = 2 := by omega
      rcases this with rfl | rfl | rfl <;> decide
    have hA5 := Nat.le_trans (rbelow_bl f (2 * i + 1) n) hbf
    have hB5 := Nat.le_trans (rbelow_bl f (2 * i + 2) n) hbf
    rw [rbelow_eq hc]
    generalize rbelow f (2 * i + 1) n = A at *
    generalize rbelow f (2 * i + 2) n = B at *
    obtain ⟨p, hpe⟩ : ∃ p, p = 2 ^ i := ⟨_, rfl⟩
    rw [← hpe] at es hp ⊢
    have or1 : ∀ {s : Nat}, s < 512 → bits .or .i64 (s : Int) (p : Int) = ((s ||| p : Nat) : Int) := fun h => or_nat h hp
    obtain ⟨x1, hx1⟩ : ∃ x : Int, x = ((2 * i + 1 : Nat) : Int) := ⟨_, rfl⟩
    obtain ⟨x2, hx2⟩ : ∃ x : Int, x = ((2 * i + 2 : Nat) : Int) := ⟨_, rfl⟩
    rw [← hx1] at w2 hA
    rw [← hx2] at w3 hg hB
    have bA : A.length ≤ maxLen ∧ A.length * 8 ≤ maxBytes := by simp [maxLen, maxBytes]; omega
    have bAB : A.length + B.length ≤ maxLen ∧ (A.length + B.length) * 8 ≤ maxBytes := by simp [maxLen, maxBytes]; omega
    simp -implicitDefEqProofs [a35, F35, w1, w2, w3, hg]
    refine wk_take ?_
    simp -implicitDefEqProofs
    refine wc_of hA (by simp) (by simp) ?_
    rintro _ rfl
    simp -implicitDefEqProofs [w1, w3]
    refine wk_take ?_
    simp -implicitDefEqProofs
    refine wc_of hB (by simp) (by simp) ?_
    rintro _ rfl
    simp -implicitDefEqProofs [bA, bAB, iv_zi_app]
    have hab : (A ++ B).length = A.length + B.length := List.length_append
    refine w_rounds [35, 36, 37] [6, 7, 8] 0 (by decide) (ra1 i n p A B) (A ++ B).length ⟨by simp, 0, by simp, by simp⟩ ?_
    rintro m S ⟨k, hk, rfl⟩
    by_cases hkm : k < (A ++ B).length
    · have k1 : (k : Int) < ((A ++ B).length : Int) := by omega
      have k0 : ¬ (k : Int) < 0 := by omega
      have wk := wrap64 (n := (k : Int) + 1) (by omega)
      have hs5 : (A ++ B)[k] < 512 := by
        rcases List.mem_append.1 (List.getElem_mem hkm) with h | h
        · exact hAl _ h
        · exact hBl _ h
      have hz := zi_get hkm
      have ht := zi_take1 hkm (fun s => s ||| p)
      generalize (A ++ B)[k] = s at hs5 hz ht
      generalize hL : A ++ B = L at *
      have o1 := or1 hs5
      have b1 : min k L.length + 1 ≤ maxLen ∧ (min k L.length + 1) * 8 ≤ maxBytes := by simp [maxLen, maxBytes]; omega
      simp -implicitDefEqProofs [k1, k0, hz, i0, es, ↓binS_or, o1, b1, wk]
      refine ⟨m - 1, by omega, k + 1, by rw [hL]; omega, ?_⟩
      rw [hL, ht, zi_snoc]
      simp [iv]
    have h6 : k = (A ++ B).length := by omega
    have htl : (A ++ B).take k = A ++ B := List.take_of_length_le (by omega)
    rw [htl]
    have hkk : ¬ ((k : Int) < (A.length : Int) + (B.length : Int)) := by omega
    have hMl : ((A ++ B).map fun s => s ||| p).length = A.length + B.length := by rw [List.length_map, hab]
    have d2 : ra2 i n p A B = fun m S => ∃ k : Nat, k + m = A.length ∧ S = ⟨tmL [(49, .list 1 (iv (zi A))), (50, .s (.int .i64 A.length)), (51, .s (.int .i64 k))], [.s (.int .i64 i), .s (.int .i64 n), .s (.slice none 0 0), .list 1 (iv (zi A)), .list 1 (iv (zi B)), .own true 3 1 (iv (zi (((A ++ B).map fun s => s ||| p) ++ uPre A B k))), .no, .no, .no], [], 0⟩ := rfl
    have d3 : ∀ k s, ra3 i n p A B k s = fun m S => ∃ j : Nat, j + m = B.length ∧ S = ⟨tmL [(49, .list 1 (iv (zi A))), (50, .s (.int .i64 A.length)), (51, .s (.int .i64 k)), (55, .list 1 (iv (zi B))), (56, .s (.int .i64 B.length)), (57, .s (.int .i64 j))], [.s (.int .i64 i), .s (.int .i64 n), .s (.slice none 0 0), .list 1 (iv (zi A)), .list 1 (iv (zi B)), .own true 3 1 (iv (zi (((A ++ B).map fun s => s ||| p) ++ uPre A B k ++ (B.take j).map fun t => s ||| t))), .no, .s (.int .i64 s), .no], [], 0⟩ := fun _ _ => rfl
    generalize hMe : ((A ++ B).map fun s => s ||| p) = M at hMl d2 d3 ⊢
    simp -implicitDefEqProofs [hkk]
    refine w_rounds [49, 50, 51] [6, 7, 8] 0 (by decide) (ra2 i n p A B) A.length ⟨by simp, by rw [d2]; exact ⟨0, by simp, by simp [uPre]⟩⟩ ?_
    clear hk hkk h6 htl
    rintro m S hS
    rw [d2] at hS
    obtain ⟨k, hk, rfl⟩ := hS
    have hpl : ∀ k, k ≤ A.length → (uPre A B k).length = k * B.length := uPre_len
    by_cases hkm : k < A.length
    case neg =>
      have h6 : k = A.length := by omega
      subst h6
      simp -implicitDefEqProofs
      rw [← hMe]
      simp
    have k1 : (k : Int) < (A.length : Int) := by omega
    have k0 : ¬ (k : Int) < 0 := by omega
    have wk := wrap64 (n := (k : Int) + 1) (by omega)
    have hs5 : A[k] < 512 := hAl _ (List.getElem_mem hkm)
    have hpk := hpl k (by omega)
    have hkb : k * B.length ≤ 271 * 271 := Nat.mul_le_mul (by omega) (by omega)
    simp -implicitDefEqProofs [k1, k0, zi_get hkm]
    refine w_rounds [49, 50, 51, 55, 56, 57] [8] 0 (by decide) (ra3 i n p A B k A[k]) B.length ⟨by simp, by rw [d3]; exact ⟨0, by simp, by simp⟩⟩ ?_
    rintro m2 S hS
    rw [d3] at hS
    obtain ⟨j, hj, rfl⟩ := hS
    by_cases hjm : j < B.length
    · have j1 : (j : Int) < (B.length : Int) := by omega
      have j0 : ¬ (j : Int) < 0 := by omega
      have wj := wrap64 (n := (j : Int) + 1) (by omega)
      have o2 := or_nat hs5 (hBl _ (List.getElem_mem hjm))
      have b2 : M.length + ((uPre A B k).length + min j B.length) + 1 ≤ maxLen ∧ (M.length + ((uPre A B k).length + min j B.length) + 1) * 8 ≤ maxBytes := by
        rw [hpk, hMl]
        simp [maxLen, maxBytes]
        omega
      simp -implicitDefEqProofs [j1, j0, zi_get hjm, ↓binS_or, o2, wj, b2]
      refine ⟨m2 - 1, by omega, ?_⟩
      rw [d3]
      refine ⟨j + 1, by omega, ?_⟩
      rw [zi_take1 hjm]
      simp [iv, zi, List.map_take]
    · have h6 : j = B.length := by omega
      subst h6
      simp -implicitDefEqProofs [wk]
      refine ⟨m - 1, by omega, ?_⟩
      rw [d2]
      refine ⟨k + 1, by omega, ?_⟩
      rw [uPre_succ hkm]
      simp
end Go.Proofs.Ytgaihedboifjoaa

namespace Go.Proofs.Ytgaihedboifjoaa
open Go.RowKit Go.Proofs

theorem reduce_same {n : Nat} {l m : List Nat} (h : ∀ x, x ∈ l ↔ x ∈ m) : reduce n l = reduce n m := reduce_congr h
theorem zi_toNat (L : List Nat) : (zi L).map Int.toNat = L := by simp [zi, List.map_map, Function.comp_def]
theorem redQ_zi (k : Nat) (L : List Nat) : redQ k (zi L) = reduce k L := by unfold redQ; rw [zi_toNat, Int.toNat_natCast]
theorem redE_zi {k : Nat} (hk : 1 ≤ k ∧ k ≤ 9) {L : List Nat} (hp : properB k L = true) (hl : L.length ≤ 64) : redE k (zi L) = 0 := by
  obtain ⟨h1, h2, h3⟩ := properB_iff hp
  unfold redE
  rw [if_pos ⟨by omega, by omega, fun e => h3 (by
    have := congrArg List.length e
    simp at this
    exact this)⟩, zi_toNat, Int.toNat_natCast]
  rw [if_pos, if_pos, if_pos (Nat.le_trans reduce_len hl)]
  · unfold meetAll
    rw [List.all_eq_true]
    exact fun s hs => meets_iff.2 fun t ht => h2 s hs t ht
  · rw [List.all_eq_true]
    intro s hs
    simp only [zi, List.mem_map] at hs
    obtain ⟨a, ha, rfl⟩ := hs
    have := h1 a ha
    unfold inR
    exact decide_eq_true (by omega)
def trN (n : Int) : Nat := 2 ^ n.toNat - 1
def trL (n : Int) : List Nat := below 3 0 (trN n)
def trE (n : Int) : Int := if 1 ≤ n ∧ n ≤ 3 then 0 else 1
def trQ (n : Int) : List Nat := reduce (trN n) (trL n)
theorem tree_k {n : Int} (h : 1 ≤ n ∧ n ≤ 3) : ∃ k : Nat, n = k ∧ (k = 1 ∨ k = 2 ∨ k = 3) := ⟨n.toNat, by omega, by omega⟩
theorem tree_odd {k : Nat} (h : k = 1 ∨ k = 2 ∨ k = 3) : 0 < 2 ^ k - 1 ∧ 2 ^ k - 1 ≤ 7 ∧ (2 ^ k - 1) % 2 = 1 ∧ 2 ^ k - 1 < (0 + 1) * 2 ^ 3 := by rcases h with rfl | rfl | rfl <;> decide
set_option maxHeartbeats 4000000 in
theorem Tree_pc (n : Int) : PC Try.prog 14 [.s (.int .i64 n)] (fun r => r = res (trE n) (trN n) (trQ n)) := by
  refine pc_list (q := fun r => r = if 1 ≤ n ∧ n ≤ 3 then res 0 (trN n) (trQ n) else eV 1) ?_ fun x hx _ => ⟨res (trE n) (trN n) (trQ n), ?_, res_ok _ _ _, rfl⟩
  case refine_2 =>
    subst hx
    unfold trE
    split
    · exact res_fr _ _ _
    · exact err_fr _ _ _ (by omega)
  refine pc_end c14 mixed rfl ?_
  by_cases h1 : n < 1
  · rw [if_neg (by omega)]
    simp -implicitDefEqProofs [a14, F14, h1, eV]
  by_cases h2 : 3 < n
  · rw [if_neg (by omega)]
    simp -implicitDefEqProofs [a14, F14, h1, h2, eV]
  rw [if_pos (by omega)]
  obtain ⟨k, rfl, hk⟩ := tree_k (n := n) (by omega)
  obtain ⟨o1, o2, o3, o4⟩ := tree_odd hk
  have es := shl1 (n := k) (by omega)
  have hN : trN (k : Int) = 2 ^ k - 1 := by unfold trN; rw [Int.toNat_natCast]
  have hp1 : 1 ≤ 2 ^ k := Nat.pow_pos (by omega)
  have ws : IntKind.i64.wrap (((2 ^ k : Nat) : Int) - 1) = ((2 ^ k - 1 : Nat) : Int) := by rw [wrap64 (by omega)]; omega
  have k0 : ¬ (k : Int) < 0 := by omega
  have hT := below_pc 3 0 (2 ^ k - 1) o1 o2 o3 o4 (Nat.le_refl _)
  have hl := tree_len hk
  have hR := Reduce_pc ((2 ^ k - 1 : Nat) : Int) (zi (below 3 0 (2 ^ k - 1))) (by rw [zi_length]; omega)
  rw [redE_zi (k := 2 ^ k - 1) (by omega) (tree_proper hk) (by omega), redQ_zi] at hR
  have hQ : trQ (k : Int) = reduce (2 ^ k - 1) (below 3 0 (2 ^ k - 1)) := by unfold trQ trL; rw [hN]
  rw [hQ, hN]
  clear hQ hN hl o1 o2 o3 o4 hp1
  rw [show ((0 : Nat) : Int) = 0 from rfl] at hT
  generalize reduce (2 ^ k - 1) (below 3 0 (2 ^ k - 1)) = Q at hR ⊢
  generalize below 3 0 (2 ^ k - 1) = L at hT hR
  generalize 2 ^ k - 1 = N at ws hT hR ⊢
  generalize 2 ^ k = K at es ws
  rw [res_eq] at hR ⊢
  simp -implicitDefEqProofs [a14, F14, h1, h2, k0, es, ws]
  refine wk_take ?_
  simp -implicitDefEqProofs
  refine wc_of hT (by simp) (by simp) ?_
  rintro _ rfl
  simp -implicitDefEqProofs
  refine wk_take ?_
  simp -implicitDefEqProofs
  refine wc_of hR (by simp) (by simp) ?_
  rintro _ rfl
  simp -implicitDefEqProofs [cV]
set_option maxHeartbeats 4000000 in
theorem rTree_pc (n : Int) : PC Try.prog 15 [.s (.int .i64 n)] (fun r => r = res (trE n) (trN n) (trQ n)) := by
  refine pc_list (q := fun r => r = if 1 ≤ n ∧ n ≤ 3 then res 0 (trN n) (trQ n) else eV 1) ?_ fun x hx _ => ⟨res (trE n) (trN n) (trQ n), ?_, res_ok _ _ _, rfl⟩
  case refine_2 =>
    subst hx
    unfold trE
    split
    · exact res_fr _ _ _
    · exact err_fr _ _ _ (by omega)
  refine pc_end c15 mixed rfl ?_
  by_cases h1 : n < 1
  · rw [if_neg (by omega)]
    simp -implicitDefEqProofs [a15, F15, h1, eV]
  by_cases h2 : 3 < n
  · rw [if_neg (by omega)]
    simp -implicitDefEqProofs [a15, F15, h1, h2, eV]
  rw [if_pos (by omega)]
  obtain ⟨k, rfl, hk⟩ := tree_k (n := n) (by omega)
  obtain ⟨o1, o2, o3, o4⟩ := tree_odd hk
  have es := shl1 (n := k) (by omega)
  have hN : trN (k : Int) = 2 ^ k - 1 := by unfold trN; rw [Int.toNat_natCast]
  have hp1 : 1 ≤ 2 ^ k := Nat.pow_pos (by omega)
  have ws : IntKind.i64.wrap (((2 ^ k : Nat) : Int) - 1) = ((2 ^ k - 1 : Nat) : Int) := by rw [wrap64 (by omega)]; omega
  have k0 : ¬ (k : Int) < 0 := by omega
  have hT := tree_pc 3 0 (2 ^ k - 1) o1 o2 o3 o4 (Nat.le_refl _)
  have hsame := tree_same hk
  have hlr : (rbelow 3 0 (2 ^ k - 1)).length ≤ 15 := by rcases hk with rfl | rfl | rfl <;> decide +kernel
  have hpr : properB (2 ^ k - 1) (rbelow 3 0 (2 ^ k - 1)) = true := by rcases hk with rfl | rfl | rfl <;> decide +kernel
  have hR := rReduce_pc ((2 ^ k - 1 : Nat) : Int) (zi (rbelow 3 0 (2 ^ k - 1))) (by rw [zi_length]; omega)
  rw [redE_zi (k := 2 ^ k - 1) (by omega) hpr (by omega), redQ_zi, ← reduce_same hsame] at hR
  have hQ : trQ (k : Int) = reduce (2 ^ k - 1) (below 3 0 (2 ^ k - 1)) := by unfold trQ trL; rw [hN]
  rw [hQ, hN]
  clear hQ hN o1 o2 o3 o4 hp1 hsame hpr hlr
  rw [show ((0 : Nat) : Int) = 0 from rfl] at hT
  generalize reduce (2 ^ k - 1) (below 3 0 (2 ^ k - 1)) = Q at hR ⊢
  generalize rbelow 3 0 (2 ^ k - 1) = L at hT hR
  generalize 2 ^ k - 1 = N at ws hT hR ⊢
  generalize 2 ^ k = K at es ws
  rw [res_eq] at hR ⊢
  simp -implicitDefEqProofs [a15, F15, h1, h2, k0, es, ws]
  refine wk_take ?_
  simp -implicitDefEqProofs
  refine wc_of hT (by simp) (by simp) ?_
  rintro _ rfl
  simp -implicitDefEqProofs
  refine wk_take ?_
  simp -implicitDefEqProofs
  refine wc_of hR (by simp) (by simp) ?_
  rintro _ rfl
  simp -implicitDefEqProofs [cV]
end Go.Proofs.Ytgaihedboifjoaa
