/- Texts put behind one another: SP, S2, S3, S4, S5, S6, Sh. -/
import Derived.Test.YtbjgnoegblejhaaCD
import Derived.Test.YtbjgnoegblejhaaG3
set_option linter.unusedVariables false
set_option linter.unusedSimpArgs false
namespace Go.Proofs.Ytbjgnoegblejhaa
open Go.RowKit Go.Proofs

/-- a copy: its record and its version, or 0 -/
def wholeR (b : List UInt8) : List UInt8 × Nat :=
  let f := rdFrame b
  if f.2.2 ≠ 0 ∨ f.2.1 ≠ b.length then ([], 0)
  else
    let u := rdUint f.1
    if u.2.2 ≠ 0 ∨ u.1 < 1 ∨ 1073741824 < u.1 ∨ 512 < f.1.length - u.2.1 then ([], 0) else (f.1.drop u.2.1, u.1)
/-- is B the present copy; its record and version -/
def presR (a b : List UInt8) : Bool × List UInt8 × Nat := if (wholeR a).2 < (wholeR b).2 then (true, wholeR b) else (false, wholeR a)
def recF (rec : List UInt8) (v : Nat) : List UInt8 := frame (putUint v ++ rec)
/-- what Torn writes -/
def tornR (a b rec : List UInt8) (cut : Nat) : (List UInt8 × List UInt8) × Nat :=
  if 512 < rec.length then (([], []), 3)
  else if (presR a b).2.2 = 1073741824 then (([], []), 16)
  else if (presR a b).2.2 = 0 ∨ (presR a b).1 = true then (((recF rec ((presR a b).2.2 + 1)).take cut, b), 0)
  else ((a, (recF rec ((presR a b).2.2 + 1)).take cut), 0)
theorem wholeR_le (b : List UInt8) : (wholeR b).2 ≤ 1073741824 ∧ (wholeR b).1.length ≤ 512 := by
  simp only [wholeR]
  split
  · simp
  · split
    · simp
    · next h => simp at h ⊢; omega
theorem presR_le (a b : List UInt8) : (presR a b).2.2 ≤ 1073741824 ∧ (presR a b).2.1.length ≤ 512 := by
  unfold presR
  split
  · exact wholeR_le b
  · exact wholeR_le a
theorem recL (rec : List UInt8) (v : Nat) (hr : rec.length ≤ 512) : (putUint v ++ rec).length ≤ 522 := by
  have := putUint_len v
  simp
  omega
theorem recF_len (rec : List UInt8) (v : Nat) (hr : rec.length ≤ 512) : (recF rec v).length ≤ 536 ∧ 0 < (recF rec v).length := by
  have h1 := recL rec v hr
  have h2 := putUint_len (putUint v ++ rec).length
  have h3 : (sumB (crc (putUint v ++ rec))).length = 4 := rfl
  unfold recF frame
  rw [List.length_append, List.length_append, h3]
  omega
theorem wholeR_frame (rec : List UInt8) (v : Nat) (hr : rec.length ≤ 512) (hv : 1 ≤ v ∧ v ≤ 1073741824) : wholeR (recF rec v) = (rec, v) := by
  have h0 := recL rec v hr
  have h1 := rdFrame_put (putUint v ++ rec) [] (by omega)
  rw [List.append_nil] at h1
  have h2 := rdUint_put v rec (by omega)
  have h3 : (putUint v ++ rec).drop (putUint v).length = rec := List.drop_left
  simp only [wholeR, recF, h1, h2, h3]
  rw [if_neg (by simp), if_neg]
  rintro (h | h | h | h)
  · exact h rfl
  · omega
  · omega
  · simp at h; omega
theorem wholeR_cut (rec : List UInt8) (v cut : Nat) (hr : rec.length ≤ 512) (hc : cut < (recF rec v).length) : wholeR ((recF rec v).take cut) = ([], 0) := by
  have h0 := recL rec v hr
  have h1 := rdFrame_prefix (putUint v ++ rec) cut (by omega) hc
  simp only [wholeR, recF, h1]
  rw [if_pos (by simp)]
section
variable {a b rec : List UInt8} {cut : Nat}
/-- a whole write -/
theorem torn_full (hr : rec.length ≤ 512) (hv : (presR a b).2.2 < 1073741824) (hc : (recF rec ((presR a b).2.2 + 1)).length ≤ cut) :
    ∃ a' b', tornR a b rec cut = ((a', b'), 0) ∧ (presR a' b').2 = (rec, (presR a b).2.2 + 1) := by
  have hw := wholeR_frame rec ((presR a b).2.2 + 1) hr ⟨by omega, by omega⟩
  have ht : (recF rec ((presR a b).2.2 + 1)).take cut = recF rec ((presR a b).2.2 + 1) := List.take_of_length_le hc
  unfold tornR
  rw [if_neg (by omega), if_neg (by omega), ht]
  generalize hF : recF rec ((presR a b).2.2 + 1) = F at *
  split
  · next h =>
    refine ⟨_, _, rfl, ?_⟩
    have hb : (wholeR b).2 ≤ (presR a b).2.2 := by
      unfold presR
      split
      · exact Nat.le_refl _
      · show (wholeR b).2 ≤ (wholeR a).2
        omega
    generalize presR a b = q at *
    rw [presR, hw, if_neg (by omega)]
  · next h =>
    refine ⟨_, _, rfl, ?_⟩
    have ha : (wholeR a).2 = (presR a b).2.2 := by
      unfold presR at h ⊢
      split
      · next h1 => simp [h1] at h
      · rfl
    generalize presR a b = q at *
    rw [presR, hw, if_pos (by rw [ha]; exact Nat.lt_succ_self _)]
/-- a torn write -/
theorem torn_part (hr : rec.length ≤ 512) (hv : (presR a b).2.2 < 1073741824) (hc : cut < (recF rec ((presR a b).2.2 + 1)).length) :
    ∃ a' b', tornR a b rec cut = ((a', b'), 0) ∧ (presR a' b').2.2 = (presR a b).2.2 ∧ ((presR a b).2.2 ≠ 0 → (presR a' b').2 = (presR a b).2) := by
  have hw := wholeR_cut rec ((presR a b).2.2 + 1) cut hr hc
  unfold tornR
  rw [if_neg (by omega), if_neg (by omega)]
  generalize (recF rec ((presR a b).2.2 + 1)).take cut = F at *
  split
  · next h =>
    refine ⟨_, _, rfl, ?_⟩
    by_cases h1 : (wholeR a).2 < (wholeR b).2
    · have e1 : presR a b = (true, wholeR b) := by rw [presR, if_pos h1]
      have e2 : presR F b = (true, wholeR b) := by rw [presR, hw, if_pos (by simp; omega)]
      rw [e1, e2]
      exact ⟨rfl, fun _ => rfl⟩
    · have e1 : presR a b = (false, wholeR a) := by rw [presR, if_neg h1]
      rw [e1] at h
      have h0 : (wholeR a).2 = 0 := by simpa using h
      have e2 : presR F b = (false, ([], 0)) := by rw [presR, hw, if_neg (by simp; omega)]
      rw [e1, e2]
      simp only
      exact ⟨h0.symm, fun q => absurd h0 q⟩
  · next h =>
    refine ⟨_, _, rfl, ?_⟩
    by_cases h1 : (wholeR a).2 < (wholeR b).2
    · have e1 : presR a b = (true, wholeR b) := by rw [presR, if_pos h1]
      rw [e1] at h
      simp at h
    · have e1 : presR a b = (false, wholeR a) := by rw [presR, if_neg h1]
      have e2 : presR a F = (false, wholeR a) := by rw [presR, hw, if_neg (by simp)]
      rw [e1, e2]
      exact ⟨rfl, fun _ => rfl⟩
/-- when is a torn write whole? -/
theorem torn_whole {k : Int} (hr : rec.length ≤ 512) (hv : (presR a b).2.2 < 1073741824) {a' b' : List UInt8} (ht : tornR a b rec cut = ((a', b'), 0)) (hc : (recF rec ((presR a b).2.2 + 1)).length ≤ cut) :
    (((k ≥ a'.length) ∧ a' ≠ a) ∨ ((k ≥ b'.length) ∧ b' ≠ b)) ↔ ((recF rec ((presR a b).2.2 + 1)).length : Int) ≤ k := by
  have hw := wholeR_frame rec ((presR a b).2.2 + 1) hr ⟨by omega, by omega⟩
  have htk : (recF rec ((presR a b).2.2 + 1)).take cut = recF rec ((presR a b).2.2 + 1) := List.take_of_length_le hc
  have ha : (wholeR a).2 ≤ (presR a b).2.2 := by
    unfold presR
    split
    · exact Nat.le_of_lt (by assumption)
    · exact Nat.le_refl _
  have hb : (wholeR b).2 ≤ (presR a b).2.2 := by
    unfold presR
    split
    · exact Nat.le_refl _
    · show (wholeR b).2 ≤ (wholeR a).2
      omega
  unfold tornR at ht
  rw [if_neg (by omega), if_neg (by omega), htk] at ht
  generalize hF : recF rec ((presR a b).2.2 + 1) = F at *
  have n1 : F ≠ a := fun e => by rw [e] at hw; rw [hw] at ha; simp only at ha; omega
  have n2 : F ≠ b := fun e => by rw [e] at hw; rw [hw] at hb; simp only at hb; omega
  split at ht
  · cases ht
    constructor
    · rintro (⟨h, _⟩ | ⟨_, h⟩)
      · exact h
      · exact absurd rfl h
    · exact fun h => .inl ⟨h, n1⟩
  · cases ht
    constructor
    · rintro (⟨_, h⟩ | ⟨h, _⟩)
      · exact absurd rfl h
      · exact h
    · exact fun h => .inr ⟨h, n2⟩
end
end Go.Proofs.Ytbjgnoegblejhaa

namespace Go.Proofs.Ytbjgnoegblejhaa
open Go.RowKit Go.Proofs

theorem fw_cases {b x : List UInt8} {n e : Nat} (h : rdFrame b = (x, n, e)) : (e = 0 ∧ x.length ≤ 4096 ∧ n ≤ b.length) ∨ (x = [] ∧ n = 0 ∧ e ≠ 0 ∧ e < 10) := by
  rcases hr : rdUint b with ⟨v, k, e'⟩
  rcases rdUint_cases hr with ⟨rfl, hv, hk0, hkl, hk10⟩ | ⟨rfl, rfl, he⟩
  · by_cases h1 : 4096 < v
    · rw [rdFrame_long hr h1] at h; cases h; exact .inr ⟨rfl, rfl, by omega, by omega⟩
    by_cases h2 : b.length - k < v + 4
    · rw [rdFrame_short hr h1 h2] at h; cases h; exact .inr ⟨rfl, rfl, by omega, by omega⟩
    by_cases h3 : be ((b.drop (k + v)).take 4) = crc ((b.drop k).take v)
    · rw [rdFrame_ok hr h1 h2 h3] at h; cases h; exact .inl ⟨rfl, by simp; omega, by omega⟩
    · rw [rdFrame_sum hr h1 h2 h3] at h; cases h; exact .inr ⟨rfl, rfl, by omega, by omega⟩
  · rw [rdFrame_e hr (by omega)] at h; cases h; exact .inr ⟨rfl, rfl, by omega, by omega⟩
/-- what whole returns -/
def wholeV (r : List UInt8 × Nat) : V := if r.2 = 0 then .tup [.s (.slice none 0 0), .s (.int .i64 0), .s (.bool false)] else .tup [.list 1 (bv r.1), .s (.int .i64 r.2), .s (.bool true)]
theorem whole_pc (b : List UInt8) (hb : b.length ≤ 1000000) : PC Try.prog 28 [.list 1 (bv b)] (fun r => r = wholeV (wholeR b)) := by
  refine pc_end c28 mixed rfl ?_
  simp -implicitDefEqProofs [a28, F28]
  refine wk_take ?_
  simp -implicitDefEqProofs
  refine wc_of (Unframe_pc b hb) (by simp) (by simp) ?_
  rintro _ rfl
  rcases hf : rdFrame b with ⟨x, n, e⟩
  rcases fw_cases hf with ⟨rfl, hx, hn⟩ | ⟨rfl, rfl, he, _⟩
  case inr =>
    have h1 : ((e : Int) != 0) = true := by simp; omega
    simp -implicitDefEqProofs [ufV, he, h1, wholeR, hf, wholeV]
  by_cases hnb : n = b.length
  case neg =>
    have h1 : ((n : Int) != b.length) = true := by rw [neq_nat]; simpa using hnb
    simp -implicitDefEqProofs [ufV, h1, wholeR, hf, hnb, wholeV]
  have h1 : ((n : Int) != b.length) = false := by rw [neq_nat]; simpa using hnb
  simp -implicitDefEqProofs [ufV, h1]
  refine wk_take ?_
  simp -implicitDefEqProofs
  refine wc_of (Uint_pc x) (by simp) (by simp) ?_
  rintro _ rfl
  rcases hu : rdUint x with ⟨v, k, e⟩
  rcases rdUint_cases hu with ⟨rfl, hv, hk0, hkl, hk10⟩ | ⟨rfl, rfl, he⟩
  case inr =>
    have he0 : e ≠ 0 := by omega
    have h2 : ((e : Int) != 0) = true := by simp; omega
    simp -implicitDefEqProofs [uintV, h2, wholeR, hf, hnb, hu, he0, wholeV]
  by_cases h2 : v < 1
  · have h2' : (v : Int) < 1 := by omega
    have h2'' : v = 0 := by omega
    simp -implicitDefEqProofs [uintV, h2'', wholeR, hf, hnb, hu, wholeV]
  have h2' : ¬ (v : Int) < 1 := by omega
  have hv0 : v ≠ 0 := by omega
  by_cases h3 : 1073741824 < v
  · have h3' : (v : Int) > 1073741824 := by omega
    simp -implicitDefEqProofs [uintV, h2', h3', h3, wholeR, hf, hnb, hu, wholeV]
  have h3' : ¬ (v : Int) > 1073741824 := by omega
  have w1 : IntKind.i64.wrap ((x.length : Int) - k) = (x.length : Int) - k := wrap64 (by omega)
  by_cases h4 : 512 < x.length - k
  · have h4' : (x.length : Int) - k > 512 := by omega
    simp -implicitDefEqProofs [uintV, h2', h3', h4', h4, w1, wholeR, hf, hnb, hu, wholeV]
  have h4' : ¬ (x.length : Int) - k > 512 := by omega
  have w2 : IntKind.i64.wrap (v : Int) = v := wrap64 (by omega)
  have k0 : ¬ (k : Int) < 0 := by omega
  have htk : (x.drop k).take (x.length - k) = x.drop k := List.take_of_length_le (by simp)
  simp -implicitDefEqProofs [uintV, h2, hv0, h2', h3', h4', h3, h4, w1, w2, k0, hkl, bv_drop, bv_take, htk, wholeR, hf, hnb, hu, wholeV]
end Go.Proofs.Ytbjgnoegblejhaa

namespace Go.Proofs.Ytbjgnoegblejhaa
open Go.RowKit Go.Proofs

@[simp] theorem wrap_0 : IntKind.i64.wrap 0 = 0 := by decide
@[simp] theorem wrap_1 : IntKind.i64.wrap 1 = 1 := by decide
@[simp] theorem wrap_2 : IntKind.i64.wrap 2 = 2 := by decide
def storeV (a b : List UInt8) : V := .agg [.list 1 (bv a), .list 1 (bv b)]
/-- the record of a version: none of version 0 -/
def recV (r : List UInt8 × Nat) : V := if r.2 = 0 then .s (.slice none 0 0) else .list 1 (bv r.1)
def presV (r : Bool × List UInt8 × Nat) : V := .tup [.s (.bool r.1), recV r.2, .s (.int .i64 r.2.2)]
def prInv (a b : List UInt8) (m : Nat) (S : St) : Prop := ∃ i second, i + m = 2 ∧ (∃ q : List UInt8 × Nat, (i = 0 → second = false ∧ q = ([], 0)) ∧ (i = 1 → second = false ∧ q.2 = (wholeR a).2 ∧ (q.2 ≠ 0 → q = wholeR a)) ∧ (i = 2 → second = (presR a b).1 ∧ q.2 = (presR a b).2.2 ∧ (q.2 ≠ 0 → q = (presR a b).2)) ∧
  S = ⟨tmL [(13, storeV a b), (14, .s (.int .i64 i))], [storeV a b, .s (.bool false), .s (.slice none 0 0), .s (.int .i64 0), .s (.bool second), recV q, .s (.int .i64 q.2), .no, .no, .no, .no, .no], [], 0⟩)
theorem present_pc (a b : List UInt8) (ha : a.length ≤ 1000000) (hb : b.length ≤ 1000000) : PC Try.prog 21 [storeV a b] (fun r => r = presV (presR a b)) := by
  refine pc_end c21 mixed rfl ?_
  simp -implicitDefEqProofs [a21, F21, storeV]
  refine w_rounds [13, 14] [7, 8, 9, 10, 11] 0 (Nat.le_refl _) (prInv a b) 2 ⟨by simp, 0, false, rfl, ([], 0), fun _ => ⟨rfl, rfl⟩, by simp, by simp, by simp [storeV, recV]⟩ ?_
  rintro m S ⟨i, second, hi, q, q0, q1, q2, rfl⟩
  by_cases hi2 : i < 2
  case neg =>
    have h4 : ¬ (i : Int) < 2 := by omega
    obtain ⟨e1, e2, e3⟩ := q2 (by omega)
    by_cases hv : q.2 = 0
    · have hp : (presR a b).2.2 = 0 := by omega
      simp -implicitDefEqProofs [h4, recV, hv, e1, presV, hp, storeV]
    · have hq := e3 hv
      have hp : (presR a b).2.2 ≠ 0 := by omega
      simp -implicitDefEqProofs [h4, recV, e1, presV, hp, hq, storeV]
  have h4 : (i : Int) < 2 := by omega
  have h0 : (0 : Int) ≤ i := by omega
  have hwp : IntKind.i64.wrap ((i : Int) + 1) = (i : Int) + 1 := wrap64 (by omega)
  rcases Nat.lt_succ_iff_lt_or_eq.1 hi2 with h1 | rfl
  · have hi0 : i = 0 := by omega
    subst hi0
    obtain ⟨rfl, rfl⟩ := q0 rfl
    simp -implicitDefEqProofs [storeV, recV]
    refine wk_take ?_
    simp -implicitDefEqProofs
    refine wc_of (whole_pc a ha) (by simp) (by simp) ?_
    rintro _ rfl
    by_cases hv : (wholeR a).2 = 0
    · simp -implicitDefEqProofs [wholeV, hv]
      refine ⟨m - 1, by omega, 1, false, by omega, ([], 0), by simp, fun _ => ⟨rfl, hv.symm, fun q => absurd rfl q⟩, by simp, by simp [storeV, recV]⟩
    · have hv' : (0 : Int) < (wholeR a).2 := by omega
      have hv'' : 0 < (wholeR a).2 := by omega
      simp -implicitDefEqProofs [wholeV, hv, hv', hv'']
      refine ⟨m - 1, by omega, 1, false, by omega, wholeR a, by simp, fun _ => ⟨rfl, rfl, fun _ => rfl⟩, by simp, by simp [storeV, recV, hv]⟩
  · obtain ⟨rfl, e2, e3⟩ := q1 rfl
    have hsplit : ∀ x : V, x = recV q → x = .s (.slice none 0 0) ∨ x = .list 1 (bv q.1) := by
      intro x hx
      subst hx
      unfold recV
      split
      · exact .inl rfl
      · exact .inr rfl
    simp -implicitDefEqProofs [storeV]
    refine wk_take ?_
    simp -implicitDefEqProofs
    refine wc_of (whole_pc b hb) (by simp) (by simp) ?_
    rintro _ rfl
    by_cases hvb : (wholeR b).2 = 0
    · have hp : presR a b = (false, wholeR a) := by rw [presR, if_neg (by omega)]
      by_cases hq : q.2 = 0
      · simp -implicitDefEqProofs [wholeV, hvb, recV, hq]
        refine ⟨m - 1, by omega, 2, false, by omega, q, by simp, by simp, fun _ => ⟨by rw [hp], by rw [hp]; exact e2, fun h => absurd hq h⟩, by simp [storeV, recV, hq]⟩
      · simp -implicitDefEqProofs [wholeV, hvb, recV, hq]
        refine ⟨m - 1, by omega, 2, false, by omega, q, by simp, by simp, fun _ => ⟨by rw [hp], by rw [hp]; exact e2, fun h => by rw [hp]; exact e3 h⟩, by simp [storeV, recV, hq]⟩
    · by_cases hlt : (wholeR a).2 < (wholeR b).2
      · have hp : presR a b = (true, wholeR b) := by rw [presR, if_pos hlt]
        have hg : q.2 < (wholeR b).2 := by omega
        have hg' : ((wholeR b).2 : Int) > q.2 := by omega
        simp -implicitDefEqProofs [wholeV, hvb, hg, hg']
        refine ⟨m - 1, by omega, 2, true, by omega, wholeR b, by simp, by simp, fun _ => ⟨by rw [hp], by rw [hp], fun _ => by rw [hp]⟩, by simp [storeV, recV, hvb]⟩
      · have hp : presR a b = (false, wholeR a) := by rw [presR, if_neg hlt]
        have hg : ¬ q.2 < (wholeR b).2 := by omega
        have hg' : ¬ ((wholeR b).2 : Int) > q.2 := by omega
        have hq : q.2 ≠ 0 := by omega
        simp -implicitDefEqProofs [wholeV, hvb, hg, hg', recV, hq]
        refine ⟨m - 1, by omega, 2, false, by omega, q, by simp, by simp, fun _ => ⟨by rw [hp], by rw [hp]; exact e2, fun h => by rw [hp]; exact e3 h⟩, by simp [storeV, recV, hq]⟩
theorem number_pc (b : Bool) : PC Try.prog 26 [.s (.bool b)] (fun r => r = .s (.int .i64 (if b then 1 else 0))) := by
  refine pc_end c26 mixed rfl ?_
  cases b <;> simp -implicitDefEqProofs [a26, F26]
/-- what Read returns -/
def readV (own : Bool) (r : List UInt8 × Nat) : V := if r.2 = 0 then .tup [.s (.slice none 0 0), .s (.int .i64 0), .s (.int .i64 10)] else .tup [if own then .own true 5 1 (bv r.1) else .list 1 (bv r.1), .s (.int .i64 r.2), .s (.int .i64 0)]
theorem Read_pc (a b : List UInt8) (ha : a.length ≤ 1000000) (hb : b.length ≤ 1000000) : PC Try.prog 8 [storeV a b] (fun r => r = readV true (presR a b).2) := by
  refine pc_end c8 mixed rfl ?_
  simp -implicitDefEqProofs [a8, F8, storeV]
  refine wk_take ?_
  simp -implicitDefEqProofs
  refine wc_of (present_pc a b ha hb) (by simp [storeV]) (by simp [storeV]) ?_
  rintro _ rfl
  have hle := (presR_le a b).2
  by_cases hv : (presR a b).2.2 = 0
  · simp -implicitDefEqProofs [presV, recV, hv, readV]
  · have hn : (((presR a b).2.2 : Int) == 0) = false := by simp; omega
    simp -implicitDefEqProofs [presV, recV, hv, hn, readV]
    refine wk_take ?_
    simp -implicitDefEqProofs
    refine wc_of (clone_pc (bv (presR a b).2.1) (by simp; omega)) (by simp) (by simp) ?_
    rintro _ rfl
    simp -implicitDefEqProofs
/-- what Torn returns -/
def tornV (r : (List UInt8 × List UInt8) × Nat) : V := if r.2 = 0 then .tup [storeV r.1.1 r.1.2, .s (.int .i64 0)] else .tup [.agg [.s (.slice none 0 0), .s (.slice none 0 0)], .s (.int .i64 r.2)]
set_option maxHeartbeats 4000000 in
theorem Torn_pc (a b rec : List UInt8) (n : Int) (ha : a.length ≤ 1000000) (hb : b.length ≤ 1000000) : PC Try.prog 12 [storeV a b, .list 1 (bv rec), .s (.int .i64 n)] (fun r => r = tornV (tornR a b rec n.toNat)) := by
  refine pc_end c12 mixed rfl ?_
  by_cases hr : 512 < rec.length
  · have hr' : (rec.length : Int) > 512 := by omega
    simp -implicitDefEqProofs [a12, F12, storeV, hr', tornR, hr, tornV]
  have hr' : ¬ (rec.length : Int) > 512 := by omega
  simp -implicitDefEqProofs [a12, F12, storeV, hr']
  refine wk_take ?_
  simp -implicitDefEqProofs
  refine wc_of (present_pc a b ha hb) (by simp [storeV]) (by simp [storeV]) ?_
  rintro _ rfl
  have hle := (presR_le a b).1
  have hX : recV (presR a b).2 = .s (.slice none 0 0) ∨ recV (presR a b).2 = .list 1 (bv (presR a b).2.1) := by
    unfold recV
    split
    · exact .inl rfl
    · exact .inr rfl
  have hL := recL rec ((presR a b).2.2 + 1) (by omega)
  have hFl := recF_len rec ((presR a b).2.2 + 1) (by omega)
  have hF : frame (putUint ((presR a b).2.2 + 1) ++ rec) = recF rec ((presR a b).2.2 + 1) := rfl
  have hp := putUint_len ((presR a b).2.2 + 1)
  have hm : (putUint ((presR a b).2.2 + 1)).length + rec.length ≤ maxLen ∧ (putUint ((presR a b).2.2 + 1)).length + rec.length ≤ maxBytes := by simp [maxLen, maxBytes]; omega
  have h4 : ¬ 4096 < (putUint ((presR a b).2.2 + 1) ++ rec).length := by omega
  have hfv : frameV (putUint ((presR a b).2.2 + 1) ++ rec) = .tup [.own true 5 1 (bv (recF rec ((presR a b).2.2 + 1))), .s (.int .i64 0)] := by unfold frameV; rw [if_neg h4]; rfl
  -- how much is written
  obtain ⟨c, hc1, hc2, hc3⟩ : ∃ c : Nat, c ≤ (recF rec ((presR a b).2.2 + 1)).length ∧ (recF rec ((presR a b).2.2 + 1)).take n.toNat = (recF rec ((presR a b).2.2 + 1)).take c ∧
      (((0 : Int) > n ∧ c = 0) ∨ (¬ (0 : Int) > n ∧ ((recF rec ((presR a b).2.2 + 1)).length : Int) < n ∧ c = (recF rec ((presR a b).2.2 + 1)).length) ∨ (¬ (0 : Int) > n ∧ ¬ ((recF rec ((presR a b).2.2 + 1)).length : Int) < n ∧ n = (c : Int))) := by
    by_cases h0 : (0 : Int) > n
    · exact ⟨0, by omega, by rw [show n.toNat = 0 by omega], .inl ⟨h0, rfl⟩⟩
    by_cases h1 : ((recF rec ((presR a b).2.2 + 1)).length : Int) < n
    · exact ⟨_, Nat.le_refl _, by rw [List.take_of_length_le (by omega), List.take_of_length_le (Nat.le_refl _)], .inr (.inl ⟨h0, h1, rfl⟩)⟩
    · exact ⟨n.toNat, by omega, rfl, .inr (.inr ⟨h0, h1, by omega⟩)⟩
  have htr : ∀ hz : ¬ (presR a b).2.2 = 1073741824, tornR a b rec n.toNat = if (presR a b).2.2 = 0 ∨ (presR a b).1 = true then (((recF rec ((presR a b).2.2 + 1)).take c, b), 0) else ((a, (recF rec ((presR a b).2.2 + 1)).take c), 0) := by
    intro hz
    unfold tornR
    rw [if_neg hr, if_neg hz, hc2]
  have hr1 : tornR a b rec n.toNat = if (presR a b).2.2 = 1073741824 then (([], []), 16) else tornR a b rec n.toNat := by
    split
    · next h => unfold tornR; rw [if_neg hr, if_pos h]
    · rfl
  generalize hv : (presR a b).2.2 = v at *
  generalize hsec : (presR a b).1 = sec at *
  generalize hF2 : recF rec (v + 1) = F at *
  rw [hr1]
  have hcF : (F.take c).length ≤ 1000000 := by simp; omega
  have hmc : min c F.length = c := by omega
  by_cases hv16 : v = 1073741824
  · rcases hX with hX | hX <;> simp -implicitDefEqProofs [presV, hX, hv, hsec, hv16, tornV]
  have htr' := htr hv16
  have hv' : ((v : Int) == 1073741824) = false := by simp; omega
  have w1 : IntKind.u64.wrap (v : Int) = (v : Int) := by rw [IntKind.wrap_u64]; omega
  have w2 : IntKind.u64.wrap ((v : Int) + 1) = (v : Int) + 1 := by rw [IntKind.wrap_u64]; omega
  have w3 : (((v + 1 : Nat)) : Int) = (v : Int) + 1 := by push_cast; rfl
  rw [if_neg hv16, htr']
  rcases hX with hX | hX
  all_goals
    simp -implicitDefEqProofs [presV, hX, hv, hsec, hv', w1, w2]
    refine wk_take ?_
    simp -implicitDefEqProofs
    refine wc_of (PutUint_nil (v + 1) (by omega)) (by simp [w3]) (by simp [w3]) ?_
    rintro _ rfl
    simp -implicitDefEqProofs [hm]
    refine wk_take ?_
    simp -implicitDefEqProofs
    refine wc_of (Frame_pc (putUint (v + 1) ++ rec) (by omega)) (by simp [bv_append]) (by simp) ?_
    rintro _ rfl
    rw [hfv]
  all_goals
    have hcs : ∃ m : Int, (if (0 : Int) > n then (0 : Int) else n) = m ∧ (if (F.length : Int) < m then (F.length : Int) else m) = (c : Int) := by
      rcases hc3 with ⟨h1, rfl⟩ | ⟨h1, h2, rfl⟩ | ⟨h1, h2, h3⟩
      · exact ⟨0, by rw [if_pos h1], by rw [if_neg (by omega)]; rfl⟩
      · exact ⟨n, by rw [if_neg h1], by rw [if_pos h2]⟩
      · exact ⟨n, by rw [if_neg h1], by rw [if_neg h2, h3]⟩
    obtain ⟨m, hm1, hm2⟩ := hcs
    simp only [gt_iff_lt] at hm1
    have hc0 : ¬ (c : Int) < 0 := by omega
    have htg : ∃ t : Bool, (t = true ↔ ¬ (v = 0 ∨ sec = true)) ∧ ((0 < v → (decide (0 < v) = true ∧ (!sec) = t)) ∧ (¬ 0 < v → t = false)) := by
      by_cases hz : v = 0
      · exact ⟨false, by simp [hz], by omega, fun _ => rfl⟩
      · exact ⟨!sec, by cases sec <;> simp [hz], fun _ => ⟨by simp; omega, rfl⟩, by omega⟩
    obtain ⟨t, ht1, ht2, ht3⟩ := htg
    by_cases hz : 0 < v
    · obtain ⟨_, rfl⟩ := ht2 hz
      simp -implicitDefEqProofs [hz]
      refine wk_take ?_
      simp -implicitDefEqProofs
      refine wc_of (number_pc (!sec)) (by simp) (by simp) ?_
      rintro _ rfl
      cases sec
      · simp -implicitDefEqProofs [hm1, hm2, hc0, hc1, bv_take]
        refine wk_take ?_
        simp -implicitDefEqProofs
        refine wc_of (clone_pc (bv (F.take c)) (by simpa using hcF)) (by simp) (by simp) ?_
        rintro _ rfl
        simp -implicitDefEqProofs
        refine wk_take ?_
        simp -implicitDefEqProofs
        refine wc_of (clone_pc (bv a) (by simpa using ha)) (by simp) (by simp) ?_
        rintro _ rfl
        have hz0 : ¬ v = 0 := by omega
        simp -implicitDefEqProofs [hz0, tornV, storeV]
      · simp -implicitDefEqProofs [hm1, hm2, hc0, hc1, bv_take]
        refine wk_take ?_
        simp -implicitDefEqProofs
        refine wc_of (clone_pc (bv (F.take c)) (by simpa using hcF)) (by simp) (by simp) ?_
        rintro _ rfl
        simp -implicitDefEqProofs
        refine wk_take ?_
        simp -implicitDefEqProofs
        refine wc_of (clone_pc (bv b) (by simpa using hb)) (by simp) (by simp) ?_
        rintro _ rfl
        simp -implicitDefEqProofs [tornV, storeV]
    · have hz0 : v = 0 := by omega
      simp -implicitDefEqProofs [hz0]
      refine wk_take ?_
      simp -implicitDefEqProofs
      refine wc_of (number_pc false) (by simp) (by simp) ?_
      rintro _ rfl
      simp -implicitDefEqProofs [hm1, hm2, hc0, hc1, bv_take]
      refine wk_take ?_
      simp -implicitDefEqProofs
      refine wc_of (clone_pc (bv (F.take c)) (by simpa using hcF)) (by simp) (by simp) ?_
      rintro _ rfl
      simp -implicitDefEqProofs
      refine wk_take ?_
      simp -implicitDefEqProofs
      refine wc_of (clone_pc (bv b) (by simpa using hb)) (by simp) (by simp) ?_
      rintro _ rfl
      simp -implicitDefEqProofs [tornV, storeV]
end Go.Proofs.Ytbjgnoegblejhaa

namespace Go.Proofs.Ytbjgnoegblejhaa
open Go.RowKit Go.Proofs

theorem New_pc : PC Try.prog 16 [] (fun r => r = .agg [.s (.slice none 0 0), .s (.slice none 0 0)]) := by
  refine pc_end c16 mixed rfl ?_
  simp -implicitDefEqProofs [a16, F16, List.range, List.range.loop]
theorem rNew_pc : PC Try.prog 17 [] (fun r => r = .agg [.s (.slice none 0 0), .s (.slice none 0 0)]) := by
  refine pc_end c17 mixed rfl ?_
  simp -implicitDefEqProofs [a17, F17, List.range, List.range.loop]
/-- any number of bytes that holds a whole frame -/
def big : Nat := 9223372036854775807
theorem torn_big {a b rec : List UInt8} {n : Nat} (h : 536 ≤ n) : tornR a b rec n = tornR a b rec big := by
  unfold tornR
  split
  · rfl
  · next h1 =>
    have := recF_len rec ((presR a b).2.2 + 1) (by omega)
    rw [List.take_of_length_le (by omega), List.take_of_length_le (by unfold big; omega)]
theorem Write_pc (a b rec : List UInt8) (ha : a.length ≤ 1000000) (hb : b.length ≤ 1000000) : PC Try.prog 10 [storeV a b, .list 1 (bv rec)] (fun r => r = tornV (tornR a b rec big)) := by
  refine pc_end c10 mixed rfl ?_
  simp -implicitDefEqProofs [a10, F10, storeV]
  refine wk_take ?_
  simp -implicitDefEqProofs
  refine wc_of (Torn_pc a b rec 9223372036854775807 ha hb) (by simp [storeV]) (by simp [storeV]) ?_
  rintro _ rfl
  have e : (9223372036854775807 : Int).toNat = big := rfl
  rw [e]
  generalize tornR a b rec big = r
  by_cases h : r.2 = 0
  · simp -implicitDefEqProofs [tornV, h, storeV]
  · simp -implicitDefEqProofs [tornV, h]
theorem rwhole_pc (b : List UInt8) (hb : b.length ≤ 1000000) : PC Try.prog 23 [.list 1 (bv b)] (fun r => r = .tup [if (wholeR b).2 = 0 then .s (.slice none 0 0) else .own true 5 1 (bv (wholeR b).1), .s (.int .i64 (wholeR b).2)]) := by
  refine pc_end c23 mixed rfl ?_
  simp -implicitDefEqProofs [a23, F23]
  refine wk_take ?_
  simp -implicitDefEqProofs
  refine wc_of (RUnframe_pc b hb) (by simp) (by simp) ?_
  rintro _ rfl
  rcases hf : rdFrame b with ⟨x, n, e⟩
  rcases fw_cases hf with ⟨rfl, hx, hn⟩ | ⟨rfl, rfl, he, _⟩
  case inr =>
    have h1 : ((e : Int) != 0) = true := by simp; omega
    simp -implicitDefEqProofs [ufV, he, h1, wholeR, hf]
  by_cases hnb : n = b.length
  case neg =>
    have h1 : ((n : Int) != b.length) = true := by rw [neq_nat]; simpa using hnb
    simp -implicitDefEqProofs [ufV, h1, wholeR, hf, hnb]
  have h1 : ((n : Int) != b.length) = false := by rw [neq_nat]; simpa using hnb
  simp -implicitDefEqProofs [ufV, h1]
  refine wk_take ?_
  simp -implicitDefEqProofs
  refine wc_of (RUint_pc x) (by simp) (by simp) ?_
  rintro _ rfl
  rcases hu : rdUint x with ⟨v, k, e⟩
  rcases rdUint_cases hu with ⟨rfl, hv, hk0, hkl, hk10⟩ | ⟨rfl, rfl, he⟩
  case inr =>
    have he0 : e ≠ 0 := by omega
    have h2 : ((e : Int) != 0) = true := by simp; omega
    simp -implicitDefEqProofs [uintV, h2, wholeR, hf, hnb, hu, he0]
  by_cases h2 : v < 1
  · have h2'' : v = 0 := by omega
    simp -implicitDefEqProofs [uintV, h2'', wholeR, hf, hnb, hu]
  have h2' : ¬ (v : Int) < 1 := by omega
  have hv0 : v ≠ 0 := by omega
  by_cases h3 : 1073741824 < v
  · have h3' : (v : Int) > 1073741824 := by omega
    simp -implicitDefEqProofs [uintV, h2', h3', h3, wholeR, hf, hnb, hu]
  have h3' : ¬ (v : Int) > 1073741824 := by omega
  have w1 : IntKind.i64.wrap ((x.length : Int) - k) = (x.length : Int) - k := wrap64 (by omega)
  by_cases h4 : 512 < x.length - k
  · have h4' : (x.length : Int) - k > 512 := by omega
    simp -implicitDefEqProofs [uintV, h2', h3', h4', h4, w1, wholeR, hf, hnb, hu]
  have h4' : ¬ (x.length : Int) - k > 512 := by omega
  have w2 : IntKind.i64.wrap (v : Int) = v := wrap64 (by omega)
  have k0 : ¬ (k : Int) < 0 := by omega
  have htk : (x.drop k).take (x.length - k) = x.drop k := List.take_of_length_le (by simp)
  have hm : x.length - k ≤ maxLen ∧ x.length - k ≤ maxBytes := by simp [maxLen, maxBytes]; omega
  simp -implicitDefEqProofs [uintV, h2, hv0, h2', h3', h4', h3, h4, w1, w2, k0, hkl, bv_drop, bv_take, htk, hm, wholeR, hf, hnb, hu]
theorem rRead_pc (a b : List UInt8) (ha : a.length ≤ 1000000) (hb : b.length ≤ 1000000) : PC Try.prog 9 [storeV a b] (fun r => r = readV false (presR a b).2) := by
  refine pc_end c9 mixed rfl ?_
  simp -implicitDefEqProofs [a9, F9, storeV]
  refine wk_take ?_
  simp -implicitDefEqProofs
  refine wc_of (rwhole_pc a ha) (by simp) (by simp) ?_
  rintro _ rfl
  by_cases h1 : (wholeR a).2 = 0
  · simp -implicitDefEqProofs [h1]
    refine wk_take ?_
    simp -implicitDefEqProofs
    refine wc_of (rwhole_pc b hb) (by simp) (by simp) ?_
    rintro _ rfl
    by_cases h2 : (wholeR b).2 = 0
    · simp -implicitDefEqProofs [h2, presR, h1, readV]
    · have h3 : (((wholeR b).2 : Int) == 0) = false := by simp; omega
      have h4 : ¬ (0 : Int) ≥ (wholeR b).2 := by omega
      have h4' : ¬ (wholeR b).2 = 0 := by omega
      have h5 : 0 < (wholeR b).2 := by omega
      simp -implicitDefEqProofs [h2, h3, h4, h5, presR, h1, readV]
  · have h3 : (((wholeR a).2 : Int) == 0) = false := by simp; omega
    simp -implicitDefEqProofs [h1, h3]
    refine wk_take ?_
    simp -implicitDefEqProofs
    refine wc_of (rwhole_pc b hb) (by simp) (by simp) ?_
    rintro _ rfl
    by_cases h2 : (wholeR a).2 < (wholeR b).2
    · have h4 : ¬ ((wholeR a).2 : Int) ≥ (wholeR b).2 := by omega
      have h4' : ¬ (wholeR b).2 ≤ (wholeR a).2 := by omega
      have h5 : ¬ (wholeR b).2 = 0 := by omega
      simp -implicitDefEqProofs [h3, h4, h4', h5, presR, h2, readV]
    · have h4 : ((wholeR a).2 : Int) ≥ (wholeR b).2 := by omega
      have h4' : (wholeR b).2 ≤ (wholeR a).2 := by omega
      by_cases h5 : (wholeR b).2 = 0
      · simp -implicitDefEqProofs [h3, h5, presR, h1, readV]
      · simp -implicitDefEqProofs [h3, h4, h4', h5, presR, h2, h1, readV]
theorem Same_pc (a b c d : List UInt8) : PC Try.prog 14 [storeV a b, storeV c d] (fun r => r = .s (.bool (a == c && b == d))) := by
  refine pc_end c14 mixed rfl ?_
  by_cases h1 : a = c
  · by_cases h2 : b = d
    · simp -implicitDefEqProofs [a14, F14, storeV, toList_mk, h1, h2]
    · have h2' : (b == d) = false := by simpa using h2
      simp -implicitDefEqProofs [a14, F14, storeV, toList_mk, h1, h2']
  · have h1' : (a == c) = false := by simpa using h1
    simp -implicitDefEqProofs [a14, F14, storeV, toList_mk, h1']
end Go.Proofs.Ytbjgnoegblejhaa

namespace Go.Proofs.Ytbjgnoegblejhaa
open Go.RowKit Go.Proofs

/-- what next returns -/
def nextV (a b rec : List UInt8) : V :=
  if 512 < rec.length then .tup [.s (.slice none 0 0), .s (.bool false), .s (.int .i64 3)]
  else if (presR a b).2.2 = 1073741824 then .tup [.s (.slice none 0 0), .s (.bool false), .s (.int .i64 16)]
  else .tup [.list 1 (bv (recF rec ((presR a b).2.2 + 1))), .s (.bool (decide ((presR a b).2.2 = 0 ∨ (presR a b).1 = true))), .s (.int .i64 0)]
theorem pres_max (a b : List UInt8) : (presR a b).2.2 = max (wholeR a).2 (wholeR b).2 ∧ (decide ((presR a b).2.2 = 0 ∨ (presR a b).1 = true) = (decide ((wholeR a).2 = 0 ∧ (wholeR b).2 = 0) || decide ((wholeR b).2 > (wholeR a).2))) := by
  unfold presR
  split
  · next h =>
    refine ⟨by simp only; omega, ?_⟩
    have : (wholeR b).2 > (wholeR a).2 := h
    simp [this]
  · next h =>
    refine ⟨by simp only; omega, ?_⟩
    have h' : ¬ (wholeR b).2 > (wholeR a).2 := h
    have e : ((wholeR a).2 = 0) ↔ ((wholeR a).2 = 0 ∧ (wholeR b).2 = 0) := by omega
    simp [h']
    omega
set_option maxHeartbeats 2000000 in
theorem next_pc (a b rec : List UInt8) (ha : a.length ≤ 1000000) (hb : b.length ≤ 1000000) : PC Try.prog 27 [storeV a b, .list 1 (bv rec)] (fun r => r = nextV a b rec) := by
  refine pc_end c27 mixed rfl ?_
  by_cases hr : 512 < rec.length
  · have hr' : (rec.length : Int) > 512 := by omega
    simp -implicitDefEqProofs [a27, F27, storeV, hr', hr, nextV]
  have hr' : ¬ (rec.length : Int) > 512 := by omega
  simp -implicitDefEqProofs [a27, F27, storeV, hr']
  refine wk_take ?_
  simp -implicitDefEqProofs
  refine wc_of (rwhole_pc a ha) (by simp) (by simp) ?_
  rintro _ rfl
  obtain ⟨hp1, hp2⟩ := pres_max a b
  have ha1 := (wholeR_le a).1
  have hb1 := (wholeR_le b).1
  have hnx : nextV a b rec = if max (wholeR a).2 (wholeR b).2 = 1073741824 then .tup [.s (.slice none 0 0), .s (.bool false), .s (.int .i64 16)]
      else .tup [.list 1 (bv (recF rec (max (wholeR a).2 (wholeR b).2 + 1))), .s (.bool (decide ((wholeR a).2 = 0 ∧ (wholeR b).2 = 0) || decide ((wholeR b).2 > (wholeR a).2))), .s (.int .i64 0)] := by
    unfold nextV
    rw [if_neg hr, hp2, hp1]
  rw [hnx]
  have hcb := rwhole_pc b hb
  clear hnx hp1 hp2
  generalize (wholeR a).1 = ra at *
  generalize (wholeR b).1 = rb at *
  generalize (wholeR a).2 = va at *
  generalize (wholeR b).2 = vb at *
  obtain ⟨M, hM⟩ : ∃ M, M = max va vb := ⟨_, rfl⟩
  rw [← hM]
  have hML : M ≤ 1073741824 := by omega
  have e1 : ((va : Int) == 0) = decide (va = 0) := by rw [Bool.eq_iff_iff]; simp
  have e2 : ((vb : Int) == 0) = decide (vb = 0) := by rw [Bool.eq_iff_iff]; simp
  have e3 : (if va < vb then (vb : Int) else (va : Int)) = (M : Int) := by split <;> omega
  have e4 : ((M : Int) == 1073741824) = decide (M = 1073741824) := by rw [Bool.eq_iff_iff]; simp; omega
  have w1 : IntKind.i64.wrap ((M : Int) + 1) = (M : Int) + 1 := wrap64 (by omega)
  have w2 : IntKind.u64.wrap ((M : Int) + 1) = (M : Int) + 1 := by rw [IntKind.wrap_u64]; omega
  have w3 : (((M + 1 : Nat)) : Int) = (M : Int) + 1 := by push_cast; rfl
  have hL := recL rec (M + 1) (by omega)
  have hp := putUint_len (M + 1)
  have hm : (putUint (M + 1)).length + rec.length ≤ maxLen ∧ (putUint (M + 1)).length + rec.length ≤ maxBytes := by simp [maxLen, maxBytes]; omega
  have hfv : frameV (putUint (M + 1) ++ rec) = .tup [.own true 5 1 (bv (recF rec (M + 1))), .s (.int .i64 0)] := by unfold frameV; rw [if_neg (by omega)]; rfl
  have c1 : ((va = 0) = True ∧ ((va : Int) == 0) = true) ∨ ((va = 0) = False ∧ ((va : Int) == 0) = false) := by
    by_cases h : va = 0
    · exact .inl ⟨eq_true h, by simp [h]⟩
    · exact .inr ⟨eq_false h, by simp [h]⟩
  have c2 : ((vb = 0) = True ∧ ((vb : Int) == 0) = true) ∨ ((vb = 0) = False ∧ ((vb : Int) == 0) = false) := by
    by_cases h : vb = 0
    · exact .inl ⟨eq_true h, by simp [h]⟩
    · exact .inr ⟨eq_false h, by simp [h]⟩
  have c3 : ((va < vb) = True) ∨ ((va < vb) = False) := by
    by_cases h : va < vb
    · exact .inl (eq_true h)
    · exact .inr (eq_false h)
  have c4 : ((M = 1073741824) = True ∧ ((M : Int) == 1073741824) = true) ∨ ((M = 1073741824) = False ∧ ((M : Int) == 1073741824) = false) := by
    by_cases h : M = 1073741824
    · exact .inl ⟨eq_true h, by simp [h]⟩
    · exact .inr ⟨eq_false h, by simp; omega⟩
  clear e1 e2 e4
  rcases c1 with ⟨h1, e1⟩ | ⟨h1, e1⟩
  all_goals rcases c2 with ⟨h2, e2⟩ | ⟨h2, e2⟩
  all_goals
    simp -implicitDefEqProofs only [h1, if_true, if_false]
    simp -implicitDefEqProofs
    refine wk_take ?_
    simp -implicitDefEqProofs
    refine wc_of hcb (by simp) (by simp) ?_
    rintro _ rfl
    simp -implicitDefEqProofs only [h2, if_true, if_false]
    rcases c4 with ⟨h4, e4⟩ | ⟨h4, e4⟩
    · simp -implicitDefEqProofs [e3, e4, h4]
    · simp -implicitDefEqProofs [e3, e4, w1, w2]
      refine wk_take ?_
      simp -implicitDefEqProofs
      refine wc_of (RPutUint_nil (M + 1) (by omega)) (by simp [w3]) (by simp [w3]) ?_
      rintro _ rfl
      simp -implicitDefEqProofs [hm]
      refine wk_take ?_
      simp -implicitDefEqProofs
      refine wc_of (RFrame_pc (putUint (M + 1) ++ rec) (by omega)) (by simp [bv_append]) (by simp) ?_
      rintro _ rfl
      rw [hfv]
      rcases c3 with h3 | h3
      · simp -implicitDefEqProofs [e1, e2, h1, h2, h3, h4]
      · simp -implicitDefEqProofs [e1, e2, h1, h2, h3, h4]
end Go.Proofs.Ytbjgnoegblejhaa

namespace Go.Proofs.Ytbjgnoegblejhaa
open Go.RowKit Go.Proofs

theorem rTorn_pc (a b rec : List UInt8) (n : Int) (ha : a.length ≤ 1000000) (hb : b.length ≤ 1000000) : PC Try.prog 13 [storeV a b, .list 1 (bv rec), .s (.int .i64 n)] (fun r => r = tornV (tornR a b rec n.toNat)) := by
  refine pc_end c13 mixed rfl ?_
  simp -implicitDefEqProofs [a13, F13, storeV]
  refine wk_take ?_
  simp -implicitDefEqProofs
  refine wc_of (next_pc a b rec ha hb) (by simp [storeV]) (by simp [storeV]) ?_
  rintro _ rfl
  by_cases hr : 512 < rec.length
  · simp -implicitDefEqProofs [nextV, hr, tornR, tornV]
  by_cases hv : (presR a b).2.2 = 1073741824
  · simp -implicitDefEqProofs [nextV, hr, hv, tornR, tornV]
  have hFl := recF_len rec ((presR a b).2.2 + 1) (by omega)
  have htr : tornR a b rec n.toNat = if decide ((presR a b).2.2 = 0 ∨ (presR a b).1 = true) = true then (((recF rec ((presR a b).2.2 + 1)).take n.toNat, b), 0) else ((a, (recF rec ((presR a b).2.2 + 1)).take n.toNat), 0) := by
    unfold tornR
    rw [if_neg hr, if_neg hv]
    simp only [decide_eq_true_eq]
  have hnx : nextV a b rec = .tup [.list 1 (bv (recF rec ((presR a b).2.2 + 1))), .s (.bool (decide ((presR a b).2.2 = 0 ∨ (presR a b).1 = true))), .s (.int .i64 0)] := by
    unfold nextV
    rw [if_neg hr, if_neg hv]
  rw [htr, hnx]
  generalize decide ((presR a b).2.2 = 0 ∨ (presR a b).1 = true) = first at *
  generalize recF rec ((presR a b).2.2 + 1) = F at *
  obtain ⟨c, m, hc1, hc2, hm1, hm2⟩ : ∃ (c : Nat) (m : Int), c ≤ F.length ∧ F.take n.toNat = F.take c ∧ (if (F.length : Int) < n then (F.length : Int) else n) = m ∧ (if m < 0 then (0 : Int) else m) = (c : Int) := by
    by_cases h1 : (F.length : Int) < n
    · exact ⟨F.length, F.length, Nat.le_refl _, by rw [List.take_of_length_le (by omega), List.take_of_length_le (Nat.le_refl _)], by rw [if_pos h1], by rw [if_neg (by omega)]⟩
    by_cases h0 : n < 0
    · exact ⟨0, n, by omega, by rw [show n.toNat = 0 by omega], by rw [if_neg h1], by rw [if_pos h0]; rfl⟩
    · exact ⟨n.toNat, n, by omega, rfl, by rw [if_neg h1], by rw [if_neg h0]; omega⟩
  rw [hc2]
  have hc0 : ¬ (c : Int) < 0 := by omega
  have hma : a.length ≤ maxLen ∧ a.length ≤ maxBytes := by simp [maxLen, maxBytes]; omega
  have hmb : b.length ≤ maxLen ∧ b.length ≤ maxBytes := by simp [maxLen, maxBytes]; omega
  cases first
  · simp -implicitDefEqProofs [hm1, hm2, hc0, hc1, bv_take, hma, hmb, tornV, storeV]
  · simp -implicitDefEqProofs [hm1, hm2, hc0, hc1, bv_take, hma, hmb, tornV, storeV]
theorem rWrite_pc (a b rec : List UInt8) (ha : a.length ≤ 1000000) (hb : b.length ≤ 1000000) : PC Try.prog 11 [storeV a b, .list 1 (bv rec)] (fun r => r = tornV (tornR a b rec big)) := by
  refine pc_end c11 mixed rfl ?_
  simp -implicitDefEqProofs [a11, F11, storeV]
  refine wk_take ?_
  simp -implicitDefEqProofs
  refine wc_of (rTorn_pc a b rec 8192 ha hb) (by simp [storeV]) (by simp [storeV]) ?_
  rintro _ rfl
  have e8 : tornR a b rec (8192 : Int).toNat = tornR a b rec big := torn_big (by decide)
  rw [e8]
  generalize tornR a b rec big = r
  by_cases h : r.2 = 0
  · simp -implicitDefEqProofs [tornV, h, storeV]
  · simp -implicitDefEqProofs [tornV, h]
theorem tmod_pos {n m : Int} (hm : 0 < m) : (n.tmod m < 0 ∧ n % m = n.tmod m + m) ∨ (¬ n.tmod m < 0 ∧ n % m = n.tmod m) := by
  have h1 := Int.emod_nonneg n (b := m) (by omega)
  have h2 := Int.emod_lt_of_pos n hm
  rw [Int.tmod_eq_emod]
  split
  · right; omega
  · left; omega
theorem Mod_pc (n m : Int) (h1 : 1 ≤ m) (h2 : m ≤ 4611686018427387904) : PC Try.prog 20 [.s (.int .i64 n), .s (.int .i64 m)] (fun r => r = .s (.int .i64 (n % m))) := by
  refine pc_end c20 mixed rfl ?_
  have e1 : ¬ m < 1 := by omega
  have e2 : ¬ m = 0 := by omega
  have hb := Int.emod_nonneg n (b := m) (by omega)
  have hc := Int.emod_lt_of_pos n (b := m) (by omega)
  rcases tmod_pos (n := n) (m := m) (by omega) with ⟨h3, h4⟩ | ⟨h3, h4⟩
  · have e3 : IntKind.i64.wrap (n.tmod m + m) = n.tmod m + m := wrap64 (by omega)
    simp -implicitDefEqProofs [a20, F20, e1, e2, h3, h4, e3]
  · simp -implicitDefEqProofs [a20, F20, e1, e2, h3, h4]
theorem Light_pc (xs : List V) : PC Try.prog 15 [.list 1 xs] (fun r => r = .s (.bool (decide (xs.length ≤ 400)))) := by
  refine pc_end c15 mixed rfl ?_
  by_cases h : xs.length ≤ 400
  · have h' : (xs.length : Int) ≤ 400 := by omega
    simp -implicitDefEqProofs [a15, F15, h, h']
  · have h' : ¬ (xs.length : Int) ≤ 400 := by omega
    simp -implicitDefEqProofs [a15, F15, h, h']
/-- Write and Torn at a new store -/
theorem Write_new (rec : List UInt8) : PC Try.prog 10 [.agg [.s (.slice none 0 0), .s (.slice none 0 0)], .list 1 (bv rec)] (fun r => r = tornV (tornR [] [] rec big)) := by
  refine pc_nil (ys := [storeV [] [], .list 1 (bv rec)]) ?_ (by simp [storeV, bv]) (by simp [storeV])
  exact Write_pc [] [] rec (by simp) (by simp)
theorem Read_new : PC Try.prog 8 [.agg [.s (.slice none 0 0), .s (.slice none 0 0)]] (fun r => r = .tup [.s (.slice none 0 0), .s (.int .i64 0), .s (.int .i64 10)]) := by
  refine pc_nil (ys := [storeV [] []]) ?_ (by simp [storeV, bv]) (by simp [storeV])
  exact Read_pc [] [] (by simp) (by simp)
@[simp] theorem bytesOf_nil3 : bytesOf [] = some [] := rfl
theorem wholeR_nil : wholeR [] = ([], 0) := rfl
theorem presR_nil : presR [] [] = (false, ([], 0)) := rfl
theorem write1 {rec : List UInt8} (hr : rec.length ≤ 512) : tornR [] [] rec big = ((recF rec 1, []), 0) ∧ presR (recF rec 1) [] = (false, (rec, 1)) := by
  have h1 := recF_len rec 1 hr
  have hw := wholeR_frame rec 1 hr (by omega)
  refine ⟨?_, ?_⟩
  · unfold tornR
    rw [if_neg (by omega), presR_nil, if_neg (by simp), if_pos (by simp), List.take_of_length_le (show (recF rec 1).length ≤ big by unfold big; omega)]
  · rw [presR, hw, wholeR_nil, if_neg (by simp)]
theorem write2 {a rec : List UInt8} (ha : a.length ≤ 512) (hr : rec.length ≤ 512) (cut : Nat) : tornR (recF a 1) [] rec cut = ((recF a 1, (recF rec 2).take cut), 0) := by
  unfold tornR
  rw [if_neg (by omega), (write1 ha).2, if_neg (by simp), if_neg (by simp)]
theorem damaged {a rec : List UInt8} (ha : a.length ≤ 512) (hr : rec.length ≤ 512) {cut : Nat} (hc : cut < (recF rec 2).length) : presR (recF a 1) ((recF rec 2).take cut) = (false, (a, 1)) := by
  have hw := wholeR_frame a 1 ha (by omega)
  rw [presR, hw, wholeR_cut rec 2 cut hr hc, if_neg (by simp)]
theorem awake_pc : PC Try.prog 7 [] (fun r => r = .s (.bool true)) := by
  refine pc_end c7 mixed rfl ?_
  have f1 := recF_len [120] 1 (by simp)
  have f2 := recF_len [121] 2 (by simp)
  have l1 : ((recF [121] 2).take 3).length ≤ 1000000 := by simp; omega
  have l2 : 3 < (recF [121] 2).length := by decide +kernel
  simp -implicitDefEqProofs [a7, F7]
  refine wk_take ?_
  simp -implicitDefEqProofs
  refine wc_of New_pc (by simp) (by simp) ?_
  rintro _ rfl
  simp -implicitDefEqProofs
  refine wk_take ?_
  simp -implicitDefEqProofs
  refine wc_of (Write_new [120]) (by simp [bv]) (by simp) ?_
  rintro _ rfl
  rw [(write1 (rec := [120]) (by simp)).1]
  simp -implicitDefEqProofs [tornV, storeV]
  refine wk_take ?_
  simp -implicitDefEqProofs
  refine wc_nil (args := [storeV (recF [120] 1) [], .list 1 (bv [121]), .s (.int .i64 3)]) (Torn_pc _ _ _ 3 (by omega) (by simp)) (by simp [storeV, bv]) (by simp [storeV]) (by simp) ?_
  rintro _ rfl
  have e3 : (3 : Int).toNat = 3 := rfl
  rw [e3, write2 (by simp) (by simp)]
  simp -implicitDefEqProofs [tornV, storeV]
  refine wk_take ?_
  simp -implicitDefEqProofs
  refine wc_nil (args := [storeV (recF [120] 1) []]) (Read_pc _ _ (by omega) (by simp)) (by simp [storeV, bv]) (by simp [storeV]) (by simp) ?_
  rintro _ rfl
  rw [(write1 (rec := [120]) (by simp)).2]
  simp -implicitDefEqProofs [readV]
  refine wk_take ?_
  simp -implicitDefEqProofs
  refine wc_of (Read_pc (recF [120] 1) ((recF [121] 2).take 3) (by omega) l1) (by simp [storeV]) (by simp [storeV]) ?_
  rintro _ rfl
  rw [damaged (by simp) (by simp) l2]
  simp -implicitDefEqProofs [readV]
  refine wk_take ?_
  simp -implicitDefEqProofs
  refine wc_of New_pc (by simp) (by simp) ?_
  rintro _ rfl
  simp -implicitDefEqProofs
  refine wk_take ?_
  simp -implicitDefEqProofs
  refine wc_of Read_new (by simp) (by simp) ?_
  rintro _ rfl
  simp -implicitDefEqProofs [toList_mk]
end Go.Proofs.Ytbjgnoegblejhaa

namespace Go.Proofs.Ytbjgnoegblejhaa
open Go.RowKit Go.Proofs

theorem sh_bytes {dep : Nat} {el : List V} (h : Shape Try.prog (dep + 2) 22 el) : ∃ m : List UInt8, el = [.list 1 (bv m)] := by
  unfold Shape at h
  rw [Try.underlying22] at h
  obtain ⟨els, rfl, _, hb⟩ := h
  have e1 : Try.prog.cellsOf 5 = 1 := by kernel_rfl
  have e2 : aggT Try.prog 5 = some false := by kernel_rfl
  rw [e1]
  have : ∀ els : List (List V), (∀ el ∈ els, Shape Try.prog (dep + 1) 5 el) → ∃ m : List UInt8, els.map (elemD Try.prog 5) = bv m := by
    intro els
    induction els with
    | nil => intro _; exact ⟨[], rfl⟩
    | cons x r ih =>
      intro h
      obtain ⟨m, hm⟩ := ih (fun el hel => h el (by simp [hel]))
      have hx := h x (by simp)
      unfold Shape at hx
      rw [Try.underlying5] at hx
      obtain ⟨n, hn, rfl⟩ := hx
      have hb : 0 ≤ n ∧ n ≤ 255 := by simpa [Lit.wf, IntKind.min, IntKind.max, IntKind.signed, IntKind.bits] using hn
      refine ⟨UInt8.ofNat n.toNat :: m, ?_⟩
      rw [List.map_cons, hm]
      have : ((UInt8.ofNat n.toNat).toNat : Int) = n := by rw [UInt8.toNat_ofNat_of_lt' (by simp; omega)]; omega
      generalize UInt8.ofNat n.toNat = b at this
      subst this
      simp [elemD, e2, bv]
  obtain ⟨m, hm⟩ := this els hb
  exact ⟨m, by rw [hm]⟩
theorem sh_int {dep : Nat} {x : V} (h : ArgShape Try.prog (dep + 1) 3 x) : ∃ n : Int, x = .s (.int .i64 n) := by
  unfold ArgShape at h
  rw [Try.underlying3] at h
  simp only at h
  unfold Shape at h
  rw [Try.underlying3] at h
  obtain ⟨n, _, hn⟩ := h
  exact ⟨n, by simpa using hn⟩
theorem sh_byte {dep : Nat} {x : V} (h : ArgShape Try.prog (dep + 1) 5 x) : ∃ n : UInt8, x = .s (.int .u8 n.toNat) := by
  unfold ArgShape at h
  rw [Try.underlying5] at h
  simp only at h
  unfold Shape at h
  rw [Try.underlying5] at h
  obtain ⟨n, hn, hx⟩ := h
  have hb : 0 ≤ n ∧ n ≤ 255 := by simpa [Lit.wf, IntKind.min, IntKind.max, IntKind.signed, IntKind.bits] using hn
  have : ((UInt8.ofNat n.toNat).toNat : Int) = n := by rw [UInt8.toNat_ofNat_of_lt' (by simp; omega)]; omega
  exact ⟨UInt8.ofNat n.toNat, by rw [this]; simpa using hx⟩
theorem sh_msg {dep : Nat} {x : V} (h : ArgShape Try.prog (dep + 2) 22 x) : ∃ l : List UInt8, x = .list 1 (bv l) := by
  unfold ArgShape at h
  rw [Try.underlying22] at h
  simp only at h
  obtain ⟨m, hm⟩ := sh_bytes h
  exact ⟨m, by simpa using hm⟩
theorem parts2 {P : Program} {dep : Nat} {fs : Array Field} {parts : List (List V)} {f0 f1 : Field} (e : fs = #[f0, f1]) (hl : parts.length = fs.size)
    (h : ∀ (i : Nat) (fl : Field) (p : List V), fs[i]? = some fl → parts[i]? = some p → Shape P dep fl.type p) :
    ∃ a b, parts = [a, b] ∧ Shape P dep f0.type a ∧ Shape P dep f1.type b := by
  subst e
  match parts, hl with
  | [a, b], _ => exact ⟨a, b, rfl, h 0 f0 a rfl rfl, h 1 f1 b rfl rfl⟩
theorem sh_store {dep : Nat} {x : V} (h : ArgShape Try.prog (dep + 3) 24 x) : ∃ a b : List UInt8, x = storeV a b := by
  unfold ArgShape at h
  rw [Try.underlying24] at h
  simp only at h
  obtain ⟨xs, rfl, h⟩ := h
  unfold Shape at h
  rw [Try.underlying24] at h
  obtain ⟨parts, rfl, hl, hp⟩ := h
  obtain ⟨a, b, rfl, ha, hb⟩ := parts2 rfl hl hp
  obtain ⟨n, rfl⟩ := sh_bytes ha
  obtain ⟨o, rfl⟩ := sh_bytes hb
  exact ⟨n, o, rfl⟩
end Go.Proofs.Ytbjgnoegblejhaa
