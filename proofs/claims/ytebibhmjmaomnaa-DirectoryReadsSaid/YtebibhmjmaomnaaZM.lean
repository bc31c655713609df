/- Texts put behind one another: D1, D2, D3, D4, D5, W1, W2, D6, D7, D8. -/
import Derived.Test.YtebibhmjmaomnaaZK
import Derived.WalkKit
import Derived.Deep.LoopGhost
import Derived.Deep.Draws
import Derived.Shelf.SlSorted.Search
import Derived.RegionTactic
import Derived.Lib.Hide
import Derived.Test.YtebibhmjmaomnaaZE
set_option linter.unusedVariables false
set_option linter.unusedSimpArgs false
namespace Go.Proofs.Ytebibhmjmaomnaa
open Go.RowKit Go.Proofs
def letB (c : Int) : Bool := decide (97 ≤ c ∧ c ≤ 122)
def parB (c : Int) : Bool := letB c || decide ((48 ≤ c ∧ c ≤ 57) ∨ c = 95 ∨ c = 45)
def resv (s : ByteArray) : Bool := (s.toList == [97, 108, 108]) || (s.toList == [97, 110, 121]) || (s.toList == [111, 102]) || (s.toList == [112, 114, 105, 111]) || (s.toList == [108, 105, 109, 105, 116])
def bI (s : ByteArray) (i : Nat) : Int := if h : i < s.size then (s[i].toNat : Int) else 0
theorem bI_get {s : ByteArray} {i : Nat} (h : i < s.size) : ∃ b : UInt8, s[i]? = some b ∧ (b.toNat : Int) = bI s i := ⟨s[i], getElem?_pos s i h, by simp [bI, h]⟩
def nameOk (s : ByteArray) : Bool := decide (1 ≤ s.size ∧ s.size ≤ 12) && letB (bI s 0) && !resv s && (List.range s.size).all fun i => parB (bI s i)
theorem cha (c : Int) : (c < 45) ∨ (c = 45) ∨ (46 ≤ c ∧ c ≤ 47) ∨ (48 ≤ c ∧ c ≤ 57) ∨ (58 ≤ c ∧ c ≤ 94) ∨ (c = 95) ∨ (c = 96) ∨ (97 ≤ c ∧ c ≤ 122) ∨ (123 ≤ c) := by omega
theorem Letter_pc (c : Int) : PC Try.prog 70 [.s (.int .u8 c)] (fun r => r = .s (.bool (letB c))) := by
  refine pc_end c70 mixed rfl ?_
  rcases cha c with h | h | h | h | h | h | h | h | h
  · have e1 : ¬ 97 ≤ c := by omega
    have e2 : c ≤ 122 := by omega
    have e3 : ¬ 48 ≤ c := by omega
    have e4 : c ≤ 57 := by omega
    have e5 : (c == 95) = false := by simp; omega
    have e6 : (c == 45) = false := by simp; omega
    have l1 : letB c = false := by simp [letB]; omega
    have l2 : parB c = false := by simp [parB, letB]; omega
    simp -implicitDefEqProofs [a70, F70, e1, e2, l1]
  · have e1 : ¬ 97 ≤ c := by omega
    have e2 : c ≤ 122 := by omega
    have e3 : ¬ 48 ≤ c := by omega
    have e4 : c ≤ 57 := by omega
    have e5 : (c == 95) = false := by simp; omega
    have e6 : (c == 45) = true := by simp; omega
    have l1 : letB c = false := by simp [letB]; omega
    have l2 : parB c = true := by simp [parB, letB]; omega
    simp -implicitDefEqProofs [a70, F70, e1, e2, l1]
  · have e1 : ¬ 97 ≤ c := by omega
    have e2 : c ≤ 122 := by omega
    have e3 : ¬ 48 ≤ c := by omega
    have e4 : c ≤ 57 := by omega
    have e5 : (c == 95) = false := by simp; omega
    have e6 : (c == 45) = false := by simp; omega
    have l1 : letB c = false := by simp [letB]; omega
    have l2 : parB c = false := by simp [parB, letB]; omega
    simp -implicitDefEqProofs [a70, F70, e1, e2, l1]
  · have e1 : ¬ 97 ≤ c := by omega
    have e2 : c ≤ 122 := by omega
    have e3 : 48 ≤ c := by omega
    have e4 : c ≤ 57 := by omega
    have e5 : (c == 95) = false := by simp; omega
    have e6 : (c == 45) = false := by simp; omega
    have l1 : letB c = false := by simp [letB]; omega
    have l2 : parB c = true := by simp [parB, letB]; omega
    simp -implicitDefEqProofs [a70, F70, e1, e2, l1]
  · have e1 : ¬ 97 ≤ c := by omega
    have e2 : c ≤ 122 := by omega
    have e3 : 48 ≤ c := by omega
    have e4 : ¬ c ≤ 57 := by omega
    have e5 : (c == 95) = false := by simp; omega
    have e6 : (c == 45) = false := by simp; omega
    have l1 : letB c = false := by simp [letB]; omega
    have l2 : parB c = false := by simp [parB, letB]; omega
    simp -implicitDefEqProofs [a70, F70, e1, e2, l1]
  · have e1 : ¬ 97 ≤ c := by omega
    have e2 : c ≤ 122 := by omega
    have e3 : 48 ≤ c := by omega
    have e4 : ¬ c ≤ 57 := by omega
    have e5 : (c == 95) = true := by simp; omega
    have e6 : (c == 45) = false := by simp; omega
    have l1 : letB c = false := by simp [letB]; omega
    have l2 : parB c = true := by simp [parB, letB]; omega
    simp -implicitDefEqProofs [a70, F70, e1, e2, l1]
  · have e1 : ¬ 97 ≤ c := by omega
    have e2 : c ≤ 122 := by omega
    have e3 : 48 ≤ c := by omega
    have e4 : ¬ c ≤ 57 := by omega
    have e5 : (c == 95) = false := by simp; omega
    have e6 : (c == 45) = false := by simp; omega
    have l1 : letB c = false := by simp [letB]; omega
    have l2 : parB c = false := by simp [parB, letB]; omega
    simp -implicitDefEqProofs [a70, F70, e1, e2, l1]
  · have e1 : 97 ≤ c := by omega
    have e2 : c ≤ 122 := by omega
    have e3 : 48 ≤ c := by omega
    have e4 : ¬ c ≤ 57 := by omega
    have e5 : (c == 95) = false := by simp; omega
    have e6 : (c == 45) = false := by simp; omega
    have l1 : letB c = true := by simp [letB]; omega
    have l2 : parB c = true := by simp [parB, letB]; omega
    simp -implicitDefEqProofs [a70, F70, e1, e2, l1]
  · have e1 : 97 ≤ c := by omega
    have e2 : ¬ c ≤ 122 := by omega
    have e3 : 48 ≤ c := by omega
    have e4 : ¬ c ≤ 57 := by omega
    have e5 : (c == 95) = false := by simp; omega
    have e6 : (c == 45) = false := by simp; omega
    have l1 : letB c = false := by simp [letB]; omega
    have l2 : parB c = false := by simp [parB, letB]; omega
    simp -implicitDefEqProofs [a70, F70, e1, e2, l1]
theorem Part_pc (c : Int) : PC Try.prog 72 [.s (.int .u8 c)] (fun r => r = .s (.bool (parB c))) := by
  refine pc_end c72 mixed rfl ?_
  simp -implicitDefEqProofs [a72, F72]
  refine wk_take ?_
  simp -implicitDefEqProofs
  refine wc_of (Letter_pc c) (by simp) (by simp) ?_
  rintro _ rfl
  rcases cha c with h | h | h | h | h | h | h | h | h
  · have e1 : ¬ 97 ≤ c := by omega
    have e2 : c ≤ 122 := by omega
    have e3 : ¬ 48 ≤ c := by omega
    have e4 : c ≤ 57 := by omega
    have e5 : (c == 95) = false := by simp; omega
    have e6 : (c == 45) = false := by simp; omega
    have l1 : letB c = false := by simp [letB]; omega
    have l2 : parB c = false := by simp [parB, letB]; omega
    simp -implicitDefEqProofs [l1, e3, e4, e5, e6, l2]
  · have e1 : ¬ 97 ≤ c := by omega
    have e2 : c ≤ 122 := by omega
    have e3 : ¬ 48 ≤ c := by omega
    have e4 : c ≤ 57 := by omega
    have e5 : (c == 95) = false := by simp; omega
    have e6 : (c == 45) = true := by simp; omega
    have l1 : letB c = false := by simp [letB]; omega
    have l2 : parB c = true := by simp [parB, letB]; omega
    simp -implicitDefEqProofs [l1, e3, e4, e5, e6, l2]
  · have e1 : ¬ 97 ≤ c := by omega
    have e2 : c ≤ 122 := by omega
    have e3 : ¬ 48 ≤ c := by omega
    have e4 : c ≤ 57 := by omega
    have e5 : (c == 95) = false := by simp; omega
    have e6 : (c == 45) = false := by simp; omega
    have l1 : letB c = false := by simp [letB]; omega
    have l2 : parB c = false := by simp [parB, letB]; omega
    simp -implicitDefEqProofs [l1, e3, e4, e5, e6, l2]
  · have e1 : ¬ 97 ≤ c := by omega
    have e2 : c ≤ 122 := by omega
    have e3 : 48 ≤ c := by omega
    have e4 : c ≤ 57 := by omega
    have e5 : (c == 95) = false := by simp; omega
    have e6 : (c == 45) = false := by simp; omega
    have l1 : letB c = false := by simp [letB]; omega
    have l2 : parB c = true := by simp [parB, letB]; omega
    simp -implicitDefEqProofs [l1, e3, e4, e5, e6, l2]
  · have e1 : ¬ 97 ≤ c := by omega
    have e2 : c ≤ 122 := by omega
    have e3 : 48 ≤ c := by omega
    have e4 : ¬ c ≤ 57 := by omega
    have e5 : (c == 95) = false := by simp; omega
    have e6 : (c == 45) = false := by simp; omega
    have l1 : letB c = false := by simp [letB]; omega
    have l2 : parB c = false := by simp [parB, letB]; omega
    simp -implicitDefEqProofs [l1, e3, e4, e5, e6, l2]
  · have e1 : ¬ 97 ≤ c := by omega
    have e2 : c ≤ 122 := by omega
    have e3 : 48 ≤ c := by omega
    have e4 : ¬ c ≤ 57 := by omega
    have e5 : (c == 95) = true := by simp; omega
    have e6 : (c == 45) = false := by simp; omega
    have l1 : letB c = false := by simp [letB]; omega
    have l2 : parB c = true := by simp [parB, letB]; omega
    simp -implicitDefEqProofs [l1, e3, e4, e5, e6, l2]
  · have e1 : ¬ 97 ≤ c := by omega
    have e2 : c ≤ 122 := by omega
    have e3 : 48 ≤ c := by omega
    have e4 : ¬ c ≤ 57 := by omega
    have e5 : (c == 95) = false := by simp; omega
    have e6 : (c == 45) = false := by simp; omega
    have l1 : letB c = false := by simp [letB]; omega
    have l2 : parB c = false := by simp [parB, letB]; omega
    simp -implicitDefEqProofs [l1, e3, e4, e5, e6, l2]
  · have e1 : 97 ≤ c := by omega
    have e2 : c ≤ 122 := by omega
    have e3 : 48 ≤ c := by omega
    have e4 : ¬ c ≤ 57 := by omega
    have e5 : (c == 95) = false := by simp; omega
    have e6 : (c == 45) = false := by simp; omega
    have l1 : letB c = true := by simp [letB]; omega
    have l2 : parB c = true := by simp [parB, letB]; omega
    simp -implicitDefEqProofs [l1, e3, e4, e5, e6, l2]
  · have e1 : 97 ≤ c := by omega
    have e2 : ¬ c ≤ 122 := by omega
    have e3 : 48 ≤ c := by omega
    have e4 : ¬ c ≤ 57 := by omega
    have e5 : (c == 95) = false := by simp; omega
    have e6 : (c == 45) = false := by simp; omega
    have l1 : letB c = false := by simp [letB]; omega
    have l2 : parB c = false := by simp [parB, letB]; omega
    simp -implicitDefEqProofs [l1, e3, e4, e5, e6, l2]
theorem rReserved_pc (s : ByteArray) : PC Try.prog 71 [.s (.string s)] (fun r => r = .s (.bool (resv s))) := by
  refine pc_end c71 mixed rfl ?_
  unfold resv
  cases h1 : (s.toList == [97, 108, 108])
  case' true => simp -implicitDefEqProofs [a71, F71, h1]
  cases h2 : (s.toList == [97, 110, 121])
  case' true => simp -implicitDefEqProofs [a71, F71, h1, h2]
  cases h3 : (s.toList == [111, 102])
  case' true => simp -implicitDefEqProofs [a71, F71, h1, h2, h3]
  cases h4 : (s.toList == [112, 114, 105, 111])
  case' true => simp -implicitDefEqProofs [a71, F71, h1, h2, h3, h4]
  cases h5 : (s.toList == [108, 105, 109, 105, 116])
  all_goals simp -implicitDefEqProofs [a71, F71, h1, h2, h3, h4, h5]
theorem Reserved_pc (s : ByteArray) : PC Try.prog 66 [.s (.string s)] (fun r => r = .s (.bool (resv s))) := by
  refine pc_end c66 mixed rfl ?_
  unfold resv
  cases h1 : (s.toList == [97, 108, 108])
  case' true => simp -implicitDefEqProofs [a66, F66, h1]
  cases h2 : (s.toList == [97, 110, 121])
  case' true => simp -implicitDefEqProofs [a66, F66, h1, h2]
  cases h3 : (s.toList == [111, 102])
  case' true => simp -implicitDefEqProofs [a66, F66, h1, h2, h3]
  cases h4 : (s.toList == [112, 114, 105, 111])
  case' true => simp -implicitDefEqProofs [a66, F66, h1, h2, h3, h4]
  cases h5 : (s.toList == [108, 105, 109, 105, 116])
  all_goals simp -implicitDefEqProofs [a66, F66, h1, h2, h3, h4, h5]
structure Rs where
  nm : ByteArray
  kd : Int
  un : Int
  hm : Int
  deriving DecidableEq
def Rs.v (r : Rs) : V := .agg [.s (.string r.nm), .s (.int .i64 r.kd), .s (.int .i64 r.un), .s (.int .i64 r.hm)]
def shaped (r : Rs) : Bool := decide ((r.kd = 1 ∧ r.un = 1) ∨ (r.kd = 2 ∧ 1 ≤ r.un ∧ r.un ≤ 8))
theorem Shaped_pc (r : Rs) : PC Try.prog 67 [r.v] (fun q => q = .s (.bool (shaped r))) := by
  obtain ⟨nm, kd, un, hm⟩ := r
  refine pc_end c67 mixed rfl ?_
  by_cases h1 : kd = 1
  · subst h1
    cases h2 : (un == 1)
    · have : ¬ un = 1 := by simpa using h2
      simp -implicitDefEqProofs [a67, F67, Rs.v, shaped, h2, this]
    · have : un = 1 := by simpa using h2
      simp -implicitDefEqProofs [a67, F67, Rs.v, shaped, h2, this]
  · have e1 : (kd == 1) = false := by simpa using h1
    by_cases h2 : kd = 2
    · subst h2
      by_cases h3 : 1 ≤ un
      · by_cases h4 : un ≤ 8
        · simp -implicitDefEqProofs [a67, F67, Rs.v, shaped, h3, h4]
        · simp -implicitDefEqProofs [a67, F67, Rs.v, shaped, h3, h4]
      · simp -implicitDefEqProofs [a67, F67, Rs.v, shaped, h3]
    · have e2 : (kd == 2) = false := by simpa using h2
      simp -implicitDefEqProofs [a67, F67, Rs.v, shaped, e1, e2, h1, h2]
theorem rShaped_pc (r : Rs) : PC Try.prog 73 [r.v] (fun q => q = .s (.bool (shaped r))) := by
  obtain ⟨nm, kd, un, hm⟩ := r
  refine pc_end c73 mixed rfl ?_
  by_cases h1 : kd = 1
  · subst h1
    cases h2 : (un == 1)
    · have : ¬ un = 1 := by simpa using h2
      simp -implicitDefEqProofs [a73, F73, Rs.v, shaped, h2, this]
    · have : un = 1 := by simpa using h2
      simp -implicitDefEqProofs [a73, F73, Rs.v, shaped, h2, this]
  · have e1 : (kd == 1) = false := by simpa using h1
    by_cases h2 : kd = 2
    · subst h2
      by_cases h3 : 1 ≤ un
      · by_cases h4 : un ≤ 8
        · simp -implicitDefEqProofs [a73, F73, Rs.v, shaped, h3, h4]
        · simp -implicitDefEqProofs [a73, F73, Rs.v, shaped, h3, h4]
      · simp -implicitDefEqProofs [a73, F73, Rs.v, shaped, h3]
    · have e2 : (kd == 2) = false := by simpa using h2
      simp -implicitDefEqProofs [a73, F73, Rs.v, shaped, e1, e2, h1, h2]
end Go.Proofs.Ytebibhmjmaomnaa
namespace Go.Proofs.Ytebibhmjmaomnaa
open Go.RowKit Go.Proofs
theorem name_iff {s : ByteArray} : nameOk s = true ↔ (1 ≤ s.size ∧ s.size ≤ 12) ∧ letB (bI s 0) = true ∧ resv s = false ∧ ∀ i, i < s.size → parB (bI s i) = true := by
  simp [nameOk, and_assoc]
theorem name_bad {s : ByteArray} (h : ¬ ((1 ≤ s.size ∧ s.size ≤ 12) ∧ letB (bI s 0) = true ∧ resv s = false ∧ ∀ i, i < s.size → parB (bI s i) = true)) : nameOk s = false := by
  rw [← name_iff] at h; simpa using h
def nmI (s : ByteArray) (z : Int) (m : Nat) (S : St) : Prop := ∃ i : Nat, i + m = s.size ∧ (∀ j, j < i → parB (bI s j) = true) ∧ (0 < i → letB (bI s 0) = true) ∧ S = ⟨tmL [(20, .s (.int .i64 z)), (21, .s (.int .i64 i))], [.s (.string s), .s (.bool false), .no, .no, .no, .no], [], 0⟩
theorem par_step {s : ByteArray} {i : Nat} (hp : ∀ j, j < i → parB (bI s j) = true) (h : parB (bI s i) = true) : ∀ j, j < i + 1 → parB (bI s j) = true := fun j hj => by
  by_cases e : j = i
  · subst e; exact h
  · exact hp j (by omega)
theorem let_step {s : ByteArray} {i : Nat} (hl : 0 < i → letB (bI s 0) = true) (h : letB (bI s i) = true ∨ i ≠ 0) : 0 < i + 1 → letB (bI s 0) = true := fun _ => by
  by_cases e : i = 0
  · subst e; rcases h with h | h
    · exact h
    · exact absurd rfl h
  · exact hl (by omega)
set_option maxHeartbeats 4000000 in
theorem ValidName_pc (s : ByteArray) : PC Try.prog 58 [.s (.string s)] (fun r => r = .s (.bool (nameOk s))) := by
  refine pc_end c58 mixed rfl ?_
  obtain ⟨z, hz⟩ : ∃ z : Int, (s.size : Int) = z := ⟨_, rfl⟩
  by_cases h1 : z < 1
  · have : nameOk s = false := name_bad fun q => by omega
    simp -implicitDefEqProofs [a58, F58, hz, h1, this]
  by_cases h2 : 12 < z
  · have : nameOk s = false := name_bad fun q => by omega
    simp -implicitDefEqProofs [a58, F58, hz, h1, h2, this]
  simp -implicitDefEqProofs [a58, F58, hz, h1, h2]
  refine wk_take ?_
  simp -implicitDefEqProofs
  refine wc_of (Reserved_pc s) (by simp) (by simp) ?_
  rintro _ rfl
  cases h3 : resv s
  case' true =>
    have : nameOk s = false := name_bad fun q => by simp [h3] at q
    simp -implicitDefEqProofs [this]
  simp -implicitDefEqProofs [hz]
  refine w_rounds [20, 21] [2, 3, 4, 5] 0 (Nat.le_refl _) (nmI s z) s.size ⟨by simp, 0, by simp, fun j hj => absurd hj (Nat.not_lt_zero _), fun q => absurd q (Nat.lt_irrefl _), by simp⟩ ?_
  rintro m S ⟨i, hi, hp, hl, rfl⟩
  by_cases hm : i < s.size
  · have g1 : (i : Int) < z := by omega
    obtain ⟨b, hb, hc⟩ := bI_get hm
    have hw := wrap64 (n := (i : Int) + 1) (by omega)
    have hfl : letB (bI s i) = false → i = 0 → nameOk s = false := fun h e => name_bad fun q => by subst e; rw [q.2.1] at h; cases h
    have hfp : parB (bI s i) = false → nameOk s = false := fun h => name_bad fun q => by rw [q.2.2.2 i hm] at h; cases h
    have hs1 := par_step (s := s) (i := i) hp
    have hs2 := let_step (s := s) (i := i) hl
    generalize bI s i = c at hc hfl hfp hs1 hs2
    by_cases g0 : i = 0
    · have e0 : ((i : Int) == 0) = true := by simp; omega
      have hx : ∀ h : letB c = false, nameOk s = false := fun h => hfl h g0
      have hy : letB c = true → 0 < i + 1 → letB (bI s 0) = true := fun h => hs2 (.inl h)
      rcases cha c with h | h | h | h | h | h | h | h | h
      · have e1 : ¬ 97 ≤ c := by omega
        have e2 : c ≤ 122 := by omega
        have e3 : ¬ 48 ≤ c := by omega
        have e4 : c ≤ 57 := by omega
        have e5 : (c == 95) = false := by simp; omega
        have e6 : (c == 45) = false := by simp; omega
        have l1 : letB c = false := by simp [letB]; omega
        have l2 : parB c = false := by simp [parB, letB]; omega
        have nk := hfl l1 g0
        simp -implicitDefEqProofs [g1, e0, hb, hc, e1, e2, e3, e4, e5, e6, hw, nk]
      · have e1 : ¬ 97 ≤ c := by omega
        have e2 : c ≤ 122 := by omega
        have e3 : ¬ 48 ≤ c := by omega
        have e4 : c ≤ 57 := by omega
        have e5 : (c == 95) = false := by simp; omega
        have e6 : (c == 45) = true := by simp; omega
        have l1 : letB c = false := by simp [letB]; omega
        have l2 : parB c = true := by simp [parB, letB]; omega
        have nk := hfl l1 g0
        simp -implicitDefEqProofs [g1, e0, hb, hc, e1, e2, e3, e4, e5, e6, hw, nk]
      · have e1 : ¬ 97 ≤ c := by omega
        have e2 : c ≤ 122 := by omega
        have e3 : ¬ 48 ≤ c := by omega
        have e4 : c ≤ 57 := by omega
        have e5 : (c == 95) = false := by simp; omega
        have e6 : (c == 45) = false := by simp; omega
        have l1 : letB c = false := by simp [letB]; omega
        have l2 : parB c = false := by simp [parB, letB]; omega
        have nk := hfl l1 g0
        simp -implicitDefEqProofs [g1, e0, hb, hc, e1, e2, e3, e4, e5, e6, hw, nk]
      · have e1 : ¬ 97 ≤ c := by omega
        have e2 : c ≤ 122 := by omega
        have e3 : 48 ≤ c := by omega
        have e4 : c ≤ 57 := by omega
        have e5 : (c == 95) = false := by simp; omega
        have e6 : (c == 45) = false := by simp; omega
        have l1 : letB c = false := by simp [letB]; omega
        have l2 : parB c = true := by simp [parB, letB]; omega
        have nk := hfl l1 g0
        simp -implicitDefEqProofs [g1, e0, hb, hc, e1, e2, e3, e4, e5, e6, hw, nk]
      · have e1 : ¬ 97 ≤ c := by omega
        have e2 : c ≤ 122 := by omega
        have e3 : 48 ≤ c := by omega
        have e4 : ¬ c ≤ 57 := by omega
        have e5 : (c == 95) = false := by simp; omega
        have e6 : (c == 45) = false := by simp; omega
        have l1 : letB c = false := by simp [letB]; omega
        have l2 : parB c = false := by simp [parB, letB]; omega
        have nk := hfl l1 g0
        simp -implicitDefEqProofs [g1, e0, hb, hc, e1, e2, e3, e4, e5, e6, hw, nk]
      · have e1 : ¬ 97 ≤ c := by omega
        have e2 : c ≤ 122 := by omega
        have e3 : 48 ≤ c := by omega
        have e4 : ¬ c ≤ 57 := by omega
        have e5 : (c == 95) = true := by simp; omega
        have e6 : (c == 45) = false := by simp; omega
        have l1 : letB c = false := by simp [letB]; omega
        have l2 : parB c = true := by simp [parB, letB]; omega
        have nk := hfl l1 g0
        simp -implicitDefEqProofs [g1, e0, hb, hc, e1, e2, e3, e4, e5, e6, hw, nk]
      · have e1 : ¬ 97 ≤ c := by omega
        have e2 : c ≤ 122 := by omega
        have e3 : 48 ≤ c := by omega
        have e4 : ¬ c ≤ 57 := by omega
        have e5 : (c == 95) = false := by simp; omega
        have e6 : (c == 45) = false := by simp; omega
        have l1 : letB c = false := by simp [letB]; omega
        have l2 : parB c = false := by simp [parB, letB]; omega
        have nk := hfl l1 g0
        simp -implicitDefEqProofs [g1, e0, hb, hc, e1, e2, e3, e4, e5, e6, hw, nk]
      · have e1 : 97 ≤ c := by omega
        have e2 : c ≤ 122 := by omega
        have e3 : 48 ≤ c := by omega
        have e4 : ¬ c ≤ 57 := by omega
        have e5 : (c == 95) = false := by simp; omega
        have e6 : (c == 45) = false := by simp; omega
        have l1 : letB c = true := by simp [letB]; omega
        have l2 : parB c = true := by simp [parB, letB]; omega
        simp -implicitDefEqProofs [g1, e0, hb, hc, e1, e2, e3, e4, e5, e6, hw]
        exact ⟨m - 1, by omega, i + 1, by omega, hs1 l2, hs2 (.inl l1), by simp⟩
      · have e1 : 97 ≤ c := by omega
        have e2 : ¬ c ≤ 122 := by omega
        have e3 : 48 ≤ c := by omega
        have e4 : ¬ c ≤ 57 := by omega
        have e5 : (c == 95) = false := by simp; omega
        have e6 : (c == 45) = false := by simp; omega
        have l1 : letB c = false := by simp [letB]; omega
        have l2 : parB c = false := by simp [parB, letB]; omega
        have nk := hfl l1 g0
        simp -implicitDefEqProofs [g1, e0, hb, hc, e1, e2, e3, e4, e5, e6, hw, nk]
    · have e0 : ((i : Int) == 0) = false := by simp; omega
      rcases cha c with h | h | h | h | h | h | h | h | h
      · have e1 : ¬ 97 ≤ c := by omega
        have e2 : c ≤ 122 := by omega
        have e3 : ¬ 48 ≤ c := by omega
        have e4 : c ≤ 57 := by omega
        have e5 : (c == 95) = false := by simp; omega
        have e6 : (c == 45) = false := by simp; omega
        have l1 : letB c = false := by simp [letB]; omega
        have l2 : parB c = false := by simp [parB, letB]; omega
        have nk := hfp l2
        simp -implicitDefEqProofs [g1, e0, hb, hc, e1, e2, e3, e4, e5, e6, hw, nk]
      · have e1 : ¬ 97 ≤ c := by omega
        have e2 : c ≤ 122 := by omega
        have e3 : ¬ 48 ≤ c := by omega
        have e4 : c ≤ 57 := by omega
        have e5 : (c == 95) = false := by simp; omega
        have e6 : (c == 45) = true := by simp; omega
        have l1 : letB c = false := by simp [letB]; omega
        have l2 : parB c = true := by simp [parB, letB]; omega
        simp -implicitDefEqProofs [g1, e0, hb, hc, e1, e2, e3, e4, e5, e6, hw]
        exact ⟨m - 1, by omega, i + 1, by omega, hs1 l2, hs2 (.inr g0), by simp⟩
      · have e1 : ¬ 97 ≤ c := by omega
        have e2 : c ≤ 122 := by omega
        have e3 : ¬ 48 ≤ c := by omega
        have e4 : c ≤ 57 := by omega
        have e5 : (c == 95) = false := by simp; omega
        have e6 : (c == 45) = false := by simp; omega
        have l1 : letB c = false := by simp [letB]; omega
        have l2 : parB c = false := by simp [parB, letB]; omega
        have nk := hfp l2
        simp -implicitDefEqProofs [g1, e0, hb, hc, e1, e2, e3, e4, e5, e6, hw, nk]
      · have e1 : ¬ 97 ≤ c := by omega
        have e2 : c ≤ 122 := by omega
        have e3 : 48 ≤ c := by omega
        have e4 : c ≤ 57 := by omega
        have e5 : (c == 95) = false := by simp; omega
        have e6 : (c == 45) = false := by simp; omega
        have l1 : letB c = false := by simp [letB]; omega
        have l2 : parB c = true := by simp [parB, letB]; omega
        simp -implicitDefEqProofs [g1, e0, hb, hc, e1, e2, e3, e4, e5, e6, hw]
        exact ⟨m - 1, by omega, i + 1, by omega, hs1 l2, hs2 (.inr g0), by simp⟩
      · have e1 : ¬ 97 ≤ c := by omega
        have e2 : c ≤ 122 := by omega
        have e3 : 48 ≤ c := by omega
        have e4 : ¬ c ≤ 57 := by omega
        have e5 : (c == 95) = false := by simp; omega
        have e6 : (c == 45) = false := by simp; omega
        have l1 : letB c = false := by simp [letB]; omega
        have l2 : parB c = false := by simp [parB, letB]; omega
        have nk := hfp l2
        simp -implicitDefEqProofs [g1, e0, hb, hc, e1, e2, e3, e4, e5, e6, hw, nk]
      · have e1 : ¬ 97 ≤ c := by omega
        have e2 : c ≤ 122 := by omega
        have e3 : 48 ≤ c := by omega
        have e4 : ¬ c ≤ 57 := by omega
        have e5 : (c == 95) = true := by simp; omega
        have e6 : (c == 45) = false := by simp; omega
        have l1 : letB c = false := by simp [letB]; omega
        have l2 : parB c = true := by simp [parB, letB]; omega
        simp -implicitDefEqProofs [g1, e0, hb, hc, e1, e2, e3, e4, e5, e6, hw]
        exact ⟨m - 1, by omega, i + 1, by omega, hs1 l2, hs2 (.inr g0), by simp⟩
      · have e1 : ¬ 97 ≤ c := by omega
        have e2 : c ≤ 122 := by omega
        have e3 : 48 ≤ c := by omega
        have e4 : ¬ c ≤ 57 := by omega
        have e5 : (c == 95) = false := by simp; omega
        have e6 : (c == 45) = false := by simp; omega
        have l1 : letB c = false := by simp [letB]; omega
        have l2 : parB c = false := by simp [parB, letB]; omega
        have nk := hfp l2
        simp -implicitDefEqProofs [g1, e0, hb, hc, e1, e2, e3, e4, e5, e6, hw, nk]
      · have e1 : 97 ≤ c := by omega
        have e2 : c ≤ 122 := by omega
        have e3 : 48 ≤ c := by omega
        have e4 : ¬ c ≤ 57 := by omega
        have e5 : (c == 95) = false := by simp; omega
        have e6 : (c == 45) = false := by simp; omega
        have l1 : letB c = true := by simp [letB]; omega
        have l2 : parB c = true := by simp [parB, letB]; omega
        simp -implicitDefEqProofs [g1, e0, hb, hc, e1, e2, e3, e4, e5, e6, hw]
        exact ⟨m - 1, by omega, i + 1, by omega, hs1 l2, hs2 (.inr g0), by simp⟩
      · have e1 : 97 ≤ c := by omega
        have e2 : ¬ c ≤ 122 := by omega
        have e3 : 48 ≤ c := by omega
        have e4 : ¬ c ≤ 57 := by omega
        have e5 : (c == 95) = false := by simp; omega
        have e6 : (c == 45) = false := by simp; omega
        have l1 : letB c = false := by simp [letB]; omega
        have l2 : parB c = false := by simp [parB, letB]; omega
        have nk := hfp l2
        simp -implicitDefEqProofs [g1, e0, hb, hc, e1, e2, e3, e4, e5, e6, hw, nk]
  · have e : i = s.size := by omega
    have g1 : ¬ (i : Int) < z := by omega
    have nk : nameOk s = true := name_iff.2 ⟨⟨by omega, by omega⟩, hl (by omega), h3, fun j hj => hp j (by omega)⟩
    simp -implicitDefEqProofs [g1, nk]
def rnI (s : ByteArray) (m : Nat) (S : St) : Prop := ∃ i : Nat, i + m = s.size ∧ (∀ j, j < i → parB (bI s j) = true) ∧ S = ⟨tmL [], [.s (.string s), .s (.bool false), .s (.int .i64 i)], [], 0⟩
set_option maxHeartbeats 4000000 in
theorem rValidName_pc (s : ByteArray) : PC Try.prog 61 [.s (.string s)] (fun r => r = .s (.bool (nameOk s))) := by
  refine pc_end c61 mixed rfl ?_
  obtain ⟨z, hz⟩ : ∃ z : Int, (s.size : Int) = z := ⟨_, rfl⟩
  by_cases h1 : z < 1
  · have : nameOk s = false := name_bad fun q => by omega
    simp -implicitDefEqProofs [a61, F61, hz, h1, this]
  by_cases h2 : 12 < z
  · have : nameOk s = false := name_bad fun q => by omega
    simp -implicitDefEqProofs [a61, F61, hz, h1, h2, this]
  have h0 : 0 < s.size := by omega
  obtain ⟨b, hb, hc⟩ := bI_get h0
  simp -implicitDefEqProofs [a61, F61, hz, h1, h2, hb, hc]
  refine wk_take ?_
  simp -implicitDefEqProofs
  refine wc_of (Letter_pc (bI s 0)) (by simp) (by simp) ?_
  rintro _ rfl
  cases hl : letB (bI s 0)
  case' false =>
    have : nameOk s = false := name_bad fun q => by simp [hl] at q
    simp -implicitDefEqProofs [this]
  simp -implicitDefEqProofs
  refine wk_take ?_
  simp -implicitDefEqProofs
  refine wc_of (rReserved_pc s) (by simp) (by simp) ?_
  rintro _ rfl
  cases h3 : resv s
  case' true =>
    have : nameOk s = false := name_bad fun q => by simp [h3] at q
    simp -implicitDefEqProofs [this]
  simp -implicitDefEqProofs [hz]
  refine w_rounds [] [] 0 (Nat.le_refl _) (rnI s) s.size ⟨by simp, 0, by simp, fun j hj => absurd hj (Nat.not_lt_zero _), by simp⟩ ?_
  rintro m S ⟨i, hi, hp, rfl⟩
  by_cases hm : i < s.size
  · have g1 : (i : Int) < z := by omega
    obtain ⟨b, hb, hc⟩ := bI_get hm
    have hw := wrap64 (n := (i : Int) + 1) (by omega)
    have hfp : parB (bI s i) = false → nameOk s = false := fun h => name_bad fun q => by rw [q.2.2.2 i hm] at h; cases h
    have hs1 := par_step (s := s) (i := i) hp
    generalize bI s i = c at hc hfp hs1
    simp -implicitDefEqProofs [hz, g1, hb, hc]
    refine wk_take ?_
    simp -implicitDefEqProofs
    refine wc_of (Part_pc c) (by simp) (by simp) ?_
    rintro _ rfl
    cases l2 : parB c
    · have nk := hfp l2
      simp -implicitDefEqProofs [nk]
    · simp -implicitDefEqProofs [hw]
      exact ⟨m - 1, by omega, i + 1, by omega, hs1 l2, by simp⟩
  · have e : i = s.size := by omega
    have g1 : ¬ (i : Int) < z := by omega
    have nk : nameOk s = true := name_iff.2 ⟨⟨by omega, by omega⟩, hl, h3, fun j hj => hp j (by omega)⟩
    simp -implicitDefEqProofs [hz, g1, nk]
end Go.Proofs.Ytebibhmjmaomnaa
namespace Go.Proofs.Ytebibhmjmaomnaa
open Go.RowKit Go.Proofs
def resOk (r : Rs) : Bool := nameOk r.nm && shaped r && decide (0 ≤ r.hm ∧ r.hm < 4)
theorem ValidResource_pc (r : Rs) : PC Try.prog 59 [r.v] (fun q => q = .s (.bool (resOk r))) := by
  have hS := Shaped_pc r
  obtain ⟨nm, kd, un, hm⟩ := r
  refine pc_end c59 mixed rfl ?_
  simp -implicitDefEqProofs [a59, F59, Rs.v]
  refine wk_take ?_
  simp -implicitDefEqProofs
  refine wc_of (ValidName_pc nm) (by simp) (by simp) ?_
  rintro _ rfl
  cases h1 : nameOk nm
  case' false => simp -implicitDefEqProofs [resOk, h1]
  simp -implicitDefEqProofs
  refine wk_take ?_
  simp -implicitDefEqProofs
  refine wc_of hS (by simp [Rs.v]) (by simp [Rs.v]) ?_
  rintro _ rfl
  cases h2 : shaped ⟨nm, kd, un, hm⟩
  case' false => simp -implicitDefEqProofs [resOk, h1, h2]
  by_cases h3 : 0 ≤ hm
  · by_cases h4 : hm < 4
    · simp -implicitDefEqProofs [resOk, h1, h2, h3, h4]
    · simp -implicitDefEqProofs [resOk, h1, h2, h3, h4]
  · simp -implicitDefEqProofs [resOk, h1, h2, h3]
theorem rValidResource_pc (r : Rs) : PC Try.prog 62 [r.v] (fun q => q = .s (.bool (resOk r))) := by
  have hS := rShaped_pc r
  obtain ⟨nm, kd, un, hm⟩ := r
  refine pc_end c62 mixed rfl ?_
  simp -implicitDefEqProofs [a62, F62, Rs.v]
  refine wk_take ?_
  simp -implicitDefEqProofs
  refine wc_of (rValidName_pc nm) (by simp) (by simp) ?_
  rintro _ rfl
  cases h1 : nameOk nm
  case' false => simp -implicitDefEqProofs [resOk, h1]
  simp -implicitDefEqProofs
  refine wk_take ?_
  simp -implicitDefEqProofs
  refine wc_of hS (by simp [Rs.v]) (by simp [Rs.v]) ?_
  rintro _ rfl
  cases h2 : shaped ⟨nm, kd, un, hm⟩
  case' false => simp -implicitDefEqProofs [resOk, h1, h2]
  by_cases h3 : 0 ≤ hm
  · by_cases h4 : hm < 4
    · simp -implicitDefEqProofs [resOk, h1, h2, h3, h4]
    · simp -implicitDefEqProofs [resOk, h1, h2, h3, h4]
  · simp -implicitDefEqProofs [resOk, h1, h2, h3]
def rl (l : List Rs) : List V := l.map Rs.v
@[simp] theorem rl_length (l : List Rs) : (rl l).length = l.length := by simp [rl]
@[simp] theorem rl_nil : rl [] = [] := rfl
theorem rl_get {l : List Rs} {i : Nat} (h : i < l.length) : (rl l)[i]? = some l[i].v := by simp [rl, h]
def nlt (a b : ByteArray) : Bool := Op.bytesLess a.toList b.toList
structure CatP (l : List Rs) : Prop where
  len : l.length ≤ 8
  ok : ∀ (i : Nat) (h : i < l.length), resOk l[i] = true
  asc : ∀ (i : Nat) (h : i + 1 < l.length), nlt (l[i]).nm (l[i + 1]).nm = true
def ascB : List Rs → Bool
  | a :: b :: l => nlt a.nm b.nm && ascB (b :: l)
  | _ => true
def catOk (l : List Rs) : Bool := decide (l.length ≤ 8) && l.all resOk && ascB l
theorem ascB_iff : ∀ {l : List Rs}, ascB l = true ↔ ∀ (i : Nat) (h : i + 1 < l.length), nlt (l[i]).nm (l[i + 1]).nm = true
  | [] => by simp [ascB]
  | [a] => by simp [ascB]
  | a :: b :: l => by
    rw [ascB, Bool.and_eq_true, ascB_iff]
    constructor
    · rintro ⟨h1, h2⟩ i h
      cases i with
      | zero => exact h1
      | succ i => exact h2 i (by simpa using h)
    · intro h
      exact ⟨h 0 (by simp), fun i hi => h (i + 1) (by simpa using hi)⟩
theorem cat_iff {l : List Rs} : catOk l = true ↔ CatP l := by
  unfold catOk
  rw [Bool.and_eq_true, Bool.and_eq_true, decide_eq_true_eq, ascB_iff, List.all_eq_true]
  constructor
  · rintro ⟨⟨h1, h2⟩, h3⟩
    exact ⟨h1, fun i h => h2 _ (List.getElem_mem h), h3⟩
  · rintro ⟨h1, h2, h3⟩
    refine ⟨⟨h1, fun x hx => ?_⟩, h3⟩
    obtain ⟨i, hi, rfl⟩ := List.getElem_of_mem hx
    exact h2 i hi
theorem cat_bad {l : List Rs} (h : ¬ CatP l) : catOk l = false := by
  rw [← cat_iff] at h; simpa using h
def ctI (l : List Rs) (m : Nat) (S : St) : Prop := ∃ i : Nat, i + m = l.length ∧ (∀ (j : Nat) (h : j < l.length), j < i → resOk l[j] = true) ∧ (∀ (j : Nat) (h : j + 1 < l.length), j + 1 < i → nlt (l[j]).nm (l[j + 1]).nm = true) ∧ S = ⟨tmL [(8, .list 4 (rl l)), (9, .s (.int .i64 l.length)), (10, .s (.int .i64 i))], [.list 4 (rl l), .s (.bool false), .no], [], 0⟩
set_option maxHeartbeats 4000000 in
theorem catValid_pc (l : List Rs) (hl : l.length ≤ 1000000) : PC Try.prog 44 [.list 4 (rl l)] (fun q => q = .s (.bool (catOk l))) := by
  refine pc_end c44 mixed rfl ?_
  by_cases h8 : 8 < (l.length : Int)
  · have nk : catOk l = false := cat_bad fun q => by have := q.len; omega
    simp -implicitDefEqProofs [a44, F44, h8, nk]
  simp -implicitDefEqProofs [a44, F44, h8]
  refine w_rounds [8, 9, 10] [2] 0 (Nat.le_refl _) (ctI l) l.length ⟨by simp, 0, by simp, fun j h hj => absurd hj (Nat.not_lt_zero _), fun j h hj => absurd hj (Nat.not_lt_zero _), by simp⟩ ?_
  rintro m S ⟨i, hi, ho, ha, rfl⟩
  by_cases hm : i < l.length
  · have g1 : (i : Int) < l.length := by omega
    have g0 : ¬ (i : Int) < 0 := by omega
    have hw := wrap64 (n := (i : Int) + 1) (by omega)
    have hV := ValidResource_pc l[i]
    have hbad : resOk l[i] = false → catOk l = false := fun h => cat_bad fun q => by rw [q.ok i hm] at h; cases h
    have hs1 : resOk l[i] = true → ∀ (j : Nat) (h : j < l.length), j < i + 1 → resOk l[j] = true := fun h j hj hji => by
      by_cases e : j = i
      · subst e; exact h
      · exact ho j hj (by omega)
    simp -implicitDefEqProofs [g1, g0, rl_get hm, Rs.v]
    refine wkd_take ?_
    simp -implicitDefEqProofs
    refine wcd_of hV (by simp [Rs.v]) (by simp [Rs.v]) ?_
    cases h1 : resOk l[i]
    case' false => simp -implicitDefEqProofs [hbad h1]
    by_cases gz : i = 0
    · subst gz
      have w1 : IntKind.i64.wrap 1 = 1 := wrap64 (by omega)
      simp -implicitDefEqProofs [w1]
      exact ⟨m - 1, by omega, 1, by omega, hs1 h1, fun j h hj => by omega, by simp⟩
    · have g2 : 0 < i := by omega
      have hm1 : i - 1 < l.length := by omega
      have hw1 : IntKind.i64.wrap ((i : Int) - 1) = ((i - 1 : Nat) : Int) := by rw [wrap64 (by omega)]; omega
      have g3 : ((i - 1 : Nat) : Int) < l.length := by omega
      have g4 : ¬ ((i - 1 : Nat) : Int) < 0 := by omega
      cases h2 : Op.bytesLess (l[i - 1]).nm.toList (l[i]).nm.toList
      · have nk : catOk l = false := cat_bad fun q => by
          have := q.asc (i - 1) (by omega)
          have e : i - 1 + 1 = i := by omega
          simp only [e] at this
          rw [nlt, h2] at this
          cases this
        simp -implicitDefEqProofs [g2, hw1, g3, g4, rl_get hm1, Rs.v, h2, nk]
      · simp -implicitDefEqProofs [g2, hw1, g3, g4, rl_get hm1, Rs.v, h2, hw]
        refine ⟨m - 1, by omega, i + 1, by omega, hs1 h1, fun j h hj => ?_, by simp⟩
        by_cases e : j + 1 = i
        · subst e; exact h2
        · exact ha j h (by omega)
  · have e : i = l.length := by omega
    have nk : catOk l = true := cat_iff.2 ⟨by omega, fun j h => ho j h (by omega), fun j h => ha j h (by omega)⟩
    simp -implicitDefEqProofs [e, nk]
def rctI (l : List Rs) (m : Nat) (S : St) : Prop := ∃ i : Nat, i + m = l.length ∧ (∀ (j : Nat) (h : j < l.length), j < i → resOk l[j] = true) ∧ (∀ (j : Nat) (h : j + 1 < l.length), j + 1 < i → nlt (l[j]).nm (l[j + 1]).nm = true) ∧ S = ⟨tmL [], [.list 4 (rl l), .s (.bool false), .s (.int .i64 i)], [], 0⟩
set_option maxHeartbeats 4000000 in
theorem rcatValid_pc (l : List Rs) (hl : l.length ≤ 1000000) : PC Try.prog 45 [.list 4 (rl l)] (fun q => q = .s (.bool (catOk l))) := by
  refine pc_end c45 mixed rfl ?_
  by_cases h8 : 8 < (l.length : Int)
  · have nk : catOk l = false := cat_bad fun q => by have := q.len; omega
    simp -implicitDefEqProofs [a45, F45, h8, nk]
  simp -implicitDefEqProofs [a45, F45, h8]
  refine w_rounds [] [] 0 (Nat.le_refl _) (rctI l) l.length ⟨by simp, 0, by simp, fun j h hj => absurd hj (Nat.not_lt_zero _), fun j h hj => absurd hj (Nat.not_lt_zero _), by simp⟩ ?_
  rintro m S ⟨i, hi, ho, ha, rfl⟩
  by_cases hm : i < l.length
  · have g1 : (i : Int) < l.length := by omega
    have g0 : ¬ (i : Int) < 0 := by omega
    have hw := wrap64 (n := (i : Int) + 1) (by omega)
    have hV := rValidResource_pc l[i]
    have hbad : resOk l[i] = false → catOk l = false := fun h => cat_bad fun q => by rw [q.ok i hm] at h; cases h
    have hs1 : resOk l[i] = true → ∀ (j : Nat) (h : j < l.length), j < i + 1 → resOk l[j] = true := fun h j hj hji => by
      by_cases e : j = i
      · subst e; exact h
      · exact ho j hj (by omega)
    simp -implicitDefEqProofs [g1, g0, rl_get hm, Rs.v]
    refine wkd_take ?_
    simp -implicitDefEqProofs
    refine wcd_of hV (by simp [Rs.v]) (by simp [Rs.v]) ?_
    cases h1 : resOk l[i]
    case' false => simp -implicitDefEqProofs [hbad h1]
    by_cases gz : i = 0
    · subst gz
      have w1 : IntKind.i64.wrap 1 = 1 := wrap64 (by omega)
      simp -implicitDefEqProofs [w1]
      exact ⟨m - 1, by omega, 1, by omega, hs1 h1, fun j h hj => by omega, by simp⟩
    · have g2 : 0 < i := by omega
      have hm1 : i - 1 < l.length := by omega
      have hw1 : IntKind.i64.wrap ((i : Int) - 1) = ((i - 1 : Nat) : Int) := by rw [wrap64 (by omega)]; omega
      have g3 : ((i - 1 : Nat) : Int) < l.length := by omega
      have g4 : ¬ ((i - 1 : Nat) : Int) < 0 := by omega
      cases h2 : Op.bytesLess (l[i - 1]).nm.toList (l[i]).nm.toList
      · have nk : catOk l = false := cat_bad fun q => by
          have := q.asc (i - 1) (by omega)
          have e : i - 1 + 1 = i := by omega
          simp only [e] at this
          rw [nlt, h2] at this
          cases this
        simp -implicitDefEqProofs [g2, hw1, g3, g4, rl_get hm1, Rs.v, h2, nk, rl_get hm, g1, g0]
      · simp -implicitDefEqProofs [g2, hw1, g3, g4, rl_get hm1, Rs.v, h2, hw, rl_get hm, g1, g0]
        refine ⟨m - 1, by omega, i + 1, by omega, hs1 h1, fun j h hj => ?_, by simp⟩
        by_cases e : j + 1 = i
        · subst e; exact h2
        · exact ha j h (by omega)
  · have e : i = l.length := by omega
    have nk : catOk l = true := cat_iff.2 ⟨by omega, fun j h => ho j h (by omega), fun j h => ha j h (by omega)⟩
    simp -implicitDefEqProofs [e, nk]
end Go.Proofs.Ytebibhmjmaomnaa
namespace Go.Proofs.Ytebibhmjmaomnaa
open Go.RowKit Go.Proofs
theorem ba_beq (a b : ByteArray) : (a == b) = decide (a = b) := by
  obtain ⟨a⟩ := a
  obtain ⟨b⟩ := b
  have : ((ByteArray.mk a) == (ByteArray.mk b)) = (a == b) := rfl
  rw [this]
  by_cases h : a = b
  · subst h; simp
  · have h2 : ByteArray.mk a ≠ ByteArray.mk b := fun q => h (ByteArray.mk.inj q)
    simp [h, h2]
theorem ba_self (a : ByteArray) : (a == a) = true := by rw [ba_beq]; simp
theorem beqF {a b : Rs} (h : a ≠ b) : (a.nm == b.nm) = false ∨ ((a.nm == b.nm) = true ∧ (a.kd == b.kd) = false) ∨ ((a.nm == b.nm) = true ∧ (a.kd == b.kd) = true ∧ (a.un == b.un) = false) ∨ ((a.nm == b.nm) = true ∧ (a.kd == b.kd) = true ∧ (a.un == b.un) = true ∧ (a.hm == b.hm) = false) := by
  cases h1 : (a.nm == b.nm)
  · exact .inl rfl
  cases h2 : (a.kd == b.kd)
  · exact .inr (.inl ⟨rfl, rfl⟩)
  cases h3 : (a.un == b.un)
  · exact .inr (.inr (.inl ⟨rfl, rfl, rfl⟩))
  cases h4 : (a.hm == b.hm)
  · exact .inr (.inr (.inr ⟨rfl, rfl, rfl, rfl⟩))
  refine absurd ?_ h
  obtain ⟨n, k, u, m⟩ := a
  obtain ⟨n', k', u', m'⟩ := b
  rw [ba_beq] at h1
  simp at h1 h2 h3 h4
  subst h1 h2 h3 h4
  rfl
def eqI (l k : List Rs) (m : Nat) (S : St) : Prop := ∃ i : Nat, i + m = l.length ∧ l.take i = k.take i ∧ S = ⟨tmL [(12, .s (.int .i64 l.length)), (13, .s (.int .i64 i))], [.list 4 (rl l), .list 4 (rl k), .s (.bool false), .no], [], 0⟩
set_option maxHeartbeats 4000000 in
theorem Equal_pc (l k : List Rs) (hl : l.length ≤ 1000000) : PC Try.prog 37 [.list 4 (rl l), .list 4 (rl k)] (fun r => r = .s (.bool (decide (l = k)))) := by
  refine pc_end c37 mixed rfl ?_
  cases h : ((l.length : Int) != (k.length : Int))
  case' true =>
    have : ¬ l = k := fun q => by subst q; simp at h
    simp -implicitDefEqProofs [a37, F37, h, this]
  have hlk : l.length = k.length := by simp at h; omega
  simp -implicitDefEqProofs [a37, F37, h]
  refine w_rounds [12, 13] [3] 0 (Nat.le_refl _) (eqI l k) l.length ⟨by simp, 0, by simp, by simp, by simp⟩ ?_
  rintro m S ⟨i, hi, hx, rfl⟩
  by_cases hm : i < l.length
  · have h1 : (i : Int) < l.length := by omega
    have h0 : ¬ (i : Int) < 0 := by omega
    have hm2 : i < k.length := by omega
    have h2 : (i : Int) < k.length := by omega
    have hw := wrap64 (n := (i : Int) + 1) (by omega)
    by_cases he : l[i] = k[i]
    · simp -implicitDefEqProofs [h1, h0, h2, rl_get hm, rl_get hm2, ← he, hw, Rs.v, eqCs, eqC, ba_self]
      exact ⟨m - 1, by omega, i + 1, by omega, take_eq1 hm hm2 hx he, by simp⟩
    · have nk : ¬ l = k := fun q => by subst q; simp at he
      rcases beqF he with q | ⟨q, q2⟩ | ⟨q, q2, q3⟩ | ⟨q, q2, q3, q4⟩
      · simp -implicitDefEqProofs [h1, h0, h2, rl_get hm, rl_get hm2, Rs.v, eqCs, eqC, q, nk]
      · simp -implicitDefEqProofs [h1, h0, h2, rl_get hm, rl_get hm2, Rs.v, eqCs, eqC, q, q2, nk]
      · simp -implicitDefEqProofs [h1, h0, h2, rl_get hm, rl_get hm2, Rs.v, eqCs, eqC, q, q2, q3, nk]
      · simp -implicitDefEqProofs [h1, h0, h2, rl_get hm, rl_get hm2, Rs.v, eqCs, eqC, q, q2, q3, q4, nk]
  · have h2 : i = l.length := by omega
    rw [List.take_of_length_le (by omega), List.take_of_length_le (by omega)] at hx
    simp -implicitDefEqProofs [h2, hx]
def smI (l k : List Rs) (m : Nat) (S : St) : Prop := ∃ i : Nat, i + m = l.length ∧ l.take i = k.take i ∧ S = ⟨tmL [], [.list 4 (rl l), .list 4 (rl k), .s (.bool false), .s (.int .i64 i)], [], 0⟩
set_option maxHeartbeats 4000000 in
theorem SameCat_pc (l k : List Rs) (hl : l.length ≤ 1000000) : PC Try.prog 36 [.list 4 (rl l), .list 4 (rl k)] (fun r => r = .s (.bool (decide (l = k)))) := by
  refine pc_end c36 mixed rfl ?_
  cases h : ((l.length : Int) != (k.length : Int))
  case' true =>
    have : ¬ l = k := fun q => by subst q; simp at h
    simp -implicitDefEqProofs [a36, F36, h, this]
  have hlk : l.length = k.length := by simp at h; omega
  simp -implicitDefEqProofs [a36, F36, h]
  refine w_rounds [] [] 0 (Nat.le_refl _) (smI l k) l.length ⟨by simp, 0, by simp, by simp, by simp⟩ ?_
  rintro m S ⟨i, hi, hx, rfl⟩
  by_cases hm : i < l.length
  · have h1 : (i : Int) < l.length := by omega
    have h0 : ¬ (i : Int) < 0 := by omega
    have hm2 : i < k.length := by omega
    have h2 : (i : Int) < k.length := by omega
    have hw := wrap64 (n := (i : Int) + 1) (by omega)
    by_cases he : l[i] = k[i]
    · simp -implicitDefEqProofs [h1, h0, h2, rl_get hm, rl_get hm2, ← he, hw, Rs.v, eqCs, eqC, ba_self]
      exact ⟨m - 1, by omega, i + 1, by omega, take_eq1 hm hm2 hx he, by simp⟩
    · have nk : ¬ l = k := fun q => by subst q; simp at he
      rcases beqF he with q | ⟨q, q2⟩ | ⟨q, q2, q3⟩ | ⟨q, q2, q3, q4⟩
      · simp -implicitDefEqProofs [h1, h0, h2, rl_get hm, rl_get hm2, Rs.v, eqCs, eqC, q, nk]
      · simp -implicitDefEqProofs [h1, h0, h2, rl_get hm, rl_get hm2, Rs.v, eqCs, eqC, q, q2, nk]
      · simp -implicitDefEqProofs [h1, h0, h2, rl_get hm, rl_get hm2, Rs.v, eqCs, eqC, q, q2, q3, nk]
      · simp -implicitDefEqProofs [h1, h0, h2, rl_get hm, rl_get hm2, Rs.v, eqCs, eqC, q, q2, q3, q4, nk]
  · have h2 : i = l.length := by omega
    rw [List.take_of_length_le (by omega), List.take_of_length_le (by omega)] at hx
    simp -implicitDefEqProofs [h2, hx]
def Rs.z : Rs := ⟨ByteArray.mk #[], 0, 0, 0⟩
def isN (n : ByteArray) (r : Rs) : Bool := r.nm.toList == n.toList
def findR (l : List Rs) (n : ByteArray) : Rs := (l.find? (isN n)).getD Rs.z
def hasR (l : List Rs) (n : ByteArray) : Bool := l.any (isN n)
theorem find_at {l : List Rs} {n : ByteArray} {i : Nat} (hm : i < l.length) (hx : (l.take i).any (isN n) = false) (h : isN n l[i] = true) : findR l n = l[i] ∧ hasR l n = true := by
  have e : l = l.take i ++ l[i] :: l.drop (i + 1) := by simp
  have e1 : (l.take i).find? (isN n) = none := by
    rw [List.find?_eq_none]; intro x hx'; rw [List.any_eq_false] at hx; exact hx x hx'
  constructor
  · have e3 : (l.take i ++ l[i] :: l.drop (i + 1)).find? (isN n) = some l[i] := by rw [List.find?_append, e1, List.find?_cons_of_pos h]; rfl
    have e2 : l.find? (isN n) = some l[i] := (congrArg (List.find? (isN n)) e).trans e3
    unfold findR
    rw [e2]
    rfl
  · exact List.any_eq_true.2 ⟨_, List.getElem_mem hm, h⟩
theorem find_no {l : List Rs} {n : ByteArray} (hx : l.any (isN n) = false) : findR l n = Rs.z ∧ hasR l n = false := by
  refine ⟨?_, hx⟩
  unfold findR
  rw [List.find?_eq_none.2]
  · rfl
  · intro x hx'; rw [List.any_eq_false] at hx; exact hx x hx'
theorem any_tk1 {α : Type} {l : List α} {i : Nat} (h : i < l.length) (p : α → Bool) : (l.take (i + 1)).any p = ((l.take i).any p || p l[i]) := by
  rw [List.take_add_one, List.getElem?_eq_getElem h, List.any_append]; simp
def fdI (l : List Rs) (n : ByteArray) (m : Nat) (S : St) : Prop := ∃ i : Nat, i + m = l.length ∧ (l.take i).any (isN n) = false ∧ S = ⟨tmL [(4, .ptr 0 0)], [.list 4 (rl l), .s (.string n), .s (.bool false), .s (.int .i64 i)], [[.s (.string (ByteArray.mk #[])), .s (.int .i64 0), .s (.int .i64 0), .s (.int .i64 0)]], 0⟩
set_option maxHeartbeats 4000000 in
theorem Find_pc (l : List Rs) (n : ByteArray) (hl : l.length ≤ 1000000) : PC Try.prog 35 [.list 4 (rl l), .s (.string n)] (fun r => r = .tup [(findR l n).v, .s (.bool (hasR l n))]) := by
  refine pc_end c35 mixed rfl ?_
  simp -implicitDefEqProofs [a35, F35]
  refine w_rounds [4] [] 1 (by simp) (fdI l n) l.length ⟨by simp, 0, by simp, by simp, by simp⟩ ?_
  rintro m S ⟨i, hi, hx, rfl⟩
  by_cases hm : i < l.length
  · have h1 : (i : Int) < l.length := by omega
    have h0 : ¬ (i : Int) < 0 := by omega
    have hw := wrap64 (n := (i : Int) + 1) (by omega)
    cases he : ((l[i]).nm.toList == n.toList)
    · simp -implicitDefEqProofs [h1, h0, rl_get hm, he, hw, Rs.v]
      exact ⟨m - 1, by omega, i + 1, by omega, by rw [any_tk1 hm, hx, isN, he]; rfl, by simp⟩
    · obtain ⟨f1, f2⟩ := find_at hm hx he
      simp -implicitDefEqProofs [h1, h0, rl_get hm, he, Rs.v, f1, f2]
  · have h2 : i = l.length := by omega
    rw [List.take_of_length_le (by omega)] at hx
    obtain ⟨f1, f2⟩ := find_no hx
    simp -implicitDefEqProofs [h2, f1, f2, Rs.z, Rs.v]
theorem Clone_pc (l : List Rs) (h : l.length ≤ 1000000) : PC Try.prog 57 [.list 4 (rl l)] (fun r => r = .list 4 (rl l)) := by
  refine pc_list (q := fun r => frT r (.list 4 (rl l))) ?_ fun x hx _ => ⟨_, hx, rfl, rfl⟩
  refine pc_end c57 mixed rfl ?_
  have b1 : l.length ≤ maxLen ∧ l.length * 40 ≤ maxBytes := by simp [maxLen, maxBytes]; omega
  by_cases hn : l = []
  · subst hn
    simp -implicitDefEqProofs [a57, F57, WO_isn, frT, frA, frL, immC]
  · have h0 : l.length ≠ 0 := by simpa using hn
    have h1 : rl l ≠ [] := by simpa [rl] using hn
    simp -implicitDefEqProofs [a57, F57, b1, h0, h1, WO_isn, frT, frA, frL, immC]
end Go.Proofs.Ytebibhmjmaomnaa
namespace Go.Proofs.Ytebibhmjmaomnaa
open Go.RowKit Go.Proofs
def insF (r : Rs) (s : Bool × List Rs) (x : Rs) : Bool × List Rs := if s.1 = false ∧ nlt r.nm x.nm = true then (true, s.2 ++ [r] ++ [x]) else (s.1, s.2 ++ [x])
def rinsV (l : List Rs) (r : Rs) : List Rs := if (l.foldl (insF r) (false, [])).1 then (l.foldl (insF r) (false, [])).2 else (l.foldl (insF r) (false, [])).2 ++ [r]
def insE (l : List Rs) (r : Rs) : Int := if catOk l = false then 2 else if nameOk r.nm = false then 9 else if resOk r = false then 1 else if hasR l r.nm = true then 11 else if l.length = 8 then 4 else 0
def rinsL (l : List Rs) (r : Rs) : List Rs := if insE l r = 0 then rinsV l r else []
theorem fold_take {α β : Type} {l : List α} {f : β → α → β} {a : β} {i : Nat} (h : i < l.length) : (l.take (i + 1)).foldl f a = f ((l.take i).foldl f a) l[i] := by
  rw [List.take_add_one, List.getElem?_eq_getElem h, List.foldl_append]; rfl
theorem insF_len {r : Rs} : ∀ {l : List Rs} {s : Bool × List Rs}, (l.foldl (insF r) s).2.length ≤ s.2.length + 2 * l.length
  | [], s => by simp
  | x :: l, s => by
    rw [List.foldl_cons]
    have := @insF_len r l (insF r s x)
    have h : (insF r s x).2.length ≤ s.2.length + 2 := by unfold insF; split <;> simp
    simp only [List.length_cons]
    omega
def Rs.cs (r : Rs) : List V := [.s (.string r.nm), .s (.int .i64 r.kd), .s (.int .i64 r.un), .s (.int .i64 r.hm)]
def inI (l : List Rs) (r : Rs) (m : Nat) (S : St) : Prop := ∃ (i : Nat) (d : Bool) (out : List Rs), i + m = l.length ∧ (l.take i).foldl (insF r) (false, []) = (d, out) ∧ S = ⟨tmL [(3, .ptr 0 0)], [.list 4 (rl l), r.v, .s (.slice none 0 0), .s (.int .i64 0), .s (.bool false), .own true 27 4 (rl out), .s (.bool d), .s (.int .i64 i)], [r.cs], 0⟩
set_option maxHeartbeats 8000000 in
theorem rInsert_pc (l : List Rs) (r : Rs) (hl : l.length ≤ 1000000) : PC Try.prog 42 [.list 4 (rl l), r.v] (fun q => q = .tup [.list 4 (rl (rinsL l r)), .s (.int .i64 (insE l r))]) := by
  refine pc_list (q := fun q => frT q (.tup [.list 4 (rl (rinsL l r)), .s (.int .i64 (insE l r))])) ?_ fun x hx _ => ⟨_, hx, rfl, rfl⟩
  refine pc_end c42 mixed rfl ?_
  simp -implicitDefEqProofs [a42, F42, Rs.v]
  refine wk_take ?_
  simp -implicitDefEqProofs
  refine wc_of (rcatValid_pc l hl) (by simp) (by simp) ?_
  rintro _ rfl
  cases h1 : catOk l
  case' false => simp -implicitDefEqProofs [rinsL, insE, h1, frT, frAs, frA, frL, immC]
  simp -implicitDefEqProofs
  refine wk_take ?_
  simp -implicitDefEqProofs
  refine wc_of (rValidName_pc r.nm) (by simp) (by simp) ?_
  rintro _ rfl
  cases h2 : nameOk r.nm
  case' false => simp -implicitDefEqProofs [rinsL, insE, h1, h2, frT, frAs, frA, frL, immC]
  simp -implicitDefEqProofs
  refine wk_take ?_
  simp -implicitDefEqProofs
  refine wc_of (rValidResource_pc r) (by simp [Rs.v]) (by simp [Rs.v]) ?_
  rintro _ rfl
  cases h3 : resOk r
  case' false => simp -implicitDefEqProofs [rinsL, insE, h1, h2, h3, frT, frAs, frA, frL, immC]
  simp -implicitDefEqProofs
  refine wk_take ?_
  simp -implicitDefEqProofs
  refine wc_of (Find_pc l r.nm hl) (by simp) (by simp) ?_
  rintro _ rfl
  cases h4 : hasR l r.nm
  case' true => simp -implicitDefEqProofs [rinsL, insE, h1, h2, h3, h4, Rs.v, frT, frAs, frA, frL, immC]
  cases h5 : ((l.length : Int) == 8)
  case' true =>
    have h6 : l.length = 8 := by simp at h5; omega
    simp -implicitDefEqProofs [rinsL, insE, h1, h2, h3, h4, h5, h6, Rs.v, frT, frAs, frA, frL, immC]
  have h6 : ¬ l.length = 8 := by simp at h5; omega
  have h8 := (cat_iff.1 h1).len
  have hE : insE l r = 0 := by simp [insE, h1, h2, h3, h4, h6]
  simp -implicitDefEqProofs [h5, Rs.v]
  refine w_rounds [3] [] 1 (by simp) (inI l r) l.length ⟨by simp, 0, false, [], by simp, by simp, by simp [Rs.v, Rs.cs]⟩ ?_
  rintro m S ⟨i, d, out, hi, hx, rfl⟩
  have hlen : out.length ≤ 16 := by
    have := @insF_len r (l.take i) (false, [])
    rw [hx] at this
    simp at this
    omega
  have b1 : out.length + 1 ≤ maxLen ∧ (out.length + 1) * 40 ≤ maxBytes := by simp [maxLen, maxBytes]; omega
  have b2 : out.length + 1 + 1 ≤ maxLen ∧ (out.length + 1 + 1) * 40 ≤ maxBytes := by simp [maxLen, maxBytes]; omega
  by_cases hm : i < l.length
  · have g1 : (i : Int) < l.length := by omega
    have g0 : ¬ (i : Int) < 0 := by omega
    have hw := wrap64 (n := (i : Int) + 1) (by omega)
    have hs := fold_take (f := insF r) (a := (false, [])) hm
    rw [hx] at hs
    cases d
    · cases h7 : Op.bytesLess r.nm.toList (l[i]).nm.toList
      · have e : insF r (false, out) l[i] = (false, out ++ [l[i]]) := by simp [insF, nlt, h7]
        rw [e] at hs
        simp -implicitDefEqProofs [g1, g0, rl_get hm, Rs.v, Rs.cs, h7, hw, b1]
        exact ⟨m - 1, by omega, i + 1, false, _, by omega, hs, by simp [Rs.v, Rs.cs, rl]⟩
      · have e : insF r (false, out) l[i] = (true, out ++ [r] ++ [l[i]]) := by simp [insF, nlt, h7]
        rw [e] at hs
        simp -implicitDefEqProofs [g1, g0, rl_get hm, Rs.v, Rs.cs, h7, hw, b1, b2]
        exact ⟨m - 1, by omega, i + 1, true, _, by omega, hs, by simp [Rs.v, Rs.cs, rl]⟩
    · have e : insF r (true, out) l[i] = (true, out ++ [l[i]]) := by simp [insF]
      rw [e] at hs
      simp -implicitDefEqProofs [g1, g0, rl_get hm, Rs.v, Rs.cs, hw, b1]
      exact ⟨m - 1, by omega, i + 1, true, _, by omega, hs, by simp [Rs.v, Rs.cs, rl]⟩
  · have e : i = l.length := by omega
    rw [List.take_of_length_le (by omega)] at hx
    cases d
    · have er : rinsL l r = out ++ [r] := by simp [rinsL, hE, rinsV, hx]
      simp -implicitDefEqProofs [e, Rs.v, Rs.cs, b1, er, hE, frT, frAs, frA, frL, immC]
      simp [rl, Rs.v]
    · have er : rinsL l r = out := by simp [rinsL, hE, rinsV, hx]
      simp -implicitDefEqProofs [e, Rs.v, Rs.cs, b1, er, hE, frT, frAs, frA, frL, immC]
def rmE (l : List Rs) (n : ByteArray) : Int := if catOk l = false then 2 else if hasR l n = false then 10 else 0
def rmV (l : List Rs) (n : ByteArray) : List Rs := l.filter fun x => !isN n x
def rmL (l : List Rs) (n : ByteArray) : List Rs := if rmE l n = 0 then rmV l n else []
def rmvI (l : List Rs) (n : ByteArray) (m : Nat) (S : St) : Prop := ∃ i : Nat, i + m = l.length ∧ S = ⟨tmL [], [.list 4 (rl l), .s (.string n), .s (.slice none 0 0), .s (.int .i64 0), .s (.bool true), .own true 27 4 (rl ((l.take i).filter fun x => !isN n x)), .s (.int .i64 i)], [], 0⟩
theorem filter_tk {α : Type} {l : List α} {i : Nat} (h : i < l.length) (p : α → Bool) : (l.take (i + 1)).filter p = (l.take i).filter p ++ (if p l[i] then [l[i]] else []) := by
  rw [List.take_add_one, List.getElem?_eq_getElem h, List.filter_append]
  cases e : p l[i] <;> simp [e]
set_option maxHeartbeats 8000000 in
theorem rRemove_pc (l : List Rs) (n : ByteArray) (hl : l.length ≤ 1000000) : PC Try.prog 43 [.list 4 (rl l), .s (.string n)] (fun q => q = .tup [.list 4 (rl (rmL l n)), .s (.int .i64 (rmE l n))]) := by
  refine pc_list (q := fun q => frT q (.tup [.list 4 (rl (rmL l n)), .s (.int .i64 (rmE l n))])) ?_ fun x hx _ => ⟨_, hx, rfl, rfl⟩
  refine pc_end c43 mixed rfl ?_
  simp -implicitDefEqProofs [a43, F43]
  refine wk_take ?_
  simp -implicitDefEqProofs
  refine wc_of (rcatValid_pc l hl) (by simp) (by simp) ?_
  rintro _ rfl
  cases h1 : catOk l
  case' false => simp -implicitDefEqProofs [rmL, rmE, h1, frT, frAs, frA, frL, immC]
  simp -implicitDefEqProofs
  refine wk_take ?_
  simp -implicitDefEqProofs
  refine wc_of (Find_pc l n hl) (by simp) (by simp) ?_
  rintro _ rfl
  cases h4 : hasR l n
  case' false => simp -implicitDefEqProofs [rmL, rmE, h1, h4, Rs.v, frT, frAs, frA, frL, immC]
  have h8 := (cat_iff.1 h1).len
  have hE : rmE l n = 0 := by simp [rmE, h1, h4]
  simp -implicitDefEqProofs [Rs.v]
  refine w_rounds [] [] 0 (Nat.le_refl _) (rmvI l n) l.length ⟨by simp, 0, by simp, by simp⟩ ?_
  rintro m S ⟨i, hi, rfl⟩
  have hlen : ((l.take i).filter fun x => !isN n x).length ≤ 8 := Nat.le_trans (List.length_filter_le _ _) (by simp; omega)
  have b1 : ((l.take i).filter fun x => !isN n x).length + 1 ≤ maxLen ∧ (((l.take i).filter fun x => !isN n x).length + 1) * 40 ≤ maxBytes := by simp only [maxLen, maxBytes]; omega
  by_cases hm : i < l.length
  · have g1 : (i : Int) < l.length := by omega
    have g0 : ¬ (i : Int) < 0 := by omega
    have hw := wrap64 (n := (i : Int) + 1) (by omega)
    have hs := filter_tk hm (fun x => !isN n x)
    generalize ((l.take i).filter fun x => !isN n x) = out at b1 hs
    cases h7 : ((l[i]).nm.toList == n.toList)
    · simp only [isN, h7] at hs
      simp -implicitDefEqProofs [g1, g0, rl_get hm, Rs.v, h7, hw, b1]
      exact ⟨m - 1, by omega, i + 1, by omega, by simp only [isN]; rw [hs]; simp [Rs.v, rl]⟩
    · simp only [isN, h7] at hs
      simp -implicitDefEqProofs [g1, g0, rl_get hm, Rs.v, h7, hw, b1]
      exact ⟨m - 1, by omega, i + 1, by omega, by simp only [isN]; rw [hs]; simp⟩
  · have e : i = l.length := by omega
    rw [List.take_of_length_le (by omega)]
    simp -implicitDefEqProofs [e, hE, rmL, rmV, frT, frAs, frA, frL, immC]
end Go.Proofs.Ytebibhmjmaomnaa
namespace Go.Proofs.Ytebibhmjmaomnaa
open Go.RowKit Go.Proofs
set_option maxHeartbeats 2000000 in
theorem less_calls (ba bx blk off len cap : Nat) (s n : ByteArray) (i : Nat) (W : World) (hi : i < len)
    (ha : W.cell? ⟨ba, 0, none⟩ = some (.slice (some ⟨blk, off, none⟩) len cap)) (hx : W.cell? ⟨bx, 0, none⟩ = some (.string n)) (hc : W.cell? ⟨blk, off + i * 4, none⟩ = some (.string s)) :
    Calls Try.prog 69 (#[.int .i64 i] ++ #[.pointer (some ⟨ba, 0, none⟩), .pointer (some ⟨bx, 0, none⟩)]) W fun e w' => e = .returned (.bool (!Op.bytesLess s.toList n.toList)) ∧ ∃ q, w' = W.drewN q := by
  have hiz : (i : Int) < (len : Int) := by omega
  go_enter Try.func69, Try.ntmps69
  go_wp2
  go_region
  all_goals go_wp2
  all_goals go_ret
  all_goals exact ⟨by first | rfl | simp, 1, rfl⟩
theorem enter69 : ∀ args w, (callFunc 69 args).run Try.prog w = .ok (.enter 69 args) w := enters_of Try.func69 (by kernel_rfl) rfl
set_option maxHeartbeats 4000000 in
set_option maxRecDepth 1000000 in
theorem search_calls (cb : Array Value) (n k : Nat) (w : World) (hsz : n < 4611686018427387904) (hk : k ≤ n)
    (hf : ∀ (m : Nat) (i : Nat), i < n → Calls Try.prog 69 (#[.int .i64 i] ++ cb) (w.drewN m) fun e w' => e = .returned (.bool (decide (k ≤ i))) ∧ ∃ q, w' = (w.drewN m).drewN q) :
    Calls Try.prog 68 #[.int .i64 n, .func (.func 69) #[] cb] w fun e w' => e = .returned (.int .i64 (k : Nat)) ∧ ∃ q, w' = w.drewN q := by
  have HF := Lib.hid hf
  have E69 := Lib.hid enter69
  clear hf
  go_enter Try.func68, Try.ntmps68
  go_wp2
  go_loopg [5, 6] n (fun kx s5 s6 wr => ∃ (lo hi q : Nat), s5 = .int .i64 lo ∧ s6 = .int .i64 hi ∧ lo ≤ hi ∧ hi ≤ n ∧ lo ≤ k ∧ k ≤ hi ∧ hi - lo ≤ kx ∧ wr = w.drewN q)
  case atStart => exact ⟨0, n, 0, rfl, rfl, Nat.zero_le _, Nat.le_refl _, Nat.zero_le _, hk, by omega, rfl⟩
  case round =>
    obtain ⟨lo, hi, q, rfl, rfl, hlh, hin, hlk, hkh, hg, rfl⟩ := hrel
    by_cases hlt : lo < hi
    · have hc := HF.out q ((lo + hi) / 2) (by omega)
      rw [show (((lo + hi) / 2 : Nat) : Int) = ((lo : Int) + (hi : Int)) / 2 by omega] at hc
      by_cases hp : k ≤ (lo + hi) / 2
      · rw [decide_eq_true hp] at hc
        have eg := E69.out
        go_wp2_with (go_at_fn 69; refine hc.mono ?_; rintro e w' ⟨rfl, nq, rfl⟩)
        go_roundg ((lo + hi) / 2 - lo)
        case measure => omega
        case rel => exact ⟨lo, (lo + hi) / 2, q + nq, rfl, by rw [show ((lo : Int) + (hi : Int)) / 2 = (((lo + hi) / 2 : Nat) : Int) by omega], by omega, by omega, hlk, hp, Nat.le_refl _, rfl⟩
      · rw [decide_eq_false hp] at hc
        have eg := E69.out
        go_wp2_with (go_at_fn 69; refine hc.mono ?_; rintro e w' ⟨rfl, nq, rfl⟩)
        go_roundg (hi - ((lo + hi) / 2 + 1))
        case measure => omega
        case rel => exact ⟨(lo + hi) / 2 + 1, hi, q + nq, by rw [show ((lo : Int) + (hi : Int)) / 2 + 1 = (((lo + hi) / 2 + 1 : Nat) : Int) by omega], rfl, by omega, hin, by omega, hkh, Nat.le_refl _, rfl⟩
    · obtain rfl : hi = lo := by omega
      obtain rfl : k = hi := by omega
      go_wp2
      go_ret
      exact ⟨rfl, q, rfl⟩
def pW (w : World) (v u : Value) : World := (w.alloc (.cells #[v] 30)).alloc (.cells #[u] 9)
theorem pW_size (w : World) (v u : Value) : (pW w v u).heap.size = w.heap.size + 1 + 1 := by simp [pW]
theorem pW_a (w : World) (v u : Value) : (pW w v u).cell? ⟨w.heap.size, 0, none⟩ = some v := cell_alloc_sl _ (cell_new_sl w _ _)
theorem pW_b (w : World) (v u : Value) : (pW w v u).cell? ⟨w.heap.size + 1, 0, none⟩ = some u := by have := cell_new_sl (w.alloc (.cells #[v] 30)) u 9; rwa [World.size_alloc] at this
theorem pW_c {w : World} {v u x : Value} {a : Addr} (h : w.cell? a = some x) : (pW w v u).cell? a = some x := cell_alloc_sl _ (cell_alloc_sl _ h)
theorem pW_below (w : World) (v u : Value) (q : Nat) : Below w.heap.size w ((pW w v u).drewN q) := by
  have hB0 : Below w.heap.size w (pW w v u) := ((Below.refl _ w).alloc (Nat.le_refl _) _).alloc (by simp) _
  have := below_grown_sl w.heap.size (pW w v u) q #[] (by rw [pW_size]; omega)
  rw [Go.Sort.grow_empty] at this
  exact hB0.trans this
theorem place_search (w : World) (A : Option Addr) (len cap : Nat) (n : ByteArray) (nm : Nat → ByteArray) (k : Nat) (hk : k ≤ len) (hsz : len ≤ 1000000)
    (hc : ∀ i, i < len → ∃ blk off, A = some ⟨blk, off, none⟩ ∧ w.cell? ⟨blk, off + i * 4, none⟩ = some (.string (nm i)))
    (hless : ∀ i, i < len → Op.bytesLess (nm i).toList n.toList = decide (i < k)) :
    Calls Try.prog 68 #[.int .i64 len, .func (.func 69) #[] #[.pointer (some ⟨w.heap.size, 0, none⟩), .pointer (some ⟨w.heap.size + 1, 0, none⟩)]] (pW w (.slice A len cap) (.string n)) fun e w' => e = .returned (.int .i64 (k : Nat)) ∧ ∃ q, w' = (pW w (.slice A len cap) (.string n)).drewN q := by
  refine search_calls _ len k _ (by omega) hk fun m i hi => ?_
  obtain ⟨blk, off, rfl, hx⟩ := hc i hi
  have := less_calls w.heap.size (w.heap.size + 1) blk off len cap (nm i) n i ((pW w (.slice (some ⟨blk, off, none⟩) len cap) (.string n)).drewN m) hi (pW_a _ _ _) (pW_b _ _ _) (pW_c hx)
  rw [hless i hi] at this
  have e : (!decide (i < k)) = decide (k ≤ i) := by
    by_cases h : i < k
    · have : ¬ k ≤ i := by omega
      simp [h, this]
    · have : k ≤ i := by omega
      simp [h, this]
  rw [e] at this
  exact this
set_option maxHeartbeats 2000000 in
theorem place_in (w : World) (blk off len cap : Nat) (n : ByteArray) (nm : Nat → ByteArray) (k : Nat) (hk : k < len) (hsz : len ≤ 1000000)
    (hc : ∀ i, i < len → w.cell? ⟨blk, off + i * 4, none⟩ = some (.string (nm i)))
    (hless : ∀ i, i < len → Op.bytesLess (nm i).toList n.toList = decide (i < k)) :
    Calls Try.prog 60 #[.slice (some ⟨blk, off, none⟩) len cap, .string n] w fun e w' => e = .returned (.tuple #[.int .i64 (k : Nat), .bool ((nm k).toList == n.toList)]) ∧ Below w.heap.size w w' := by
  have hS := place_search w (some ⟨blk, off, none⟩) len cap n nm k (by omega) hsz (fun i hi => ⟨blk, off, rfl, hc i hi⟩) hless
  have ck := pW_c (v := .slice (some ⟨blk, off, none⟩) len cap) (u := .string n) (hc k hk)
  have ca := pW_a w (.slice (some ⟨blk, off, none⟩) len cap) (.string n)
  have cx := pW_b w (.slice (some ⟨blk, off, none⟩) len cap) (.string n)
  have HB := Lib.hid (pW_below w (.slice (some ⟨blk, off, none⟩) len cap) (.string n))
  have hkz : (k : Int) < (len : Int) := by omega
  clear hc hless
  generalize nm k = s at ck ⊢
  obtain ⟨W0, hW0⟩ : ∃ W0, W0 = pW w (.slice (some ⟨blk, off, none⟩) len cap) (.string n) := ⟨_, rfl⟩
  rw [← hW0] at hS ck ca cx HB
  have hW1 : (w.alloc (.cells #[.slice (some ⟨blk, off, none⟩) len cap] 30)).alloc (.cells #[.string n] 9) = W0 := hW0.symm
  clear hW0
  go_enter Try.func60, Try.ntmps60
  go_wp2_with (go_at_call 68; refine hS.mono ?_; rintro e w' ⟨rfl, q, rfl⟩)
  go_region
  all_goals go_wp2
  all_goals go_ret2
  all_goals exact ⟨rfl, HB.out _⟩
set_option maxHeartbeats 2000000 in
theorem place_end (w : World) (A : Option Addr) (len cap : Nat) (n : ByteArray) (nm : Nat → ByteArray) (hsz : len ≤ 1000000)
    (hc : ∀ i, i < len → ∃ blk off, A = some ⟨blk, off, none⟩ ∧ w.cell? ⟨blk, off + i * 4, none⟩ = some (.string (nm i)))
    (hless : ∀ i, i < len → Op.bytesLess (nm i).toList n.toList = true) :
    Calls Try.prog 60 #[.slice A len cap, .string n] w fun e w' => e = .returned (.tuple #[.int .i64 (len : Nat), .bool false]) ∧ Below w.heap.size w w' := by
  have hS := place_search w A len cap n nm len (by omega) hsz hc (fun i hi => by rw [hless i hi]; simp [hi])
  have ca := pW_a w (.slice A len cap) (.string n)
  have cx := pW_b w (.slice A len cap) (.string n)
  have HB := Lib.hid (pW_below w (.slice A len cap) (.string n))
  have hkz : ¬ (len : Int) < (len : Int) := by omega
  clear hc hless
  obtain ⟨W0, hW0⟩ : ∃ W0, W0 = pW w (.slice A len cap) (.string n) := ⟨_, rfl⟩
  rw [← hW0] at hS ca cx HB
  have hW1 : (w.alloc (.cells #[.slice A len cap] 30)).alloc (.cells #[.string n] 9) = W0 := hW0.symm
  clear hW0
  go_enter Try.func60, Try.ntmps60
  go_wp2_with (go_at_call 68; refine hS.mono ?_; rintro e w' ⟨rfl, q, rfl⟩)
  go_region
  all_goals go_wp2
  all_goals go_ret2
  all_goals exact ⟨rfl, HB.out _⟩
end Go.Proofs.Ytebibhmjmaomnaa
namespace Go.Proofs.Ytebibhmjmaomnaa
open Go.RowKit Go.Proofs
theorem pc_imm {P : Program} {f : FuncId} {args : List V} {Q : V → Prop} (him : ∀ x ∈ args, immA x = true)
    (hw : ∀ (g : Gh) (w : World) (vs : Array Value), args.length = vs.size → (∀ (i : Nat) (x : V) (v : Value), args[i]? = some x → vs[i]? = some v → Rep g w x v) → (∀ k, 0 < g.I k → k < w.heap.size) →
      Calls P f vs w fun e' w' => ∃ (v : Value) (r : V) (I' : Nat → Nat), e' = .returned v ∧ Q r ∧ immT r = true ∧ okV r = true ∧ (∀ b, b < w.heap.size → I' b = g.I b) ∧ (∀ b, 0 < I' b → b < w'.heap.size) ∧ Rep ⟨I', g.φ⟩ w' r v ∧ Below w.heap.size w w') : PC P f args Q := by
  intro g w vs hb
  have hl : args.length = vs.size := by have := hb.sz; simp [Frn] at this; exact this.symm
  have hrep : ∀ (i : Nat) (x : V) (v : Value), args[i]? = some x → vs[i]? = some v → Rep g w x v := by
    intro i x v hx hv
    refine hb.rep (.l (.var i)) x v ⟨hx, ?_⟩
    have hi := (List.getElem?_eq_some_iff.1 hx).1
    have hi' : i < vs.size := by omega
    rw [Array.getElem?_eq_getElem hi'] at hv
    cases hv
    simp [valAt, Frn, Act.tv, hi, hl ▸ hi]
  refine (hw g w vs hl hrep hb.Ilt).mono ?_
  rintro e' w' ⟨v, r, I', rfl, hQ, hi, hok, h1, h2, hr, hbel⟩
  obtain ⟨q1, q2⟩ := bd_immT (g := ⟨I', g.φ⟩) (w := w') hi hr h2
  refine ⟨v, r, [], ⟨I', g.φ⟩, rfl, ⟨rfl, hQ⟩, hok, q1, ⟨hbel.os, hbel.tape, hbel.output, hbel.size, fun k hk' _ => ⟨hbel.block k hk', h1 k hk'⟩, fun k ho' => absurd ho' (q2 k), fun b hb' => by simp at hb'⟩⟩
theorem bl_trans : ∀ {a b c : List UInt8}, Op.bytesLess a b = true → Op.bytesLess b c = true → Op.bytesLess a c = true
  | _, [], _, h, _ => by simp [Op.bytesLess] at h
  | _, _ :: _, [], _, h => by simp [Op.bytesLess] at h
  | [], _ :: _, _ :: _, _, _ => by simp [Op.bytesLess]
  | a :: x, b :: y, c :: z, h1, h2 => by
    simp only [Op.bytesLess, Bool.or_eq_true, Bool.and_eq_true, decide_eq_true_eq, beq_iff_eq, UInt8.lt_iff_toNat_lt] at h1 h2 ⊢
    rcases h1 with h1 | ⟨rfl, h1⟩
    · rcases h2 with h2 | ⟨rfl, h2⟩
      · exact .inl (by omega)
      · exact .inl h1
    · rcases h2 with h2 | ⟨rfl, h2⟩
      · exact .inl h2
      · exact .inr ⟨rfl, bl_trans h1 h2⟩
theorem bl_irr : ∀ {a : List UInt8}, Op.bytesLess a a = false
  | [] => rfl
  | a :: x => by simp [Op.bytesLess, @bl_irr x]
theorem bl_tot : ∀ {a b : List UInt8}, Op.bytesLess a b = false → Op.bytesLess b a = false → a = b
  | [], [], _, _ => rfl
  | _ :: _, [], _, h => by simp [Op.bytesLess] at h
  | [], _ :: _, h, _ => by simp [Op.bytesLess] at h
  | a :: x, b :: y, h1, h2 => by
    simp only [Op.bytesLess, Bool.or_eq_false_iff, Bool.and_eq_false_iff, decide_eq_false_iff_not, beq_eq_false_iff_ne, UInt8.lt_iff_toNat_lt] at h1 h2
    have e : a = b := UInt8.toNat_inj.1 (by omega)
    subst e
    have h3 : Op.bytesLess x y = false := by rcases h1.2 with h | h; exact absurd rfl h; exact h
    have h4 : Op.bytesLess y x = false := by rcases h2.2 with h | h; exact absurd rfl h; exact h
    rw [bl_tot h3 h4]
theorem nlt_trans {a b c : ByteArray} (h1 : nlt a b = true) (h2 : nlt b c = true) : nlt a c = true := bl_trans h1 h2
theorem asc_pw : ∀ {l : List Rs}, ascB l = true → l.Pairwise fun a b => nlt a.nm b.nm = true
  | [], _ => .nil
  | [a], _ => by simp
  | a :: b :: l, h => by
    rw [ascB, Bool.and_eq_true] at h
    have ih := asc_pw h.2
    refine List.pairwise_cons.2 ⟨fun x hx => ?_, ih⟩
    rcases List.mem_cons.1 hx with rfl | hx
    · exact h.1
    · exact nlt_trans h.1 ((List.pairwise_cons.1 ih).1 x hx)
def pos (l : List Rs) (n : ByteArray) : Nat := l.countP fun x => nlt x.nm n
theorem pos_le (l : List Rs) (n : ByteArray) : pos l n ≤ l.length := List.countP_le_length
theorem pos_lt {n : ByteArray} : ∀ {l : List Rs}, (l.Pairwise fun a b => nlt a.nm b.nm = true) → ∀ (i : Nat) (h : i < l.length), nlt (l[i]).nm n = decide (i < pos l n)
  | [], _, i, h => absurd h (Nat.not_lt_zero _)
  | a :: l, hp, i, h => by
    have hp' := List.pairwise_cons.1 hp
    unfold pos
    cases e : nlt a.nm n
    · have h0 : l.countP (fun x => nlt x.nm n) = 0 := by
        rw [List.countP_eq_zero]
        intro x hx h
        have := nlt_trans (hp'.1 x hx) h
        rw [e] at this
        cases this
      rw [List.countP_cons_of_neg (by simp [e]), h0]
      cases i with
      | zero => simp [e]
      | succ i =>
        have hi : i < l.length := by simpa using h
        have := List.countP_eq_zero.1 h0 l[i] (List.getElem_mem hi)
        simp at this
        simp [this]
    · rw [List.countP_cons_of_pos (by simp [e])]
      cases i with
      | zero => simp [e]
      | succ i =>
        have hi : i < l.length := by simpa using h
        have := pos_lt (n := n) hp'.2 i hi
        simp only [List.getElem_cons_succ, this]
        unfold pos
        simp
theorem cat_pw {l : List Rs} (h : catOk l = true) : l.Pairwise fun a b => nlt a.nm b.nm = true := by
  unfold catOk at h
  rw [Bool.and_eq_true] at h
  exact asc_pw h.2
theorem has_at {l : List Rs} {n : ByteArray} (h : catOk l = true) (hk : pos l n < l.length) : hasR l n = ((l[pos l n]).nm.toList == n.toList) := by
  have hp := cat_pw h
  cases e : ((l[pos l n]).nm.toList == n.toList)
  · unfold hasR
    rw [List.any_eq_false]
    intro x hx hc
    obtain ⟨i, hi, rfl⟩ := List.getElem_of_mem hx
    have he : (l[i]).nm.toList = n.toList := by simpa [isN] using hc
    have h1 := pos_lt (n := n) hp i hi
    rw [nlt, he, bl_irr] at h1
    have h2 : ¬ i < pos l n := by simpa using h1.symm
    have h3 : pos l n ≠ i := fun q => by
      have : ((l[pos l n]).nm.toList == n.toList) = true := by simp only [q]; simpa using he
      rw [e] at this; cases this
    have h4 := List.pairwise_iff_getElem.1 hp (pos l n) i hk hi (by omega)
    have h5 := pos_lt (n := n) hp (pos l n) hk
    rw [nlt, he] at h4
    rw [nlt, h4] at h5
    simp at h5
  · unfold hasR
    rw [List.any_eq_true]
    exact ⟨_, List.getElem_mem hk, e⟩
theorem has_end {l : List Rs} {n : ByteArray} (h : catOk l = true) (hk : pos l n = l.length) : hasR l n = false := by
  have hp := cat_pw h
  unfold hasR
  rw [List.any_eq_false]
  intro x hx hc
  obtain ⟨i, hi, rfl⟩ := List.getElem_of_mem hx
  have he : (l[i]).nm.toList = n.toList := by simpa [isN] using hc
  have h1 := pos_lt (n := n) hp i hi
  rw [nlt, he, bl_irr] at h1
  have h2 : ¬ i < pos l n := by simpa using h1.symm
  omega
theorem rl_flat : ∀ {l : List Rs} (i : Nat) (h : i < l.length), (flat (rl l))[i * 4]? = some (.s (.string (l[i]).nm))
  | [], i, h => absurd h (Nat.not_lt_zero _)
  | a :: l, 0, _ => rfl
  | a :: l, i + 1, h => by
    have e : flat (rl (a :: l)) = a.cs ++ flat (rl l) := rfl
    have e2 : (i + 1) * 4 = a.cs.length + i * 4 := by simp [Rs.cs]; omega
    rw [e, e2, List.getElem?_append_right (by omega), Nat.add_sub_cancel_left]
    exact rl_flat i (by simpa using h)
theorem place_pc (l : List Rs) (n : ByteArray) (h : catOk l = true) : PC Try.prog 60 [.list 4 (rl l), .s (.string n)] (fun q => q = .tup [.s (.int .i64 (pos l n)), .s (.bool (hasR l n))]) := by
  have h8 := (cat_iff.1 h).len
  have hp := cat_pw h
  refine pc_imm (by intro x hx; simp at hx; rcases hx with rfl | rfl <;> rfl) fun g w vs hsz hrep hlt => ?_
  obtain ⟨A, c, hv, hcell⟩ : ∃ A c, vs = #[.slice A l.length c, .string n] ∧ ∀ i, (h : i < l.length) → ∃ blk off, A = some ⟨blk, off, none⟩ ∧ w.cell? ⟨blk, off + i * 4, none⟩ = some (.string (l[i]).nm) := by
    have h0 : 0 < vs.size := by simp at hsz; omega
    have h1 : 1 < vs.size := by simp at hsz; omega
    have r0 := hrep 0 _ vs[0] rfl (Array.getElem?_eq_getElem h0)
    have r1 := hrep 1 _ vs[1] rfl (Array.getElem?_eq_getElem h1)
    have e1 := r1.of_s rfl
    generalize hv0 : vs[0] = v0 at r0
    cases r0 with
    | list vals hc hm hA hz hi hcell hr =>
      rename_i A c
      refine ⟨A, c, ?_, fun i hi' => ?_⟩
      · refine Array.ext (by simpa using hsz.symm) fun i a b => ?_
        have : i = 0 ∨ i = 1 := by simp at b; omega
        rcases this with rfl | rfl
        · rw [hv0]; simp
        · rw [e1]; simp
      · have hf := rl_flat i hi'
        obtain ⟨b, q, e, _, hx⟩ := hcell (i * 4) (List.getElem?_eq_some_iff.1 hf).1
        have := (hr (i * 4) _ hf).of_s rfl
        rw [this] at hx
        exact ⟨b, q, e, hx⟩
  subst hv
  have fin : ∀ (k : Int) (b : Bool) (w' : World), Below w.heap.size w w' → Rep ⟨fun b => if b < w.heap.size then g.I b else 0, g.φ⟩ w' (.tup [.s (.int .i64 k), .s (.bool b)]) (.tuple #[.int .i64 k, .bool b]) := fun k b w' _ => by
    refine .tup rfl fun j u c hu hc => ?_
    match j with
    | 0 => simp at hu hc; subst hu; subst hc; exact .s rfl
    | 1 => simp at hu hc; subst hu; subst hc; exact .s rfl
    | j + 2 => simp at hu
  have hI : ∀ w' : World, Below w.heap.size w w' → ∀ b, 0 < (if b < w.heap.size then g.I b else 0) → b < w'.heap.size := fun w' hb b hb0 => by
    have := hb.size
    split at hb0
    · omega
    · omega
  by_cases hk : pos l n < l.length
  · have he := has_at h hk
    obtain ⟨blk, off, rfl, _⟩ := hcell _ hk
    have := place_in w blk off l.length c n (fun i => (l.getD i Rs.z).nm) (pos l n) hk (by omega) (fun i hi => by
      obtain ⟨b, q, e, hx⟩ := hcell i hi
      cases e
      rw [hx]
      simp [List.getD, hi]) (fun i hi => by
      have := pos_lt (n := n) hp i hi
      simpa [nlt, List.getD, hi] using this)
    refine this.mono ?_
    rintro e' w' ⟨rfl, hbel⟩
    refine ⟨_, _, _, rfl, rfl, rfl, rfl, fun b hb => by simp [hb], hI w' hbel, ?_, hbel⟩
    rw [he]
    have e3 : (l.getD (pos l n) Rs.z).nm = (l[pos l n]).nm := by simp [List.getD, hk]
    simp only [e3]
    exact fin _ _ w' hbel
  · have hk2 : pos l n = l.length := by have := pos_le l n; omega
    have he := has_end h hk2
    have := place_end w A l.length c n (fun i => (l.getD i Rs.z).nm) (by omega) (fun i hi => by
      obtain ⟨b, q, e, hx⟩ := hcell i hi
      refine ⟨b, q, e, ?_⟩
      rw [hx]
      simp [List.getD, hi]) (fun i hi => by
      have := pos_lt (n := n) hp i hi
      have h2 : i < pos l n := by omega
      simpa [nlt, List.getD, hi, h2] using this)
    refine this.mono ?_
    rintro e' w' ⟨rfl, hbel⟩
    refine ⟨_, _, _, rfl, rfl, rfl, rfl, fun b hb => by simp [hb], hI w' hbel, ?_, hbel⟩
    rw [he, hk2]
    exact fin _ _ w' hbel
end Go.Proofs.Ytebibhmjmaomnaa
namespace Go.Proofs.Ytebibhmjmaomnaa
open Go.RowKit Go.Proofs
def insV (l : List Rs) (r : Rs) : List Rs := l.take (pos l r.nm) ++ r :: l.drop (pos l r.nm)
def insL (l : List Rs) (r : Rs) : List Rs := if insE l r = 0 then insV l r else []
theorem rl_take (l : List Rs) (k : Nat) : (rl l).take k = rl (l.take k) := by simp [rl, List.map_take]
theorem rl_drop (l : List Rs) (k : Nat) : (rl l).drop k = rl (l.drop k) := by simp [rl, List.map_drop]
set_option maxHeartbeats 8000000 in
theorem Insert_pc (l : List Rs) (r : Rs) (hl : l.length ≤ 1000000) : PC Try.prog 40 [.list 4 (rl l), r.v] (fun q => q = .tup [.list 4 (rl (insL l r)), .s (.int .i64 (insE l r))]) := by
  refine pc_list (q := fun q => frT q (.tup [.list 4 (rl (insL l r)), .s (.int .i64 (insE l r))])) ?_ fun x hx _ => ⟨_, hx, rfl, rfl⟩
  refine pc_end c40 mixed rfl ?_
  simp -implicitDefEqProofs [a40, F40, Rs.v]
  refine wk_take ?_
  simp -implicitDefEqProofs
  refine wc_of (catValid_pc l hl) (by simp) (by simp) ?_
  rintro _ rfl
  cases h1 : catOk l
  case' false => simp -implicitDefEqProofs [insL, insE, h1, frT, frAs, frA, frL, immC]
  simp -implicitDefEqProofs
  refine wk_take ?_
  simp -implicitDefEqProofs
  refine wc_of (ValidName_pc r.nm) (by simp) (by simp) ?_
  rintro _ rfl
  cases h2 : nameOk r.nm
  case' false => simp -implicitDefEqProofs [insL, insE, h1, h2, frT, frAs, frA, frL, immC]
  simp -implicitDefEqProofs
  refine wk_take ?_
  simp -implicitDefEqProofs
  refine wc_of (ValidResource_pc r) (by simp [Rs.v]) (by simp [Rs.v]) ?_
  rintro _ rfl
  cases h3 : resOk r
  case' false => simp -implicitDefEqProofs [insL, insE, h1, h2, h3, frT, frAs, frA, frL, immC]
  simp -implicitDefEqProofs
  refine wk_take ?_
  simp -implicitDefEqProofs
  refine wc_of (place_pc l r.nm h1) (by simp) (by simp) ?_
  rintro _ rfl
  cases h4 : hasR l r.nm
  case' true => simp -implicitDefEqProofs [insL, insE, h1, h2, h3, h4, frT, frAs, frA, frL, immC]
  cases h5 : ((l.length : Int) == 8)
  case' true =>
    have h6 : l.length = 8 := by simp at h5; omega
    simp -implicitDefEqProofs [insL, insE, h1, h2, h3, h4, h5, h6, frT, frAs, frA, frL, immC]
  have h6 : ¬ l.length = 8 := by simp at h5; omega
  have h8 := (cat_iff.1 h1).len
  have hE : insE l r = 0 := by simp [insE, h1, h2, h3, h4, h6]
  have hv : insL l r = insV l r := by simp [insL, hE]
  unfold insV at hv
  have hp := pos_le l r.nm
  generalize pos l r.nm = p at hv hp
  have hw := wrap64 (n := (l.length : Int) + 1) (by omega)
  have n1 : ¬ (l.length : Int) + 1 < 0 := by omega
  have n2 : ((l.length : Int) + 1).toNat = l.length + 1 := by omega
  have n3 : ¬ (p : Int) < 0 := by omega
  have b0 : l.length + 1 ≤ maxLen ∧ (l.length + 1) * 40 ≤ maxBytes := by simp [maxLen, maxBytes]; omega
  have n0 : (0 : Int) ≤ (l.length : Int) + 1 := by omega
  have b4 : (l.length + 1) * 40 ≤ 140737488355328 := by omega
  have k6 : min p l.length = p := by omega
  have b1 : p ≤ maxLen ∧ p * 40 ≤ maxBytes := by simp [maxLen, maxBytes]; omega
  have b2 : p + 1 ≤ maxLen ∧ (p + 1) * 40 ≤ maxBytes := by simp [maxLen, maxBytes]; omega
  have b3 : p + 1 + (l.length - p) ≤ maxLen ∧ (p + 1 + (l.length - p)) * 40 ≤ maxBytes := by simp [maxLen, maxBytes]; omega
  have k7 : (l.drop p).take (l.length - p) = l.drop p := List.take_of_length_le (by simp)
  simp -implicitDefEqProofs [h5, hw, n0, b4, n1, n2, n3, b0, b1, b2, b3, k6, k7, hp, rl_take, rl_drop, hE, hv, frT, frAs, frA, frL, immC]
  simp [rl, Rs.v]
def delL (l : List Rs) (n : ByteArray) : List Rs := if rmE l n = 0 then l.take (pos l n) ++ l.drop (pos l n + 1) else []
theorem has_lt {l : List Rs} {n : ByteArray} (h : catOk l = true) (hh : hasR l n = true) : pos l n < l.length := by
  by_cases hk : pos l n = l.length
  · rw [has_end h hk] at hh; cases hh
  · have := pos_le l n; omega
set_option maxHeartbeats 8000000 in
theorem Remove_pc (l : List Rs) (n : ByteArray) (hl : l.length ≤ 1000000) : PC Try.prog 41 [.list 4 (rl l), .s (.string n)] (fun q => q = .tup [.list 4 (rl (delL l n)), .s (.int .i64 (rmE l n))]) := by
  refine pc_list (q := fun q => frT q (.tup [.list 4 (rl (delL l n)), .s (.int .i64 (rmE l n))])) ?_ fun x hx _ => ⟨_, hx, rfl, rfl⟩
  refine pc_end c41 mixed rfl ?_
  simp -implicitDefEqProofs [a41, F41]
  refine wk_take ?_
  simp -implicitDefEqProofs
  refine wc_of (catValid_pc l hl) (by simp) (by simp) ?_
  rintro _ rfl
  cases h1 : catOk l
  case' false => simp -implicitDefEqProofs [delL, rmE, h1, frT, frAs, frA, frL, immC]
  simp -implicitDefEqProofs
  refine wk_take ?_
  simp -implicitDefEqProofs
  refine wc_of (place_pc l n h1) (by simp) (by simp) ?_
  rintro _ rfl
  cases h4 : hasR l n
  case' false => simp -implicitDefEqProofs [delL, rmE, h1, h4, frT, frAs, frA, frL, immC]
  have h8 := (cat_iff.1 h1).len
  have hE : rmE l n = 0 := by simp [rmE, h1, h4]
  have hv : delL l n = l.take (pos l n) ++ l.drop (pos l n + 1) := by simp [delL, hE]
  have hp := has_lt h1 h4
  generalize pos l n = p at hv hp
  have n3 : ¬ (p : Int) < 0 := by omega
  have n4 : ¬ (p : Int) + 1 < 0 := by omega
  have n5 : ((p : Int) + 1).toNat = p + 1 := by omega
  have hw := wrap64 (n := (p : Int) + 1) (by omega)
  have b0 : l.length ≤ maxLen ∧ l.length * 40 ≤ maxBytes := by simp [maxLen, maxBytes]; omega
  have b4 : l.length * 40 ≤ 140737488355328 := by omega
  have hp1 : p ≤ l.length := by omega
  have hp2 : p + 1 ≤ l.length := by omega
  have k6 : min p l.length = p := by omega
  have b1 : p ≤ maxLen ∧ p * 40 ≤ maxBytes := by simp [maxLen, maxBytes]; omega
  have b3 : p + (l.length - (p + 1)) ≤ maxLen ∧ (p + (l.length - (p + 1))) * 40 ≤ maxBytes := by simp [maxLen, maxBytes]; omega
  have k7 : (l.drop (p + 1)).take (l.length - (p + 1)) = l.drop (p + 1) := List.take_of_length_le (by simp)
  simp -implicitDefEqProofs [hw, n3, n4, n5, b0, b4, b1, b3, k6, k7, hp1, hp2, rl_take, rl_drop, hE, hv, frT, frAs, frA, frL, immC]
  simp [rl]
theorem nlt_iff {a b : ByteArray} (h : a.toList ≠ b.toList) : nlt a b = !nlt b a := by
  cases e : nlt b a
  · cases e2 : nlt a b
    · exact absurd (bl_tot e2 e) h
    · rfl
  · cases e2 : nlt a b
    · rfl
    · have := nlt_trans e2 e
      rw [nlt, bl_irr] at this
      cases this
theorem fold_done {r : Rs} : ∀ (l : List Rs) (out : List Rs), l.foldl (insF r) (true, out) = (true, out ++ l)
  | [], out => by simp
  | x :: l, out => by
    rw [List.foldl_cons]
    have : insF r (true, out) x = (true, out ++ [x]) := by simp [insF]
    rw [this, fold_done l]
    simp
theorem fold_ins {r : Rs} : ∀ {l : List Rs} (out : List Rs), (l.Pairwise fun a b => nlt a.nm b.nm = true) → (∀ x ∈ l, x.nm.toList ≠ r.nm.toList) →
    (if (l.foldl (insF r) (false, out)).1 then (l.foldl (insF r) (false, out)).2 else (l.foldl (insF r) (false, out)).2 ++ [r]) = out ++ (l.take (pos l r.nm) ++ r :: l.drop (pos l r.nm))
  | [], out, _, _ => by simp [pos]
  | x :: l, out, hp, hn => by
    have hp' := List.pairwise_cons.1 hp
    have hx := hn x (by simp)
    rw [List.foldl_cons]
    cases e : nlt x.nm r.nm
    · have e2 : nlt r.nm x.nm = true := by rw [nlt_iff (Ne.symm hx), e]; rfl
      have h0 : pos (x :: l) r.nm = 0 := by
        unfold pos
        rw [List.countP_eq_zero]
        intro y hy hc
        rcases List.mem_cons.1 hy with rfl | hy
        · rw [e] at hc; cases hc
        · have := nlt_trans (hp'.1 y hy) hc
          rw [e] at this; cases this
      have e3 : insF r (false, out) x = (true, out ++ [r] ++ [x]) := by simp [insF, e2]
      rw [e3, fold_done, h0]
      simp
    · have e2 : nlt r.nm x.nm = false := by rw [nlt_iff (Ne.symm hx), e]; rfl
      have e3 : insF r (false, out) x = (false, out ++ [x]) := by simp [insF, e2]
      have h1 : pos (x :: l) r.nm = pos l r.nm + 1 := by
        unfold pos
        rw [List.countP_cons_of_pos (by simp [e])]
      rw [e3, fold_ins (out ++ [x]) hp'.2 (fun y hy => hn y (by simp [hy])), h1]
      simp
theorem rinsL_eq (l : List Rs) (r : Rs) : rinsL l r = insL l r := by
  unfold rinsL insL
  by_cases h : insE l r = 0
  · rw [if_pos h, if_pos h]
    unfold insE at h
    have h1 : catOk l = true := by cases e : catOk l; rw [e] at h; simp at h; rfl
    rw [h1] at h
    have h4 : hasR l r.nm = false := by
      cases e : hasR l r.nm
      · rfl
      · rw [e] at h
        simp only [Bool.true_eq_false, if_false, if_true] at h
        split at h
        · omega
        · split at h <;> omega
    unfold rinsV insV
    have := fold_ins (r := r) [] (cat_pw h1) (fun x hx hc => by
      unfold hasR at h4
      rw [List.any_eq_false] at h4
      exact h4 x hx (by simpa [isN] using hc))
    simpa using this
  · rw [if_neg h, if_neg h]
theorem rmL_eq (l : List Rs) (n : ByteArray) : rmL l n = delL l n := by
  unfold rmL delL
  by_cases h : rmE l n = 0
  · rw [if_pos h, if_pos h]
    unfold rmE at h
    have h1 : catOk l = true := by cases e : catOk l; rw [e] at h; simp at h; rfl
    rw [h1] at h
    have h4 : hasR l n = true := by
      cases e : hasR l n
      · rw [e] at h; simp at h
      · rfl
    have hp := cat_pw h1
    have hk := has_lt h1 h4
    have he := has_at h1 hk
    rw [h4] at he
    have e0 : l = l.take (pos l n) ++ l[pos l n] :: l.drop (pos l n + 1) := by simp
    have hne : ∀ (i : Nat) (hi : i < l.length), i ≠ pos l n → isN n l[i] = false := fun i hi hne => by
      cases e : isN n l[i]
      · rfl
      · have h5 : (l[i]).nm.toList = (l[pos l n]).nm.toList := by
          have q1 : (l[i]).nm.toList = n.toList := by simpa [isN] using e
          have q2 : (l[pos l n]).nm.toList = n.toList := by simpa using he.symm
          rw [q1, q2]
        rcases Nat.lt_or_gt_of_ne hne with h6 | h6
        · have := List.pairwise_iff_getElem.1 hp _ _ hi hk h6
          rw [nlt, h5, bl_irr] at this; cases this
        · have := List.pairwise_iff_getElem.1 hp _ _ hk hi h6
          rw [nlt, h5, bl_irr] at this; cases this
    have f1 : (l.take (pos l n)).filter (fun x => !isN n x) = l.take (pos l n) := by
      rw [List.filter_eq_self]
      intro x hx
      obtain ⟨i, hi, rfl⟩ := List.getElem_of_mem hx
      simp at hi
      rw [List.getElem_take, hne i (by omega) (by omega)]; rfl
    have f2 : (l.drop (pos l n + 1)).filter (fun x => !isN n x) = l.drop (pos l n + 1) := by
      rw [List.filter_eq_self]
      intro x hx
      obtain ⟨i, hi, rfl⟩ := List.getElem_of_mem hx
      simp at hi
      rw [List.getElem_drop, hne _ (by omega) (by omega)]; rfl
    have f3 : isN n l[pos l n] = true := he.symm
    unfold rmV
    generalize pos l n = p at *
    have := congrArg (List.filter fun x => !isN n x) e0
    rw [List.filter_append, List.filter_cons_of_neg (by simp [f3]), f1, f2] at this
    exact this
  · rw [if_neg h, if_neg h]
end Go.Proofs.Ytebibhmjmaomnaa
namespace Go.Proofs.Ytebibhmjmaomnaa
open Go.RowKit Go.Proofs
structure Rp where
  ver : Int
  cat : List Rs
  deriving DecidableEq
def Rp.v (r : Rp) : V := .agg [.s (.int .i64 r.ver), .list 4 (rl r.cat)]
def Rp.cs (r : Rp) : List V := [.s (.int .i64 r.ver), .list 4 (rl r.cat)]
def Rp.z : Rp := ⟨0, []⟩
def Rp.sm (r : Rp) : Prop := r.cat.length ≤ 1000000
def rpOk (r : Rp) : Bool := decide (0 ≤ r.ver ∧ r.ver ≤ 1073741824) && catOk r.cat
theorem clone_pc (r : Rp) (h : r.sm) : PC Try.prog 38 [r.v] (fun q => q = r.v) := by
  have hC := Clone_pc r.cat h
  refine pc_end c38 mixed rfl ?_
  simp -implicitDefEqProofs [a38, F38, Rp.v]
  refine wkd_take ?_
  simp -implicitDefEqProofs
  refine wcd_of hC (by simp) (by simp) ?_
  simp -implicitDefEqProofs
theorem rpValid_pc (r : Rp) (h : r.sm) : PC Try.prog 19 [r.v] (fun q => q = .s (.bool (rpOk r))) := by
  have hC := catValid_pc r.cat h
  obtain ⟨n, l⟩ := r
  refine pc_end c19 mixed rfl ?_
  by_cases h1 : 0 ≤ n
  · by_cases h2 : n ≤ 1073741824
    · simp -implicitDefEqProofs [a19, F19, Rp.v, h1, h2]
      refine wk_take ?_
      simp -implicitDefEqProofs
      refine wc_of hC (by simp) (by simp) ?_
      rintro _ rfl
      simp -implicitDefEqProofs [rpOk, h1, h2]
    · simp -implicitDefEqProofs [a19, F19, Rp.v, h1, h2, rpOk]
  · simp -implicitDefEqProofs [a19, F19, Rp.v, h1, rpOk]
theorem rrpValid_pc (r : Rp) (h : r.sm) : PC Try.prog 20 [r.v] (fun q => q = .s (.bool (rpOk r))) := by
  have hC := rcatValid_pc r.cat h
  obtain ⟨n, l⟩ := r
  refine pc_end c20 mixed rfl ?_
  by_cases h1 : 0 ≤ n
  · by_cases h2 : n ≤ 1073741824
    · simp -implicitDefEqProofs [a20, F20, Rp.v, h1, h2]
      refine wk_take ?_
      simp -implicitDefEqProofs
      refine wc_of hC (by simp) (by simp) ?_
      rintro _ rfl
      simp -implicitDefEqProofs [rpOk, h1, h2]
    · simp -implicitDefEqProofs [a20, F20, Rp.v, h1, h2, rpOk]
  · simp -implicitDefEqProofs [a20, F20, Rp.v, h1, rpOk]
theorem rSame_pc (a b : Rp) (h : a.sm) : PC Try.prog 18 [a.v, b.v] (fun q => q = .s (.bool (decide (a = b)))) := by
  have hC := SameCat_pc a.cat b.cat h
  obtain ⟨n, l⟩ := a
  obtain ⟨m, k⟩ := b
  refine pc_end c18 mixed rfl ?_
  cases h1 : (n == m)
  · have : ¬ n = m := by simpa using h1
    simp -implicitDefEqProofs [a18, F18, Rp.v, h1, this]
  · have : n = m := by simpa using h1
    simp -implicitDefEqProofs [a18, F18, Rp.v, h1, this]
    refine wk_take ?_
    simp -implicitDefEqProofs
    refine wc_of hC (by simp) (by simp) ?_
    rintro _ rfl
    simp -implicitDefEqProofs
def accE (a b : Rp) : Int := if rpOk a = false ∨ rpOk b = false then 2 else if a.ver = b.ver ∧ a.cat ≠ b.cat then 13 else 0
def accR (a b : Rp) : Rp := if accE a b = 0 then (if a.ver < b.ver then b else a) else Rp.z
set_option maxHeartbeats 4000000 in
theorem Accept_pc (a b : Rp) (ha : a.sm) (hb : b.sm) : PC Try.prog 16 [a.v, b.v] (fun q => q = .tup [(accR a b).v, .s (.int .i64 (accE a b))]) := by
  refine pc_list (q := fun q => frT q (.tup [(accR a b).v, .s (.int .i64 (accE a b))])) ?_ fun x hx _ => ⟨_, hx, rfl, rfl⟩
  have v1 := rpValid_pc a ha
  have v2 := rpValid_pc b hb
  have k1 := clone_pc a ha
  have k2 := clone_pc b hb
  have q1 := Equal_pc a.cat b.cat ha
  refine pc_end c16 mixed rfl ?_
  simp -implicitDefEqProofs [a16, F16, Rp.v]
  refine wk_take ?_
  simp -implicitDefEqProofs
  refine wc_of v1 (by simp [Rp.v]) (by simp [Rp.v]) ?_
  rintro _ rfl
  cases h1 : rpOk a
  case' false => simp -implicitDefEqProofs [accR, accE, h1, Rp.z, Rp.v, frT, frAs, frA, frLs, frL, immC]
  simp -implicitDefEqProofs
  refine wk_take ?_
  simp -implicitDefEqProofs
  refine wc_of v2 (by simp [Rp.v]) (by simp [Rp.v]) ?_
  rintro _ rfl
  cases h2 : rpOk b
  case' false => simp -implicitDefEqProofs [accR, accE, h1, h2, Rp.z, Rp.v, frT, frAs, frA, frLs, frL, immC]
  have fin : accE a b = 0 → accR a b = if a.ver < b.ver then b else a := fun h => by simp [accR, h]
  have tl : ∀ (he : accE a b = 0), True := fun _ => trivial
  by_cases h3 : a.ver = b.ver
  · have e3 : (a.ver == b.ver) = true := by simpa using h3
    simp -implicitDefEqProofs [e3]
    refine wk_take ?_
    simp -implicitDefEqProofs
    refine wc_of q1 (by simp) (by simp) ?_
    rintro _ rfl
    by_cases h4 : a.cat = b.cat
    · have hE : accE a b = 0 := by simp [accE, h1, h2, h3, h4]
      have h5 : ¬ a.ver < b.ver := by omega
      have hR : accR a b = a := by rw [fin hE, if_neg h5]
      simp -implicitDefEqProofs [h4, h5]
      refine wk_take ?_
      simp -implicitDefEqProofs
      refine wc_of k1 (by simp [Rp.v, h4]) (by simp [Rp.v]) ?_
      rintro _ rfl
      simp -implicitDefEqProofs [hE, hR, Rp.v, frT, frAs, frA, frLs, frL, immC]
    · have hE : accE a b = 13 := by simp [accE, h1, h2, h3, h4]
      simp -implicitDefEqProofs [h4, accR, hE, Rp.z, Rp.v, frT, frAs, frA, frLs, frL, immC]
  · have e3 : (a.ver == b.ver) = false := by simpa using h3
    have hE : accE a b = 0 := by simp [accE, h1, h2, h3]
    by_cases h5 : a.ver < b.ver
    · have hR : accR a b = b := by rw [fin hE, if_pos h5]
      simp -implicitDefEqProofs [e3, h5]
      refine wk_take ?_
      simp -implicitDefEqProofs
      refine wc_of k2 (by simp [Rp.v]) (by simp [Rp.v]) ?_
      rintro _ rfl
      simp -implicitDefEqProofs [hE, hR, Rp.v, frT, frAs, frA, frLs, frL, immC]
    · have hR : accR a b = a := by rw [fin hE, if_neg h5]
      simp -implicitDefEqProofs [e3, h5]
      refine wk_take ?_
      simp -implicitDefEqProofs
      refine wc_of k1 (by simp [Rp.v]) (by simp [Rp.v]) ?_
      rintro _ rfl
      simp -implicitDefEqProofs [hE, hR, Rp.v, frT, frAs, frA, frLs, frL, immC]
end Go.Proofs.Ytebibhmjmaomnaa
namespace Go.Proofs.Ytebibhmjmaomnaa
open Go.RowKit Go.Proofs
def chgE (r : Rp) (add : Bool) (x : Rs) : Int := if rpOk r = false then 2 else if r.ver = 1073741824 then 16 else if add then insE r.cat x else rmE r.cat x.nm
def chgR (r : Rp) (add : Bool) (x : Rs) : Rp := if chgE r add x = 0 then ⟨r.ver + 1, if add then insL r.cat x else delL r.cat x.nm⟩ else Rp.z
set_option maxHeartbeats 8000000 in
theorem Change_pc (r : Rp) (add : Bool) (x : Rs) (h : r.sm) : PC Try.prog 14 [r.v, .s (.bool add), x.v] (fun q => q = .tup [(chgR r add x).v, .s (.int .i64 (chgE r add x))]) := by
  refine pc_list (q := fun q => frT q (.tup [(chgR r add x).v, .s (.int .i64 (chgE r add x))])) ?_ fun x hx _ => ⟨_, hx, rfl, rfl⟩
  have v1 := rpValid_pc r h
  have i1 := Insert_pc r.cat x h
  have d1 := Remove_pc r.cat x.nm h
  refine pc_end c14 mixed rfl ?_
  simp -implicitDefEqProofs [a14, F14, Rp.v, Rs.v]
  refine wk_take ?_
  simp -implicitDefEqProofs
  refine wc_of v1 (by simp [Rp.v]) (by simp [Rp.v]) ?_
  rintro _ rfl
  cases h1 : rpOk r
  case' false => simp -implicitDefEqProofs [chgR, chgE, h1, Rp.z, Rp.v, frT, frAs, frA, frLs, frL, immC]
  cases h2 : (r.ver == 1073741824)
  case' true =>
    have h3 : r.ver = 1073741824 := by simpa using h2
    simp -implicitDefEqProofs [chgR, chgE, h1, h2, h3, Rp.z, Rp.v, frT, frAs, frA, frLs, frL, immC]
  have h3 : ¬ r.ver = 1073741824 := by simpa using h2
  have hb : 0 ≤ r.ver ∧ r.ver ≤ 1073741824 := by
    unfold rpOk at h1
    rw [Bool.and_eq_true, decide_eq_true_eq] at h1
    exact h1.1
  have hw := wrap64 (n := r.ver + 1) (by omega)
  cases add
  · simp -implicitDefEqProofs [h2]
    refine wk_take ?_
    simp -implicitDefEqProofs
    refine wc_of d1 (by simp) (by simp) ?_
    rintro _ rfl
    cases h4 : (rmE r.cat x.nm != 0)
    case' true =>
      have h5 : ¬ rmE r.cat x.nm = 0 := by simpa using h4
      have hE : chgE r false x = rmE r.cat x.nm := by simp [chgE, h1, h3]
      simp -implicitDefEqProofs [chgR, hE, h4, h5, Rp.z, Rp.v, frT, frAs, frA, frLs, frL, immC]
    have h5 : rmE r.cat x.nm = 0 := by simpa using h4
    have hE : chgE r false x = 0 := by simp [chgE, h1, h3, h5]
    simp -implicitDefEqProofs [chgR, hE, h5, hw, Rp.v, frT, frAs, frA, frLs, frL, immC]
  · simp -implicitDefEqProofs [h2]
    refine wk_take ?_
    simp -implicitDefEqProofs
    refine wc_of i1 (by simp [Rs.v]) (by simp [Rs.v]) ?_
    rintro _ rfl
    cases h4 : (insE r.cat x != 0)
    case' true =>
      have h5 : ¬ insE r.cat x = 0 := by simpa using h4
      have hE : chgE r true x = insE r.cat x := by simp [chgE, h1, h3]
      simp -implicitDefEqProofs [chgR, hE, h4, h5, Rp.z, Rp.v, frT, frAs, frA, frLs, frL, immC]
    have h5 : insE r.cat x = 0 := by simpa using h4
    have hE : chgE r true x = 0 := by simp [chgE, h1, h3, h5]
    simp -implicitDefEqProofs [chgR, hE, h5, hw, Rp.v, frT, frAs, frA, frLs, frL, immC]
set_option maxHeartbeats 8000000 in
theorem rChange_pc (r : Rp) (add : Bool) (x : Rs) (h : r.sm) : PC Try.prog 15 [r.v, .s (.bool add), x.v] (fun q => q = .tup [(chgR r add x).v, .s (.int .i64 (chgE r add x))]) := by
  refine pc_list (q := fun q => frT q (.tup [(chgR r add x).v, .s (.int .i64 (chgE r add x))])) ?_ fun x hx _ => ⟨_, hx, rfl, rfl⟩
  have v1 := rrpValid_pc r h
  have i1 := rInsert_pc r.cat x h
  have d1 := rRemove_pc r.cat x.nm h
  rw [rinsL_eq] at i1
  rw [rmL_eq] at d1
  refine pc_end c15 mixed rfl ?_
  simp -implicitDefEqProofs [a15, F15, Rp.v, Rs.v]
  refine wk_take ?_
  simp -implicitDefEqProofs
  refine wc_of v1 (by simp [Rp.v]) (by simp [Rp.v]) ?_
  rintro _ rfl
  cases h1 : rpOk r
  case' false => simp -implicitDefEqProofs [chgR, chgE, h1, Rp.z, Rp.v, frT, frAs, frA, frLs, frL, immC]
  cases h2 : (r.ver == 1073741824)
  case' true =>
    have h3 : r.ver = 1073741824 := by simpa using h2
    simp -implicitDefEqProofs [chgR, chgE, h1, h2, h3, Rp.z, Rp.v, frT, frAs, frA, frLs, frL, immC]
  have h3 : ¬ r.ver = 1073741824 := by simpa using h2
  have hb : 0 ≤ r.ver ∧ r.ver ≤ 1073741824 := by
    unfold rpOk at h1
    rw [Bool.and_eq_true, decide_eq_true_eq] at h1
    exact h1.1
  have hw := wrap64 (n := r.ver + 1) (by omega)
  cases add
  · simp -implicitDefEqProofs [h2]
    refine wk_take ?_
    simp -implicitDefEqProofs
    refine wc_of d1 (by simp) (by simp) ?_
    rintro _ rfl
    cases h4 : (rmE r.cat x.nm != 0)
    case' true =>
      have h5 : ¬ rmE r.cat x.nm = 0 := by simpa using h4
      have hE : chgE r false x = rmE r.cat x.nm := by simp [chgE, h1, h3]
      simp -implicitDefEqProofs [chgR, hE, h4, h5, Rp.z, Rp.v, frT, frAs, frA, frLs, frL, immC]
    have h5 : rmE r.cat x.nm = 0 := by simpa using h4
    have hE : chgE r false x = 0 := by simp [chgE, h1, h3, h5]
    simp -implicitDefEqProofs [chgR, hE, h5, hw, Rp.v, frT, frAs, frA, frLs, frL, immC]
  · simp -implicitDefEqProofs [h2]
    refine wk_take ?_
    simp -implicitDefEqProofs
    refine wc_of i1 (by simp [Rs.v]) (by simp [Rs.v]) ?_
    rintro _ rfl
    cases h4 : (insE r.cat x != 0)
    case' true =>
      have h5 : ¬ insE r.cat x = 0 := by simpa using h4
      have hE : chgE r true x = insE r.cat x := by simp [chgE, h1, h3]
      simp -implicitDefEqProofs [chgR, hE, h4, h5, Rp.z, Rp.v, frT, frAs, frA, frLs, frL, immC]
    have h5 : insE r.cat x = 0 := by simpa using h4
    have hE : chgE r true x = 0 := by simp [chgE, h1, h3, h5]
    simp -implicitDefEqProofs [chgR, hE, h5, hw, Rp.v, frT, frAs, frA, frLs, frL, immC]
def pl (l : List Rp) : List V := l.map Rp.v
@[simp] theorem pl_length (l : List Rp) : (pl l).length = l.length := by simp [pl]
@[simp] theorem pl_nil : pl [] = [] := rfl
theorem pl_get {l : List Rp} {i : Nat} (h : i < l.length) : (pl l)[i]? = some l[i].v := by simp [pl, h]
end Go.Proofs.Ytebibhmjmaomnaa
