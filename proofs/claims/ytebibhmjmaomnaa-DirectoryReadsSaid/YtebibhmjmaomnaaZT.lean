/- Texts put behind one another: PL, T1, T2, T3, T4, T5. -/
import Derived.Test.YtebibhmjmaomnaaZE
import Derived.Laws.BitsAllLaws
import Derived.Laws.BitsLemmas
set_option linter.unusedVariables false
set_option linter.unusedSimpArgs false
namespace Go.Proofs.Ytebibhmjmaomnaa
open Go.RowKit Go.Proofs
def crcStep (s : Nat) : Nat := if s % 2 = 1 then s / 2 ^^^ 3988292384 else s / 2
def crcN : Nat → Nat → Nat
  | 0, s => s
  | n + 1, s => crcN n (crcStep s)
def crcB (s : Nat) (b : UInt8) : Nat := crcN 8 (s ^^^ b.toNat)
def crcL (l : List UInt8) (s : Nat) : Nat := l.foldl crcB s
def crc (l : List UInt8) : Nat := crcL l 4294967295 ^^^ 4294967295
def putU : Nat → Nat → List UInt8
  | 0, _ => []
  | f + 1, x => if 127 < x then UInt8.ofNat (x % 128 + 128) :: putU f (x / 128) else [UInt8.ofNat x]
def putUint (x : Nat) : List UInt8 := putU 10 x
def sumB (x : Nat) : List UInt8 := [UInt8.ofNat (x / 16777216 % 256), UInt8.ofNat (x / 65536 % 256), UInt8.ofNat (x / 256 % 256), UInt8.ofNat (x % 256)]
def frame (l : List UInt8) : List UInt8 := putUint l.length ++ l ++ sumB (crc l)
end Go.Proofs.Ytebibhmjmaomnaa
namespace Go.Proofs.Ytebibhmjmaomnaa
def Sub (a b : Nat) : Prop := a &&& b = a
instance (a b : Nat) : Decidable (Sub a b) := by unfold Sub; infer_instance
theorem Sub.refl (a : Nat) : Sub a a := Nat.and_self a
theorem Sub.trans {a b c : Nat} (h : Sub a b) (k : Sub b c) : Sub a c := by
  unfold Sub at *
  rw [← h, Nat.and_assoc, k]
theorem Sub.le {a b : Nat} (h : Sub a b) : a ≤ b := by
  have : a &&& b ≤ b := Nat.and_le_right
  rw [h] at this; exact this
theorem Sub.antisymm {a b : Nat} (h : Sub a b) (k : Sub b a) : a = b := Nat.le_antisymm h.le k.le
theorem sub_iff {a b : Nat} : Sub a b ↔ ∀ i, a.testBit i = true → b.testBit i = true := by
  unfold Sub
  constructor
  · intro h i hi
    rw [← h, Nat.testBit_and, Bool.and_eq_true] at hi
    exact hi.2
  · intro h
    apply Nat.eq_of_testBit_eq
    intro i
    rw [Nat.testBit_and]
    cases q : a.testBit i
    · rfl
    · rw [h i q]; rfl
theorem and_ne {a b : Nat} : a &&& b ≠ 0 ↔ ∃ i, a.testBit i = true ∧ b.testBit i = true := by
  constructor
  · intro h
    refine Classical.byContradiction fun hno => h (Nat.eq_of_testBit_eq fun i => ?_)
    rw [Nat.zero_testBit, Nat.testBit_and]
    cases h1 : a.testBit i
    · rfl
    · cases h2 : b.testBit i
      · rfl
      · exact absurd ⟨i, h1, h2⟩ hno
  · rintro ⟨i, h1, h2⟩ h
    have := congrArg (fun x => x.testBit i) h
    simp [Nat.testBit_and, h1, h2] at this
theorem Sub.meet {a b c : Nat} (h : Sub a b) (k : a &&& c ≠ 0) : b &&& c ≠ 0 := by
  rw [and_ne] at k ⊢
  obtain ⟨i, h1, h2⟩ := k
  exact ⟨i, sub_iff.1 h i h1, h2⟩
theorem least {P : Nat → Prop} : ∀ (s : Nat), P s → ∃ m, P m ∧ Sub m s ∧ ∀ x, P x → Sub x m → x = m := by
  intro s
  induction s using Nat.strongRecOn with
  | ind s ih =>
    intro hs
    by_cases h : ∃ x, P x ∧ Sub x s ∧ x ≠ s
    · obtain ⟨x, h1, h2, h3⟩ := h
      obtain ⟨m, m1, m2, m3⟩ := ih x (by have := h2.le; omega) h1
      exact ⟨m, m1, m2.trans h2, m3⟩
    · exact ⟨s, hs, .refl s, fun x h1 h2 => Classical.byContradiction fun h3 => h ⟨x, h1, h2, h3⟩⟩
theorem asc_ext : ∀ {l m : List Nat}, l.Pairwise (· < ·) → m.Pairwise (· < ·) → (∀ x, x ∈ l ↔ x ∈ m) → l = m
  | [], [], _, _, _ => rfl
  | [], y :: m, _, _, h => by have := (h y).2 (by simp); cases this
  | x :: l, [], _, _, h => by have := (h x).1 (by simp); cases this
  | x :: l, y :: m, hl, hm, h => by
    rw [List.pairwise_cons] at hl hm
    have hx : x = y := by
      rcases Nat.lt_trichotomy x y with q | q | q
      · have := (h x).1 (by simp)
        rw [List.mem_cons] at this
        rcases this with e | e
        · exact e
        · have := hm.1 x e; omega
      · exact q
      · have := (h y).2 (by simp)
        rw [List.mem_cons] at this
        rcases this with e | e
        · exact e.symm
        · have := hl.1 y e; omega
    subst hx
    rw [asc_ext hl.2 hm.2 fun z => ?_]
    have hz := h z
    simp only [List.mem_cons] at hz
    constructor
    · intro k
      rcases hz.1 (.inr k) with e | e
      · have := hl.1 z k; omega
      · exact e
    · intro k
      rcases hz.2 (.inr k) with e | e
      · have := hm.1 z k; omega
      · exact e
def subs (n : Nat) : List Nat := (List.range (2 ^ n)).filter fun s => decide (1 ≤ s)
theorem subs_asc (n : Nat) (p : Nat → Bool) : ((subs n).filter p).Pairwise (· < ·) := ((List.pairwise_lt_range).filter _).filter _
theorem subs_mem {n s : Nat} : s ∈ subs n ↔ 1 ≤ s ∧ s < 2 ^ n := by simp [subs, and_comm]
def meets (s : Nat) (l : List Nat) : Bool := l.all fun t => decide (s &&& t ≠ 0)
def minim (s : Nat) (l : List Nat) : Bool := l.all fun t => decide (Sub t s → t = s)
theorem meets_iff {s : Nat} {l : List Nat} : meets s l = true ↔ ∀ t ∈ l, s &&& t ≠ 0 := by simp [meets]
theorem minim_iff {s : Nat} {l : List Nat} : minim s l = true ↔ ∀ t ∈ l, Sub t s → t = s := by simp only [minim, List.all_eq_true, decide_eq_true_eq]
structure Cot (n : Nat) (Q : List Nat) : Prop where
  rng : ∀ q ∈ Q, 1 ≤ q ∧ q < 2 ^ n
  asc : Q.Pairwise (· < ·)
  meet : ∀ p ∈ Q, ∀ q ∈ Q, p &&& q ≠ 0
  anti : ∀ p ∈ Q, ∀ q ∈ Q, Sub p q → p = q
  ne : Q ≠ []
def mall (n : Nat) (Q : List Nat) : List Nat := (subs n).filter fun s => meets s Q
def trans (n : Nat) (Q : List Nat) : List Nat := (mall n Q).filter fun s => minim s (mall n Q)
theorem mall_mem {n s : Nat} {Q : List Nat} : s ∈ mall n Q ↔ (1 ≤ s ∧ s < 2 ^ n) ∧ ∀ q ∈ Q, s &&& q ≠ 0 := by
  rw [mall, List.mem_filter, subs_mem, meets_iff]
theorem trans_mem {n s : Nat} {Q : List Nat} : s ∈ trans n Q ↔ s ∈ mall n Q ∧ ∀ t ∈ mall n Q, Sub t s → t = s := by
  rw [trans, List.mem_filter, minim_iff]
theorem trans_asc (n : Nat) (Q : List Nat) : (trans n Q).Pairwise (· < ·) := (subs_asc n _).filter _
section
variable {n : Nat} {Q : List Nat}
theorem Cot.self (h : Cot n Q) {q : Nat} (hq : q ∈ Q) : q ∈ mall n Q := mall_mem.2 ⟨h.rng q hq, fun p hp => h.meet q hq p hp⟩
theorem has_trans {s : Nat} (hs : s ∈ mall n Q) : ∃ t ∈ trans n Q, Sub t s := by
  obtain ⟨m, m1, m2, m3⟩ := least (P := fun x => x ∈ mall n Q) s hs
  exact ⟨m, trans_mem.2 ⟨m1, m3⟩, m2⟩
theorem Cot.nd (h : Cot n Q) : trans n Q = Q ↔ ∀ s ∈ mall n Q, ∃ q ∈ Q, Sub q s := by
  constructor
  · intro e s hs
    obtain ⟨t, t1, t2⟩ := has_trans hs
    rw [e] at t1
    exact ⟨t, t1, t2⟩
  · intro k
    refine asc_ext (trans_asc n Q) h.asc fun x => ⟨fun hx => ?_, fun hx => ?_⟩
    · obtain ⟨h1, h2⟩ := trans_mem.1 hx
      obtain ⟨q, q1, q2⟩ := k x h1
      rw [← h2 q (h.self q1) q2]; exact q1
    · refine trans_mem.2 ⟨h.self hx, fun t ht hs => ?_⟩
      obtain ⟨q, q1, q2⟩ := k t ht
      have := h.anti q q1 x hx (q2.trans hs)
      subst this
      exact hs.antisymm q2
end
def reduce (n : Nat) (l : List Nat) : List Nat := (subs n).filter fun s => decide (s ∈ l) && minim s l
theorem reduce_mem {n s : Nat} {l : List Nat} : s ∈ reduce n l ↔ (1 ≤ s ∧ s < 2 ^ n) ∧ s ∈ l ∧ ∀ t ∈ l, Sub t s → t = s := by
  rw [reduce, List.mem_filter, subs_mem, Bool.and_eq_true, minim_iff, decide_eq_true_eq]
theorem reduce_cot {n : Nat} {l : List Nat} (hr : ∀ s ∈ l, 1 ≤ s ∧ s < 2 ^ n) (hm : ∀ s ∈ l, ∀ t ∈ l, s &&& t ≠ 0) (hne : l ≠ []) : Cot n (reduce n l) := by
  refine ⟨fun q hq => (reduce_mem.1 hq).1, subs_asc n _, fun p hp q hq => hm _ (reduce_mem.1 hp).2.1 _ (reduce_mem.1 hq).2.1, fun p hp q hq hs => (reduce_mem.1 hq).2.2 p (reduce_mem.1 hp).2.1 hs, ?_⟩
  cases hl : l with
  | nil => exact absurd hl hne
  | cons x r =>
    intro e
    obtain ⟨m, m1, _, m3⟩ := least (P := fun y => y ∈ l) x (by rw [hl]; simp)
    have : m ∈ reduce n l := reduce_mem.2 ⟨hr m m1, m1, m3⟩
    rw [hl, e] at this
    cases this
theorem reduce_congr {n : Nat} {l m : List Nat} (h : ∀ x, x ∈ l ↔ x ∈ m) : reduce n l = reduce n m := by
  refine asc_ext (subs_asc n _) (subs_asc n _) fun x => ?_
  rw [reduce_mem, reduce_mem, h x]
  constructor
  · exact fun ⟨a, b, c⟩ => ⟨a, b, fun t ht => c t ((h t).2 ht)⟩
  · exact fun ⟨a, b, c⟩ => ⟨a, b, fun t ht => c t ((h t).1 ht)⟩
end Go.Proofs.Ytebibhmjmaomnaa
namespace Go.Proofs.Ytebibhmjmaomnaa
def pop (s : Nat) : Nat := if s = 0 then 0 else s % 2 + pop (s / 2)
decreasing_by omega
theorem pop_zero : pop 0 = 0 := by rw [pop]; rfl
theorem pop_eq (s : Nat) : pop s = s % 2 + pop (s / 2) := by
  by_cases h : s = 0
  · subst h; simp [pop_zero]
  · conv => lhs; rw [pop, if_neg h]
theorem land_half (a b : Nat) : (a &&& b) / 2 = a / 2 &&& b / 2 := by
  have := Nat.shiftRight_and_distrib (a := a) (b := b) (i := 1)
  simpa [Nat.shiftRight_eq_div_pow] using this
theorem lor_half (a b : Nat) : (a ||| b) / 2 = a / 2 ||| b / 2 := by
  have := Nat.shiftRight_or_distrib (a := a) (b := b) (i := 1)
  simpa [Nat.shiftRight_eq_div_pow] using this
theorem pop_add : ∀ (a b : Nat), pop (a ||| b) + pop (a &&& b) = pop a + pop b := by
  intro a
  induction a using Nat.strongRecOn with
  | ind a ih =>
    intro b
    by_cases h : a = 0
    · subst h; simp [pop_zero]
    · have := ih (a / 2) (by omega) (b / 2)
      rw [pop_eq (a ||| b), pop_eq (a &&& b), pop_eq a, pop_eq b, lor_half, land_half]
      have h1 : (a ||| b) % 2 + (a &&& b) % 2 = a % 2 + b % 2 := by
        have e1 := Nat.or_mod_two_pow (a := a) (b := b) (n := 1)
        have e2 := Nat.and_mod_two_pow (a := a) (b := b) (n := 1)
        simp only [Nat.pow_one] at e1 e2
        rw [e1, e2]
        rcases Nat.mod_two_eq_zero_or_one a with p | p <;> rcases Nat.mod_two_eq_zero_or_one b with q | q <;> rw [p, q] <;> rfl
      omega
theorem pop_le : ∀ (n a : Nat), a < 2 ^ n → pop a ≤ n
  | 0, a, h => by
    have : a = 0 := by simp at h; exact h
    subst this; simp [pop_zero]
  | n + 1, a, h => by
    rw [pop_eq]
    have := pop_le n (a / 2) (by rw [Nat.pow_succ] at h; omega)
    omega
theorem pop_pos {a : Nat} : a ≠ 0 → 1 ≤ pop a := by
  induction a using Nat.strongRecOn with
  | ind a ih =>
    intro h
    rw [pop_eq]
    by_cases q : a % 2 = 0
    · have := ih (a / 2) (by omega) (by omega)
      omega
    · omega
theorem pop_sub : ∀ (a b : Nat), Sub a b → pop a = pop b → a = b := by
  intro a
  induction a using Nat.strongRecOn with
  | ind a ih =>
    intro b hs he
    by_cases h : a = 0
    · subst h
      rw [pop_zero] at he
      by_cases q : b = 0
      · exact q.symm
      · have := pop_pos q; omega
    · have h1 : a / 2 &&& b / 2 = a / 2 := by rw [← land_half]; unfold Sub at hs; rw [hs]
      have h2 : a % 2 ≤ b % 2 := by
        have e2 := Nat.and_mod_two_pow (a := a) (b := b) (n := 1)
        simp only [Nat.pow_one] at e2
        unfold Sub at hs
        rw [hs] at e2
        rw [e2]
        exact Nat.and_le_right
      have h3 : pop (a / 2) ≤ pop (b / 2) := by
        have := pop_add (a / 2) (b / 2)
        rw [h1] at this
        have h4 := pop_add (b / 2) (a / 2 ||| b / 2)
        have h5 : b / 2 &&& (a / 2 ||| b / 2) = b / 2 := by
          apply Nat.eq_of_testBit_eq; intro i
          simp only [Nat.testBit_and, Nat.testBit_or]
          cases (b / 2).testBit i <;> simp
        have h6 : a / 2 ||| b / 2 = b / 2 := by
          apply Nat.eq_of_testBit_eq; intro i
          have := sub_iff.1 (show Sub (a / 2) (b / 2) from h1) i
          simp only [Nat.testBit_or]
          cases q : (a / 2).testBit i
          · simp
          · rw [this q]; rfl
        rw [h6] at this
        have h7 : pop (a / 2) = pop (a / 2) := rfl
        rcases Nat.lt_or_ge (pop (b / 2)) (pop (a / 2)) with q | q
        · exfalso
          -- a lies in b: the bits of a are bits of b
          have : ∀ (x y : Nat), Sub x y → pop x ≤ pop y := by
            intro x
            induction x using Nat.strongRecOn with
            | ind x ihx =>
              intro y hxy
              by_cases hx : x = 0
              · subst hx; simp [pop_zero]
              · have g1 : x / 2 &&& y / 2 = x / 2 := by rw [← land_half]; unfold Sub at hxy; rw [hxy]
                have g2 := ihx (x / 2) (by omega) (y / 2) g1
                have g3 : x % 2 ≤ y % 2 := by
                  have e2 := Nat.and_mod_two_pow (a := x) (b := y) (n := 1)
                  simp only [Nat.pow_one] at e2
                  unfold Sub at hxy
                  rw [hxy] at e2
                  rw [e2]
                  exact Nat.and_le_right
                rw [pop_eq x, pop_eq y]
                omega
          have := this _ _ h1
          omega
        · exact q
      rw [pop_eq a, pop_eq b] at he
      have := ih (a / 2) (by omega) (b / 2) h1 (by omega)
      omega
def major (n : Nat) : List Nat := (subs n).filter fun s => decide (pop s = n / 2 + 1)
theorem major_mem {n s : Nat} : s ∈ major n ↔ (1 ≤ s ∧ s < 2 ^ n) ∧ pop s = n / 2 + 1 := by
  rw [major, List.mem_filter, subs_mem, decide_eq_true_eq]
theorem pop_full (n : Nat) : ∀ k, k ≤ n → pop (2 ^ k - 1) = k
  | 0, _ => by simp [pop_zero]
  | k + 1, h => by
    rw [pop_eq]
    have e : (2 ^ (k + 1) - 1) / 2 = 2 ^ k - 1 := by rw [Nat.pow_succ]; have := Nat.two_pow_pos k; omega
    have e2 : (2 ^ (k + 1) - 1) % 2 = 1 := by rw [Nat.pow_succ]; have := Nat.two_pow_pos k; omega
    rw [e, e2, pop_full n k (by omega)]
    omega
theorem major_cot {n : Nat} (hn : 1 ≤ n) : Cot n (major n) := by
  refine ⟨fun q hq => (major_mem.1 hq).1, subs_asc n _, fun p hp q hq e => ?_, fun p hp q hq hs => ?_, ?_⟩
  · obtain ⟨p1, p2⟩ := major_mem.1 hp
    obtain ⟨q1, q2⟩ := major_mem.1 hq
    have := pop_add p q
    rw [e, pop_zero] at this
    have := pop_le n (p ||| q) (Nat.or_lt_two_pow p1.2 q1.2)
    omega
  · exact pop_sub p q hs ((major_mem.1 hp).2.trans (major_mem.1 hq).2.symm)
  · intro e
    have : 2 ^ (n / 2 + 1) - 1 ∈ major n := major_mem.2 ⟨⟨by have : 2 ^ 1 ≤ 2 ^ (n / 2 + 1) := Nat.pow_le_pow_right (by omega) (by omega); omega, by have : 2 ^ (n / 2 + 1) ≤ 2 ^ n := Nat.pow_le_pow_right (by omega) (by omega); have := Nat.two_pow_pos (n / 2 + 1); omega⟩, pop_full _ _ (Nat.le_refl _)⟩
    rw [e] at this; cases this
end Go.Proofs.Ytebibhmjmaomnaa
namespace Go.Proofs.Ytebibhmjmaomnaa
def popB : Nat → Nat → Nat
  | 0, _ => 0
  | f + 1, s => s % 2 + popB f (s / 2)
theorem popB_eq : ∀ (f s : Nat), s < 2 ^ f → popB f s = pop s
  | 0, s, h => by
    have : s = 0 := by simp at h; exact h
    subst this; simp [popB, pop_zero]
  | f + 1, s, h => by
    rw [pop_eq, popB, popB_eq f (s / 2) (by rw [Nat.pow_succ] at h; omega)]
def majB (n : Nat) : List Nat := (subs n).filter fun s => Nat.beq (popB n s) (n / 2 + 1)
theorem majB_eq (n : Nat) : majB n = major n := by
  unfold majB major
  refine List.filter_congr fun s hs => ?_
  rw [popB_eq n s (subs_mem.1 hs).2]
  by_cases h : pop s = n / 2 + 1
  · rw [decide_eq_true h, h]; exact Nat.beq_refl _
  · rw [decide_eq_false h]
    cases q : Nat.beq (pop s) (n / 2 + 1)
    · rfl
    · exact absurd (Nat.eq_of_beq_eq_true q) h
theorem nd_len : ∀ {l m : List Nat}, l.Nodup → (∀ x ∈ l, x ∈ m) → l.length ≤ m.length
  | [], _, _, _ => Nat.zero_le _
  | x :: r, m, hn, hs => by
    rw [List.nodup_cons] at hn
    have h1 := nd_len (l := r) (m := m.erase x) hn.2 fun y hy => (List.mem_erase_of_ne (fun e : y = x => hn.1 (e ▸ hy))).2 (hs y (by simp [hy]))
    have h2 := hs x (by simp)
    have h3 := List.length_erase_of_mem h2
    have h4 := List.length_pos_of_mem h2
    simp only [List.length_cons]
    omega
theorem reduce_len {n : Nat} {l : List Nat} : (reduce n l).length ≤ l.length := by
  have hn : (reduce n l).Nodup := (subs_asc n (fun s => decide (s ∈ l) && minim s l)).imp fun h => Nat.ne_of_lt h
  have hs : ∀ x ∈ reduce n l, x ∈ l := fun x hx => (reduce_mem.1 hx).2.1
  exact nd_len hn hs
def below : Nat → Nat → Nat → List Nat
  | 0, _, _ => []
  | f + 1, i, n => if 2 * i + 1 ≥ n then [2 ^ i] else
      ((below f (2 * i + 1) n).flatMap fun s => (s ||| 2 ^ i) :: (below f (2 * i + 2) n).map fun t => s ||| t) ++ (below f (2 * i + 2) n).map fun t => t ||| 2 ^ i
def rbelow : Nat → Nat → Nat → List Nat
  | 0, _, _ => []
  | f + 1, i, n => if 2 * i + 2 ≥ n then [2 ^ i] else
      ((rbelow f (2 * i + 1) n ++ rbelow f (2 * i + 2) n).map fun s => s ||| 2 ^ i) ++ (rbelow f (2 * i + 1) n).flatMap fun s => (rbelow f (2 * i + 2) n).map fun t => s ||| t
end Go.Proofs.Ytebibhmjmaomnaa
namespace Go.Proofs.Ytebibhmjmaomnaa
open Go
theorem i64_and_nat (a b : Nat) (ha : a < 9223372036854775808) (hb : b < 9223372036854775808) : bits .and .i64 (a : Int) (b : Int) = ((a &&& b : Nat) : Int) := by
  have hx : a &&& b < 2 ^ 63 := Nat.and_lt_two_pow _ (by omega)
  show IntKind.i64.wrap ((BitVec.ofInt 64 (a : Int) &&& BitVec.ofInt 64 (b : Int)).toNat : Int) = _
  rw [BitVec.toNat_and, ofInt_u64 a (by omega), ofInt_u64 b (by omega), IntKind.wrap_i64]
  omega
theorem i64_or_nat (a b : Nat) (ha : a < 9223372036854775808) (hb : b < 9223372036854775808) : bits .or .i64 (a : Int) (b : Int) = ((a ||| b : Nat) : Int) := by
  have hx : a ||| b < 2 ^ 63 := Nat.or_lt_two_pow (by omega) (by omega)
  show IntKind.i64.wrap ((BitVec.ofInt 64 (a : Int) ||| BitVec.ofInt 64 (b : Int)).toNat : Int) = _
  rw [BitVec.toNat_or, ofInt_u64 a (by omega), ofInt_u64 b (by omega), IntKind.wrap_i64]
  omega
theorem i64_and_comm (a b : Int) : bits .and .i64 a b = bits .and .i64 b a := by
  unfold bits
  simp only [BitVec.and_comm]
instance (n : Nat) (Q : List Nat) : Decidable (Cot n Q) :=
  decidable_of_iff ((∀ q ∈ Q, 1 ≤ q ∧ q < 2 ^ n) ∧ Q.Pairwise (· < ·) ∧ (∀ p ∈ Q, ∀ q ∈ Q, p &&& q ≠ 0) ∧ (∀ p ∈ Q, ∀ q ∈ Q, Sub p q → p = q) ∧ Q ≠ [])
    ⟨fun ⟨a, b, c, d, e⟩ => ⟨a, b, c, d, e⟩, fun ⟨a, b, c, d, e⟩ => ⟨a, b, c, d, e⟩⟩
end Go.Proofs.Ytebibhmjmaomnaa
namespace Go.Proofs.Ytebibhmjmaomnaa
def sameB (l m : List Nat) : Bool := (l.all fun x => m.any fun y => Nat.beq x y) && m.all fun x => l.any fun y => Nat.beq x y
theorem sameB_iff {l m : List Nat} (h : sameB l m = true) : ∀ x, x ∈ l ↔ x ∈ m := by
  unfold sameB at h
  rw [Bool.and_eq_true, List.all_eq_true, List.all_eq_true] at h
  have key : ∀ {a b : List Nat}, (∀ x ∈ a, (b.any fun y => Nat.beq x y) = true) → ∀ x, x ∈ a → x ∈ b := by
    intro a b k x hx
    obtain ⟨y, y1, y2⟩ := List.any_eq_true.1 (k x hx)
    rw [Nat.eq_of_beq_eq_true y2]; exact y1
  exact fun x => ⟨key h.1 x, key h.2 x⟩
def properB (n : Nat) (l : List Nat) : Bool := (l.all fun s => Nat.ble 1 s && Nat.blt s (2 ^ n)) && (l.all fun s => l.all fun t => !Nat.beq (Nat.land s t) 0) && !l.isEmpty
theorem properB_iff {n : Nat} {l : List Nat} (h : properB n l = true) : (∀ s ∈ l, 1 ≤ s ∧ s < 2 ^ n) ∧ (∀ s ∈ l, ∀ t ∈ l, s &&& t ≠ 0) ∧ l ≠ [] := by
  unfold properB at h
  rw [Bool.and_eq_true, Bool.and_eq_true, List.all_eq_true, List.all_eq_true] at h
  obtain ⟨⟨h1, h2⟩, h3⟩ := h
  refine ⟨fun s hs => ?_, fun s hs t ht e => ?_, fun e => by rw [e] at h3; cases h3⟩
  · have := h1 s hs
    rw [Bool.and_eq_true] at this
    exact ⟨Nat.le_of_ble_eq_true this.1, Nat.le_of_ble_eq_true this.2⟩
  · have := List.all_eq_true.1 (h2 s hs) t ht
    have e' : Nat.land s t = 0 := e
    rw [e'] at this
    cases this
theorem tree_same {k : Nat} (h : k = 1 ∨ k = 2 ∨ k = 3) : ∀ x, x ∈ below 3 0 (2 ^ k - 1) ↔ x ∈ rbelow 3 0 (2 ^ k - 1) := by
  refine sameB_iff ?_
  rcases h with rfl | rfl | rfl <;> decide +kernel
theorem tree_proper {k : Nat} (h : k = 1 ∨ k = 2 ∨ k = 3) : properB (2 ^ k - 1) (below 3 0 (2 ^ k - 1)) = true := by
  rcases h with rfl | rfl | rfl <;> decide +kernel
theorem tree_len {k : Nat} (h : k = 1 ∨ k = 2 ∨ k = 3) : (below 3 0 (2 ^ k - 1)).length ≤ 15 := by
  rcases h with rfl | rfl | rfl <;> decide +kernel
def cross (r c i j : Nat) : Nat := (List.range r).foldl (fun s k => s ||| 2 ^ (k * c + j)) ((List.range c).foldl (fun s k => s ||| 2 ^ (i * c + k)) 0)
def grid (r c : Nat) : List Nat := (List.range r).flatMap fun i => (List.range c).map fun j => cross r c i j
theorem grid_proper {r c : Nat} (hr : 1 ≤ r ∧ r ≤ 3) (hc : 1 ≤ c ∧ c ≤ 2) : properB (r * c) (grid r c) = true ∧ (grid r c).length ≤ 6 := by
  have h1 : r = 1 ∨ r = 2 ∨ r = 3 := by omega
  have h2 : c = 1 ∨ c = 2 := by omega
  rcases h1 with rfl | rfl | rfl <;> rcases h2 with rfl | rfl <;> decide +kernel
end Go.Proofs.Ytebibhmjmaomnaa
