/- Plain facts about varints: what the loop of Uint computes, in natural numbers. -/
import Derived.WalkKit
namespace Go.Proofs.Ytehnbfokjkpgkaa

/-- reading a varint: from byte k on, x has been read; the third number is the error (0, 5, 6) -/
def rdU (l : List UInt8) : Nat → Nat → Nat → Nat × Nat × Nat
  | 0, _, _ => (0, 0, 6)
  | f + 1, x, k =>
    if h : k < l.length then
      if k = 9 ∧ 1 < l[k].toNat then (0, 0, 6)
      else if 128 ≤ l[k].toNat then rdU l f (x + l[k].toNat % 128 * 2 ^ (7 * k)) (k + 1)
      else if l[k].toNat = 0 ∧ 0 < k then (0, 0, 6)
      else (x + l[k].toNat % 128 * 2 ^ (7 * k), k + 1, 0)
    else (0, 0, 5)

def rdUint (l : List UInt8) : Nat × Nat × Nat := rdU l 10 0 0

theorem two_pow_add (a b : Nat) : 2 ^ (a + b) = 2 ^ a * 2 ^ b := Nat.pow_add 2 a b

theorem and127 (c : Nat) (hc : c < 256) : bits .and .u8 (c : Int) 127 = ((c % 128 : Nat) : Int) := by
  have := u8_and_nat c 127 hc (by omega)
  rw [show ((127 : Nat) : Int) = 127 from rfl] at this
  rw [this, show (127 : Nat) = 2 ^ 7 - 1 from rfl, Nat.and_two_pow_sub_one_eq_mod]

theorem and128 (c : Nat) (hc : c < 256) : (bits .and .u8 (c : Int) 128 != 0) = decide (128 ≤ c) := by
  have := u8_and_nat c 128 hc (by omega)
  rw [show ((128 : Nat) : Int) = 128 from rfl] at this
  rw [this]
  have key : ∀ c : Fin 256, ((((c.val &&& 128 : Nat) : Int)) != 0) = decide (128 ≤ c.val) := by decide +kernel
  exact key ⟨c, hc⟩

theorem or_step (x c k : Nat) (hx : x < 2 ^ (7 * k)) (hc : c < 256) (hk : k ≤ 8 ∨ (k = 9 ∧ c ≤ 1)) (p : Int) (hp : p = ((2 ^ (7 * k) : Nat) : Int)) :
    bits .or .u64 (x : Int) (IntKind.u64.wrap (IntKind.u64.wrap (bits .and .u8 (c : Int) 127) * p)) = ((x + c % 128 * 2 ^ (7 * k) : Nat) : Int) := by
  subst hp
  have hm : c % 128 * 2 ^ (7 * k) < 18446744073709551616 := by
    rcases hk with h | ⟨rfl, h⟩
    · have h1 : 2 ^ (7 * k) ≤ 2 ^ 56 := Nat.pow_le_pow_right (by omega) (by omega)
      have h2 : c % 128 * 2 ^ (7 * k) ≤ 127 * 2 ^ 56 := Nat.mul_le_mul (by omega) h1
      omega
    · have h2 : c % 128 * 2 ^ (7 * 9) ≤ 1 * 2 ^ 63 := Nat.mul_le_mul (by omega) (by omega)
      omega
  have hx' : x < 18446744073709551616 := by
    have h1 : 2 ^ (7 * k) ≤ 2 ^ 63 := Nat.pow_le_pow_right (by omega) (by omega)
    omega
  rw [and127 c hc, IntKind.wrap_u64, IntKind.wrap_u64]
  rw [show (((c % 128 : Nat) : Int) % 18446744073709551616) = ((c % 128 : Nat) : Int) by omega]
  rw [← Int.natCast_mul]
  rw [show (((c % 128 * 2 ^ (7 * k) : Nat) : Int) % 18446744073709551616) = ((c % 128 * 2 ^ (7 * k) : Nat) : Int) by omega]
  rw [u64_or_nat _ _ hx' hm]
  congr 1
  rw [Nat.or_comm, Nat.mul_comm, ← Nat.two_pow_add_eq_or_of_lt hx, Nat.add_comm]

theorem step_lt (x c k : Nat) (hx : x < 2 ^ (7 * k)) : x + c % 128 * 2 ^ (7 * k) < 2 ^ (7 * (k + 1)) := by
  have h : 2 ^ (7 * (k + 1)) = 128 * 2 ^ (7 * k) := by rw [Nat.mul_add, Nat.pow_add]; omega
  rw [h]
  have h2 : c % 128 * 2 ^ (7 * k) ≤ 127 * 2 ^ (7 * k) := Nat.mul_le_mul_right _ (by omega)
  omega

theorem pow7 (k : Nat) : (2 : Int) ^ (7 * (k : Int)).toNat = ((2 ^ (7 * k) : Nat) : Int) := by
  rw [show (7 * (k : Int)).toNat = 7 * k by omega]
  simp

/-- what is known of what is read -/
theorem rdU_ok (l : List UInt8) : ∀ (f x k : Nat), f + k = 10 → x < 2 ^ (7 * k) →
    ((rdU l f x k).2.2 = 0 ∧ (rdU l f x k).1 < 18446744073709551616 ∧ k < (rdU l f x k).2.1 ∧ (rdU l f x k).2.1 ≤ l.length ∧ (rdU l f x k).2.1 ≤ 10) ∨ ((rdU l f x k).1 = 0 ∧ (rdU l f x k).2.1 = 0 ∧ ((rdU l f x k).2.2 = 5 ∨ (rdU l f x k).2.2 = 6))
  | 0, x, k, _, _ => .inr (by simp [rdU])
  | f + 1, x, k, hf, hx => by
    rw [rdU]
    split
    · next h =>
      split
      · exact .inr (by simp)
      · next h1 =>
        split
        · next h2 =>
          have := rdU_ok l f (x + l[k].toNat % 128 * 2 ^ (7 * k)) (k + 1) (by omega) (step_lt x _ k hx)
          rcases this with ⟨a, b, c, d, e⟩ | this
          · exact .inl ⟨a, b, by omega, d, e⟩
          · exact .inr this
        · next h2 =>
          split
          · exact .inr (by simp)
          · refine .inl ⟨rfl, ?_, by simp, Nat.succ_le_of_lt h, by simp; omega⟩
            show x + l[k].toNat % 128 * 2 ^ (7 * k) < 18446744073709551616
            by_cases h9 : k = 9
            · subst h9
              have h3 : l[9].toNat % 128 * 2 ^ (7 * 9) ≤ 1 * 2 ^ 63 := Nat.mul_le_mul (by omega) (by omega)
              omega
            · have h3 := step_lt x l[k].toNat k hx
              have h4 : 2 ^ (7 * (k + 1)) ≤ 2 ^ 63 := Nat.pow_le_pow_right (by omega) (by omega)
              omega
    · exact .inr (by simp)
theorem rdUint_ok (l : List UInt8) : ((rdUint l).2.2 = 0 ∧ (rdUint l).1 < 18446744073709551616 ∧ 0 < (rdUint l).2.1 ∧ (rdUint l).2.1 ≤ l.length ∧ (rdUint l).2.1 ≤ 10) ∨ ((rdUint l).1 = 0 ∧ (rdUint l).2.1 = 0 ∧ ((rdUint l).2.2 = 5 ∨ (rdUint l).2.2 = 6)) :=
  rdU_ok l 10 0 0 rfl (by simp)

/-- reading a string -/
def rdText (l : List UInt8) : List UInt8 × Nat × Nat :=
  if (rdUint l).2.2 ≠ 0 then ([], 0, (rdUint l).2.2)
  else if 1024 < (rdUint l).1 then ([], 0, 3)
  else if l.length - (rdUint l).2.1 < (rdUint l).1 then ([], 0, 5)
  else ((l.drop (rdUint l).2.1).take (rdUint l).1, (rdUint l).2.1 + (rdUint l).1, 0)
theorem rdText_e {l : List UInt8} {v k e : Nat} (h : rdUint l = (v, k, e)) (he : e ≠ 0) : rdText l = ([], 0, e) := by
  unfold rdText; rw [h]; rw [if_pos he]
theorem rdText_long {l : List UInt8} {v k : Nat} (h : rdUint l = (v, k, 0)) (hv : 1024 < v) : rdText l = ([], 0, 3) := by
  unfold rdText; rw [h]; rw [if_neg (by simp), if_pos hv]
theorem rdText_short {l : List UInt8} {v k : Nat} (h : rdUint l = (v, k, 0)) (hv : ¬ 1024 < v) (hs : l.length - k < v) : rdText l = ([], 0, 5) := by
  unfold rdText; rw [h]; rw [if_neg (by simp), if_neg hv, if_pos hs]
theorem rdText_ok {l : List UInt8} {v k : Nat} (h : rdUint l = (v, k, 0)) (hv : ¬ 1024 < v) (hs : ¬ l.length - k < v) : rdText l = ((l.drop k).take v, k + v, 0) := by
  unfold rdText; rw [h]; rw [if_neg (by simp), if_neg hv, if_neg hs]
theorem rdUint_cases {l : List UInt8} {v k e : Nat} (h : rdUint l = (v, k, e)) : (e = 0 ∧ v < 18446744073709551616 ∧ 0 < k ∧ k ≤ l.length ∧ k ≤ 10) ∨ (v = 0 ∧ k = 0 ∧ (e = 5 ∨ e = 6)) := by
  have := rdUint_ok l
  rw [h] at this
  exact this
end Go.Proofs.Ytehnbfokjkpgkaa
