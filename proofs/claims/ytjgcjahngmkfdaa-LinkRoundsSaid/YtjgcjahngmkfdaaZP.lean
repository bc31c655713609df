/- Texts put behind one another: PL, CT1, CT2, CT3, CT4, CT5. -/
import Derived.Test.YtjgcjahngmkfdaaZC
import Derived.Test.YtjgcjahngmkfdaaZJ
import Derived.WalkSpells
import Derived.WalkLawsBesides
import Derived.Lib.Hide
import Derived.Outline
import Derived.OwnWalk
import Derived.Deep.DeepMust
set_option linter.unusedVariables false
set_option linter.unusedSimpArgs false
namespace Go.Proofs.Ytjgcjahngmkfdaa
open Go.RowKit Go.Proofs


/-- reading a varint: from byte k on, x has been read; the third number is the error (0, 5, 6) -/
def rdU (l : List UInt8) : Nat → Nat → Nat → Nat × Nat × Nat
  | 0, _, _ => (0, 0, 6)
  | f + 1, x, k =>
    if h : k < l.length then
      if k = 9 ∧ 1 < l[k].toNat then (0, 0, 6)
      else if 128 ≤ l[k].toNat then rdU l f (x + l[k].toNat % 128 * 2 ^ (7 * k)) (k + 1)
      else if l[k].toNat = 0 ∧ 0 < k then (0, 0, 6)
      else (x + l[k].toNat % 128 * 2 ^ (7 * k), k + 1, 0)
    else (0, 0, 5)

def rdUint (l : List UInt8) : Nat × Nat × Nat := rdU l 10 0 0

theorem two_pow_add (a b : Nat) : 2 ^ (a + b) = 2 ^ a * 2 ^ b := Nat.pow_add 2 a b

theorem and127 (c : Nat) (hc : c < 256) : bits .and .u8 (c : Int) 127 = ((c % 128 : Nat) : Int) := by
  have := u8_and_nat c 127 hc (by omega)
  rw [show ((127 : Nat) : Int) = 127 from rfl] at this
  rw [this, show (127 : Nat) = 2 ^ 7 - 1 from rfl, Nat.and_two_pow_sub_one_eq_mod]

theorem and128 (c : Nat) (hc : c < 256) : (bits .and .u8 (c : Int) 128 != 0) = decide (128 ≤ c) := by
  have := u8_and_nat c 128 hc (by omega)
  rw [show ((128 : Nat) : Int) = 128 from rfl] at this
  rw [this]
  have key : ∀ c : Fin 256, ((((c.val &&& 128 : Nat) : Int)) != 0) = decide (128 ≤ c.val) := by decide +kernel
  exact key ⟨c, hc⟩

theorem or_step (x c k : Nat) (hx : x < 2 ^ (7 * k)) (hc : c < 256) (hk : k ≤ 8 ∨ (k = 9 ∧ c ≤ 1)) (p : Int) (hp : p = ((2 ^ (7 * k) : Nat) : Int)) :
    bits .or .u64 (x : Int) (IntKind.u64.wrap (IntKind.u64.wrap (bits .and .u8 (c : Int) 127) * p)) = ((x + c % 128 * 2 ^ (7 * k) : Nat) : Int) := by
  subst hp
  have hm : c % 128 * 2 ^ (7 * k) < 18446744073709551616 := by
    rcases hk with h | ⟨rfl, h⟩
    · have h1 : 2 ^ (7 * k) ≤ 2 ^ 56 := Nat.pow_le_pow_right (by omega) (by omega)
      have h2 : c % 128 * 2 ^ (7 * k) ≤ 127 * 2 ^ 56 := Nat.mul_le_mul (by omega) h1
      omega
    · have h2 : c % 128 * 2 ^ (7 * 9) ≤ 1 * 2 ^ 63 := Nat.mul_le_mul (by omega) (by omega)
      omega
  have hx' : x < 18446744073709551616 := by
    have h1 : 2 ^ (7 * k) ≤ 2 ^ 63 := Nat.pow_le_pow_right (by omega) (by omega)
    omega
  rw [and127 c hc, IntKind.wrap_u64, IntKind.wrap_u64]
  rw [show (((c % 128 : Nat) : Int) % 18446744073709551616) = ((c % 128 : Nat) : Int) by omega]
  rw [← Int.natCast_mul]
  rw [show (((c % 128 * 2 ^ (7 * k) : Nat) : Int) % 18446744073709551616) = ((c % 128 * 2 ^ (7 * k) : Nat) : Int) by omega]
  rw [u64_or_nat _ _ hx' hm]
  congr 1
  rw [Nat.or_comm, Nat.mul_comm, ← Nat.two_pow_add_eq_or_of_lt hx, Nat.add_comm]

theorem step_lt (x c k : Nat) (hx : x < 2 ^ (7 * k)) : x + c % 128 * 2 ^ (7 * k) < 2 ^ (7 * (k + 1)) := by
  have h : 2 ^ (7 * (k + 1)) = 128 * 2 ^ (7 * k) := by rw [Nat.mul_add, Nat.pow_add]; omega
  rw [h]
  have h2 : c % 128 * 2 ^ (7 * k) ≤ 127 * 2 ^ (7 * k) := Nat.mul_le_mul_right _ (by omega)
  omega

theorem pow7 (k : Nat) : (2 : Int) ^ (7 * (k : Int)).toNat = ((2 ^ (7 * k) : Nat) : Int) := by
  rw [show (7 * (k : Int)).toNat = 7 * k by omega]
  simp

/-- what is known of what is read -/
theorem rdU_ok (l : List UInt8) : ∀ (f x k : Nat), f + k = 10 → x < 2 ^ (7 * k) →
    ((rdU l f x k).2.2 = 0 ∧ (rdU l f x k).1 < 18446744073709551616 ∧ k < (rdU l f x k).2.1 ∧ (rdU l f x k).2.1 ≤ l.length ∧ (rdU l f x k).2.1 ≤ 10) ∨ ((rdU l f x k).1 = 0 ∧ (rdU l f x k).2.1 = 0 ∧ ((rdU l f x k).2.2 = 5 ∨ (rdU l f x k).2.2 = 6))
  | 0, x, k, _, _ => .inr (by simp [rdU])
  | f + 1, x, k, hf, hx => by
    rw [rdU]
    split
    · next h =>
      split
      · exact .inr (by simp)
      · next h1 =>
        split
        · next h2 =>
          have := rdU_ok l f (x + l[k].toNat % 128 * 2 ^ (7 * k)) (k + 1) (by omega) (step_lt x _ k hx)
          rcases this with ⟨a, b, c, d, e⟩ | this
          · exact .inl ⟨a, b, by omega, d, e⟩
          · exact .inr this
        · next h2 =>
          split
          · exact .inr (by simp)
          · refine .inl ⟨rfl, ?_, by simp, Nat.succ_le_of_lt h, by simp; omega⟩
            show x + l[k].toNat % 128 * 2 ^ (7 * k) < 18446744073709551616
            by_cases h9 : k = 9
            · subst h9
              have h3 : l[9].toNat % 128 * 2 ^ (7 * 9) ≤ 1 * 2 ^ 63 := Nat.mul_le_mul (by omega) (by omega)
              omega
            · have h3 := step_lt x l[k].toNat k hx
              have h4 : 2 ^ (7 * (k + 1)) ≤ 2 ^ 63 := Nat.pow_le_pow_right (by omega) (by omega)
              omega
    · exact .inr (by simp)
theorem rdUint_ok (l : List UInt8) : ((rdUint l).2.2 = 0 ∧ (rdUint l).1 < 18446744073709551616 ∧ 0 < (rdUint l).2.1 ∧ (rdUint l).2.1 ≤ l.length ∧ (rdUint l).2.1 ≤ 10) ∨ ((rdUint l).1 = 0 ∧ (rdUint l).2.1 = 0 ∧ ((rdUint l).2.2 = 5 ∨ (rdUint l).2.2 = 6)) :=
  rdU_ok l 10 0 0 rfl (by simp)

/-- reading a string -/
def rdText (l : List UInt8) : List UInt8 × Nat × Nat :=
  if (rdUint l).2.2 ≠ 0 then ([], 0, (rdUint l).2.2)
  else if 1024 < (rdUint l).1 then ([], 0, 3)
  else if l.length - (rdUint l).2.1 < (rdUint l).1 then ([], 0, 5)
  else ((l.drop (rdUint l).2.1).take (rdUint l).1, (rdUint l).2.1 + (rdUint l).1, 0)
theorem rdText_e {l : List UInt8} {v k e : Nat} (h : rdUint l = (v, k, e)) (he : e ≠ 0) : rdText l = ([], 0, e) := by
  unfold rdText; rw [h]; rw [if_pos he]
theorem rdText_long {l : List UInt8} {v k : Nat} (h : rdUint l = (v, k, 0)) (hv : 1024 < v) : rdText l = ([], 0, 3) := by
  unfold rdText; rw [h]; rw [if_neg (by simp), if_pos hv]
theorem rdText_short {l : List UInt8} {v k : Nat} (h : rdUint l = (v, k, 0)) (hv : ¬ 1024 < v) (hs : l.length - k < v) : rdText l = ([], 0, 5) := by
  unfold rdText; rw [h]; rw [if_neg (by simp), if_neg hv, if_pos hs]
theorem rdText_ok {l : List UInt8} {v k : Nat} (h : rdUint l = (v, k, 0)) (hv : ¬ 1024 < v) (hs : ¬ l.length - k < v) : rdText l = ((l.drop k).take v, k + v, 0) := by
  unfold rdText; rw [h]; rw [if_neg (by simp), if_neg hv, if_neg hs]
theorem rdUint_cases {l : List UInt8} {v k e : Nat} (h : rdUint l = (v, k, e)) : (e = 0 ∧ v < 18446744073709551616 ∧ 0 < k ∧ k ≤ l.length ∧ k ≤ 10) ∨ (v = 0 ∧ k = 0 ∧ (e = 5 ∨ e = 6)) := by
  have := rdUint_ok l
  rw [h] at this
  exact this


def crcStep (s : Nat) : Nat := if s % 2 = 1 then s / 2 ^^^ 3988292384 else s / 2
def crcN : Nat → Nat → Nat
  | 0, s => s
  | n + 1, s => crcN n (crcStep s)
def crcB (s : Nat) (b : UInt8) : Nat := crcN 8 (s ^^^ b.toNat)
def crcL (l : List UInt8) (s : Nat) : Nat := l.foldl crcB s
def crc (l : List UInt8) : Nat := crcL l 4294967295 ^^^ 4294967295

theorem crcStep_lt (s : Nat) (h : s < 4294967296) : crcStep s < 4294967296 := by
  unfold crcStep
  split
  · exact Nat.xor_lt_two_pow (n := 32) (by omega) (by omega)
  · omega
theorem xor_lt (a b : Nat) (ha : a < 4294967296) (hb : b < 4294967296) : a ^^^ b < 4294967296 := Nat.xor_lt_two_pow (n := 32) ha hb
theorem crcN_lt : ∀ (n s : Nat), s < 4294967296 → crcN n s < 4294967296
  | 0, _, h => h
  | n + 1, s, h => crcN_lt n _ (crcStep_lt s h)
theorem crcB_lt (s : Nat) (b : UInt8) (h : s < 4294967296) : crcB s b < 4294967296 :=
  crcN_lt 8 _ (xor_lt _ _ h (by have := b.toNat_lt; omega))
theorem crcL_lt : ∀ (l : List UInt8) (s : Nat), s < 4294967296 → crcL l s < 4294967296
  | [], _, h => h
  | b :: l, s, h => crcL_lt l _ (crcB_lt s b h)
theorem crcL_drop (l : List UInt8) (k s : Nat) (h : k < l.length) : crcL (l.drop k) s = crcL (l.drop (k + 1)) (crcB s l[k]) := by
  rw [List.drop_eq_getElem_cons h]
  rfl
theorem crcStep_odd (s : Nat) (h : s % 2 = 1) : crcStep s = s / 2 ^^^ 3988292384 := by rw [crcStep, if_pos h]
theorem crcStep_even (s : Nat) (h : ¬ s % 2 = 1) : crcStep s = s / 2 := by rw [crcStep, if_neg h]

theorem and1 (s : Nat) (hs : s < 4294967296) : bits .and .u32 (s : Int) 1 = ((s % 2 : Nat) : Int) := by
  have := u32_and_nat s 1 hs (by omega)
  rw [show ((1 : Nat) : Int) = 1 from rfl] at this
  rw [this, Nat.and_one_is_mod]
theorem xor32 (s t : Nat) (hs : s < 4294967296) (ht : t < 4294967296) : bits .xor .u32 (s : Int) (t : Int) = ((s ^^^ t : Nat) : Int) := u32_xor_nat s t hs ht
theorem wrap32u (c : Nat) (h : c < 4294967296) : IntKind.u32.wrap (c : Int) = c := by rw [IntKind.wrap_u32']; omega
/-- the varint of x -/
def putU : Nat → Nat → List UInt8
  | 0, _ => []
  | f + 1, x => if 127 < x then UInt8.ofNat (x % 128 + 128) :: putU f (x / 128) else [UInt8.ofNat x]
def putUint (x : Nat) : List UInt8 := putU 10 x

theorem and127u (y : Nat) (hy : y < 18446744073709551616) : bits .and .u64 (y : Int) 127 = ((y % 128 : Nat) : Int) := by
  have := u64_and_nat y 127 hy (by omega)
  rw [show ((127 : Nat) : Int) = 127 from rfl] at this
  rw [this, show (127 : Nat) = 2 ^ 7 - 1 from rfl, Nat.and_two_pow_sub_one_eq_mod]
theorem or128u (y : Nat) (hy : y < 128) : bits .or .u8 (y : Int) 128 = ((y + 128 : Nat) : Int) := by
  rw [u8_or128_right y (by omega) (by omega)]
  omega

theorem putU_more {f y : Nat} (h : 127 < y) : putU (f + 1) y = UInt8.ofNat (y % 128 + 128) :: putU f (y / 128) := by rw [putU, if_pos h]
theorem putU_last {f y : Nat} (h : ¬ 127 < y) : putU (f + 1) y = [UInt8.ofNat y] := by rw [putU, if_neg h]


def sumB (x : Nat) : List UInt8 := [UInt8.ofNat (x / 16777216 % 256), UInt8.ofNat (x / 65536 % 256), UInt8.ofNat (x / 256 % 256), UInt8.ofNat (x % 256)]
def be (t : List UInt8) : Nat := t.foldl (fun s b => s * 256 + b.toNat) 0

theorem be_snoc (t : List UInt8) (b : UInt8) : be (t ++ [b]) = be t * 256 + b.toNat := by simp [be]
theorem be_lt (t : List UInt8) : be t < 256 ^ t.length := by
  suffices h : ∀ (t : List UInt8) (s n : Nat), s < 256 ^ n → t.foldl (fun s b => s * 256 + b.toNat) s < 256 ^ (n + t.length) by
    have := h t 0 0 (by simp)
    simpa [be] using this
  intro t
  induction t with
  | nil => intro s n h; simpa using h
  | cons b t ih =>
    intro s n h
    have hb := b.toNat_lt
    have := ih (s * 256 + b.toNat) (n + 1) (by rw [Nat.pow_succ]; omega)
    simp only [List.foldl_cons, List.length_cons]
    rw [show n + (t.length + 1) = n + 1 + t.length by omega]
    exact this
theorem crc_lt (l : List UInt8) : crc l < 4294967296 := xor_lt _ _ (crcL_lt l _ (by omega)) (by omega)

/-- reading a frame -/
def rdFrame (l : List UInt8) : List UInt8 × Nat × Nat :=
  if (rdUint l).2.2 ≠ 0 then ([], 0, (rdUint l).2.2)
  else if 4096 < (rdUint l).1 then ([], 0, 3)
  else if l.length - (rdUint l).2.1 < (rdUint l).1 + 4 then ([], 0, 5)
  else if be ((l.drop ((rdUint l).2.1 + (rdUint l).1)).take 4) ≠ crc ((l.drop (rdUint l).2.1).take (rdUint l).1) then ([], 0, 7)
  else ((l.drop (rdUint l).2.1).take (rdUint l).1, (rdUint l).2.1 + (rdUint l).1 + 4, 0)
theorem rdFrame_e {l : List UInt8} {v k e : Nat} (h : rdUint l = (v, k, e)) (he : e ≠ 0) : rdFrame l = ([], 0, e) := by
  unfold rdFrame; rw [h]; rw [if_pos he]
theorem rdFrame_long {l : List UInt8} {v k : Nat} (h : rdUint l = (v, k, 0)) (hv : 4096 < v) : rdFrame l = ([], 0, 3) := by
  unfold rdFrame; rw [h]; rw [if_neg (by simp), if_pos hv]
theorem rdFrame_short {l : List UInt8} {v k : Nat} (h : rdUint l = (v, k, 0)) (hv : ¬ 4096 < v) (hs : l.length - k < v + 4) : rdFrame l = ([], 0, 5) := by
  unfold rdFrame; rw [h]; rw [if_neg (by simp), if_neg hv, if_pos hs]
theorem rdFrame_sum {l : List UInt8} {v k : Nat} (h : rdUint l = (v, k, 0)) (hv : ¬ 4096 < v) (hs : ¬ l.length - k < v + 4) (hc : be ((l.drop (k + v)).take 4) ≠ crc ((l.drop k).take v)) : rdFrame l = ([], 0, 7) := by
  unfold rdFrame; rw [h]; rw [if_neg (by simp), if_neg hv, if_neg hs, if_pos hc]
theorem rdFrame_ok {l : List UInt8} {v k : Nat} (h : rdUint l = (v, k, 0)) (hv : ¬ 4096 < v) (hs : ¬ l.length - k < v + 4) (hc : be ((l.drop (k + v)).take 4) = crc ((l.drop k).take v)) : rdFrame l = ((l.drop k).take v, k + v + 4, 0) := by
  unfold rdFrame; rw [h]; rw [if_neg (by simp), if_neg hv, if_neg hs, if_neg (by simpa using hc)]

theorem or8 (s c : Nat) (hs : s < 16777216) (hc : c < 256) : bits .or .u32 ((s : Int) * 256) (c : Int) = ((s * 256 + c : Nat) : Int) := by
  rw [show ((s : Int) * 256) = ((s * 256 : Nat) : Int) by omega]
  rw [u32_or_nat _ _ (by omega) (by omega)]
  congr 1
  rw [show s * 256 = 2 ^ 8 * s by omega, ← Nat.two_pow_add_eq_or_of_lt (by omega)]
theorem or4 (a b c d : Nat) (ha : a < 256) (hb : b < 256) (hc : c < 256) (hd : d < 256) :
    bits .or .u32 (bits .or .u32 (bits .or .u32 ((a : Int) * 16777216) ((b : Int) * 65536)) ((c : Int) * 256)) (d : Int) = ((((a * 256 + b) * 256 + c) * 256 + d : Nat) : Int) := by
  rw [show ((a : Int) * 16777216) = ((a * 16777216 : Nat) : Int) by omega, show ((b : Int) * 65536) = ((b * 65536 : Nat) : Int) by omega, show ((c : Int) * 256) = ((c * 256 : Nat) : Int) by omega]
  have e1 : a * 16777216 ||| b * 65536 = a * 16777216 + b * 65536 := by
    rw [show a * 16777216 = 2 ^ 24 * a by omega, ← Nat.two_pow_add_eq_or_of_lt (by omega)]
  have e2 : (a * 16777216 + b * 65536) ||| c * 256 = a * 16777216 + b * 65536 + c * 256 := by
    rw [show a * 16777216 + b * 65536 = 2 ^ 16 * (a * 256 + b) by omega, ← Nat.two_pow_add_eq_or_of_lt (by omega)]
  have e3 : (a * 16777216 + b * 65536 + c * 256) ||| d = a * 16777216 + b * 65536 + c * 256 + d := by
    rw [show a * 16777216 + b * 65536 + c * 256 = 2 ^ 8 * ((a * 256 + b) * 256 + c) by omega, ← Nat.two_pow_add_eq_or_of_lt (by omega)]
  rw [u32_or_nat _ _ (by omega) (by omega), e1, u32_or_nat _ _ (by omega) (by omega), e2, u32_or_nat _ _ (by omega) (by omega), e3]
  omega
theorem be4 (a b c d : UInt8) : be [a, b, c, d] = ((a.toNat * 256 + b.toNat) * 256 + c.toNat) * 256 + d.toNat := by simp [be]
def frame (l : List UInt8) : List UInt8 := putUint l.length ++ l ++ sumB (crc l)
def frameR (l : List UInt8) : List UInt8 × Nat := if 4096 < l.length then ([], 3) else (frame l, 0)


theorem rdU_end {l : List UInt8} {f x k : Nat} (h : ¬ k < l.length) : rdU l (f + 1) x k = (0, 0, 5) := by
  rw [rdU, dif_neg h]
theorem rdU_a {l : List UInt8} {f x k : Nat} (h : k < l.length) (h1 : k = 9 ∧ 1 < l[k].toNat) : rdU l (f + 1) x k = (0, 0, 6) := by
  rw [rdU, dif_pos h, if_pos h1]
theorem rdU_b {l : List UInt8} {f x k : Nat} (h : k < l.length) (h1 : ¬ (k = 9 ∧ 1 < l[k].toNat)) (h2 : 128 ≤ l[k].toNat) : rdU l (f + 1) x k = rdU l f (x + l[k].toNat % 128 * 2 ^ (7 * k)) (k + 1) := by
  rw [rdU, dif_pos h, if_neg h1, if_pos h2]
theorem rdU_c {l : List UInt8} {f x k : Nat} (h : k < l.length) (h1 : ¬ (k = 9 ∧ 1 < l[k].toNat)) (h2 : ¬ 128 ≤ l[k].toNat) (h3 : l[k].toNat = 0 ∧ 0 < k) : rdU l (f + 1) x k = (0, 0, 6) := by
  rw [rdU, dif_pos h, if_neg h1, if_neg h2, if_pos h3]
theorem rdU_d {l : List UInt8} {f x k : Nat} (h : k < l.length) (h1 : ¬ (k = 9 ∧ 1 < l[k].toNat)) (h2 : ¬ 128 ≤ l[k].toNat) (h3 : ¬ (l[k].toNat = 0 ∧ 0 < k)) : rdU l (f + 1) x k = (x + l[k].toNat % 128 * 2 ^ (7 * k), k + 1, 0) := by
  rw [rdU, dif_pos h, if_neg h1, if_neg h2, if_neg h3]

theorem toNat_ofNat (y : Nat) (h : y < 256) : (UInt8.ofNat y).toNat = y := UInt8.toNat_ofNat_of_lt' (by simpa using h)

/-- what is written is read back, whatever follows -/
theorem rd_put : ∀ (f x k y : Nat) (pre tail : List UInt8), pre.length = k → f + k = 10 → 0 < f → y < 128 ^ f → y * 2 ^ (7 * k) < 18446744073709551616 → (0 < k → 0 < y) →
    rdU (pre ++ putU f y ++ tail) f x k = (x + y * 2 ^ (7 * k), k + (putU f y).length, 0)
  | 0, _, _, _, _, _, _, _, h, _, _, _ => by omega
  | f + 1, x, k, y, pre, tail, hk, hf, _, hy, hb, h0 => by
    by_cases hlt : 127 < y
    · have hf0 : 0 < f := by
        rcases Nat.eq_zero_or_pos f with h | h
        · subst h; simp at hy; omega
        · exact h
      rw [putU_more hlt]
      have hl : k < (pre ++ UInt8.ofNat (y % 128 + 128) :: putU f (y / 128) ++ tail).length := by simp; omega
      have hc : (pre ++ UInt8.ofNat (y % 128 + 128) :: putU f (y / 128) ++ tail)[k].toNat = y % 128 + 128 := by
        simp only [List.append_assoc]
        rw [List.getElem_append_right (by omega)]
        simp [hk]
        omega
      rw [rdU_b hl (by omega) (by omega), hc]
      have ih := rd_put f (x + (y % 128 + 128) % 128 * 2 ^ (7 * k)) (k + 1) (y / 128) (pre ++ [UInt8.ofNat (y % 128 + 128)]) tail (by simp [hk]) (by omega) hf0
        (by rw [Nat.pow_succ] at hy; exact Nat.div_lt_of_lt_mul (by rw [Nat.mul_comm]; exact hy))
        (by
          have e : 2 ^ (7 * (k + 1)) = 128 * 2 ^ (7 * k) := by rw [Nat.mul_add, Nat.pow_add]; omega
          rw [e, ← Nat.mul_assoc]
          have : y / 128 * 128 ≤ y := by omega
          have := Nat.mul_le_mul_right (2 ^ (7 * k)) this
          omega)
        (by omega)
      have e : pre ++ UInt8.ofNat (y % 128 + 128) :: putU f (y / 128) ++ tail = pre ++ [UInt8.ofNat (y % 128 + 128)] ++ putU f (y / 128) ++ tail := by simp
      rw [e, ih]
      have e2 : 2 ^ (7 * (k + 1)) = 128 * 2 ^ (7 * k) := by rw [Nat.mul_add, Nat.pow_add]; omega
      have e3 : (y % 128 + 128) % 128 = y % 128 := by omega
      have e4 : y % 128 * 2 ^ (7 * k) + y / 128 * (128 * 2 ^ (7 * k)) = y * 2 ^ (7 * k) := by
        rw [← Nat.mul_assoc, ← Nat.add_mul]
        congr 1
        omega
      rw [e2, e3]
      simp only [List.length_cons, Prod.mk.injEq, and_true]
      omega
    · rw [putU_last hlt]
      have hl : k < (pre ++ [UInt8.ofNat y] ++ tail).length := by simp; omega
      have hc : (pre ++ [UInt8.ofNat y] ++ tail)[k].toNat = y := by
        simp only [List.append_assoc]
        rw [List.getElem_append_right (by omega)]
        simp [hk]
        omega
      have hk9 : k = 9 → y ≤ 1 := by
        intro h
        subst h
        have : y * 2 ^ (7 * 9) < 2 * 2 ^ (7 * 9) := by omega
        omega
      rw [rdU_d hl (by omega) (by omega) (by omega), hc, Nat.mod_eq_of_lt (by omega)]
      simp

theorem rdUint_put (v : Nat) (tail : List UInt8) (hv : v < 18446744073709551616) : rdUint (putUint v ++ tail) = (v, (putUint v).length, 0) := by
  have := rd_put 10 0 0 v [] tail rfl rfl (by omega) (by omega) (by omega) (by omega)
  simpa [rdUint, putUint] using this

/-- a beginning of a varint is too short -/
theorem rd_prefix : ∀ (f x k y j : Nat) (pre : List UInt8), pre.length = k → f + k = 10 → y < 128 ^ f → j < (putU f y).length → rdU (pre ++ (putU f y).take j) f x k = (0, 0, 5)
  | 0, _, _, _, _, _, _, _, _, h => by simp [putU] at h
  | f + 1, x, k, y, j, pre, hk, hf, hy, hj => by
    cases j with
    | zero => rw [rdU_end (by simp [hk])]
    | succ j =>
      by_cases hlt : 127 < y
      · rw [putU_more hlt] at hj ⊢
        have hf0 : 0 < f := by
          rcases Nat.eq_zero_or_pos f with h | h
          · subst h; simp at hy; omega
          · exact h
        rw [List.take_succ_cons]
        have hl : k < (pre ++ UInt8.ofNat (y % 128 + 128) :: (putU f (y / 128)).take j).length := by simp; omega
        have hc : (pre ++ UInt8.ofNat (y % 128 + 128) :: (putU f (y / 128)).take j)[k].toNat = y % 128 + 128 := by
          rw [List.getElem_append_right (by omega)]
          simp [hk]
          omega
        rw [rdU_b hl (by omega) (by omega), hc]
        have ih := rd_prefix f (x + (y % 128 + 128) % 128 * 2 ^ (7 * k)) (k + 1) (y / 128) j (pre ++ [UInt8.ofNat (y % 128 + 128)]) (by simp [hk]) (by omega)
          (by rw [Nat.pow_succ] at hy; exact Nat.div_lt_of_lt_mul (by rw [Nat.mul_comm]; exact hy)) (by simpa using hj)
        simpa using ih
      · rw [putU_last hlt] at hj
        simp at hj
theorem rdUint_prefix (v j : Nat) (hv : v < 18446744073709551616) (hj : j < (putUint v).length) : rdUint ((putUint v).take j) = (0, 0, 5) := by
  have := rd_prefix 10 0 0 v j [] rfl rfl (by omega) hj
  simpa [rdUint, putUint] using this

/-- what is read is the shortest form of its number -/
theorem rd_short (l : List UInt8) : ∀ (f x k v n : Nat), f + k = 10 → rdU l f x k = (v, n, 0) → ∃ y, v = x + y * 2 ^ (7 * k) ∧ k < n ∧ n ≤ l.length ∧ (l.drop k).take (n - k) = putU f y ∧ (0 < k → 0 < y)
  | 0, _, _, _, _, _, h => by simp [rdU] at h
  | f + 1, x, k, v, n, hf, h => by
    rw [rdU] at h
    split at h
    · next hk =>
      have hc := l[k].toNat_lt
      split at h
      · simp at h
      · split at h
        · next h1 h2 =>
          obtain ⟨y, hv, hn, hnl, ht, h0⟩ := rd_short l f _ (k + 1) v n (by omega) h
          have hy0 := h0 (by omega)
          refine ⟨l[k].toNat % 128 + 128 * y, ?_, by omega, hnl, ?_, fun _ => by omega⟩
          · rw [hv]
            have e2 : 2 ^ (7 * (k + 1)) = 128 * 2 ^ (7 * k) := by rw [Nat.mul_add, Nat.pow_add]; omega
            rw [e2, Nat.add_mul, ← Nat.mul_assoc, Nat.mul_comm 128 y]
            omega
          · rw [putU_more (by omega)]
            rw [List.drop_eq_getElem_cons hk, show n - k = (n - (k + 1)) + 1 by omega, List.take_succ_cons, ht]
            congr 1
            · apply UInt8.toNat_inj.1
              rw [toNat_ofNat _ (by omega)]
              omega
            · congr 1
              omega
        · split at h
          · simp at h
          · next h1 h2 h3 =>
            simp only [Prod.mk.injEq, and_true] at h
            obtain ⟨rfl, rfl⟩ := h
            refine ⟨l[k].toNat, by rw [Nat.mod_eq_of_lt (by omega)], by omega, by omega, ?_, fun _ => by omega⟩
            rw [putU_last (by omega)]
            rw [List.drop_eq_getElem_cons hk, show k + 1 - k = 0 + 1 by omega, List.take_succ_cons, List.take_zero, UInt8.ofNat_toNat]
    · simp at h
theorem rdUint_short {l : List UInt8} {v n : Nat} (h : rdUint l = (v, n, 0)) : putUint v = l.take n := by
  obtain ⟨y, hv, _, _, ht, _⟩ := rd_short l 10 0 0 v n rfl h
  simp at hv ht
  subst hv
  rw [ht]
  rfl

theorem putUint_pos (x : Nat) : 0 < (putUint x).length := by
  unfold putUint
  rw [putU]
  split <;> simp
theorem be_sumB (x : Nat) (h : x < 4294967296) : be (sumB x) = x := by
  simp only [sumB]
  rw [be4, toNat_ofNat _ (by omega), toNat_ofNat _ (by omega), toNat_ofNat _ (by omega), toNat_ofNat _ (by omega)]
  omega

theorem rdText_put (s tail : List UInt8) (h : s.length < 18446744073709551616) : rdText (putUint s.length ++ s ++ tail) = if 1024 < s.length then ([], 0, 3) else (s, (putUint s.length).length + s.length, 0) := by
  have hr := rdUint_put s.length (s ++ tail) h
  rw [← List.append_assoc] at hr
  split
  · next h1 => exact rdText_long hr h1
  · next h1 =>
    rw [rdText_ok hr h1 (by simp)]
    congr 1
    rw [List.append_assoc, List.drop_left]
    exact List.take_left

theorem rdFrame_put (l tail : List UInt8) (h : l.length ≤ 4096) : rdFrame (frame l ++ tail) = (l, (frame l).length, 0) := by
  have hr := rdUint_put l.length (l ++ sumB (crc l) ++ tail) (by omega)
  have e : frame l ++ tail = putUint l.length ++ (l ++ sumB (crc l) ++ tail) := by simp [frame]
  rw [← e] at hr
  have hs : (sumB (crc l)).length = 4 := rfl
  have e1 : ((frame l ++ tail).drop (putUint l.length).length).take l.length = l := by
    rw [e, List.drop_left, List.append_assoc]
    exact List.take_left
  have e2 : ((frame l ++ tail).drop ((putUint l.length).length + l.length)).take 4 = sumB (crc l) := by
    rw [e, ← List.drop_drop, List.drop_left, List.append_assoc, List.drop_left, ← hs]
    exact List.take_left
  rw [rdFrame_ok hr (by omega) (by rw [e]; simp only [List.length_append, hs]; omega) (by rw [e1, e2, be_sumB _ (crc_lt l)]), e1]
  simp only [frame, List.length_append, hs]

/-- a beginning of a frame is too short -/
theorem rdFrame_prefix (l : List UInt8) (cut : Nat) (h : l.length ≤ 4096) (hc : cut < (frame l).length) : rdFrame ((frame l).take cut) = ([], 0, 5) := by
  have hs : (sumB (crc l)).length = 4 := rfl
  have e : frame l = putUint l.length ++ (l ++ sumB (crc l)) := by simp [frame]
  rw [e] at hc ⊢
  simp only [List.length_append, hs] at hc
  by_cases h1 : cut < (putUint l.length).length
  · rw [List.take_append_of_le_length (by omega)]
    exact rdFrame_e (rdUint_prefix l.length cut (by omega) h1) (by omega)
  · rw [List.take_append, List.take_of_length_le (by omega)]
    have hr := rdUint_put l.length ((l ++ sumB (crc l)).take (cut - (putUint l.length).length)) (by omega)
    refine rdFrame_short hr (by omega) ?_
    simp only [List.length_append, List.length_take, hs]
    omega
end Go.Proofs.Ytjgcjahngmkfdaa

namespace Go.Proofs.Ytjgcjahngmkfdaa
open Go.RowKit Go.Proofs

theorem binS_and (k : IntKind) (a b : Int) : binS .and (.int k a) (.int k b) = some (.int k (bits .and k a b)) := by simp only [binS, if_true]; rfl
theorem binS_or (k : IntKind) (a b : Int) : binS .or (.int k a) (.int k b) = some (.int k (bits .or k a b)) := by simp only [binS, if_true]; rfl
theorem binS_xor (k : IntKind) (a b : Int) : binS .xor (.int k a) (.int k b) = some (.int k (bits .xor k a b)) := by simp only [binS, if_true]; rfl
theorem bv_get {l : List UInt8} {i : Nat} (h : i < l.length) : (bv l)[i]? = some (.s (.int .u8 l[i].toNat)) := by simp [bv, h]
/-- what Uint returns -/
def uintV (r : Nat × Nat × Nat) : V := .tup [.s (.int .u64 r.1), .s (.int .i64 r.2.1), .s (.int .i64 r.2.2)]
def uInv (l : List UInt8) (m : Nat) (S : St) : Prop := ∃ k x, k + m = 10 ∧ x < 2 ^ (7 * k) ∧ rdUint l = rdU l m x k ∧
  S = ⟨tmL [(8, .s (.int .i64 k))], [.list 1 (bv l), .s (.int .u64 0), .s (.int .i64 0), .s (.int .i64 0), .s (.int .u64 x), .no, .no], [], 0⟩
theorem Uint_pc (l : List UInt8) : PC Try.prog 44 [.list 1 (bv l)] (fun r => r = uintV (rdUint l)) := by
  refine pc_end c44 mixed rfl ?_
  simp -implicitDefEqProofs [a44, F44]
  refine w_rounds [8] [5, 6] 0 (Nat.le_refl _) (uInv l) 10 ⟨by simp, 0, 0, by simp, by simp, rfl, by simp⟩ ?_
  rintro m S ⟨k, x, hk, hx, hr, rfl⟩
  rw [hr]
  have h0 : ¬ (k : Int) < 0 := by omega
  by_cases h10 : k < 10
  case neg =>
    have h1 : ¬ (k : Int) < 10 := by omega
    have hm : m = 0 := by omega
    subst hm
    simp -implicitDefEqProofs [h1, rdU, uintV]
  have h1 : (k : Int) < 10 := by omega
  obtain ⟨f, rfl⟩ : ∃ f, m = f + 1 := ⟨m - 1, by omega⟩
  by_cases hl : k < l.length
  case neg =>
    have h2 : (k : Int) ≥ l.length := by omega
    simp -implicitDefEqProofs [h1, h2, rdU_end hl, uintV]
  have h2 : ¬ (k : Int) ≥ l.length := by omega
  have hc : l[k].toNat < 256 := l[k].toNat_lt
  have hmul : IntKind.i64.wrap (7 * (k : Int)) = 7 * (k : Int) := wrap64 (by omega)
  have hnn : ¬ 7 * (k : Int) < 0 := by omega
  have hmin : min (7 * (k : Int)).toNat 64 = 7 * k := by omega
  have hb : IntKind.u64.bits = 64 := rfl
  by_cases h9 : k = 9 ∧ 1 < l[k].toNat
  · have e9 : ((k : Int) == 9) = true := by simp; omega
    have h9' : (l[k].toNat : Int) > 1 := by omega
    simp -implicitDefEqProofs [↓binS_and, ↓binS_or, h0, h1, h2, e9, rdU_a hl h9, bv_get hl, h9', uintV]
  have hpick : ((k : Int) == 9) = false ∨ ((k : Int) == 9) = true ∧ ¬ (l[k].toNat : Int) > 1 := by
    by_cases q : k = 9
    · exact .inr ⟨by simp [q], by omega⟩
    · exact .inl (by simp; omega)
  have hor := or_step x l[k].toNat k hx hc (by omega) (2 ^ (7 * k)) (by push_cast; rfl)
  have hwp : IntKind.i64.wrap ((k : Int) + 1) = (k : Int) + 1 := wrap64 (by omega)
  have h128 := and128 l[k].toNat hc
  by_cases hm : 128 ≤ l[k].toNat
  · rw [decide_eq_true hm] at h128
    have hfin : uInv l f ⟨tmL [(8, .s (.int .i64 ((k : Int) + 1)))], [.list 1 (bv l), .s (.int .u64 0), .s (.int .i64 0), .s (.int .i64 0), .s (.int .u64 ((x : Int) + (l[k].toNat : Int) % 128 * 2 ^ (7 * k))), .no, .no], [], 0⟩ :=
      ⟨k + 1, _, by omega, step_lt x _ k hx, by rw [hr, rdU_b hl h9 hm], by push_cast; rfl⟩
    rcases hpick with e9 | ⟨e9, e1⟩
    · simp -implicitDefEqProofs [↓binS_and, ↓binS_or, h0, h1, h2, e9, bv_get hl, hmul, hnn, hmin, hb, hor, h128, hwp]
      exact ⟨f, by omega, hfin⟩
    · simp -implicitDefEqProofs [↓binS_and, ↓binS_or, h0, h1, h2, e9, e1, bv_get hl, hmul, hnn, hmin, hb, hor, h128, hwp]
      exact ⟨f, by omega, hfin⟩
  rw [decide_eq_false hm] at h128
  by_cases hz : l[k].toNat = 0 ∧ 0 < k
  · have z1 : ((l[k].toNat : Int) == 0) = true := by simp [hz.1]
    have z2 : 0 < k := hz.2
    rcases hpick with e9 | ⟨e9, e1⟩
    · simp -implicitDefEqProofs [↓binS_and, ↓binS_or, h0, h1, h2, e9, bv_get hl, hmul, hnn, hmin, hb, hor, h128, z1, z2, rdU_c hl h9 hm hz, uintV]
    · simp -implicitDefEqProofs [↓binS_and, ↓binS_or, h0, h1, h2, e9, e1, bv_get hl, hmul, hnn, hmin, hb, hor, h128, z1, z2, rdU_c hl h9 hm hz, uintV]
  have hpick2 : ((l[k].toNat : Int) == 0) = false ∨ ((l[k].toNat : Int) == 0) = true ∧ ¬ 0 < k := by
    by_cases q : l[k].toNat = 0
    · exact .inr ⟨by simp [q], by omega⟩
    · exact .inl (by simp; omega)
  rcases hpick with e9 | ⟨e9, e1⟩
  · rcases hpick2 with z1 | ⟨z1, z2⟩
    · simp -implicitDefEqProofs [↓binS_and, ↓binS_or, h0, h1, h2, e9, bv_get hl, hmul, hnn, hmin, hb, hor, h128, z1, hwp, rdU_d hl h9 hm hz, uintV]
    · simp -implicitDefEqProofs [↓binS_and, ↓binS_or, h0, h1, h2, e9, bv_get hl, hmul, hnn, hmin, hb, hor, h128, z1, z2, hwp, rdU_d hl h9 hm hz, uintV]
  · rcases hpick2 with z1 | ⟨z1, z2⟩
    · simp -implicitDefEqProofs [↓binS_and, ↓binS_or, h0, h1, h2, e9, e1, bv_get hl, hmul, hnn, hmin, hb, hor, h128, z1, hwp, rdU_d hl h9 hm hz, uintV]
    · simp -implicitDefEqProofs [↓binS_and, ↓binS_or, h0, h1, h2, e9, e1, bv_get hl, hmul, hnn, hmin, hb, hor, h128, z1, z2, hwp, rdU_d hl h9 hm hz, uintV]
def ruInv (l : List UInt8) (m : Nat) (S : St) : Prop := ∃ k x, k + m = 10 ∧ x < 2 ^ (7 * k) ∧ rdUint l = rdU l m x k ∧
  S = ⟨tmL [], [.list 1 (bv l), .s (.int .u64 0), .s (.int .i64 0), .s (.int .i64 0), .s (.int .u64 x), .s (.int .i64 k), .no], [], 0⟩
theorem RUint_pc (l : List UInt8) : PC Try.prog 46 [.list 1 (bv l)] (fun r => r = uintV (rdUint l)) := by
  refine pc_end c46 mixed rfl ?_
  simp -implicitDefEqProofs [a46, F46]
  refine w_rounds [] [6] 0 (Nat.le_refl _) (ruInv l) 10 ⟨by simp, 0, 0, by simp, by simp, rfl, by simp⟩ ?_
  rintro m S ⟨k, x, hk, hx, hr, rfl⟩
  rw [hr]
  have h0 : ¬ (k : Int) < 0 := by omega
  by_cases h10 : k < 10
  case neg =>
    have h1 : ¬ (k : Int) < 10 := by omega
    have hm : m = 0 := by omega
    subst hm
    simp -implicitDefEqProofs [h1, rdU, uintV]
  have h1 : (k : Int) < 10 := by omega
  obtain ⟨f, rfl⟩ : ∃ f, m = f + 1 := ⟨m - 1, by omega⟩
  by_cases hl : k < l.length
  case neg =>
    have h2 : (k : Int) ≥ l.length := by omega
    simp -implicitDefEqProofs [h1, h2, rdU_end hl, uintV]
  have h2 : ¬ (k : Int) ≥ l.length := by omega
  have hc : l[k].toNat < 256 := l[k].toNat_lt
  have hmul : IntKind.i64.wrap (7 * (k : Int)) = 7 * (k : Int) := wrap64 (by omega)
  have hcv : IntKind.u64.wrap (7 * (k : Int)) = 7 * (k : Int) := by rw [IntKind.wrap_u64]; omega
  have hnn : ¬ 7 * (k : Int) < 0 := by omega
  have hmin : min (7 * (k : Int)).toNat 64 = 7 * k := by omega
  have hb : IntKind.u64.bits = 64 := rfl
  by_cases h9 : k = 9 ∧ 1 < l[k].toNat
  · have e9 : ((k : Int) == 9) = true := by simp; omega
    have h9' : (l[k].toNat : Int) > 1 := by omega
    simp -implicitDefEqProofs [h0, h1, h2, e9, rdU_a hl h9, bv_get hl, h9', uintV]
  have hpick : ((k : Int) == 9) = false ∨ ((k : Int) == 9) = true ∧ ¬ (l[k].toNat : Int) > 1 := by
    by_cases q : k = 9
    · exact .inr ⟨by simp [q], by omega⟩
    · exact .inl (by simp; omega)
  have hor := or_step x l[k].toNat k hx hc (by omega) (2 ^ (7 * k)) (by push_cast; rfl)
  have hwp : IntKind.i64.wrap ((k : Int) + 1) = (k : Int) + 1 := wrap64 (by omega)
  by_cases hm : 128 ≤ l[k].toNat
  · have h128 : ¬ (l[k].toNat : Int) < 128 := by omega
    have z1 : ((l[k].toNat : Int) == 0) = false := by simp; omega
    have hfin : ruInv l f ⟨tmL [], [.list 1 (bv l), .s (.int .u64 0), .s (.int .i64 0), .s (.int .i64 0), .s (.int .u64 ((x : Int) + (l[k].toNat : Int) % 128 * 2 ^ (7 * k))), .s (.int .i64 ((k : Int) + 1)), .no], [], 0⟩ :=
      ⟨k + 1, _, by omega, step_lt x _ k hx, by rw [hr, rdU_b hl h9 hm], by push_cast; rfl⟩
    rcases hpick with e9 | ⟨e9, e1⟩
    · simp -implicitDefEqProofs [↓binS_and, ↓binS_or, h0, h1, h2, e9, z1, bv_get hl, hmul, hcv, hnn, hmin, hb, hor, h128, hwp]
      exact ⟨f, by omega, hfin⟩
    · simp -implicitDefEqProofs [↓binS_and, ↓binS_or, h0, h1, h2, e9, e1, z1, bv_get hl, hmul, hcv, hnn, hmin, hb, hor, h128, hwp]
      exact ⟨f, by omega, hfin⟩
  have h128 : (l[k].toNat : Int) < 128 := by omega
  by_cases hz : l[k].toNat = 0 ∧ 0 < k
  · have z1 : ((l[k].toNat : Int) == 0) = true := by simp [hz.1]
    have z2 : 0 < k := hz.2
    rcases hpick with e9 | ⟨e9, e1⟩
    · simp -implicitDefEqProofs [h0, h1, h2, e9, bv_get hl, z1, z2, rdU_c hl h9 hm hz, uintV]
    · simp -implicitDefEqProofs [h0, h1, h2, e9, e1, bv_get hl, z1, z2, rdU_c hl h9 hm hz, uintV]
  have hpick2 : ((l[k].toNat : Int) == 0) = false ∨ ((l[k].toNat : Int) == 0) = true ∧ ¬ 0 < k := by
    by_cases q : l[k].toNat = 0
    · exact .inr ⟨by simp [q], by omega⟩
    · exact .inl (by simp; omega)
  rcases hpick with e9 | ⟨e9, e1⟩
  · rcases hpick2 with z1 | ⟨z1, z2⟩
    · simp -implicitDefEqProofs [↓binS_and, ↓binS_or, h0, h1, h2, e9, bv_get hl, hmul, hcv, hnn, hmin, hb, hor, h128, z1, hwp, rdU_d hl h9 hm hz, uintV]
    · simp -implicitDefEqProofs [↓binS_and, ↓binS_or, h0, h1, h2, e9, bv_get hl, hmul, hcv, hnn, hmin, hb, hor, h128, z1, z2, hwp, rdU_d hl h9 hm hz, uintV]
  · rcases hpick2 with z1 | ⟨z1, z2⟩
    · simp -implicitDefEqProofs [↓binS_and, ↓binS_or, h0, h1, h2, e9, e1, bv_get hl, hmul, hcv, hnn, hmin, hb, hor, h128, z1, hwp, rdU_d hl h9 hm hz, uintV]
    · simp -implicitDefEqProofs [↓binS_and, ↓binS_or, h0, h1, h2, e9, e1, bv_get hl, hmul, hcv, hnn, hmin, hb, hor, h128, z1, z2, hwp, rdU_d hl h9 hm hz, uintV]
end Go.Proofs.Ytjgcjahngmkfdaa

namespace Go.Proofs.Ytjgcjahngmkfdaa
open Go.RowKit Go.Proofs

section
variable {P : Program} {g : Gh} {w w0 : World}
/-- a row of scalars that a function made -/
theorem rep_row {B : Nat} {e : TypeId} {v : Value} {n : Nat} {vals : List Value} (h : w.ownsRow B e 1 v n vals) (h1 : ∀ u ∈ vals, u.oneCell' = true) : Rep g w (.own true e 1 (vals.map .s)) v ∧ ∀ k, rb v = some k → B ≤ k ∧ k < w.heap.size := by
  obtain ⟨hl, h⟩ := h
  rcases h with ⟨rfl, rfl⟩ | ⟨k, cap, cur, rfl, hb, hh, hc, hm, hs, ht⟩
  · have : vals = [] := List.length_eq_zero_iff.1 (by omega)
    subst this
    exact ⟨.own0, fun k hk => by simp [rb] at hk⟩
  · have hlt : k < w.heap.size := (Array.getElem?_eq_some_iff.1 hh).1
    refine ⟨?_, fun k' hk => ?_⟩
    · have hn : n = vals.length := by omega
      by_cases hcap : cap = 0
      · have : vals = [] := List.length_eq_zero_iff.1 (by omega)
        subst this
        subst hcap
        simp at hl
        subst hl
        exact .own0
      have hfl : flat (vals.map V.s) = vals.map V.s := by
        clear ht hl hn h1
        induction vals with
        | nil => rfl
        | cons a r ih => simp only [List.map_cons, flat, ih, cellsOf]; rfl
      have := Rep.own (g := g) (w := w) (e := e) (z := 1) (xs := vals.map V.s) (k := k) (cap := cap) (cur := cur) (fun j => vals[j]?.getD undef) (by omega) (by simp; omega) hm hh (by omega) (fun x hx => by obtain ⟨u, _, rfl⟩ := List.mem_map.1 hx; rfl)
        (fun u hu => by rw [hfl] at hu; obtain ⟨u, _, rfl⟩ := List.mem_map.1 hu; rfl)
        (fun j hj => by
          rw [hfl] at hj
          simp only [List.length_map] at hj
          have : (cur.toList.take (n * 1))[j]? = vals[j]? := by rw [ht]
          rw [List.getElem?_take, if_pos (by omega), Array.getElem?_toList] at this
          rw [this, List.getElem?_eq_getElem hj]; rfl)
        (fun j u hu => by
          rw [hfl, List.getElem?_map] at hu
          obtain ⟨c, hc', rfl⟩ := Option.map_eq_some_iff.1 hu
          rw [hc']
          exact .s (h1 c (List.mem_of_getElem? hc')))
      simp only [List.length_map] at this
      rw [hn]
      exact this
    · simp only [rb] at hk
      split at hk
      · cases hk
      · cases hk; exact ⟨hb, hlt⟩
theorem bd_row {e z : Nat} {xs : List V} {v : Value} (hr : Rep g w (.own true e z xs) v) (hI : ∀ k, rb v = some k → g.I k = 0 ∧ k < w.heap.size) (hlt : ∀ k, 0 < g.I k → k < w.heap.size) : Bd g w [.own true e z xs] #[v] [] := by
  have hat : ∀ l x, (Stn [V.own true e z xs] []).at l = some x → l = .var 0 ∧ x = .own true e z xs := by
    intro l x hx
    cases l with
    | var i =>
      cases i with
      | zero => simp [Stn, St.at] at hx; exact ⟨rfl, hx.symm⟩
      | succ i => simp [Stn, St.at] at hx
    | cell b o => simp [Stn, St.at] at hx
  have hval : valAt (Frn 1) g w ⟨#[v], []⟩ (.var 0) = some v := by simp [valAt, Frn, Act.tv]
  have hsub : ∀ {p x}, (V.own true e z xs).sub p = some x → p = [] ∧ x = .own true e z xs := by
    intro p x hs
    cases p <;> simp [V.sub] at hs
    exact ⟨rfl, hs.symm⟩
  have hno : ∀ {t p x}, ((Stn [V.own true e z xs] []).tm t).sub p = some x → x = .no := by
    intro t p x hs
    cases p <;> simp [Stn, V.sub] at hs
    exact hs.symm
  have hown : ∀ r p k, Own (Frn 1) g w (Stn [V.own true e z xs] []) ⟨#[v], []⟩ r p k → r = .l (.var 0) ∧ p = [] ∧ rb v = some k := by
    intro r p k ⟨x, u, hh, ho⟩
    cases r with
    | t t =>
      obtain ⟨rfl, rfl⟩ := hh
      rcases ho with ⟨_, _, _, _, q, _⟩ | ⟨_, q, _⟩
      · cases hno q
      · simp [Stn, lentNow] at q
    | l l =>
      obtain ⟨rfl, rfl⟩ := hat l x hh.1
      have hu := hh.2
      rw [hval] at hu
      cases hu
      rcases ho with ⟨e', z', xs', u', q1, q2, q3⟩ | ⟨_, q, _⟩
      · obtain ⟨rfl, _⟩ := hsub q1
        simp [vsub] at q2
        subst q2
        exact ⟨rfl, rfl, q3⟩
      · simp [lentNow] at q
  show Rel (Frn 1) g w (Stn [V.own true e z xs] []) ⟨#[v], []⟩
  refine ⟨rfl, rfl, ?_, ?_, ?_, ?_, ?_, ?_, ?_, ?_, ?_, ?_, ?_, hlt, ?_, ?_, ?_, ?_⟩
  · intro r x u hh
    cases r with
    | t t => obtain ⟨rfl, rfl⟩ := hh; exact .no
    | l l =>
      obtain ⟨rfl, rfl⟩ := hat l x hh.1
      have hu := hh.2
      rw [hval] at hu
      cases hu
      exact hr
  · intro l x hx
    obtain ⟨rfl, rfl⟩ := hat l x hx
    exact ⟨v, hval, fun ⟨b, o, q⟩ => by cases q⟩
  · intro l d e' z' xs' u hx _
    obtain ⟨_, q⟩ := hat l _ hx
    cases q
  · intro b cs hb; simp [Stn] at hb
  · intro b b' hb; simp [Stn] at hb
  · intro r x u p b o hh hs
    cases r with
    | t t => obtain ⟨rfl, rfl⟩ := hh; cases hno hs
    | l l =>
      obtain ⟨rfl, rfl⟩ := hat l x hh.1
      cases (hsub hs).2
  · intro r p k ho
    obtain ⟨_, _, q⟩ := hown r p k ho
    exact ⟨(hI k q).1, (hI k q).2, fun b hb => by simp [Stn] at hb⟩
  · intro r p r' p' k h1 h2
    obtain ⟨rfl, rfl, _⟩ := hown r p k h1
    obtain ⟨rfl, rfl, _⟩ := hown r' p' k h2
    exact ⟨rfl, rfl⟩
  · intro t p x u hx hu
    cases hno hx
    trivial
  · intro l x hx p
    obtain ⟨rfl, rfl⟩ := hat l x hx
    refine ⟨?_, ?_, ?_, ?_⟩ <;> intros <;> intro hs <;> cases (hsub hs).2
  · intro t p d e0 e' z' xs' hs
    cases hno hs
  · intro t _; rfl
  · intro t p x hx
    cases hno hx
    exact Nat.zero_le _
  · intro l x hx
    obtain ⟨rfl, rfl⟩ := hat l x hx
    exact Nat.zero_le _
  · intro l d e' z' xs' u k hx
    obtain ⟨_, q⟩ := hat l _ hx
    cases q
/-- a walk by hand that makes a row of scalars is a contract -/
theorem pc_row {f : FuncId} {args : List V} {e : TypeId} {vals : List Value} (h1 : ∀ u ∈ vals, u.oneCell' = true) (him : ∀ x ∈ args, immA x = true)
    (hw : ∀ (g : Gh) (w : World) (vs : Array Value), args.length = vs.size → (∀ (i : Nat) (x : V) (v : Value), args[i]? = some x → vs[i]? = some v → Rep g w x v) → (∀ k, 0 < g.I k → k < w.heap.size) →
      Calls P f vs w fun e' w' => ∃ v, e' = .returned v ∧ w'.ownsRow w.heap.size e 1 v vals.length vals ∧ Below w.heap.size w w') : PC P f args (fun r => r = .own true e 1 (vals.map .s)) := by
  intro g w vs hb
  have hl : args.length = vs.size := by have := hb.sz; simp [Frn] at this; exact this.symm
  have hrep : ∀ (i : Nat) (x : V) (v : Value), args[i]? = some x → vs[i]? = some v → Rep g w x v := by
    intro i x v hx hv
    refine hb.rep (.l (.var i)) x v ⟨hx, ?_⟩
    have hi := (List.getElem?_eq_some_iff.1 hx).1
    have hi' : i < vs.size := by omega
    rw [Array.getElem?_eq_getElem hi'] at hv
    cases hv
    simp [valAt, Frn, Act.tv, hi, hl ▸ hi]
  refine (hw g w vs hl hrep hb.Ilt).mono ?_
  rintro e' w' ⟨v, rfl, ho, hbel⟩
  obtain ⟨hr, hk⟩ := rep_row (g := g) ho h1
  have hI0 : ∀ k, w.heap.size ≤ k → g.I k = 0 := fun k hk => by
    by_cases q : g.I k = 0
    · exact q
    · have := hb.Ilt k (by omega); omega
  have hnone : ∀ k, ¬ OwnB g w args vs [] k := (bd_imm hl him hrep hb.Ilt).2
  refine ⟨v, _, [], g, rfl, ⟨rfl, rfl⟩, rfl, bd_row hr (fun k q => ⟨hI0 k (hk k q).1, (hk k q).2⟩) (fun k q => Nat.lt_of_lt_of_le (hb.Ilt k q) hbel.size), ⟨hbel.os, hbel.tape, hbel.output, hbel.size, fun k hk' _ => ⟨hbel.block k hk', rfl⟩, fun k ho' => .inr ?_, fun b hb' => by simp at hb'⟩⟩
  rcases ho' with ⟨r, p, ho'⟩ | ⟨b, hb', _⟩
  · obtain ⟨x, u, hh, ho'⟩ := ho'
    cases r with
    | t t =>
      obtain ⟨rfl, rfl⟩ := hh
      rcases ho' with ⟨_, _, _, _, q, _⟩ | ⟨_, q, _⟩
      · cases p <;> simp [Stn, V.sub] at q
      · simp [Stn, lentNow] at q
    | l l =>
      cases l with
      | var i =>
        cases i with
        | zero =>
          have h0 : (Stn [V.own true e 1 (vals.map .s)] []).at (.var 0) = some x := hh.1
          simp [Stn, St.at] at h0
          subst h0
          have hu : u = v := by
            have := hh.2
            simp [valAt, Frn, Act.tv] at this
            exact this.symm
          subst hu
          rcases ho' with ⟨e', z', xs', u', q1, q2, q3⟩ | ⟨_, q, _⟩
          · cases p with
            | nil => simp [vsub] at q2; subst q2; exact (hk k q3).1
            | cons i p => simp [V.sub] at q1
          · simp [lentNow] at q
        | succ i => have h0 := hh.1; simp [Stn, St.at] at h0
      | cell b o => have h0 := hh.1; simp [Stn, St.at] at h0
  · simp [Stn] at hb'
end
theorem byteV_ofNat (y : Nat) (hy : y < 256) : byteV (UInt8.ofNat y) = .int .u8 y := by
  unfold byteV
  rw [UInt8.toNat_ofNat_of_lt' (by simpa using hy)]
theorem more_byte (y : Nat) (hy : y < 18446744073709551616) : Value.int IntKind.u8 (bits .or .u8 (bits .and .u64 (y : Int) 127 % 256) 128) = byteV (UInt8.ofNat (y % 128 + 128)) := by
  rw [and127u y hy, byteV_ofNat _ (by omega)]
  rw [show (((y % 128 : Nat) : Int) % 256) = ((y % 128 : Nat) : Int) by omega, or128u _ (by omega)]
/-- one more round of PutUint -/
theorem put_round {w1 : World} {B : Nat} {v' : Value} {n y f x : Nat} {l pre : List UInt8} (hy : y < 18446744073709551616) (hyf : y < 128 ^ f) (hf : pre.length + f = 10) (hp : pre ++ putU f y = putUint x) (hlt : 127 < y)
    (G : Gr w1 B 5 1 v' (n + pre.length + 1) (bytesV (l ++ pre) ++ [Value.int IntKind.u8 (bits .or .u8 (bits .and .u64 (y : Int) 127 % 256) 128)])) :
    ∃ (f' : Nat) (pre' : List UInt8), y / 128 < 18446744073709551616 ∧ (y / 128 < 128 ^ f' ∧ 0 < f') ∧ pre'.length + f' = 10 ∧ pre' ++ putU f' (y / 128) = putUint x ∧ Gr w1 B 5 1 v' (n + pre'.length) (bytesV (l ++ pre')) := by
  cases f with
  | zero => simp at hyf; omega
  | succ f =>
    refine ⟨f, pre ++ [UInt8.ofNat (y % 128 + 128)], by omega, ?_, by simp; omega, ?_, ?_⟩
    · refine ⟨?_, ?_⟩
      · rw [Nat.pow_succ] at hyf
        exact Nat.div_lt_of_lt_mul (by rw [Nat.mul_comm]; exact hyf)
      · cases f with
        | zero => simp at hyf; omega
        | succ f => omega
    · rw [← hp, putU_more hlt]
      simp
    · rw [more_byte y hy, bytesV_snoc] at G
      simpa [Nat.add_assoc] using G
theorem put_last {w1 : World} {B : Nat} {v' : Value} {n y f x : Nat} {l pre : List UInt8} (hf : 0 < f) (hp : pre ++ putU f y = putUint x) (hlt : ¬ 127 < y)
    (G : w1.ownsRow B 5 1 v' (n + pre.length + 1) (bytesV (l ++ pre) ++ [Value.int IntKind.u8 y])) :
    w1.ownsRow B 5 1 v' (n + (putUint x).length) (bytesV (l ++ putUint x)) := by
  cases f with
  | zero => omega
  | succ f =>
    rw [putU_last hlt] at hp
    rw [← hp]
    rw [← byteV_ofNat y (by omega), bytesV_snoc] at G
    simpa [Nat.add_assoc] using G

theorem infoB : (Try.prog.info? 5).map (fun i => (i.zero, i.size, i.bytes)) = some (some (.int .u8 0), 1, 1) := by kernel_rfl
set_option maxRecDepth 100000 in
set_option maxHeartbeats 400000 in
theorem put_any (A : Option Addr) (n c : Nat) (l : List UInt8) (x : Nat) (w : World) (hA : A = none → c = 0) (hn : l.length = n) (hnc : n ≤ c) (hm : n ≤ 140737488351232) (hx : x < 18446744073709551616) (hat : At w A (bytesV l)) :
    Calls Try.prog 39 #[.slice A n c, .int .u64 x] w fun e w' => ∃ v, e = .returned v ∧ w'.ownsRow w.heap.size 5 1 v (n + (putUint x).length) (bytesV (l ++ putUint x)) ∧ Below w.heap.size w w' := by
  obtain ⟨i0, hi, hz0, hz1, hz2⟩ := info_parts infoB
  have H := Lib.hid hat
  have HA := Lib.hid hA
  have HN := Lib.hid hn
  clear hat hA hn
  go_enter Try.func39, Try.ntmps39
  go_wp2
  go_loopw [1, 5] (fun v r wr => ∃ (y f : Nat) (pre : List UInt8), v = .int .u64 y ∧ y < 18446744073709551616 ∧ (y < 128 ^ f ∧ 0 < f) ∧ pre.length + f = 10 ∧ pre ++ putU f y = putUint x ∧ Gr wr w.heap.size 5 1 r (n + pre.length) (bytesV (l ++ pre)) ∧ Below w.heap.size w wr) (fun v _ _ => (intOf v).toNat)
  case atStart => exact ⟨x, 10, [], rfl, hx, ⟨by omega, by omega⟩, rfl, rfl, by simpa using Gr.clip (fun h => by have := HA.out h; omega) (by simpa [bytesV] using HN.out) H.out, Below.refl _ _⟩
  case round =>
    obtain ⟨y, f, pre, rfl, hy, hyf, hf, hp, hG, hb⟩ := hrel
    have HF := Lib.hid hf
    have HP := Lib.hid hp
    have HYF := Lib.hid hyf
    have HG := Lib.hid hG
    have HB := Lib.hid hb
    clear hf hp hyf hG hb
    have hpl : pre.length ≤ 10 := by have := HF.out; omega
    have hsz : w.heap.size ≤ wr.heap.size := HB.out.size
    by_cases hlt : 127 < y
    · have H127 := Lib.hid (and127u y hy)
      have H128 := Lib.hid (or128u (y % 128) (by omega))
      go_wp2_with (at_builtin; go_must (refine wpList_app _ rfl (.tmp 14) (.tmp 19) 25 rfl w.heap.size 5 i0 _ 1 1 Try.underlying25 hi hz0 hz1 hz2 rfl (by decide) (by decide) _ (n + pre.length) (bytesV (l ++ pre)) rfl (HG.out.alloc _) (some ⟨wr.heap.size, 0, none⟩) 1 1 [_] rfl rfl (At.new wr [_] 5) (by simp [Value.oneCell']) (by unfold maxLen; omega) (by omega) (by simp; omega) ?_); intro v' w1 h2 h3 h4 h5 h6; have G2 := Lib.hid h2; clear h2 h3 h4 h5; have G6 := Lib.hid h6; clear h6)
      go_roundw
      case rel =>
        obtain ⟨f', pre', a1, a2, a3, a4, a5⟩ := put_round hy HYF.out.1 HF.out HP.out hlt G2.out
        exact ⟨y / 128, f', pre', by simp, a1, a2, a3, a4, a5, (HB.out.alloc hsz _).trans G6.out⟩
      case measure => simp [intOf]; omega
    · go_wp2_with (at_builtin; go_must (refine wpList_app _ rfl (.tmp 23) (.tmp 26) 25 rfl w.heap.size 5 i0 _ 1 1 Try.underlying25 hi hz0 hz1 hz2 rfl (by decide) (by decide) _ (n + pre.length) (bytesV (l ++ pre)) rfl (HG.out.alloc _) (some ⟨wr.heap.size, 0, none⟩) 1 1 [_] rfl rfl (At.new wr [_] 5) (by simp [Value.oneCell']) (by unfold maxLen; omega) (by omega) (by simp; omega) ?_); intro v' w1 h2 h3 h4 h5 h6; have G3 := Lib.hid (h3 (by decide)); clear h2 h3 h4 h5; have G6 := Lib.hid h6; clear h6)
      go_ret
      exact ⟨v', rfl, put_last HYF.out.2 HP.out hlt G3.out, (HB.out.alloc hsz _).trans G6.out⟩

end Go.Proofs.Ytjgcjahngmkfdaa

namespace Go.Proofs.Ytjgcjahngmkfdaa
open Go.RowKit Go.Proofs

theorem bv_append (a b : List UInt8) : bv (a ++ b) = bv a ++ bv b := by simp [bv]
theorem bytesV_map (l : List UInt8) : (bytesV l).map V.s = bv l := by simp [bytesV, bv, byteV]
theorem at_list {g : Gh} {w : World} {l : List UInt8} {v : Value} (h : Rep g w (.list 1 (bv l)) v) (hI : ∀ k, 0 < g.I k → k < w.heap.size) : ∃ A c, v = .slice A l.length c ∧ (A = none → c = 0) ∧ l.length ≤ c ∧ At w A (bytesV l) := by
  cases h with
  | list vals hc hm hA hz hi hcell hrep =>
    rename_i A c
    have hfl : flat (bv l) = bv l := by
      clear hc hm hA hz hi hcell hrep
      induction l with
      | nil => rfl
      | cons a r ih => show cellsOf _ ++ flat (bv r) = _; rw [ih]; rfl
    rw [hfl] at hcell hrep
    refine ⟨A, c, by simp, hA, by simpa using hc, fun j u hu => ?_⟩
    have hj : j < l.length := by have := (List.getElem?_eq_some_iff.1 hu).1; simpa [bytesV_length] using this
    obtain ⟨b, q, rfl, h2, h3⟩ := hcell j (by simpa using hj)
    have h4 := hrep j _ (bv_get hj)
    rw [bytesV_get l j hj] at hu
    cases hu
    have h5 : vals j = .int .u8 l[j].toNat := by
      generalize vals j = y at h4
      cases h4
      rfl
    rw [h5] at h3
    exact ⟨b, q, rfl, hI b (by omega), h3⟩
theorem PutUint_pc (l : List UInt8) (x : Nat) (hx : x < 18446744073709551616) (hl : l.length ≤ 1000000) : PC Try.prog 39 [.list 1 (bv l), .s (.int .u64 x)] (fun r => r = .own true 5 1 (bv (l ++ putUint x))) := by
  rw [← bytesV_map (l ++ putUint x)]
  refine pc_row (args := [.list 1 (bv l), .s (.int .u64 x)]) (bytesV_one _) (fun y hy => by simp at hy; rcases hy with rfl | rfl <;> rfl) fun g w vs hn hrep hI => ?_
  have h2 : vs.size = 2 := by simpa using hn.symm
  obtain ⟨a, b, rfl⟩ : ∃ a b, vs = #[a, b] := by
    obtain ⟨ll⟩ := vs
    match ll, h2 with
    | [a, b], _ => exact ⟨a, b, rfl⟩
  obtain ⟨A, c, rfl, hA, hc, hat⟩ := at_list (hrep 0 _ _ rfl rfl) hI
  have hb := hrep 1 _ _ rfl rfl
  cases hb
  have hp : (bytesV (l ++ putUint x)).length = l.length + (putUint x).length := by rw [bytesV_length, List.length_append]
  rw [hp]
  exact put_any A l.length c l x w hA rfl hc (by omega) hx hat
def puInv (l : List UInt8) (x m : Nat) (S : St) : Prop := ∃ y f pre, m = y ∧ y < 18446744073709551616 ∧ (y < 128 ^ f ∧ 0 < f) ∧ pre.length + f = 10 ∧ pre ++ putU f y = putUint x ∧
  S = ⟨tmL [], [.list 1 (bv l), .s (.int .u64 y), .s (.slice none 0 0), .own true 5 1 (bv (l ++ pre))], [], 0⟩
theorem and127w (y : Nat) (hy : y < 18446744073709551616) : IntKind.u8.wrap (bits .and .u64 (y : Int) 127) = ((y % 128 : Nat) : Int) := by rw [and127u y hy, IntKind.wrap_u8']; omega
theorem or128w (y : Nat) : bits .or .u8 ((y : Int) % 128) 128 = ((y % 128 + 128 : Nat) : Int) := or128u (y % 128) (by omega)
theorem fdiv128 (y : Nat) : (y : Int).fdiv 128 = ((y / 128 : Nat) : Int) := by rw [Int.fdiv_eq_ediv_of_nonneg _ (by omega)]; rfl
theorem bv_byte (y : Nat) (h : y < 256) : [V.s (.int .u8 (y : Int))] = bv [UInt8.ofNat y] := by simp [bv, toNat_ofNat y h]
theorem RPutUint_pc (l : List UInt8) (x : Nat) (hx : x < 18446744073709551616) (hl : l.length ≤ 1000000) : PC Try.prog 41 [.list 1 (bv l), .s (.int .u64 x)] (fun r => r = .own true 5 1 (bv (l ++ putUint x))) := by
  refine pc_end c41 mixed rfl ?_
  have hlen : l.length ≤ maxLen ∧ l.length ≤ maxBytes := by simp [maxLen, maxBytes]; omega
  simp -implicitDefEqProofs [a41, F41, hlen]
  refine w_rounds [] [] 0 (Nat.le_refl _) (puInv l x) x ⟨by simp, x, 10, [], rfl, hx, ⟨by omega, by omega⟩, rfl, rfl, by simp⟩ ?_
  rintro m S ⟨_, f, pre, rfl, hy, hf, hp, hpu, rfl⟩
  obtain ⟨f, rfl⟩ : ∃ f', f = f' + 1 := ⟨f - 1, by omega⟩
  have h1 : l.length + pre.length + 1 ≤ maxLen ∧ l.length + pre.length + 1 ≤ maxBytes := by simp [maxLen, maxBytes]; omega
  have hb : IntKind.u64.bits = 64 := rfl
  by_cases hlt : 127 < m
  · have h2 : (m : Int) ≥ 128 := by omega
    have h2' : 128 ≤ m := by omega
    have e1 := and127w m hy
    have e2 := or128w m
    have e3 := fdiv128 m
    simp -implicitDefEqProofs [↓binS_and, ↓binS_or, h2, h2', e1, e2, e3, h1, hb]
    refine ⟨m / 128, by omega, m / 128, f, pre ++ [UInt8.ofNat (m % 128 + 128)], rfl, by omega, ⟨?_, ?_⟩, by simp; omega, ?_, ?_⟩
    · have := hf.1
      rw [Nat.pow_succ] at this
      exact Nat.div_lt_of_lt_mul (by rw [Nat.mul_comm]; exact this)
    · cases f with
      | zero => have := hf.1; simp at this; omega
      | succ f => omega
    · rw [← hpu, putU_more hlt]
      simp
    · rw [← List.append_assoc, bv_append (l ++ pre), ← bv_byte _ (by omega)]
      rfl
  · have h2 : ¬ (m : Int) ≥ 128 := by omega
    simp -implicitDefEqProofs [h2, h1, hb]
    rw [← hpu, putU_last hlt, ← List.append_assoc, bv_append (l ++ pre), ← bv_byte _ (by omega), IntKind.wrap_u8', Int.emod_eq_of_lt (by omega) (by omega)]
/-- checksums -/
def ckT (s i : Nat) (l : List UInt8) : Prop := s < 4294967296 ∧ crcL l 4294967295 = crcL (l.drop i) s
def ckInv (l : List UInt8) (m : Nat) (S : St) : Prop := ∃ i s, i + m = l.length ∧ ckT s i l ∧
  S = ⟨tmL [(7, .list 1 (bv l)), (8, .s (.int .i64 l.length)), (9, .s (.int .i64 i))], [.list 1 (bv l), .s (.int .u32 0), .s (.int .u32 s), .no, .no], [], 0⟩
def ckIn (l : List UInt8) (i : Nat) (c : V) (t m : Nat) (S : St) : Prop := ∃ k s, k + m = 8 ∧ s < 4294967296 ∧ crcN m s = t ∧
  S = ⟨tmL [(7, .list 1 (bv l)), (8, .s (.int .i64 l.length)), (9, .s (.int .i64 i)), (17, .s (.int .i64 k))], [.list 1 (bv l), .s (.int .u32 0), .s (.int .u32 s), c, .no], [], 0⟩
theorem Checksum_pc (l : List UInt8) (hl : l.length ≤ 1000000) : PC Try.prog 51 [.list 1 (bv l)] (fun r => r = .s (.int .u32 (crc l))) := by
  refine pc_end c51 mixed rfl ?_
  simp -implicitDefEqProofs [a51, F51]
  refine w_rounds [7, 8, 9] [3, 4] 0 (Nat.le_refl _) (ckInv l) l.length ⟨by simp, 0, 4294967295, by simp, ⟨by omega, rfl⟩, by simp⟩ ?_
  rintro m S ⟨i, s, hi, ⟨hs, hc⟩, rfl⟩
  have h0 : ¬ (i : Int) < 0 := by omega
  by_cases hm : i < l.length
  case neg =>
    have h1 : ¬ (i : Int) < l.length := by omega
    have hx := xor32 s 4294967295 hs (by omega)
    rw [List.drop_of_length_le (by omega)] at hc
    simp -implicitDefEqProofs [↓binS_xor, h1]
    rw [show (4294967295 : Int) = ((4294967295 : Nat) : Int) from rfl, hx, crc, hc]
    rfl
  have h1 : (i : Int) < l.length := by omega
  have hcb : l[i].toNat < 256 := l[i].toNat_lt
  have hw : IntKind.u32.wrap (l[i].toNat : Int) = l[i].toNat := wrap32u _ (by omega)
  have hx := xor32 s l[i].toNat hs (by omega)
  simp -implicitDefEqProofs [↓binS_xor, h0, h1, bv_get hm, hw, hx]
  refine w_rounds [7, 8, 9, 17] [4] 0 (Nat.le_refl _) (ckIn l i (.s (.int .u8 l[i].toNat)) (crcB s l[i])) 8 ⟨by simp, 0, s ^^^ l[i].toNat, rfl, xor_lt _ _ hs (by omega), rfl, rfl⟩ ?_
  rintro j S ⟨k, u, hk, hu, ht, rfl⟩
  by_cases hk8 : k < 8
  case neg =>
    have h8 : ¬ (k : Int) < 8 := by omega
    have hj : j = 0 := by omega
    subst hj
    simp -implicitDefEqProofs [h8]
    refine ⟨m - 1, by omega, i + 1, u, by omega, ⟨hu, ?_⟩, ?_⟩
    · rw [hc, crcL_drop l i s hm, ← ht]; rfl
    · rw [wrap64 (by omega)]; rfl
  have h8 : (k : Int) < 8 := by omega
  obtain ⟨j, rfl⟩ : ∃ j', j = j' + 1 := ⟨j - 1, by omega⟩
  have ha := and1 u hu
  have hsh : (u : Int).fdiv 2 = ((u / 2 : Nat) : Int) := by rw [Int.fdiv_eq_ediv_of_nonneg _ (by omega)]; rfl
  have hwu : IntKind.u32.wrap ((u / 2 : Nat) : Int) = ((u / 2 : Nat) : Int) := wrap32u _ (by omega)
  have hb : IntKind.u32.bits = 32 := rfl
  have hx2 := xor32 (u / 2) 3988292384 (by omega) (by omega)
  by_cases ho : u % 2 = 1
  · rw [ho] at ha
    simp -implicitDefEqProofs [↓binS_and, ↓binS_xor, h8, ha, hb, hsh]
    refine ⟨j, by omega, k + 1, u / 2 ^^^ 3988292384, by omega, xor_lt _ _ (by omega) (by omega), ?_, ?_⟩
    · rw [← ht, crcN, crcStep_odd u ho]
    · rw [wrap64 (by omega), show ((u : Int) / 2) = ((u / 2 : Nat) : Int) from rfl, show (3988292384 : Int) = ((3988292384 : Nat) : Int) from rfl, hx2]; rfl
  · rw [show u % 2 = 0 by omega] at ha
    simp -implicitDefEqProofs [↓binS_and, h8, ha, hb, hsh]
    refine ⟨j, by omega, k + 1, u / 2, by omega, by omega, ?_, ?_⟩
    · rw [← ht, crcN, crcStep_even u ho]
    · rw [wrap64 (by omega)]; rfl
def rkInv (l : List UInt8) (m : Nat) (S : St) : Prop := ∃ i s, i + m = l.length ∧ ckT s i l ∧
  S = ⟨tmL [], [.list 1 (bv l), .s (.int .u32 0), .s (.int .u32 s), .s (.int .i64 i), .no], [], 0⟩
def rkIn (l : List UInt8) (i t m : Nat) (S : St) : Prop := ∃ k s, k + m = 8 ∧ s < 4294967296 ∧ crcN m s = t ∧
  S = ⟨tmL [], [.list 1 (bv l), .s (.int .u32 0), .s (.int .u32 s), .s (.int .i64 i), .s (.int .i64 k)], [], 0⟩
theorem unxor (s : Nat) (hs : s < 4294967296) : unS .xor (.int .u32 (s : Int)) = some (.int .u32 ((s ^^^ 4294967295 : Nat) : Int)) := by
  have h1 := xor32 s 4294967295 hs (by omega)
  have h2 : bits .xor .u32 (s : Int) ((4294967295 : Nat) : Int) = IntKind.u32.wrap (BitVec.ofInt 32 (s : Int) ^^^ BitVec.ofInt 32 4294967295).toNat := rfl
  rw [← h1, h2, BitVec.xor_comm]
  rfl
theorem RChecksum_pc (l : List UInt8) (hl : l.length ≤ 1000000) : PC Try.prog 52 [.list 1 (bv l)] (fun r => r = .s (.int .u32 (crc l))) := by
  refine pc_end c52 mixed rfl ?_
  simp -implicitDefEqProofs [a52, F52]
  refine w_rounds [] [4] 0 (Nat.le_refl _) (rkInv l) l.length ⟨by simp, 0, 4294967295, by simp, ⟨by omega, rfl⟩, by simp⟩ ?_
  rintro m S ⟨i, s, hi, ⟨hs, hc⟩, rfl⟩
  have h0 : ¬ (i : Int) < 0 := by omega
  by_cases hm : i < l.length
  case neg =>
    have h1 : ¬ (i : Int) < l.length := by omega
    have hx := unxor s hs
    rw [List.drop_of_length_le (by omega)] at hc
    simp -implicitDefEqProofs [h1, ↓hx]
    rw [crc, hc]
    rfl
  have h1 : (i : Int) < l.length := by omega
  have hcb : l[i].toNat < 256 := l[i].toNat_lt
  have hw : IntKind.u32.wrap (l[i].toNat : Int) = l[i].toNat := wrap32u _ (by omega)
  have hx := xor32 s l[i].toNat hs (by omega)
  simp -implicitDefEqProofs [↓binS_xor, h0, h1, bv_get hm, hw, hx]
  refine w_rounds [] [] 0 (Nat.le_refl _) (rkIn l i (crcB s l[i])) 8 ⟨by simp, 0, s ^^^ l[i].toNat, rfl, xor_lt _ _ hs (by omega), rfl, rfl⟩ ?_
  rintro j S ⟨k, u, hk, hu, ht, rfl⟩
  by_cases hk8 : k < 8
  case neg =>
    have h8 : ¬ (k : Int) < 8 := by omega
    have hj : j = 0 := by omega
    subst hj
    simp -implicitDefEqProofs [h8]
    refine ⟨m - 1, by omega, i + 1, u, by omega, ⟨hu, ?_⟩, ?_⟩
    · rw [hc, crcL_drop l i s hm, ← ht]; rfl
    · rw [wrap64 (by omega)]; rfl
  have h8 : (k : Int) < 8 := by omega
  obtain ⟨j, rfl⟩ : ∃ j', j = j' + 1 := ⟨j - 1, by omega⟩
  have ha := and1 u hu
  have hsh : (u : Int).fdiv 2 = ((u / 2 : Nat) : Int) := by rw [Int.fdiv_eq_ediv_of_nonneg _ (by omega)]; rfl
  have hwu : IntKind.u32.wrap ((u / 2 : Nat) : Int) = ((u / 2 : Nat) : Int) := wrap32u _ (by omega)
  have hb : IntKind.u32.bits = 32 := rfl
  have hx2 := xor32 (u / 2) 3988292384 (by omega) (by omega)
  by_cases ho : u % 2 = 1
  · rw [ho] at ha
    simp -implicitDefEqProofs [↓binS_and, ↓binS_xor, h8, ha, hb, hsh]
    refine ⟨j, by omega, k + 1, u / 2 ^^^ 3988292384, by omega, xor_lt _ _ (by omega) (by omega), ?_, ?_⟩
    · rw [← ht, crcN, crcStep_odd u ho]
    · rw [wrap64 (by omega), show ((u : Int) / 2) = ((u / 2 : Nat) : Int) from rfl, show (3988292384 : Int) = ((3988292384 : Nat) : Int) from rfl, hx2]; rfl
  · rw [show u % 2 = 0 by omega] at ha
    simp -implicitDefEqProofs [↓binS_and, h8, ha, hb, hsh]
    refine ⟨j, by omega, k + 1, u / 2, by omega, by omega, ?_, ?_⟩
    · rw [← ht, crcN, crcStep_even u ho]
    · rw [wrap64 (by omega)]; rfl
end Go.Proofs.Ytjgcjahngmkfdaa

namespace Go.Proofs.Ytjgcjahngmkfdaa
open Go.RowKit Go.Proofs

theorem PutUint_nil (x : Nat) (hx : x < 18446744073709551616) : PC Try.prog 39 [.s (.slice none 0 0), .s (.int .u64 x)] (fun r => r = .own true 5 1 (bv (putUint x))) := by
  refine pc_nil (ys := [.list 1 (bv []), .s (.int .u64 x)]) ?_ (by simp [bv]) (by simp)
  exact PutUint_pc [] x hx (by simp)
theorem RPutUint_nil (x : Nat) (hx : x < 18446744073709551616) : PC Try.prog 41 [.s (.slice none 0 0), .s (.int .u64 x)] (fun r => r = .own true 5 1 (bv (putUint x))) := by
  refine pc_nil (ys := [.list 1 (bv []), .s (.int .u64 x)]) ?_ (by simp [bv]) (by simp)
  exact RPutUint_pc [] x hx (by simp)
theorem fdivN (x n : Nat) : (x : Int).fdiv (n : Int) = ((x / n : Nat) : Int) := by rw [Int.fdiv_eq_ediv_of_nonneg _ (by omega)]; rfl
theorem bv_sumB (x : Nat) : bv (sumB x) = [.s (.int .u8 (IntKind.u8.wrap ((x / 16777216 : Nat) : Int))), .s (.int .u8 (IntKind.u8.wrap ((x / 65536 : Nat) : Int))), .s (.int .u8 (IntKind.u8.wrap ((x / 256 : Nat) : Int))), .s (.int .u8 (IntKind.u8.wrap (x : Int)))] := by
  simp only [bv, sumB, List.map_cons, List.map_nil, IntKind.wrap_u8']
  rw [toNat_ofNat _ (by omega), toNat_ofNat _ (by omega), toNat_ofNat _ (by omega), toNat_ofNat _ (by omega)]
  simp
def frameV (l : List UInt8) : V := if 4096 < l.length then .tup [.s (.slice none 0 0), .s (.int .i64 3)] else .tup [.own true 5 1 (bv (frame l)), .s (.int .i64 0)]
theorem putU_len : ∀ (f x : Nat), (putU f x).length ≤ f
  | 0, _ => by simp [putU]
  | f + 1, x => by
    rw [putU]
    split
    · simp; exact putU_len f _
    · simp
theorem putUint_len (x : Nat) : (putUint x).length ≤ 10 := putU_len 10 x
theorem Frame_pc (l : List UInt8) (hl : l.length ≤ 1000000) : PC Try.prog 40 [.list 1 (bv l)] (fun r => r = frameV l) := by
  refine pc_end c40 mixed rfl ?_
  by_cases h1 : 4096 < l.length
  · have h1' : (l.length : Int) > 4096 := by omega
    simp -implicitDefEqProofs [a40, F40, h1', frameV, h1]
  have h1' : ¬ (l.length : Int) > 4096 := by omega
  have hw : IntKind.u64.wrap (l.length : Int) = (l.length : Int) := by rw [IntKind.wrap_u64]; omega
  simp -implicitDefEqProofs [a40, F40, h1']
  refine wk_take ?_
  simp -implicitDefEqProofs
  refine wc_of (Checksum_pc l hl) (by simp) (by simp) ?_
  rintro _ rfl
  simp -implicitDefEqProofs [hw]
  refine wk_take ?_
  simp -implicitDefEqProofs
  refine wc_of (PutUint_nil l.length (by omega)) (by simp) (by simp) ?_
  rintro _ rfl
  have h2 := putUint_len l.length
  have h3 : (putUint l.length).length + l.length ≤ maxLen ∧ (putUint l.length).length + l.length ≤ maxBytes := by simp [maxLen, maxBytes]; omega
  have h4 : (putUint l.length).length + l.length + 4 ≤ maxLen ∧ (putUint l.length).length + l.length + 4 ≤ maxBytes := by simp [maxLen, maxBytes]; omega
  have hb : IntKind.u32.bits = 32 := rfl
  have f1 := fdivN (crc l) 16777216
  have f2 := fdivN (crc l) 65536
  have f3 := fdivN (crc l) 256
  simp at f1 f2 f3
  simp -implicitDefEqProofs [h3, h4, hb, f1, f2, f3, frameV, h1, frame, bv_append, bv_sumB]
theorem RFrame_pc (l : List UInt8) (hl : l.length ≤ 1000000) : PC Try.prog 42 [.list 1 (bv l)] (fun r => r = frameV l) := by
  refine pc_end c42 mixed rfl ?_
  by_cases h1 : 4096 < l.length
  · have h1' : (l.length : Int) > 4096 := by omega
    simp -implicitDefEqProofs [a42, F42, h1', frameV, h1]
  have h1' : ¬ (l.length : Int) > 4096 := by omega
  have hw : IntKind.u64.wrap (l.length : Int) = (l.length : Int) := by rw [IntKind.wrap_u64]; omega
  simp -implicitDefEqProofs [a42, F42, h1', hw]
  refine wk_take ?_
  simp -implicitDefEqProofs
  refine wc_of (RPutUint_nil l.length (by omega)) (by simp) (by simp) ?_
  rintro _ rfl
  have h2 := putUint_len l.length
  have h3 : (putUint l.length).length + l.length ≤ maxLen ∧ (putUint l.length).length + l.length ≤ maxBytes := by simp [maxLen, maxBytes]; omega
  have h4 : (putUint l.length).length + l.length + 4 ≤ maxLen ∧ (putUint l.length).length + l.length + 4 ≤ maxBytes := by simp [maxLen, maxBytes]; omega
  simp -implicitDefEqProofs [h3]
  refine wk_take ?_
  simp -implicitDefEqProofs
  refine wc_of (RChecksum_pc l hl) (by simp) (by simp) ?_
  rintro _ rfl
  have hb : IntKind.u32.bits = 32 := rfl
  have f1 := fdivN (crc l) 16777216
  have f2 := fdivN (crc l) 65536
  have f3 := fdivN (crc l) 256
  simp at f1 f2 f3
  simp -implicitDefEqProofs [h3, h4, hb, f1, f2, f3, frameV, h1, frame, bv_append, bv_sumB]
end Go.Proofs.Ytjgcjahngmkfdaa

namespace Go.Proofs.Ytjgcjahngmkfdaa
open Go.RowKit Go.Proofs

/-- what Unframe returns -/
def ufV (r : List UInt8 × Nat × Nat) : V := .tup [if r.2.2 = 0 then .own true 5 1 (bv r.1) else .s (.slice none 0 0), .s (.int .i64 r.2.1), .s (.int .i64 r.2.2)]
theorem bv_take (l : List UInt8) (n : Nat) : (bv l).take n = bv (l.take n) := by simp [bv]
theorem bv_drop (l : List UInt8) (n : Nat) : (bv l).drop n = bv (l.drop n) := by simp [bv]
def ufInv (l L : List UInt8) (v k : Nat) (m : Nat) (S : St) : Prop := ∃ i, i + m = 4 ∧
  S = ⟨tmL [(42, .list 1 (bv L)), (43, .s (.int .i64 4)), (44, .s (.int .i64 i))], [.list 1 (bv l), .s (.slice none 0 0), .s (.int .i64 0), .s (.int .i64 0), .s (.int .u64 v), .s (.int .i64 k), .s (.int .i64 0), .no, .no, .no, .s (.int .i64 ((k + v : Nat) : Int)), .s (.int .u32 (be (L.take i))), .no], [], 0⟩
theorem neq_nat (a b : Nat) : (((a : Int) != (b : Int)) = decide (a ≠ b)) := by
  by_cases h : a = b
  · subst h; simp
  · simp [h, bne]; omega
set_option maxRecDepth 10000 in
theorem Unframe_pc (l : List UInt8) (hl : l.length ≤ 1000000) : PC Try.prog 43 [.list 1 (bv l)] (fun r => r = ufV (rdFrame l)) := by
  refine pc_end c43 mixed rfl ?_
  simp -implicitDefEqProofs [a43, F43]
  refine wk_take ?_
  simp -implicitDefEqProofs
  refine wc_of (Uint_pc l) (by simp) (by simp) ?_
  rintro _ rfl
  rcases hr : rdUint l with ⟨v, k, e⟩
  rcases rdUint_cases hr with ⟨rfl, hv, hk0, hkl, hk10⟩ | ⟨rfl, rfl, he⟩
  case inr =>
    have he0 : e ≠ 0 := by omega
    have hn : ((e : Int) != 0) = true := by simp; omega
    rw [rdFrame_e hr he0]
    simp -implicitDefEqProofs [uintV, hn, ufV, he0]
  by_cases h1 : 4096 < v
  · have h1' : (v : Int) > 4096 := by omega
    rw [rdFrame_long hr h1]
    simp -implicitDefEqProofs [uintV, h1', ufV]
  have h1' : ¬ (v : Int) > 4096 := by omega
  have w1 : IntKind.i64.wrap ((l.length : Int) - k) = (l.length : Int) - k := wrap64 (by omega)
  have w2 : IntKind.i64.wrap (v : Int) = v := wrap64 (by omega)
  have w3 : IntKind.i64.wrap ((v : Int) + 4) = (v : Int) + 4 := wrap64 (by omega)
  by_cases h2 : l.length - k < v + 4
  · have h2' : (l.length : Int) - k < (v : Int) + 4 := by omega
    rw [rdFrame_short hr h1 h2]
    simp -implicitDefEqProofs [uintV, h1', w1, w2, w3, h2', ufV]
  have h2' : ¬ (l.length : Int) - k < (v : Int) + 4 := by omega
  have w4 : IntKind.i64.wrap ((k : Int) + v) = (k : Int) + v := wrap64 (by omega)
  have w5 : IntKind.i64.wrap ((k : Int) + v + 4) = (k : Int) + v + 4 := wrap64 (by omega)
  have n1 : ¬ (k : Int) + v < 0 := by omega
  have n2 : ¬ (k : Int) + v + 4 < 0 := by omega
  have t1 : ((k : Int) + v).toNat = k + v := by omega
  have t2 : ((k : Int) + v + 4).toNat = k + v + 4 := by omega
  have n3 : k + v ≤ k + v + 4 ∧ k + v + 4 ≤ l.length := by omega
  have n4 : k + v + 4 - (k + v) = 4 := by omega
  have n5 : min 4 (l.length - (k + v)) = 4 := by omega
  simp -implicitDefEqProofs [uintV, h1', w1, w2, w3, w4, w5, h2', n1, n2, t1, t2, n3, n4, n5, bv_drop, bv_take]
  obtain ⟨L, hL⟩ : ∃ L, L = (l.drop (k + v)).take 4 := ⟨_, rfl⟩
  have hlen : L.length = 4 := by rw [hL]; simp; omega
  rw [← hL]
  refine w_rounds [42, 43, 44] [7, 8, 9, 12] 0 (Nat.le_refl _) (ufInv l L v k) 4 ⟨by simp, 0, rfl, by simp [be]⟩ ?_
  rintro m S ⟨i, hi, rfl⟩
  by_cases hi4 : i < 4
  · have i1 : (i : Int) < 4 := by omega
    have i0 : ¬ (i : Int) < 0 := by omega
    have hil : i < L.length := by omega
    have hg := bv_get hil
    have hb4 : be (L.take i) < 16777216 := by
      have := be_lt (L.take i)
      have h3 : (L.take i).length ≤ 3 := by simp; omega
      have := Nat.pow_le_pow_right (n := 256) (by omega) h3
      omega
    have hc8 : L[i].toNat < 256 := L[i].toNat_lt
    have hor := or8 _ _ hb4 hc8
    have hsn : be (L.take (i + 1)) = be (L.take i) * 256 + L[i].toNat := by
      rw [List.take_add_one, List.getElem?_eq_getElem hil]
      exact be_snoc _ _
    have hw1 : IntKind.u32.wrap ((be (L.take i) : Int) * 256) = (be (L.take i) : Int) * 256 := by rw [IntKind.wrap_u32']; omega
    have hw2 : IntKind.u32.wrap (L[i].toNat : Int) = L[i].toNat := wrap32u _ (by omega)
    have hb : IntKind.u32.bits = 32 := rfl
    simp -implicitDefEqProofs [↓binS_or, i0, i1, hg, hw1, hw2, hb, hor]
    refine ⟨m - 1, by omega, i + 1, by omega, ?_⟩
    rw [wrap64 (by omega), hsn]
    push_cast
    rfl
  have i1 : ¬ (i : Int) < 4 := by omega
  have hi : i = 4 := by omega
  subst hi
  have hcl : ((l.drop k).take v).length ≤ 1000000 := by simp; omega
  have k0 : ¬ (k : Int) < 0 := by omega
  have k1 : k ≤ k + v ∧ k + v ≤ l.length := by omega
  have k2 : k + v - k = v := by omega
  have hbe : be (L.take 4) = be L := by rw [List.take_of_length_le (by omega)]
  simp -implicitDefEqProofs [n1, t1, k0, k1, k2, bv_drop, bv_take, hbe]
  refine wk_take ?_
  simp -implicitDefEqProofs
  refine wc_of (Checksum_pc _ hcl) (by simp) (by simp) ?_
  rintro _ rfl
  by_cases hck : be L = crc ((l.drop k).take v)
  · have hn : (((be L : Int) != (crc ((l.drop k).take v) : Int))) = false := by rw [neq_nat]; simp [hck]
    have hm : min v (l.length - k) = v := by omega
    have hml : v ≤ maxLen ∧ v ≤ maxBytes := by simp [maxLen, maxBytes]; omega
    rw [rdFrame_ok hr h1 h2 (by rw [← hL]; exact hck)]
    simp -implicitDefEqProofs [hn, n1, t1, k0, k1, k2, bv_drop, bv_take, hm, hml, w5, ufV]
  · have hn : (((be L : Int) != (crc ((l.drop k).take v) : Int))) = true := by rw [neq_nat]; simp [hck]
    rw [rdFrame_sum hr h1 h2 (by rw [← hL]; exact hck)]
    simp -implicitDefEqProofs [hn, ufV]
set_option maxRecDepth 10000 in
theorem RUnframe_pc (l : List UInt8) (hl : l.length ≤ 1000000) : PC Try.prog 45 [.list 1 (bv l)] (fun r => r = ufV (rdFrame l)) := by
  refine pc_end c45 mixed rfl ?_
  simp -implicitDefEqProofs [a45, F45]
  refine wk_take ?_
  simp -implicitDefEqProofs
  refine wc_of (RUint_pc l) (by simp) (by simp) ?_
  rintro _ rfl
  rcases hr : rdUint l with ⟨v, k, e⟩
  rcases rdUint_cases hr with ⟨rfl, hv, hk0, hkl, hk10⟩ | ⟨rfl, rfl, he⟩
  case inr =>
    have he0 : e ≠ 0 := by omega
    have hn : ((e : Int) != 0) = true := by simp; omega
    rw [rdFrame_e hr he0]
    simp -implicitDefEqProofs [uintV, hn, ufV, he0]
  by_cases h1 : 4096 < v
  · have h1' : (v : Int) > 4096 := by omega
    rw [rdFrame_long hr h1]
    simp -implicitDefEqProofs [uintV, h1', ufV]
  have h1' : ¬ (v : Int) > 4096 := by omega
  have w1 : IntKind.i64.wrap ((l.length : Int) - k) = (l.length : Int) - k := wrap64 (by omega)
  have w2 : IntKind.i64.wrap (v : Int) = v := wrap64 (by omega)
  have w3 : IntKind.i64.wrap ((v : Int) + 4) = (v : Int) + 4 := wrap64 (by omega)
  by_cases h2 : l.length - k < v + 4
  · have h2' : (l.length : Int) - k < (v : Int) + 4 := by omega
    rw [rdFrame_short hr h1 h2]
    simp -implicitDefEqProofs [uintV, h1', w1, w2, w3, h2', ufV]
  have h2' : ¬ (l.length : Int) - k < (v : Int) + 4 := by omega
  have w4 : IntKind.i64.wrap ((k : Int) + v) = (k : Int) + v := wrap64 (by omega)
  have w5 : IntKind.i64.wrap ((k : Int) + v + 4) = (k : Int) + v + 4 := wrap64 (by omega)
  have n1 : ¬ (k : Int) + v < 0 := by omega
  have t1 : ((k : Int) + v).toNat = k + v := by omega
  have k0 : ¬ (k : Int) < 0 := by omega
  have k1 : k ≤ k + v ∧ k + v ≤ l.length := by omega
  have k2 : k + v - k = v := by omega
  have k3 : k + v ≤ l.length := by omega
  have hm : min v (l.length - k) = v := by omega
  have hml : v ≤ maxLen ∧ v ≤ maxBytes := by simp [maxLen, maxBytes]; omega
  have hcl : ((l.drop k).take v).length ≤ 1000000 := by simp; omega
  have htk : (l.drop (k + v)).take (l.length - (k + v)) = l.drop (k + v) := List.take_of_length_le (by simp)
  simp -implicitDefEqProofs [uintV, h1', w1, w2, w3, w4, h2', n1, t1, k0, k1, k2, k3, bv_drop, bv_take, hm, hml, htk]
  refine wkd_bor ?_
  simp -implicitDefEqProofs
  refine wbd_of (RChecksum_pc _ hcl) (by simp) (by simp) ?_
  obtain ⟨L, hL⟩ : ∃ L, L = l.drop (k + v) := ⟨_, rfl⟩
  have hlen : 4 ≤ L.length := by rw [hL]; simp; omega
  rw [← hL]
  obtain ⟨a0, a1, a2, a3, ⟨c0, c1, c2, c3⟩, ⟨g0, g1, g2, g3⟩, hbe⟩ : ∃ a0 a1 a2 a3 : Nat, (a0 < 256 ∧ a1 < 256 ∧ a2 < 256 ∧ a3 < 256) ∧ ((bv L)[0]? = some (.s (.int .u8 (a0 : Int))) ∧ (bv L)[1]? = some (.s (.int .u8 (a1 : Int))) ∧ (bv L)[2]? = some (.s (.int .u8 (a2 : Int))) ∧ (bv L)[3]? = some (.s (.int .u8 (a3 : Int)))) ∧
      be ((l.drop (k + v)).take 4) = ((a0 * 256 + a1) * 256 + a2) * 256 + a3 := by
    refine ⟨(L[0]'(by omega)).toNat, (L[1]'(by omega)).toNat, (L[2]'(by omega)).toNat, (L[3]'(by omega)).toNat, ⟨UInt8.toNat_lt _, UInt8.toNat_lt _, UInt8.toNat_lt _, UInt8.toNat_lt _⟩, ⟨bv_get (by omega), bv_get (by omega), bv_get (by omega), bv_get (by omega)⟩, ?_⟩
    rw [← hL]
    have htake : L.take 4 = [L[0]'(by omega), L[1]'(by omega), L[2]'(by omega), L[3]'(by omega)] := by
      match L, hlen with
      | a :: b :: c :: d :: r, _ => rfl
    rw [htake, be4]
  have x0 : IntKind.u32.wrap (a0 : Int) = a0 := wrap32u _ (by omega)
  have x1 : IntKind.u32.wrap (a1 : Int) = a1 := wrap32u _ (by omega)
  have x2 : IntKind.u32.wrap (a2 : Int) = a2 := wrap32u _ (by omega)
  have x3 : IntKind.u32.wrap (a3 : Int) = a3 := wrap32u _ (by omega)
  have y0 : IntKind.u32.wrap ((a0 : Int) * 16777216) = (a0 : Int) * 16777216 := by rw [IntKind.wrap_u32']; omega
  have y1 : IntKind.u32.wrap ((a1 : Int) * 65536) = (a1 : Int) * 65536 := by rw [IntKind.wrap_u32']; omega
  have y2 : IntKind.u32.wrap ((a2 : Int) * 256) = (a2 : Int) * 256 := by rw [IntKind.wrap_u32']; omega
  have hb : IntKind.u32.bits = 32 := rfl
  have hor := or4 _ _ _ _ c0 c1 c2 c3
  by_cases hck : be ((l.drop (k + v)).take 4) = crc ((l.drop k).take v)
  · rw [rdFrame_ok hr h1 h2 hck]
    rw [hbe] at hck
    have hn : ((crc ((l.drop k).take v) : Int) != (((a0 : Int) * 256 + a1) * 256 + a2) * 256 + a3) = false := by
      rw [bne_eq_false_iff_eq]; omega
    simp -implicitDefEqProofs [↓binS_or, g0, g1, g2, g3, x0, x1, x2, x3, y0, y1, y2, hb, hor, hn, w2, w4, w5, ufV]
  · rw [rdFrame_sum hr h1 h2 hck]
    rw [hbe] at hck
    have hn : ((crc ((l.drop k).take v) : Int) != (((a0 : Int) * 256 + a1) * 256 + a2) * 256 + a3) = true := by
      rw [bne_iff_ne]
      intro q
      exact hck (by omega)
    simp -implicitDefEqProofs [↓binS_or, g0, g1, g2, g3, x0, x1, x2, x3, y0, y1, y2, hb, hor, hn, ufV]
end Go.Proofs.Ytjgcjahngmkfdaa
