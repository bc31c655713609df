/- Plain facts about the checksum: the loop over bits, in natural numbers. -/
import Derived.WalkKit
namespace Go.Proofs.Ytehnbfokjkpgkaa

def crcStep (s : Nat) : Nat := if s % 2 = 1 then s / 2 ^^^ 3988292384 else s / 2
def crcN : Nat → Nat → Nat
  | 0, s => s
  | n + 1, s => crcN n (crcStep s)
def crcB (s : Nat) (b : UInt8) : Nat := crcN 8 (s ^^^ b.toNat)
def crcL (l : List UInt8) (s : Nat) : Nat := l.foldl crcB s
def crc (l : List UInt8) : Nat := crcL l 4294967295 ^^^ 4294967295

theorem crcStep_lt (s : Nat) (h : s < 4294967296) : crcStep s < 4294967296 := by
  unfold crcStep
  split
  · exact Nat.xor_lt_two_pow (n := 32) (by omega) (by omega)
  · omega
theorem xor_lt (a b : Nat) (ha : a < 4294967296) (hb : b < 4294967296) : a ^^^ b < 4294967296 := Nat.xor_lt_two_pow (n := 32) ha hb
theorem crcN_lt : ∀ (n s : Nat), s < 4294967296 → crcN n s < 4294967296
  | 0, _, h => h
  | n + 1, s, h => crcN_lt n _ (crcStep_lt s h)
theorem crcB_lt (s : Nat) (b : UInt8) (h : s < 4294967296) : crcB s b < 4294967296 :=
  crcN_lt 8 _ (xor_lt _ _ h (by have := b.toNat_lt; omega))
theorem crcL_lt : ∀ (l : List UInt8) (s : Nat), s < 4294967296 → crcL l s < 4294967296
  | [], _, h => h
  | b :: l, s, h => crcL_lt l _ (crcB_lt s b h)
theorem crcL_drop (l : List UInt8) (k s : Nat) (h : k < l.length) : crcL (l.drop k) s = crcL (l.drop (k + 1)) (crcB s l[k]) := by
  rw [List.drop_eq_getElem_cons h]
  rfl
theorem crcStep_odd (s : Nat) (h : s % 2 = 1) : crcStep s = s / 2 ^^^ 3988292384 := by rw [crcStep, if_pos h]
theorem crcStep_even (s : Nat) (h : ¬ s % 2 = 1) : crcStep s = s / 2 := by rw [crcStep, if_neg h]

theorem and1 (s : Nat) (hs : s < 4294967296) : bits .and .u32 (s : Int) 1 = ((s % 2 : Nat) : Int) := by
  have := u32_and_nat s 1 hs (by omega)
  rw [show ((1 : Nat) : Int) = 1 from rfl] at this
  rw [this, Nat.and_one_is_mod]
theorem xor32 (s t : Nat) (hs : s < 4294967296) (ht : t < 4294967296) : bits .xor .u32 (s : Int) (t : Int) = ((s ^^^ t : Nat) : Int) := u32_xor_nat s t hs ht
theorem wrap32u (c : Nat) (h : c < 4294967296) : IntKind.u32.wrap (c : Int) = c := by rw [IntKind.wrap_u32']; omega
end Go.Proofs.Ytehnbfokjkpgkaa
