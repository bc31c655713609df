/- Plain facts about frames. -/
import Derived.Test.YtehnbfokjkpgkaaPlain1
import Derived.Test.YtehnbfokjkpgkaaPlain2
import Derived.Test.YtehnbfokjkpgkaaMem
namespace Go.Proofs.Ytehnbfokjkpgkaa

def sumB (x : Nat) : List UInt8 := [UInt8.ofNat (x / 16777216 % 256), UInt8.ofNat (x / 65536 % 256), UInt8.ofNat (x / 256 % 256), UInt8.ofNat (x % 256)]
def be (t : List UInt8) : Nat := t.foldl (fun s b => s * 256 + b.toNat) 0

theorem be_snoc (t : List UInt8) (b : UInt8) : be (t ++ [b]) = be t * 256 + b.toNat := by simp [be]
theorem be_lt (t : List UInt8) : be t < 256 ^ t.length := by
  suffices h : ∀ (t : List UInt8) (s n : Nat), s < 256 ^ n → t.foldl (fun s b => s * 256 + b.toNat) s < 256 ^ (n + t.length) by
    have := h t 0 0 (by simp)
    simpa [be] using this
  intro t
  induction t with
  | nil => intro s n h; simpa using h
  | cons b t ih =>
    intro s n h
    have hb := b.toNat_lt
    have := ih (s * 256 + b.toNat) (n + 1) (by rw [Nat.pow_succ]; omega)
    simp only [List.foldl_cons, List.length_cons]
    rw [show n + (t.length + 1) = n + 1 + t.length by omega]
    exact this
theorem crc_lt (l : List UInt8) : crc l < 4294967296 := xor_lt _ _ (crcL_lt l _ (by omega)) (by omega)

/-- reading a frame -/
def rdFrame (l : List UInt8) : List UInt8 × Nat × Nat :=
  if (rdUint l).2.2 ≠ 0 then ([], 0, (rdUint l).2.2)
  else if 4096 < (rdUint l).1 then ([], 0, 3)
  else if l.length - (rdUint l).2.1 < (rdUint l).1 + 4 then ([], 0, 5)
  else if be ((l.drop ((rdUint l).2.1 + (rdUint l).1)).take 4) ≠ crc ((l.drop (rdUint l).2.1).take (rdUint l).1) then ([], 0, 7)
  else ((l.drop (rdUint l).2.1).take (rdUint l).1, (rdUint l).2.1 + (rdUint l).1 + 4, 0)
theorem rdFrame_e {l : List UInt8} {v k e : Nat} (h : rdUint l = (v, k, e)) (he : e ≠ 0) : rdFrame l = ([], 0, e) := by
  unfold rdFrame; rw [h]; rw [if_pos he]
theorem rdFrame_long {l : List UInt8} {v k : Nat} (h : rdUint l = (v, k, 0)) (hv : 4096 < v) : rdFrame l = ([], 0, 3) := by
  unfold rdFrame; rw [h]; rw [if_neg (by simp), if_pos hv]
theorem rdFrame_short {l : List UInt8} {v k : Nat} (h : rdUint l = (v, k, 0)) (hv : ¬ 4096 < v) (hs : l.length - k < v + 4) : rdFrame l = ([], 0, 5) := by
  unfold rdFrame; rw [h]; rw [if_neg (by simp), if_neg hv, if_pos hs]
theorem rdFrame_sum {l : List UInt8} {v k : Nat} (h : rdUint l = (v, k, 0)) (hv : ¬ 4096 < v) (hs : ¬ l.length - k < v + 4) (hc : be ((l.drop (k + v)).take 4) ≠ crc ((l.drop k).take v)) : rdFrame l = ([], 0, 7) := by
  unfold rdFrame; rw [h]; rw [if_neg (by simp), if_neg hv, if_neg hs, if_pos hc]
theorem rdFrame_ok {l : List UInt8} {v k : Nat} (h : rdUint l = (v, k, 0)) (hv : ¬ 4096 < v) (hs : ¬ l.length - k < v + 4) (hc : be ((l.drop (k + v)).take 4) = crc ((l.drop k).take v)) : rdFrame l = ((l.drop k).take v, k + v + 4, 0) := by
  unfold rdFrame; rw [h]; rw [if_neg (by simp), if_neg hv, if_neg hs, if_neg (by simpa using hc)]

theorem or8 (s c : Nat) (hs : s < 16777216) (hc : c < 256) : bits .or .u32 ((s : Int) * 256) (c : Int) = ((s * 256 + c : Nat) : Int) := by
  rw [show ((s : Int) * 256) = ((s * 256 : Nat) : Int) by omega]
  rw [u32_or_nat _ _ (by omega) (by omega)]
  congr 1
  rw [show s * 256 = 2 ^ 8 * s by omega, ← Nat.two_pow_add_eq_or_of_lt (by omega)]
theorem or4 (a b c d : Nat) (ha : a < 256) (hb : b < 256) (hc : c < 256) (hd : d < 256) :
    bits .or .u32 (bits .or .u32 (bits .or .u32 ((a : Int) * 16777216) ((b : Int) * 65536)) ((c : Int) * 256)) (d : Int) = ((((a * 256 + b) * 256 + c) * 256 + d : Nat) : Int) := by
  rw [show ((a : Int) * 16777216) = ((a * 16777216 : Nat) : Int) by omega, show ((b : Int) * 65536) = ((b * 65536 : Nat) : Int) by omega, show ((c : Int) * 256) = ((c * 256 : Nat) : Int) by omega]
  have e1 : a * 16777216 ||| b * 65536 = a * 16777216 + b * 65536 := by
    rw [show a * 16777216 = 2 ^ 24 * a by omega, ← Nat.two_pow_add_eq_or_of_lt (by omega)]
  have e2 : (a * 16777216 + b * 65536) ||| c * 256 = a * 16777216 + b * 65536 + c * 256 := by
    rw [show a * 16777216 + b * 65536 = 2 ^ 16 * (a * 256 + b) by omega, ← Nat.two_pow_add_eq_or_of_lt (by omega)]
  have e3 : (a * 16777216 + b * 65536 + c * 256) ||| d = a * 16777216 + b * 65536 + c * 256 + d := by
    rw [show a * 16777216 + b * 65536 + c * 256 = 2 ^ 8 * ((a * 256 + b) * 256 + c) by omega, ← Nat.two_pow_add_eq_or_of_lt (by omega)]
  rw [u32_or_nat _ _ (by omega) (by omega), e1, u32_or_nat _ _ (by omega) (by omega), e2, u32_or_nat _ _ (by omega) (by omega), e3]
  omega
theorem be4 (a b c d : UInt8) : be [a, b, c, d] = ((a.toNat * 256 + b.toNat) * 256 + c.toNat) * 256 + d.toNat := by simp [be]
end Go.Proofs.Ytehnbfokjkpgkaa
