/- stable: bytes as trees; small functions. -/
import Derived.Test.YtbjgnoegblejhaaL0
set_option linter.unusedVariables false
set_option linter.unusedSimpArgs false
namespace Go.Proofs.Ytbjgnoegblejhaa
open Go.RowKit Go.Proofs

/-- bytes as trees -/
def bv (l : List UInt8) : List V := l.map fun b => .s (.int .u8 b.toNat)
@[simp] theorem bv_length (l : List UInt8) : (bv l).length = l.length := by simp -implicitDefEqProofs [bv]
@[simp] theorem bytesOf_bv (l : List UInt8) : bytesOf (bv l) = some l := by
  induction l with
  | nil => rfl
  | cons b r ih =>
    have h1 : (b.toNat : Int) < 256 := by have := b.toNat_lt; omega
    show bytesOf (V.s (.int .u8 b.toNat) :: bv r) = _
    simp -implicitDefEqProofs [bytesOf, ih, byteOf, h1]
@[simp] theorem bytesOf_nil : bytesOf [] = some [] := rfl
theorem toList_mk (l : List UInt8) : (ByteArray.mk l.toArray).toList = l := by rw [ByteArray.toList_eq]
theorem clone_pc (xs : List V) (h : xs.length ≤ 1000000) : PC Try.prog 22 [.list 1 xs] (fun r => r = .own true 5 1 xs) := by
  refine pc_end c22 mixed rfl ?_
  have h1 : xs.length ≤ maxLen ∧ xs.length ≤ maxBytes := by simp -implicitDefEqProofs [maxLen, maxBytes]; omega
  simp -implicitDefEqProofs [a22, F22, h1]
theorem wrap64 {n : Int} (h : -9223372036854775808 ≤ n ∧ n < 9223372036854775808) : IntKind.i64.wrap n = n := by rw [IntKind.wrap_i64]; omega
end Go.Proofs.Ytbjgnoegblejhaa
