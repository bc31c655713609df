/- link: bodies, copies, valid links. -/
import Derived.Test.YtjgcjahngmkfdaaZL
set_option linter.unusedVariables false
set_option linter.unusedSimpArgs false
namespace Go.Proofs.Ytjgcjahngmkfdaa
open Go.RowKit Go.Proofs

theorem New_pc : PC Try.prog 19 [] (fun r => r = .agg [.s (.int .i64 1), .s (.slice none 0 0), .s (.int .i64 0)]) := by
  refine pc_end c19 mixed rfl ?_
  simp -implicitDefEqProofs [a19, F19, List.range, List.range.loop]
/-- bytes as trees -/
def bv (l : List UInt8) : List V := l.map fun b => .s (.int .u8 b.toNat)
@[simp] theorem bv_length (l : List UInt8) : (bv l).length = l.length := by simp -implicitDefEqProofs [bv]
@[simp] theorem bytesOf_bv (l : List UInt8) : bytesOf (bv l) = some l := by
  induction l with
  | nil => rfl
  | cons b r ih =>
    have h1 : (b.toNat : Int) < 256 := by have := b.toNat_lt; omega
    show bytesOf (V.s (.int .u8 b.toNat) :: bv r) = _
    simp -implicitDefEqProofs [bytesOf, ih, byteOf, h1]
theorem toList_mk (l : List UInt8) : (ByteArray.mk l.toArray).toList = l := by rw [ByteArray.toList_eq]
def isBody (xs : List UInt8) : Bool := decide (1 ≤ xs.length ∧ xs.length ≤ 4064)
theorem isBody_pc (xs : List UInt8) : PC Try.prog 31 [.list 1 (bv xs)] (fun r => r = .s (.bool (isBody xs))) := by
  refine pc_end c31 mixed rfl ?_
  by_cases h : 1 ≤ (xs.length : Int)
  · have h' : 1 ≤ xs.length := by omega
    simp -implicitDefEqProofs [a31, F31, h, h', isBody]
    omega
  · have h' : ¬ 1 ≤ xs.length := by omega
    simp -implicitDefEqProofs [a31, F31, h, h', isBody]
theorem clone_pc (xs : List V) (h : xs.length ≤ 1000000) : PC Try.prog 33 [.list 1 xs] (fun r => r = .own true 5 1 xs) := by
  refine pc_end c33 mixed rfl ?_
  have h1 : xs.length ≤ maxLen ∧ xs.length ≤ maxBytes := by simp -implicitDefEqProofs [maxLen, maxBytes]; omega
  simp -implicitDefEqProofs [a33, F33, h1]
def cl (xs : List (List UInt8)) : List V := xs.map fun b => V.list 1 (bv b)
@[simp] theorem cl_length (xs : List (List UInt8)) : (cl xs).length = xs.length := by simp -implicitDefEqProofs [cl]
@[simp] theorem cl_nil : cl [] = [] := rfl
theorem cl_get {xs : List (List UInt8)} {i : Nat} (h : i < xs.length) : (cl xs)[i]? = some (V.list 1 (bv xs[i])) := by simp -implicitDefEqProofs [cl, h]
theorem cl_take {xs : List (List UInt8)} {i : Nat} (h : i < xs.length) : cl (xs.take i) ++ [V.list 1 (bv xs[i])] = cl (xs.take (i + 1)) := by
  rw [cl, cl, List.take_add_one, List.getElem?_eq_getElem h, List.map_append]; rfl
theorem wrap64 {n : Int} (h : -9223372036854775808 ≤ n ∧ n < 9223372036854775808) : IntKind.i64.wrap n = n := by rw [IntKind.wrap_i64]; omega
def clInv (xs : List (List UInt8)) (m : Nat) (S : St) : Prop := ∃ i, i + m = xs.length ∧ S = ⟨tmL [(6, .list 1 (cl xs)), (7, .s (.int .i64 xs.length)), (8, .s (.int .i64 i))], [.list 1 (cl xs), .s (.slice none 0 0), .own true 25 1 (cl (xs.take i)), .no], [], 0⟩
theorem clones_pc (xs : List (List UInt8)) (h : xs.length ≤ 1000000) (hx : ∀ x ∈ xs, x.length ≤ 1000000) : PC Try.prog 32 [.list 1 (cl xs)] (fun r => r = .own true 25 1 (cl xs)) := by
  refine pc_end c32 mixed rfl ?_
  simp -implicitDefEqProofs [a32, F32]
  refine w_rounds [6, 7, 8] [3] 0 (Nat.le_refl _) (clInv xs) xs.length ⟨by simp, 0, by simp, by simp⟩ ?_
  rintro m S ⟨i, hi, rfl⟩
  have h0 : ¬ (i : Int) < 0 := by omega
  by_cases hm : i < xs.length
  · have h1 : (i : Int) < xs.length := by omega
    simp -implicitDefEqProofs [h1, h0, cl_get hm]
    refine wk_take ?_
    simp -implicitDefEqProofs
    refine wc_of (clone_pc (bv xs[i]) (by simpa using hx _ (List.getElem_mem hm))) (by simp -implicitDefEqProofs) (by simp -implicitDefEqProofs) ?_
    rintro _ rfl
    have hlen : min i xs.length = i := by omega
    have h3 : i + 1 ≤ maxLen ∧ (i + 1) * 24 ≤ maxBytes := by simp -implicitDefEqProofs [maxLen, maxBytes]; omega
    simp -implicitDefEqProofs [hlen, h3, cl_take hm]
    exact ⟨m - 1, by omega, i + 1, by omega, by rw [wrap64 (by omega)]; rfl⟩
  · have h1 : ¬ (i : Int) < xs.length := by omega
    have h2 : i = xs.length := by omega
    simp -implicitDefEqProofs [h2]
structure Lnk where
  first : Int
  out : List (List UInt8)
  got : Int
def Lnk.v (l : Lnk) : V := .agg [.s (.int .i64 l.first), .list 1 (cl l.out), .s (.int .i64 l.got)]
def Lnk.valid (l : Lnk) : Bool := decide (1 ≤ l.first ∧ l.first ≤ 1073741824 ∧ (l.out.length : Int) ≤ 1073741824 - l.first) && (l.out.all isBody && decide (0 ≤ l.got ∧ l.got ≤ 1073741824))
def vInv (l : Lnk) (m : Nat) (S : St) : Prop := ∃ i, i + m = l.out.length ∧ (l.out.take i).all isBody = true ∧ S = ⟨tmL [(1, .ptr 0 0), (23, .list 1 (cl l.out)), (24, .s (.int .i64 l.out.length)), (25, .s (.int .i64 i))], [l.v, .s (.bool false), .no], [[.s (.int .i64 l.first), .list 1 (cl l.out), .s (.int .i64 l.got)]], 0⟩
theorem Valid_pc (l : Lnk) : PC Try.prog 16 [l.v] (fun r => r = .s (.bool l.valid)) := by
  refine pc_end c16 mixed rfl ?_
  by_cases h1 : l.first < 1
  · simp -implicitDefEqProofs [a16, F16, Lnk.v, h1, Lnk.valid, Int.not_le.2 h1]
  by_cases h2 : l.first > 1073741824
  · simp -implicitDefEqProofs [a16, F16, Lnk.v, h1, h2, Lnk.valid, Int.not_le.2 h2]
  have hw : IntKind.i64.wrap (1073741824 - l.first) = 1073741824 - l.first := wrap64 (by omega)
  by_cases h3 : (l.out.length : Int) > 1073741824 - l.first
  · simp -implicitDefEqProofs [a16, F16, Lnk.v, h1, h2, h3, hw, Lnk.valid, Int.not_le.2 h3]
  simp -implicitDefEqProofs [a16, F16, Lnk.v, h1, h2, h3, hw]
  refine w_rounds [1, 23, 24, 25] [2] 1 (Nat.zero_le _) (vInv l) l.out.length ⟨by simp, 0, by simp, by simp, by simp -implicitDefEqProofs [Lnk.v]⟩ ?_
  rintro m S ⟨i, hi, hall, rfl⟩
  have hv0 : l.valid = (l.out.all isBody && decide (0 ≤ l.got ∧ l.got ≤ 1073741824)) := by simp -implicitDefEqProofs [Lnk.valid]; omega
  by_cases hm : i < l.out.length
  · have h4 : (i : Int) < l.out.length := by omega
    have h0 : ¬ (i : Int) < 0 := by omega
    simp -implicitDefEqProofs [h4, h0, cl_get hm, Lnk.v]
    refine wk_take ?_
    simp -implicitDefEqProofs
    refine wc_of (isBody_pc l.out[i]) (by simp -implicitDefEqProofs) (by simp -implicitDefEqProofs) ?_
    rintro _ rfl
    by_cases hb : isBody l.out[i] = true
    · simp -implicitDefEqProofs [hb]
      refine ⟨m - 1, by omega, i + 1, by omega, ?_, by rw [wrap64 (by omega)]; rfl⟩
      rw [List.take_add_one, List.getElem?_eq_getElem hm, List.all_append, hall]
      simp -implicitDefEqProofs [hb]
    · simp -implicitDefEqProofs [hb, hv0]
      exact fun h => absurd (h _ (List.getElem_mem hm)) hb
  · have h4 : ¬ (i : Int) < l.out.length := by omega
    have h5 : l.out.all isBody = true := by rw [List.take_of_length_le (by omega)] at hall; exact hall
    by_cases h6 : l.got ≥ 0
    · simp -implicitDefEqProofs [h4, h5, h6, hv0, Lnk.v]
    · simp -implicitDefEqProofs [h4, h5, h6, hv0, Lnk.v]
end Go.Proofs.Ytjgcjahngmkfdaa
