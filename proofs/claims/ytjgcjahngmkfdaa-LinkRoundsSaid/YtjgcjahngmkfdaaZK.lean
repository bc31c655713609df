/- Texts put behind one another: L2, L3, L4, L5, L6, L7, L8, L9, L10, L11, L13, L14, L15. -/
import Derived.Test.YtjgcjahngmkfdaaZJ
import Derived.Test.YtjgcjahngmkfdaaZP
set_option linter.unusedVariables false
set_option linter.unusedSimpArgs false
namespace Go.Proofs.Ytjgcjahngmkfdaa
open Go.RowKit Go.Proofs

structure Pkt where
  seq : Int
  ack : Int
  body : List UInt8
def Pkt.v (p : Pkt) : V := .agg [.s (.int .i64 p.seq), .s (.int .i64 p.ack), .list 1 (bv p.body)]
def Pkt.valid (p : Pkt) : Bool := decide (0 ≤ p.seq ∧ p.seq ≤ 1073741824 ∧ 0 ≤ p.ack ∧ p.ack ≤ 1073741824) && (if p.seq = 0 then decide (p.body.length = 0) else isBody p.body)
theorem validPacket_pc (p : Pkt) : PC Try.prog 36 [p.v] (fun r => r = .s (.bool p.valid)) := by
  refine pc_end c36 mixed rfl ?_
  by_cases h1 : p.seq < 0
  · simp -implicitDefEqProofs [a36, F36, Pkt.v, h1, Pkt.valid, Int.not_le.2 h1]
  by_cases h2 : p.seq > 1073741824
  · simp -implicitDefEqProofs [a36, F36, Pkt.v, h1, h2, Pkt.valid, Int.not_le.2 h2]
  by_cases h3 : p.ack < 0
  · simp -implicitDefEqProofs [a36, F36, Pkt.v, h1, h2, h3, Pkt.valid, Int.not_le.2 h3]
  by_cases h4 : p.ack > 1073741824
  · simp -implicitDefEqProofs [a36, F36, Pkt.v, h1, h2, h3, h4, Pkt.valid, Int.not_le.2 h4]
  have hv : p.valid = (if p.seq = 0 then decide (p.body.length = 0) else isBody p.body) := by
    have : 0 ≤ p.seq ∧ p.seq ≤ 1073741824 ∧ 0 ≤ p.ack ∧ p.ack ≤ 1073741824 := by omega
    simp -implicitDefEqProofs [Pkt.valid, this]
  by_cases h5 : p.seq = 0
  · simp -implicitDefEqProofs [a36, F36, Pkt.v, h2, h3, h4, h5, hv]
    rw [Bool.eq_iff_iff]; simp -implicitDefEqProofs
  · have h5' : (p.seq == 0) = false := by simpa using h5
    simp -implicitDefEqProofs [a36, F36, Pkt.v, h1, h2, h3, h4, h5, h5', hv]
    refine wk_take ?_
    simp -implicitDefEqProofs
    refine wc_of (isBody_pc p.body) (by simp -implicitDefEqProofs) (by simp -implicitDefEqProofs) ?_
    rintro _ rfl
    simp -implicitDefEqProofs
theorem rbody_pc (xs : List UInt8) : PC Try.prog 34 [.list 1 (bv xs)] (fun r => r = .s (.bool (isBody xs))) := by
  refine pc_end c34 mixed rfl ?_
  by_cases h : 1 ≤ (xs.length : Int)
  · have h' : 1 ≤ xs.length := by omega
    simp -implicitDefEqProofs [a34, F34, h, h', isBody]
    omega
  · have h' : ¬ 1 ≤ xs.length := by omega
    simp -implicitDefEqProofs [a34, F34, h, h', isBody]
def cpInv (xs : List (List UInt8)) (m : Nat) (S : St) : Prop := ∃ i, i + m = xs.length ∧ S = ⟨tmL [(6, .list 1 (cl xs)), (7, .s (.int .i64 xs.length)), (8, .s (.int .i64 i))], [.list 1 (cl xs), .s (.slice none 0 0), .own true 25 1 (cl (xs.take i)), .no], [], 0⟩
theorem rCopy_pc (xs : List (List UInt8)) (h : xs.length ≤ 1000000) (hx : ∀ x ∈ xs, x.length ≤ 1000000) : PC Try.prog 49 [.list 1 (cl xs)] (fun r => r = .own true 25 1 (cl xs)) := by
  refine pc_end c49 mixed rfl ?_
  simp -implicitDefEqProofs [a49, F49]
  refine w_rounds [6, 7, 8] [3] 0 (Nat.le_refl _) (cpInv xs) xs.length ⟨by simp, 0, by simp, by simp⟩ ?_
  rintro m S ⟨i, hi, rfl⟩
  have h0 : ¬ (i : Int) < 0 := by omega
  by_cases hm : i < xs.length
  · have h1 : (i : Int) < xs.length := by omega
    have hx1 := hx _ (List.getElem_mem hm)
    have hlen : min i xs.length = i := by omega
    have h3 : i + 1 ≤ maxLen ∧ (i + 1) * 24 ≤ maxBytes := by simp -implicitDefEqProofs [maxLen, maxBytes]; omega
    have h4 : xs[i].length ≤ maxLen ∧ xs[i].length ≤ maxBytes := by simp -implicitDefEqProofs [maxLen, maxBytes]; omega
    simp -implicitDefEqProofs [h1, h0, cl_get hm, hlen, h3, h4, cl_take hm]
    exact ⟨m - 1, by omega, i + 1, by omega, by rw [wrap64 (by omega)]; rfl⟩
  · have h1 : ¬ (i : Int) < xs.length := by omega
    have h2 : i = xs.length := by omega
    simp -implicitDefEqProofs [h2]
theorem sameBytes_pc (xs ys : List UInt8) : PC Try.prog 50 [.list 1 (bv xs), .list 1 (bv ys)] (fun r => r = .s (.bool (xs == ys))) := by
  refine pc_end c50 mixed rfl ?_
  simp -implicitDefEqProofs [a50, F50, toList_mk]
def smInv (xs ys : List (List UInt8)) (m : Nat) (S : St) : Prop := ∃ i, i + m = xs.length ∧ xs.take i = ys.take i ∧ S = ⟨tmL [], [.list 1 (cl xs), .list 1 (cl ys), .s (.bool false), .s (.int .i64 i)], [], 0⟩
theorem rSame_pc (xs ys : List (List UInt8)) (h : xs.length ≤ 1000000) : PC Try.prog 38 [.list 1 (cl xs), .list 1 (cl ys)] (fun r => r = .s (.bool (xs == ys))) := by
  refine pc_end c38 mixed rfl ?_
  by_cases hl : xs.length = ys.length
  · simp -implicitDefEqProofs [a38, F38, hl]
    refine w_rounds [] [] 0 (Nat.le_refl _) (smInv xs ys) xs.length ⟨by simp, 0, by simp, by simp, by simp⟩ ?_
    rintro m S ⟨i, hi, ht, rfl⟩
    have h0 : ¬ (i : Int) < 0 := by omega
    by_cases hm : i < xs.length
    · have h1 : (i : Int) < xs.length := by omega
      have hm' : i < ys.length := by omega
      simp -implicitDefEqProofs [h1, h0, cl_get hm, cl_get hm']
      refine wkd_take ?_
      simp -implicitDefEqProofs
      refine wcd_of (sameBytes_pc xs[i] ys[i]) (by simp -implicitDefEqProofs) (by simp -implicitDefEqProofs) ?_
      by_cases hb : xs[i] = ys[i]
      · simp -implicitDefEqProofs [hb]
        refine ⟨m - 1, by omega, i + 1, by omega, ?_, by rw [wrap64 (by omega)]; rfl⟩
        rw [List.take_add_one, List.take_add_one, ht, List.getElem?_eq_getElem hm, List.getElem?_eq_getElem hm', hb]
      · have hne : xs ≠ ys := fun e => hb (by subst e; rfl)
        have hb' : (xs[i] == ys[i]) = false := by simpa using hb
        simp -implicitDefEqProofs [hb', hne]
    · have h1 : ¬ (i : Int) < xs.length := by omega
      have : xs = ys := by rw [List.take_of_length_le (by omega), List.take_of_length_le (by omega)] at ht; exact ht
      subst this
      simp -implicitDefEqProofs [hm]
  · have : xs ≠ ys := fun e => hl (by rw [e])
    have hl' : ((xs.length : Int) != ys.length) = true := by
      have : ¬ (xs.length : Int) = ys.length := by omega
      simpa using this
    simp -implicitDefEqProofs [a38, F38, hl', this]
def rvInv (l : Lnk) (m : Nat) (S : St) : Prop := ∃ i, i + m = l.out.length ∧ (l.out.take i).all isBody = true ∧ S = ⟨tmL [(1, .ptr 0 0), (33, .list 1 (cl l.out)), (34, .s (.int .i64 l.out.length)), (35, .s (.int .i64 i))], [l.v, .s (.bool false), .no], [[.s (.int .i64 l.first), .list 1 (cl l.out), .s (.int .i64 l.got)]], 0⟩
theorem rValid_pc (l : Lnk) (hlen : l.out.length ≤ 1000000) : PC Try.prog 17 [l.v] (fun r => r = .s (.bool l.valid)) := by
  refine pc_end c17 mixed rfl ?_
  by_cases h1 : l.first < 1
  · simp -implicitDefEqProofs [a17, F17, Lnk.v, h1, Lnk.valid, Int.not_le.2 h1]
  by_cases h2 : l.first > 1073741824
  · simp -implicitDefEqProofs [a17, F17, Lnk.v, h1, h2, Lnk.valid, Int.not_le.2 h2]
  have hw : IntKind.i64.wrap (l.first + l.out.length) = l.first + l.out.length := wrap64 (by omega)
  by_cases h3 : l.first + l.out.length > 1073741824
  · have h3' : ¬ (l.out.length : Int) ≤ 1073741824 - l.first := by omega
    simp -implicitDefEqProofs [a17, F17, Lnk.v, h1, h2, h3, hw, Lnk.valid, h3']
  have h3' : (l.out.length : Int) ≤ 1073741824 - l.first := by omega
  by_cases h4 : l.got < 0
  · simp -implicitDefEqProofs [a17, F17, Lnk.v, h1, h2, h3, h4, hw, Lnk.valid, Int.not_le.2 h4]
  by_cases h5 : l.got > 1073741824
  · simp -implicitDefEqProofs [a17, F17, Lnk.v, h1, h2, h3, h4, h5, hw, Lnk.valid, Int.not_le.2 h5]
  simp -implicitDefEqProofs [a17, F17, Lnk.v, h1, h2, h3, h4, h5, hw]
  refine w_rounds [1, 33, 34, 35] [2] 1 (Nat.zero_le _) (rvInv l) l.out.length ⟨by simp, 0, by simp, by simp, by simp -implicitDefEqProofs [Lnk.v]⟩ ?_
  rintro m S ⟨i, hi, hall, rfl⟩
  have hv0 : l.valid = l.out.all isBody := by
    have : (1 ≤ l.first ∧ l.first ≤ 1073741824 ∧ (l.out.length : Int) ≤ 1073741824 - l.first) ∧ 0 ≤ l.got ∧ l.got ≤ 1073741824 := by omega
    simp -implicitDefEqProofs [Lnk.valid, this]
  by_cases hm : i < l.out.length
  · have h4 : (i : Int) < l.out.length := by omega
    have h0 : ¬ (i : Int) < 0 := by omega
    simp -implicitDefEqProofs [h4, h0, cl_get hm, Lnk.v]
    refine wk_take ?_
    simp -implicitDefEqProofs
    refine wc_of (rbody_pc l.out[i]) (by simp -implicitDefEqProofs) (by simp -implicitDefEqProofs) ?_
    rintro _ rfl
    by_cases hb : isBody l.out[i] = true
    · simp -implicitDefEqProofs [hb]
      refine ⟨m - 1, by omega, i + 1, by omega, ?_, by rw [wrap64 (by omega)]; rfl⟩
      rw [List.take_add_one, List.getElem?_eq_getElem hm, List.all_append, hall]
      simp -implicitDefEqProofs [hb]
    · simp -implicitDefEqProofs [hb, hv0]
      exact ⟨_, List.getElem_mem hm, by simpa using hb⟩
  · have h4 : ¬ (i : Int) < l.out.length := by omega
    have h5 : l.out.all isBody = true := by rw [List.take_of_length_le (by omega)] at hall; exact hall
    simp -implicitDefEqProofs [h4, h5, hv0, Lnk.v]
end Go.Proofs.Ytjgcjahngmkfdaa

namespace Go.Proofs.Ytjgcjahngmkfdaa
open Go.RowKit Go.Proofs

/-- no link -/
def noLnk : V := .agg [.s (.int .i64 0), .s (.slice none 0 0), .s (.int .i64 0)]
def okLnk (l : Lnk) : Prop := l.out.length ≤ 100000 ∧ ∀ x ∈ l.out, x.length ≤ 100000
def offerV (l : Lnk) (m : List UInt8) : V :=
  if l.valid = false then .tup [noLnk, .s (.int .i64 2)]
  else if isBody m = false then .tup [noLnk, .s (.int .i64 1)]
  else if l.first + l.out.length ≥ 1073741824 then .tup [noLnk, .s (.int .i64 16)]
  else .tup [.agg [.s (.int .i64 l.first), .own true 25 1 (cl (l.out ++ [m])), .s (.int .i64 l.got)], .s (.int .i64 0)]
theorem valid_first {l : Lnk} (h : l.valid = true) : 1 ≤ l.first ∧ l.first ≤ 1073741824 ∧ (l.out.length : Int) ≤ 1073741824 - l.first ∧ 0 ≤ l.got ∧ l.got ≤ 1073741824 := by
  simp -implicitDefEqProofs [Lnk.valid] at h
  omega
theorem Offer_pc (l : Lnk) (m : List UInt8) (hl : okLnk l) (hm : m.length ≤ 100000) : PC Try.prog 9 [l.v, .list 1 (bv m)] (fun r => r = offerV l m) := by
  obtain ⟨hl1, hl2⟩ := hl
  refine pc_end c9 mixed rfl ?_
  simp -implicitDefEqProofs [a9, F9, Lnk.v]
  refine wk_take ?_
  simp -implicitDefEqProofs
  refine wc_of (Valid_pc l) (by simp -implicitDefEqProofs [Lnk.v]) (by simp -implicitDefEqProofs [Lnk.v]) ?_
  rintro _ rfl
  by_cases h1 : l.valid = true
  case neg =>
    simp -implicitDefEqProofs at h1
    simp -implicitDefEqProofs [h1, offerV, noLnk]
  simp -implicitDefEqProofs [h1]
  refine wk_take ?_
  simp -implicitDefEqProofs
  refine wc_of (isBody_pc m) (by simp -implicitDefEqProofs) (by simp -implicitDefEqProofs) ?_
  rintro _ rfl
  by_cases h2 : isBody m = true
  case neg =>
    simp -implicitDefEqProofs at h2
    simp -implicitDefEqProofs [h1, h2, offerV, noLnk]
  obtain ⟨q1, q2, q3, q4, q5⟩ := valid_first h1
  have hw : IntKind.i64.wrap (l.first + l.out.length) = l.first + l.out.length := wrap64 (by omega)
  by_cases h3 : l.first + l.out.length ≥ 1073741824
  · simp -implicitDefEqProofs [h1, h2, h3, hw, offerV, noLnk]
  simp -implicitDefEqProofs [h2, h3, hw]
  refine wkd_take ?_
  simp -implicitDefEqProofs
  refine wcd_of (clones_pc l.out (by omega) (fun x hx => by have := hl2 x hx; omega)) (by simp -implicitDefEqProofs) (by simp -implicitDefEqProofs) ?_
  simp -implicitDefEqProofs
  refine wkd_take ?_
  simp -implicitDefEqProofs
  refine wcd_of (clone_pc (bv m) (by simp -implicitDefEqProofs; omega)) (by simp -implicitDefEqProofs) (by simp -implicitDefEqProofs) ?_
  have h4 : l.out.length + 1 ≤ maxLen ∧ (l.out.length + 1) * 24 ≤ maxBytes := by simp -implicitDefEqProofs [maxLen, maxBytes]; omega
  have h5 : l.first + l.out.length < 1073741824 := by omega
  simp -implicitDefEqProofs [h4, offerV, h1, h2, h5, cl]
end Go.Proofs.Ytjgcjahngmkfdaa

namespace Go.Proofs.Ytjgcjahngmkfdaa
open Go.RowKit Go.Proofs

def pk (l : Lnk) (i : Nat) : List V := match l.out[i]? with
  | some m => [.agg [.s (.int .i64 (l.first + i)), .s (.int .i64 l.got), .list 1 (bv m)]]
  | none => []
/-- the packets from 0 on -/
def pks (l : Lnk) (n : Nat) : List V := (List.range n).flatMap (pk l)
theorem pks_succ {l : Lnk} {i : Nat} (h : i < l.out.length) : pks l (i + 1) = pks l i ++ [.agg [.s (.int .i64 (l.first + i)), .s (.int .i64 l.got), .list 1 (bv l.out[i])]] := by
  simp [pks, List.range_succ, pk, h]
theorem pks_length {l : Lnk} : ∀ {i : Nat}, i ≤ l.out.length → (pks l i).length = i
  | 0, _ => rfl
  | i + 1, h => by rw [pks_succ (by omega)]; simp [pks_length (l := l) (i := i) (by omega)]
def packetsV (l : Lnk) : V :=
  if l.valid = false then .s (.slice none 0 0)
  else if l.out.length = 0 then .own true 27 3 [.agg [.s (.int .i64 0), .s (.int .i64 l.got), .s (.slice none 0 0)]]
  else .own true 27 3 (pks l (min l.out.length 4))
def pInv (l : Lnk) (m : Nat) (S : St) : Prop := ∃ i : Nat, i + m = min l.out.length 4 ∧ S = ⟨tmL [(1, .ptr 0 0), (19, .s (.int .i64 (min l.out.length 4 : Nat))), (20, .s (.int .i64 i))], [l.v, .s (.slice none 0 0), .own true 27 3 (pks l i), .no], [[.s (.int .i64 l.first), .list 1 (cl l.out), .s (.int .i64 l.got)]], 0⟩
theorem Packets_pc (l : Lnk) (hl : okLnk l) : PC Try.prog 13 [l.v] (fun r => r = packetsV l) := by
  obtain ⟨hl1, hl2⟩ := hl
  refine pc_end c13 mixed rfl ?_
  simp -implicitDefEqProofs [a13, F13, Lnk.v]
  refine wk_take ?_
  simp -implicitDefEqProofs
  refine wc_of (Valid_pc l) (by simp [Lnk.v]) (by simp [Lnk.v]) ?_
  rintro _ rfl
  by_cases h1 : l.valid = true
  case neg =>
    simp at h1
    simp -implicitDefEqProofs [h1, packetsV]
  by_cases h2 : l.out.length = 0
  · simp -implicitDefEqProofs [h1, h2, packetsV]
  have h2' : ((l.out.length : Int) == 0) = false := beq_false_of_ne (by omega)
  obtain ⟨q1, q2, q3, q4, q5⟩ := valid_first h1
  have hmin : (if (4 : Int) < (l.out.length : Int) then (4 : Int) else (l.out.length : Int)) = ((min l.out.length 4 : Nat) : Int) := by
    rcases Nat.le_total l.out.length 4 with h | h
    · rw [Nat.min_eq_left h]; split <;> omega
    · rw [Nat.min_eq_right h]; split <;> omega
  simp -implicitDefEqProofs [h1, h2, h2', hmin]
  refine w_rounds [1, 19, 20] [3] 1 (Nat.zero_le _) (pInv l) (min l.out.length 4) ⟨by simp, 0, by simp, by simp [Lnk.v, pks, hmin]⟩ ?_
  rintro m S ⟨i, hi, rfl⟩
  by_cases hm : i < min l.out.length 4
  · have h4 : (i : Int) < (min l.out.length 4 : Nat) := by omega
    have h0 : ¬ (i : Int) < 0 := by omega
    have hio : i < l.out.length := by omega
    have hw : IntKind.i64.wrap (l.first + i) = l.first + i := wrap64 (by omega)
    simp -implicitDefEqProofs [h4, h0, cl_get hio, hw, Lnk.v]
    refine wkd_take ?_
    simp -implicitDefEqProofs
    refine wcd_of (clone_pc (bv l.out[i]) (by have := hl2 _ (List.getElem_mem hio); simp; omega)) (by simp) (by simp) ?_
    have hpl := pks_length (l := l) (i := i) (by omega)
    have h5 : i + 1 ≤ maxLen ∧ (i + 1) * 40 ≤ maxBytes := by simp [maxLen, maxBytes]; omega
    simp -implicitDefEqProofs [hpl, h5]
    exact ⟨m - 1, by omega, i + 1, by omega, by rw [pks_succ hio, wrap64 (by omega)]; rfl⟩
  · have h4 : ¬ (i : Int) < (min l.out.length 4 : Nat) := fun h => hm (Int.ofNat_lt.1 h)
    have hi4 : i = min l.out.length 4 := by omega
    simp -implicitDefEqProofs [h4, packetsV, h1, h2, hi4, Lnk.v]
end Go.Proofs.Ytjgcjahngmkfdaa

namespace Go.Proofs.Ytjgcjahngmkfdaa
open Go.RowKit Go.Proofs

def cut (l : Lnk) (p : Pkt) : Nat := (max 0 (p.ack - l.first + 1)).toNat
def hearV (l : Lnk) (p : Pkt) : V :=
  if l.valid = false then .tup [noLnk, .s (.slice none 0 0), .s (.bool false), .s (.int .i64 2)]
  else if p.valid = false then .tup [noLnk, .s (.slice none 0 0), .s (.bool false), .s (.int .i64 1)]
  else if p.ack ≥ l.first + l.out.length then .tup [noLnk, .s (.slice none 0 0), .s (.bool false), .s (.int .i64 18)]
  else if p.seq = l.got + 1 then .tup [.agg [.s (.int .i64 (l.first + cut l p)), .own true 25 1 (cl (l.out.drop (cut l p))), .s (.int .i64 (l.got + 1))], .list 1 (bv p.body), .s (.bool true), .s (.int .i64 0)]
  else .tup [.agg [.s (.int .i64 (l.first + cut l p)), .own true 25 1 (cl (l.out.drop (cut l p))), .s (.int .i64 l.got)], .s (.slice none 0 0), .s (.bool false), .s (.int .i64 0)]
theorem Hear_pc (l : Lnk) (p : Pkt) (hl : okLnk l) (hp : p.body.length ≤ 100000) : PC Try.prog 11 [l.v, p.v] (fun r => r = hearV l p) := by
  obtain ⟨hl1, hl2⟩ := hl
  refine pc_end c11 mixed rfl ?_
  simp -implicitDefEqProofs [a11, F11, Lnk.v, Pkt.v]
  refine wk_take ?_
  simp -implicitDefEqProofs
  refine wc_of (Valid_pc l) (by simp [Lnk.v]) (by simp [Lnk.v]) ?_
  rintro _ rfl
  by_cases h1 : l.valid = true
  case neg =>
    simp at h1
    simp -implicitDefEqProofs [h1, hearV, noLnk]
  simp -implicitDefEqProofs [h1]
  refine wk_take ?_
  simp -implicitDefEqProofs
  refine wc_of (validPacket_pc p) (by simp [Pkt.v]) (by simp [Pkt.v]) ?_
  rintro _ rfl
  by_cases h2 : p.valid = true
  case neg =>
    simp at h2
    simp -implicitDefEqProofs [h1, h2, hearV, noLnk]
  obtain ⟨q1, q2, q3, q4, q5⟩ := valid_first h1
  have q6 : 0 ≤ p.seq ∧ p.seq ≤ 1073741824 ∧ 0 ≤ p.ack ∧ p.ack ≤ 1073741824 := by simp [Pkt.valid] at h2; omega
  have hw : IntKind.i64.wrap (l.first + l.out.length) = l.first + l.out.length := wrap64 (by omega)
  by_cases h3 : p.ack ≥ l.first + l.out.length
  · simp -implicitDefEqProofs [h1, h2, h3, hw, hearV, noLnk]
  have hw2 : IntKind.i64.wrap (p.ack - l.first) = p.ack - l.first := wrap64 (by omega)
  have hw3 : IntKind.i64.wrap (p.ack - l.first + 1) = p.ack - l.first + 1 := wrap64 (by omega)
  have hmx : (if (0 : Int) < p.ack - l.first + 1 then p.ack - l.first + 1 else 0) = (cut l p : Int) := by unfold cut; split <;> omega
  have hcut : cut l p ≤ l.out.length := by unfold cut; omega
  have hw4 : IntKind.i64.wrap (l.first + cut l p) = l.first + cut l p := wrap64 (by omega)
  have hw5 : IntKind.i64.wrap (l.got + 1) = l.got + 1 := wrap64 (by omega)
  have hn0 : ¬ ((cut l p : Nat) : Int) < 0 := by omega
  have hn1 : ¬ (l.out.length : Int) < 0 := by omega
  have hdl : ∀ x ∈ l.out.drop (cut l p), x.length ≤ 1000000 := fun x hx => by have := hl2 x (List.mem_of_mem_drop hx); omega
  have hcl : (cl l.out).drop (cut l p) = cl (l.out.drop (cut l p)) := by simp [cl, List.map_drop]
  have hcl2 : List.take (l.out.length - cut l p) (cl (l.out.drop (cut l p))) = cl (l.out.drop (cut l p)) := List.take_of_length_le (by simp)
  by_cases hc : cut l p = l.out.length
  · have hdr : l.out.drop l.out.length = [] := by simp
    simp -implicitDefEqProofs [h2, h3, hw, hw2, hw3, hmx, hw4, hn0, hn1, hc]
    refine wkd_take ?_
    simp -implicitDefEqProofs
    refine wcd_of (clones_pc [] (by simp) (by simp)) (by simp) (by simp) ?_
    simp -implicitDefEqProofs
    by_cases h4 : p.seq = l.got + 1
    · simp -implicitDefEqProofs [h4, hw5]
      refine wk_take ?_
      simp -implicitDefEqProofs
      refine wc_of (clone_pc (bv p.body) (by simp; omega)) (by simp) (by simp) ?_
      rintro _ rfl
      simp -implicitDefEqProofs [hearV, h1, h2, h3, h4, hc, hdr]
    · have h4' : (p.seq != l.got + 1) = true := by simpa using h4
      simp -implicitDefEqProofs [h4', hw5]
      simp -implicitDefEqProofs [hearV, h1, h2, h3, h4, hc, hdr]
  · simp -implicitDefEqProofs [h2, h3, hw, hw2, hw3, hmx, hw4, hn0, hn1, hcut, hc]
    refine wkd_take ?_
    simp -implicitDefEqProofs [hcl, hcl2]
    refine wcd_of (clones_pc (l.out.drop (cut l p)) (by simp; omega) hdl) (by simp) (by simp) ?_
    simp -implicitDefEqProofs
    by_cases h4 : p.seq = l.got + 1
    · simp -implicitDefEqProofs [h4, hw5]
      refine wk_take ?_
      simp -implicitDefEqProofs
      refine wc_of (clone_pc (bv p.body) (by simp; omega)) (by simp) (by simp) ?_
      rintro _ rfl
      simp -implicitDefEqProofs [hearV, h1, h2, h3, h4]
    · have h4' : (p.seq != l.got + 1) = true := by simpa using h4
      simp -implicitDefEqProofs [h4', hw5]
      simp -implicitDefEqProofs [hearV, h1, h2, h3, h4]
end Go.Proofs.Ytjgcjahngmkfdaa

namespace Go.Proofs.Ytjgcjahngmkfdaa
open Go.RowKit Go.Proofs

theorem rNew_pc : PC Try.prog 20 [] (fun r => r = .agg [.s (.int .i64 1), .s (.slice none 0 0), .s (.int .i64 0)]) := by
  refine pc_end c20 mixed rfl ?_
  simp -implicitDefEqProofs [a20, F20]
theorem rCopyL_pc (l : Lnk) (hl : okLnk l) : PC Try.prog 35 [l.v] (fun r => r = .agg [.s (.int .i64 l.first), .own true 25 1 (cl l.out), .s (.int .i64 l.got)]) := by
  obtain ⟨hl1, hl2⟩ := hl
  refine pc_end c35 mixed rfl ?_
  simp -implicitDefEqProofs [a35, F35, Lnk.v]
  refine wk_take ?_
  simp -implicitDefEqProofs
  refine wc_of (rCopy_pc l.out (by omega) (fun x hx => by have := hl2 x hx; omega)) (by simp) (by simp) ?_
  rintro _ rfl
  simp -implicitDefEqProofs
theorem rvPacket_pc (p : Pkt) : PC Try.prog 37 [p.v] (fun r => r = .s (.bool p.valid)) := by
  refine pc_end c37 mixed rfl ?_
  by_cases h1 : p.seq < 0
  · simp -implicitDefEqProofs [a37, F37, Pkt.v, h1, Pkt.valid, Int.not_le.2 h1]
  by_cases h2 : p.seq > 1073741824
  · simp -implicitDefEqProofs [a37, F37, Pkt.v, h1, h2, Pkt.valid, Int.not_le.2 h2]
  by_cases h3 : p.ack < 0
  · simp -implicitDefEqProofs [a37, F37, Pkt.v, h1, h2, h3, Pkt.valid, Int.not_le.2 h3]
  by_cases h4 : p.ack > 1073741824
  · simp -implicitDefEqProofs [a37, F37, Pkt.v, h1, h2, h3, h4, Pkt.valid, Int.not_le.2 h4]
  have hv : p.valid = (if p.seq = 0 then decide (p.body.length = 0) else isBody p.body) := by
    have : 0 ≤ p.seq ∧ p.seq ≤ 1073741824 ∧ 0 ≤ p.ack ∧ p.ack ≤ 1073741824 := by omega
    simp [Pkt.valid, this]
  by_cases h5 : p.seq = 0
  · simp -implicitDefEqProofs [a37, F37, Pkt.v, h3, h4, h5, hv]
    rw [Bool.eq_iff_iff]; simp
  · have h5' : (p.seq == 0) = false := by simpa using h5
    simp -implicitDefEqProofs [a37, F37, Pkt.v, h1, h2, h3, h4, h5, h5', hv]
    refine wk_take ?_
    simp -implicitDefEqProofs
    refine wc_of (rbody_pc p.body) (by simp) (by simp) ?_
    rintro _ rfl
    simp
def sameL (a b : Lnk) : Bool := a.first == b.first && a.got == b.got && a.out == b.out
theorem rSameL_pc (a b : Lnk) (ha : a.out.length ≤ 1000000) : PC Try.prog 15 [a.v, b.v] (fun r => r = .s (.bool (sameL a b))) := by
  refine pc_end c15 mixed rfl ?_
  by_cases h1 : a.first = b.first
  case neg =>
    have h1' : (a.first == b.first) = false := by simpa using h1
    simp -implicitDefEqProofs [a15, F15, Lnk.v, h1', sameL]
  by_cases h2 : a.got = b.got
  case neg =>
    have h2' : (a.got == b.got) = false := by simpa using h2
    simp -implicitDefEqProofs [a15, F15, Lnk.v, h1, h2', sameL]
  simp -implicitDefEqProofs [a15, F15, Lnk.v, h1, h2]
  refine wk_take ?_
  simp -implicitDefEqProofs
  refine wc_of (rSame_pc a.out b.out ha) (by simp) (by simp) ?_
  rintro _ rfl
  simp -implicitDefEqProofs [sameL, h1, h2]
def sameP (a b : Pkt) : Bool := a.seq == b.seq && a.ack == b.ack && a.body == b.body
theorem rSameP_pc (a b : Pkt) : PC Try.prog 18 [a.v, b.v] (fun r => r = .s (.bool (sameP a b))) := by
  refine pc_end c18 mixed rfl ?_
  by_cases h1 : a.seq = b.seq
  case neg =>
    have h1' : (a.seq == b.seq) = false := by simpa using h1
    simp -implicitDefEqProofs [a18, F18, Pkt.v, h1', sameP]
  by_cases h2 : a.ack = b.ack
  case neg =>
    have h2' : (a.ack == b.ack) = false := by simpa using h2
    simp -implicitDefEqProofs [a18, F18, Pkt.v, h1, h2', sameP]
  simp -implicitDefEqProofs [a18, F18, Pkt.v, h1, h2, sameP]
theorem rOffer_pc (l : Lnk) (m : List UInt8) (hl : okLnk l) (hm : m.length ≤ 100000) : PC Try.prog 10 [l.v, .list 1 (bv m)] (fun r => r = offerV l m) := by
  have hl0 := hl
  obtain ⟨hl1, hl2⟩ := hl
  refine pc_end c10 mixed rfl ?_
  simp -implicitDefEqProofs [a10, F10, Lnk.v]
  refine wk_take ?_
  simp -implicitDefEqProofs
  refine wc_of (rValid_pc l (by omega)) (by simp [Lnk.v]) (by simp [Lnk.v]) ?_
  rintro _ rfl
  by_cases h1 : l.valid = true
  case neg =>
    simp at h1
    simp -implicitDefEqProofs [h1, offerV, noLnk]
  simp -implicitDefEqProofs [h1]
  refine wk_take ?_
  simp -implicitDefEqProofs
  refine wc_of (rbody_pc m) (by simp) (by simp) ?_
  rintro _ rfl
  by_cases h2 : isBody m = true
  case neg =>
    simp at h2
    simp -implicitDefEqProofs [h1, h2, offerV, noLnk]
  obtain ⟨q1, q2, q3, q4, q5⟩ := valid_first h1
  have hw : IntKind.i64.wrap (l.first + l.out.length) = l.first + l.out.length := wrap64 (by omega)
  have hw2 : IntKind.i64.wrap (l.first + l.out.length + 1) = l.first + l.out.length + 1 := wrap64 (by omega)
  by_cases h3 : l.first + l.out.length + 1 > 1073741824
  · have h3' : l.first + l.out.length ≥ 1073741824 := by omega
    simp -implicitDefEqProofs [h1, h2, h3, h3', hw, hw2, offerV, noLnk]
  have h3' : l.first + l.out.length < 1073741824 := by omega
  simp -implicitDefEqProofs [h2, h3, hw, hw2]
  refine wk_take ?_
  simp -implicitDefEqProofs
  refine wc_of (rCopyL_pc l hl0) (by simp [Lnk.v]) (by simp [Lnk.v]) ?_
  rintro _ rfl
  have h4 : l.out.length + 1 ≤ maxLen ∧ (l.out.length + 1) * 24 ≤ maxBytes := by simp [maxLen, maxBytes]; omega
  have h5 : m.length ≤ maxLen ∧ m.length ≤ maxBytes := by simp [maxLen, maxBytes]; omega
  simp -implicitDefEqProofs [h4, h5, offerV, h1, h2, h3', cl]
end Go.Proofs.Ytjgcjahngmkfdaa

namespace Go.Proofs.Ytjgcjahngmkfdaa
open Go.RowKit Go.Proofs

def rpInv (l : Lnk) (m : Nat) (S : St) : Prop := ∃ i : Nat, i + m = min l.out.length 4 ∧ S = ⟨tmL [(1, .ptr 0 0)], [l.v, .s (.slice none 0 0), .own true 27 3 (pks l i), .s (.int .i64 i)], [[.s (.int .i64 l.first), .list 1 (cl l.out), .s (.int .i64 l.got)]], 0⟩
theorem rPackets_pc (l : Lnk) (hl : okLnk l) : PC Try.prog 14 [l.v] (fun r => r = packetsV l) := by
  obtain ⟨hl1, hl2⟩ := hl
  refine pc_end c14 mixed rfl ?_
  simp -implicitDefEqProofs [a14, F14, Lnk.v]
  refine wk_take ?_
  simp -implicitDefEqProofs
  refine wc_of (rValid_pc l (by omega)) (by simp [Lnk.v]) (by simp [Lnk.v]) ?_
  rintro _ rfl
  by_cases h1 : l.valid = true
  case neg =>
    simp at h1
    simp -implicitDefEqProofs [h1, packetsV]
  by_cases h2 : l.out.length = 0
  · simp -implicitDefEqProofs [h1, h2, packetsV]
  have h2' : ((l.out.length : Int) == 0) = false := beq_false_of_ne (by omega)
  obtain ⟨q1, q2, q3, q4, q5⟩ := valid_first h1
  simp -implicitDefEqProofs [h1, h2, h2']
  refine w_rounds [1] [] 1 (Nat.zero_le _) (rpInv l) (min l.out.length 4) ⟨by simp, 0, by simp, by simp [Lnk.v, pks]⟩ ?_
  rintro m S ⟨i, hi, rfl⟩
  by_cases hm : i < l.out.length
  · have h4 : (i : Int) < l.out.length := by omega
    by_cases hm4 : i < 4
    · have h5 : (i : Int) < 4 := by omega
      have h0 : ¬ (i : Int) < 0 := by omega
      have hw : IntKind.i64.wrap (l.first + i) = l.first + i := wrap64 (by omega)
      have hpl := pks_length (l := l) (i := i) (by omega)
      have h6 : i + 1 ≤ maxLen ∧ (i + 1) * 40 ≤ maxBytes := by simp [maxLen, maxBytes]; omega
      have hb := hl2 _ (List.getElem_mem hm)
      have h7 : l.out[i].length ≤ maxLen ∧ l.out[i].length ≤ maxBytes := by simp [maxLen, maxBytes]; omega
      simp -implicitDefEqProofs [h4, h5, h0, cl_get hm, hw, hpl, h6, h7, Lnk.v]
      exact ⟨m - 1, by omega, i + 1, by omega, by rw [pks_succ hm, wrap64 (by omega)]; rfl⟩
    · have h5 : ¬ (i : Int) < 4 := by omega
      have hi4 : i = min l.out.length 4 := by omega
      have hi4' : i = 4 := by omega
      simp -implicitDefEqProofs [h4, h5, packetsV, h1, h2, Lnk.v]
      rw [hi4]
  · have h4 : ¬ (i : Int) < l.out.length := by omega
    have hi4 : i = min l.out.length 4 := by omega
    simp -implicitDefEqProofs [h4, packetsV, h1, h2, Lnk.v]
    rw [hi4]
end Go.Proofs.Ytjgcjahngmkfdaa

namespace Go.Proofs.Ytjgcjahngmkfdaa
open Go.RowKit Go.Proofs

def rhearV (l : Lnk) (p : Pkt) : V :=
  if l.valid = false then .tup [noLnk, .s (.slice none 0 0), .s (.bool false), .s (.int .i64 2)]
  else if p.valid = false then .tup [noLnk, .s (.slice none 0 0), .s (.bool false), .s (.int .i64 1)]
  else if p.ack ≥ l.first + l.out.length then .tup [noLnk, .s (.slice none 0 0), .s (.bool false), .s (.int .i64 18)]
  else if p.seq = l.got + 1 then .tup [.agg [.s (.int .i64 (l.first + cut l p)), .list 1 (cl (l.out.drop (cut l p))), .s (.int .i64 (l.got + 1))], .own true 5 1 (bv p.body), .s (.bool true), .s (.int .i64 0)]
  else .tup [.agg [.s (.int .i64 (l.first + cut l p)), .list 1 (cl (l.out.drop (cut l p))), .s (.int .i64 l.got)], .s (.slice none 0 0), .s (.bool false), .s (.int .i64 0)]
def rhInv (l : Lnk) (p : Pkt) (m : Nat) (S : St) : Prop := ∃ (i : Nat) (c : V), i + m = cut l p ∧ (c = .list 1 (cl (l.out.drop i)) ∨ (i = 0 ∧ c = .own true 25 1 (cl l.out))) ∧
  S = ⟨tmL [(2, .ptr 0 0), (3, .ptr 1 0), (4, .ptr 2 0)], [l.v, p.v, .s (.slice none 0 0), .s (.bool false), .s (.int .i64 0), .s (.bool false), .s (.bool false), .s (.bool false)],
    [[.s (.int .i64 (l.first + i)), c, .s (.int .i64 l.got)], [.s (.int .i64 p.seq), .s (.int .i64 p.ack), .list 1 (bv p.body)], [.s (.int .i64 0), .s (.slice none 0 0), .s (.int .i64 0)]], 0⟩
theorem rHear_pc (l : Lnk) (p : Pkt) (hl : okLnk l) (hp : p.body.length ≤ 100000) : PC Try.prog 12 [l.v, p.v] (fun r => r = rhearV l p) := by
  have hl0 := hl
  obtain ⟨hl1, hl2⟩ := hl
  refine pc_end c12 mixed rfl ?_
  simp -implicitDefEqProofs [a12, F12, Lnk.v, Pkt.v]
  refine wk_take ?_
  simp -implicitDefEqProofs
  refine wc_of (rValid_pc l (by omega)) (by simp [Lnk.v]) (by simp [Lnk.v]) ?_
  rintro _ rfl
  by_cases h1 : l.valid = true
  case neg =>
    simp at h1
    simp -implicitDefEqProofs [h1, rhearV, noLnk]
  simp -implicitDefEqProofs [h1]
  refine wk_take ?_
  simp -implicitDefEqProofs
  refine wc_of (rvPacket_pc p) (by simp [Pkt.v]) (by simp [Pkt.v]) ?_
  rintro _ rfl
  by_cases h2 : p.valid = true
  case neg =>
    simp at h2
    simp -implicitDefEqProofs [h1, h2, rhearV, noLnk]
  obtain ⟨q1, q2, q3, q4, q5⟩ := valid_first h1
  have q6 : 0 ≤ p.seq ∧ p.seq ≤ 1073741824 ∧ 0 ≤ p.ack ∧ p.ack ≤ 1073741824 := by simp [Pkt.valid] at h2; omega
  have hw : IntKind.i64.wrap (l.first + l.out.length) = l.first + l.out.length := wrap64 (by omega)
  by_cases h3 : p.ack ≥ l.first + l.out.length
  · simp -implicitDefEqProofs [h1, h2, h3, hw, rhearV, noLnk]
  have hw5 : IntKind.i64.wrap (l.got + 1) = l.got + 1 := wrap64 (by omega)
  simp -implicitDefEqProofs [h2, h3, hw]
  refine wk_take ?_
  simp -implicitDefEqProofs
  refine wc_of (rCopyL_pc l hl0) (by simp [Lnk.v]) (by simp [Lnk.v]) ?_
  rintro _ rfl
  simp -implicitDefEqProofs
  have hcut : cut l p ≤ l.out.length := by unfold cut; omega
  refine w_rounds [2, 3, 4] [] 3 (Nat.zero_le _) (rhInv l p) (cut l p) ⟨by simp, 0, _, by simp, .inr ⟨rfl, rfl⟩, by simp [Lnk.v, Pkt.v]⟩ ?_
  rintro m S ⟨i, c, hi, hc, rfl⟩
  have hb : p.body.length ≤ maxLen ∧ p.body.length ≤ maxBytes := by simp [maxLen, maxBytes]; omega
  by_cases hm : i < cut l p
  · have h4 : p.ack ≥ l.first + i := by unfold cut at hm; omega
    have hne : i < l.out.length := by omega
    have hw6 : IntKind.i64.wrap (l.first + i + 1) = l.first + ((i + 1 : Nat) : Int) := by rw [wrap64 (by omega)]; omega
    rcases hc with rfl | ⟨rfl, rfl⟩
    · have h5 : 1 ≤ l.out.length - i := by omega
      have h6 : List.take (l.out.length - i - 1) (cl (List.drop i l.out)).tail = cl (l.out.drop (i + 1)) := by
        rw [List.take_of_length_le (by simp)]
        simp [cl, ← List.drop_one, List.drop_drop, ← List.map_drop, Nat.add_comm]
      simp -implicitDefEqProofs [h4, h5, h6, hw6, Lnk.v, Pkt.v]
      exact ⟨m - 1, by omega, i + 1, _, by omega, .inl rfl, rfl⟩
    · have h5 : 1 ≤ l.out.length := by omega
      have h6 : List.take (l.out.length - 1) (cl l.out).tail = cl (l.out.drop 1) := by
        rw [List.take_of_length_le (by simp)]
        simp [cl, ← List.drop_one]
      have h4' : p.ack ≥ l.first := by simpa using h4
      have hw7 : IntKind.i64.wrap (l.first + 1) = l.first + 1 := wrap64 (by omega)
      simp -implicitDefEqProofs [h4', h5, h6, hw7, Lnk.v, Pkt.v]
      exact ⟨m - 1, by omega, 1, _, by omega, .inl rfl, by simp [Lnk.v, Pkt.v]⟩
  · have h4 : ¬ p.ack ≥ l.first + i := by unfold cut at hm hi; omega
    have hic : i = cut l p := by omega
    subst hic
    by_cases h7 : p.seq = l.got + 1
    · rcases hc with rfl | ⟨h8, rfl⟩
      · simp -implicitDefEqProofs [h4, h7, hw5, hb, Lnk.v, Pkt.v, rhearV, h1, h2, h3]
      · have h4' : ¬ p.ack ≥ l.first := by rw [h8] at h4; simpa using h4
        simp -implicitDefEqProofs [h4', h7, h8, hw5, hb, Lnk.v, Pkt.v, rhearV, h1, h2, h3]
    · have h7' : (p.seq != l.got + 1) = true := by simpa using h7
      rcases hc with rfl | ⟨h8, rfl⟩
      · simp -implicitDefEqProofs [h4, h7, h7', hw5, hb, Lnk.v, Pkt.v, rhearV, h1, h2, h3]
      · have h4' : ¬ p.ack ≥ l.first := by rw [h8] at h4; simpa using h4
        simp -implicitDefEqProofs [h4', h7, h7', h8, hw5, hb, Lnk.v, Pkt.v, rhearV, h1, h2, h3]
end Go.Proofs.Ytjgcjahngmkfdaa

namespace Go.Proofs.Ytjgcjahngmkfdaa
open Go.RowKit Go.Proofs

def shortL (l : Lnk) : Bool := decide (l.out.length ≤ 20) && l.out.all fun m => decide (m.length ≤ 5000)
def shInv (l : Lnk) (m : Nat) (S : St) : Prop := ∃ i, i + m = l.out.length ∧ (l.out.take i).all (fun m => decide (m.length ≤ 5000)) = true ∧ S = ⟨tmL [(1, .ptr 0 0), (10, .list 1 (cl l.out)), (11, .s (.int .i64 l.out.length)), (12, .s (.int .i64 i))], [l.v, .s (.bool false), .no], [[.s (.int .i64 l.first), .list 1 (cl l.out), .s (.int .i64 l.got)]], 0⟩
theorem short_pc (l : Lnk) : PC Try.prog 7 [l.v] (fun r => r = .s (.bool (shortL l))) := by
  refine pc_end c7 mixed rfl ?_
  by_cases h1 : (l.out.length : Int) > 20
  · have h1' : ¬ l.out.length ≤ 20 := by omega
    simp -implicitDefEqProofs [a7, F7, Lnk.v, h1, h1', shortL]
  have h1' : l.out.length ≤ 20 := by omega
  simp -implicitDefEqProofs [a7, F7, Lnk.v, h1]
  refine w_rounds [1, 10, 11, 12] [2] 1 (Nat.zero_le _) (shInv l) l.out.length ⟨by simp, 0, by simp, by simp, by simp [Lnk.v]⟩ ?_
  rintro m S ⟨i, hi, hall, rfl⟩
  by_cases hm : i < l.out.length
  · have h4 : (i : Int) < l.out.length := by omega
    have h0 : ¬ (i : Int) < 0 := by omega
    by_cases hb : (l.out[i].length : Int) > 5000
    · simp -implicitDefEqProofs [h4, h0, cl_get hm, hb, Lnk.v, shortL]
      exact fun _ => ⟨_, List.getElem_mem hm, by omega⟩
    · simp -implicitDefEqProofs [h4, h0, cl_get hm, hb, Lnk.v]
      refine ⟨m - 1, by omega, i + 1, by omega, ?_, by rw [wrap64 (by omega)]; rfl⟩
      rw [List.take_add_one, List.getElem?_eq_getElem hm, List.all_append, hall]
      simp; omega
  · have h4 : ¬ (i : Int) < l.out.length := by omega
    have h5 : l.out.all (fun m => decide (m.length ≤ 5000)) = true := by rw [List.take_of_length_le (by omega)] at hall; exact hall
    simp -implicitDefEqProofs [h4, Lnk.v, shortL, h1', h5]
end Go.Proofs.Ytjgcjahngmkfdaa

namespace Go.Proofs.Ytjgcjahngmkfdaa
open Go.RowKit Go.Proofs

theorem offer1 : offerV ⟨1, [], 0⟩ [109] = .tup [.agg [.s (.int .i64 1), .own true 25 1 (cl [[109]]), .s (.int .i64 0)], .s (.int .i64 0)] := by
  simp [offerV, Lnk.valid, isBody]
theorem packets1 : packetsV ⟨1, [[109]], 0⟩ = .own true 27 3 [.agg [.s (.int .i64 1), .s (.int .i64 0), .list 1 (bv [109])]] := by
  simp [packetsV, Lnk.valid, isBody, pks, pk, List.range_succ]
theorem packets0 : packetsV ⟨1, [], 0⟩ = .own true 27 3 [.agg [.s (.int .i64 0), .s (.int .i64 0), .s (.slice none 0 0)]] := by
  simp [packetsV, Lnk.valid]
theorem hear1 : hearV ⟨1, [], 0⟩ ⟨1, 0, [109]⟩ = .tup [.agg [.s (.int .i64 1), .own true 25 1 [], .s (.int .i64 1)], .list 1 (bv [109]), .s (.bool true), .s (.int .i64 0)] := by
  simp [hearV, Lnk.valid, Pkt.valid, isBody, cut]
theorem hear2 : hearV ⟨1, [], 1⟩ ⟨1, 0, [109]⟩ = .tup [.agg [.s (.int .i64 1), .own true 25 1 [], .s (.int .i64 1)], .s (.slice none 0 0), .s (.bool false), .s (.int .i64 0)] := by
  simp [hearV, Lnk.valid, Pkt.valid, isBody, cut]
theorem awake_pc : PC Try.prog 8 [] (fun r => r = .s (.bool true)) := by
  refine pc_end c8 mixed rfl ?_
  simp -implicitDefEqProofs [a8, F8]
  refine wk_take ?_
  simp -implicitDefEqProofs
  refine wc_of New_pc (by simp) (by simp) ?_
  rintro _ rfl
  simp -implicitDefEqProofs
  refine wk_take ?_
  simp -implicitDefEqProofs
  refine wc_nil (Offer_pc ⟨1, [], 0⟩ [109] ⟨by simp, by simp⟩ (by simp)) (by simp [Lnk.v, bv]) (by simp [Lnk.v]) (by simp) ?_
  rintro _ rfl
  simp -implicitDefEqProofs [offer1]
  refine wk_take ?_
  simp -implicitDefEqProofs
  refine wc_of (Packets_pc ⟨1, [[109]], 0⟩ ⟨by simp, by simp⟩) (by simp [Lnk.v]) (by simp [Lnk.v]) ?_
  rintro _ rfl
  simp -implicitDefEqProofs [packets1]
  refine wk_take ?_
  simp -implicitDefEqProofs
  refine wc_of New_pc (by simp) (by simp) ?_
  rintro _ rfl
  simp -implicitDefEqProofs
  refine wk_take ?_
  simp -implicitDefEqProofs
  refine wc_nil (Packets_pc ⟨1, [], 0⟩ ⟨by simp, by simp⟩) (by simp [Lnk.v]) (by simp [Lnk.v]) (by simp) ?_
  rintro _ rfl
  simp -implicitDefEqProofs [packets0]
  refine wkd_take ?_
  simp -implicitDefEqProofs
  refine wcd_of New_pc (by simp) (by simp) ?_
  simp -implicitDefEqProofs
  refine wkd_take ?_
  simp -implicitDefEqProofs
  refine wcd_nil (Hear_pc ⟨1, [], 0⟩ ⟨1, 0, [109]⟩ ⟨by simp, by simp⟩ (by simp)) (by simp [Lnk.v, Pkt.v]) (by simp [Lnk.v, Pkt.v]) (by simp) ?_
  simp -implicitDefEqProofs [hear1]
  refine wkd_take ?_
  simp -implicitDefEqProofs
  refine wcd_of (Hear_pc ⟨1, [], 1⟩ ⟨1, 0, [109]⟩ ⟨by simp, by simp⟩ (by simp)) (by simp [Lnk.v, Pkt.v]) (by simp [Lnk.v, Pkt.v]) ?_
  simp -implicitDefEqProofs [hear2]
  refine wk_take ?_
  simp -implicitDefEqProofs
  refine wc_of (Valid_pc ⟨1, [], 1⟩) (by simp [Lnk.v]) (by simp [Lnk.v]) ?_
  rintro _ rfl
  simp -implicitDefEqProofs [Lnk.valid]
end Go.Proofs.Ytjgcjahngmkfdaa

namespace Go.Proofs.Ytjgcjahngmkfdaa
open Go.RowKit Go.Proofs

/-- what Offer gives, by cases -/
theorem offer_form (l : Lnk) (m : List UInt8) : (∃ e : Int, offerV l m = .tup [noLnk, .s (.int .i64 e)]) ∨ ∃ a : Lnk, a.out.length ≤ l.out.length + 1 ∧ offerV l m = .tup [.agg [.s (.int .i64 a.first), .own true 25 1 (cl a.out), .s (.int .i64 a.got)], .s (.int .i64 0)] := by
  unfold offerV
  split
  · exact .inl ⟨_, rfl⟩
  · split
    · exact .inl ⟨_, rfl⟩
    · split
      · exact .inl ⟨_, rfl⟩
      · exact .inr ⟨⟨l.first, l.out ++ [m], l.got⟩, by simp, rfl⟩
theorem hear_form (l : Lnk) (p : Pkt) : (∃ e : Int, hearV l p = .tup [noLnk, .s (.slice none 0 0), .s (.bool false), .s (.int .i64 e)] ∧ rhearV l p = .tup [noLnk, .s (.slice none 0 0), .s (.bool false), .s (.int .i64 e)]) ∨
    (∃ a : Lnk, a.out.length ≤ l.out.length ∧ hearV l p = .tup [.agg [.s (.int .i64 a.first), .own true 25 1 (cl a.out), .s (.int .i64 a.got)], .list 1 (bv p.body), .s (.bool true), .s (.int .i64 0)] ∧
      rhearV l p = .tup [.agg [.s (.int .i64 a.first), .list 1 (cl a.out), .s (.int .i64 a.got)], .own true 5 1 (bv p.body), .s (.bool true), .s (.int .i64 0)]) ∨
    (∃ a : Lnk, a.out.length ≤ l.out.length ∧ hearV l p = .tup [.agg [.s (.int .i64 a.first), .own true 25 1 (cl a.out), .s (.int .i64 a.got)], .s (.slice none 0 0), .s (.bool false), .s (.int .i64 0)] ∧
      rhearV l p = .tup [.agg [.s (.int .i64 a.first), .list 1 (cl a.out), .s (.int .i64 a.got)], .s (.slice none 0 0), .s (.bool false), .s (.int .i64 0)]) := by
  unfold hearV rhearV
  split
  · exact .inl ⟨_, rfl, rfl⟩
  · split
    · exact .inl ⟨_, rfl, rfl⟩
    · split
      · exact .inl ⟨_, rfl, rfl⟩
      · split
        · exact .inr (.inl ⟨⟨l.first + cut l p, l.out.drop (cut l p), l.got + 1⟩, by simp, rfl, rfl⟩)
        · exact .inr (.inr ⟨⟨l.first + cut l p, l.out.drop (cut l p), l.got⟩, by simp, rfl, rfl⟩)
/-- rows of packets: each reads as a packet -/
def pkRow (L : List V) : Prop := ∀ e ∈ L, ∃ (s a : Int) (b : V), e = .agg [.s (.int .i64 s), .s (.int .i64 a), b] ∧ (b = .s (.slice none 0 0) ∨ ∃ m, b = .list 1 (bv m))
theorem pks_row (l : Lnk) (n : Nat) : pkRow (pks l n) := by
  intro e he
  simp only [pks, List.mem_flatMap] at he
  obtain ⟨i, _, hi⟩ := he
  unfold pk at hi
  split at hi
  · simp at hi; subst hi; exact ⟨_, _, _, rfl, .inr ⟨_, rfl⟩⟩
  · simp at hi
theorem packets_form (l : Lnk) : packetsV l = .s (.slice none 0 0) ∨ ∃ L, L.length ≤ 4 ∧ pkRow L ∧ packetsV l = .own true 27 3 L := by
  unfold packetsV
  split
  · exact .inl rfl
  · split
    · refine .inr ⟨_, by simp, ?_, rfl⟩
      intro e he
      simp at he
      subst he
      exact ⟨_, _, _, rfl, .inl rfl⟩
    · refine .inr ⟨_, ?_, pks_row l _, rfl⟩
      rw [pks_length (by omega)]
      omega
theorem sameNo : PC Try.prog 15 [noLnk, noLnk] (fun r => r = .s (.bool true)) := by
  refine pc_nil (ys := [Lnk.v ⟨0, [], 0⟩, Lnk.v ⟨0, [], 0⟩]) ?_ (by simp [noLnk, Lnk.v]) (by simp [Lnk.v])
  have := rSameL_pc ⟨0, [], 0⟩ ⟨0, [], 0⟩ (by simp)
  simpa [sameL] using this
theorem sameSelf (a : Lnk) (h : a.out.length ≤ 1000000) : PC Try.prog 15 [a.v, a.v] (fun r => r = .s (.bool true)) := by
  have := rSameL_pc a a h
  simpa [sameL] using this
theorem sameElem {L : List V} (h : pkRow L) {i : Nat} (hi : i < L.length) : ∃ (s a : Int) (b : V), L[i] = .agg [.s (.int .i64 s), .s (.int .i64 a), b] ∧ immC b = true ∧ toImm b = b ∧ PC Try.prog 18 [.agg [.s (.int .i64 s), .s (.int .i64 a), b], .agg [.s (.int .i64 s), .s (.int .i64 a), b]] (fun r => r = .s (.bool true)) := by
  obtain ⟨s, a, b, e, hb⟩ := h _ (List.getElem_mem hi)
  refine ⟨s, a, b, e, ?_, ?_, ?_⟩
  · rcases hb with rfl | ⟨m, rfl⟩ <;> rfl
  · rcases hb with rfl | ⟨m, rfl⟩ <;> rfl
  · rcases hb with rfl | ⟨m, rfl⟩
    · refine pc_nil (ys := [Pkt.v ⟨s, a, []⟩, Pkt.v ⟨s, a, []⟩]) ?_ (by simp [Pkt.v, bv]) (by simp [Pkt.v])
      have := rSameP_pc ⟨s, a, []⟩ ⟨s, a, []⟩
      simpa [sameP] using this
    · have := rSameP_pc ⟨s, a, m⟩ ⟨s, a, m⟩
      simpa [sameP, Pkt.v] using this
end Go.Proofs.Ytjgcjahngmkfdaa

namespace Go.Proofs.Ytjgcjahngmkfdaa
open Go.RowKit Go.Proofs

/-- the payload of a packet -/
def pay (p : Pkt) : List UInt8 := putUint p.seq.toNat ++ putUint p.ack.toNat ++ p.body
def encV (p : Pkt) : V := if p.valid then .tup [.own true 5 1 (bv (frame (pay p))), .s (.int .i64 0)] else .tup [.s (.slice none 0 0), .s (.int .i64 2)]
theorem valid_nat {p : Pkt} (h : p.valid = true) : ∃ s a : Nat, s ≤ 1073741824 ∧ a ≤ 1073741824 ∧ p = ⟨s, a, p.body⟩ ∧ p.body.length ≤ 4064 := by
  obtain ⟨s, a, b⟩ := p
  simp only [Pkt.valid, Bool.and_eq_true, decide_eq_true_eq] at h
  obtain ⟨⟨h1, h2, h3, h4⟩, h5⟩ := h
  refine ⟨s.toNat, a.toNat, by omega, by omega, by simp; omega, ?_⟩
  split at h5
  · simp at h5; simp [h5]
  · simp [isBody] at h5; exact h5.2
theorem pay_len {s a : Nat} {b : List UInt8} (hb : b.length ≤ 4064) : (pay ⟨s, a, b⟩).length ≤ 4084 := by
  have h1 := putUint_len s
  have h2 := putUint_len a
  simp [pay]
  omega
theorem Encode_pc (p : Pkt) (hp : p.body.length ≤ 100000) : PC Try.prog 22 [p.v] (fun r => r = encV p) := by
  refine pc_end c22 mixed rfl ?_
  simp -implicitDefEqProofs [a22, F22, Pkt.v]
  refine wk_take ?_
  simp -implicitDefEqProofs
  refine wc_of (validPacket_pc p) (by simp [Pkt.v]) (by simp [Pkt.v]) ?_
  rintro _ rfl
  by_cases hv : p.valid = true
  case neg =>
    simp at hv
    simp -implicitDefEqProofs [hv, encV]
  obtain ⟨s, a, hs, ha, hpe, hb⟩ := valid_nat hv
  rw [hpe]
  rw [hpe] at hv
  have w1 : IntKind.u64.wrap (s : Int) = s := by rw [IntKind.wrap_u64]; omega
  have w2 : IntKind.u64.wrap (a : Int) = a := by rw [IntKind.wrap_u64]; omega
  simp -implicitDefEqProofs [hv, w1, encV]
  refine wk_take ?_
  simp -implicitDefEqProofs
  refine wc_of (PutUint_nil s (by omega)) (by simp) (by simp) ?_
  rintro _ rfl
  simp -implicitDefEqProofs [w2]
  refine wk_take ?_
  simp -implicitDefEqProofs
  have l1 := putUint_len s
  refine wc_of (PutUint_pc (putUint s) a (by omega) (by omega)) (by simp) (by simp) ?_
  rintro _ rfl
  have l2 := pay_len (s := s) (a := a) hb
  have l3 : (putUint s).length + (putUint a).length + p.body.length ≤ maxLen ∧ (putUint s).length + (putUint a).length + p.body.length ≤ maxBytes := by
    simp [pay] at l2
    simp [maxLen, maxBytes]
    omega
  simp -implicitDefEqProofs [l3]
  refine wk_take ?_
  simp -implicitDefEqProofs
  refine wc_of (Frame_pc (pay ⟨s, a, p.body⟩) (by omega)) (by simp [pay, bv_append]) (by simp) ?_
  rintro _ rfl
  have l4 : ¬ 4096 < (pay ⟨s, a, p.body⟩).length := by omega
  simp -implicitDefEqProofs [frameV, l4]
theorem rEncode_pc (p : Pkt) (hp : p.body.length ≤ 100000) : PC Try.prog 23 [p.v] (fun r => r = encV p) := by
  refine pc_end c23 mixed rfl ?_
  simp -implicitDefEqProofs [a23, F23, Pkt.v]
  refine wk_take ?_
  simp -implicitDefEqProofs
  refine wc_of (rvPacket_pc p) (by simp [Pkt.v]) (by simp [Pkt.v]) ?_
  rintro _ rfl
  by_cases hv : p.valid = true
  case neg =>
    simp at hv
    simp -implicitDefEqProofs [hv, encV]
  obtain ⟨s, a, hs, ha, hpe, hb⟩ := valid_nat hv
  rw [hpe]
  rw [hpe] at hv
  have w1 : IntKind.u64.wrap (s : Int) = s := by rw [IntKind.wrap_u64]; omega
  have w2 : IntKind.u64.wrap (a : Int) = a := by rw [IntKind.wrap_u64]; omega
  simp -implicitDefEqProofs [hv, w1, w2, encV]
  refine wkd_take ?_
  simp -implicitDefEqProofs
  refine wcd_of (RPutUint_nil s (by omega)) (by simp) (by simp) ?_
  simp -implicitDefEqProofs [w2]
  refine wkd_take ?_
  simp -implicitDefEqProofs
  have l1 := putUint_len s
  refine wcd_of (RPutUint_pc (putUint s) a (by omega) (by omega)) (by simp) (by simp) ?_
  have l2 := pay_len (s := s) (a := a) hb
  have l3 : (putUint s).length + (putUint a).length + p.body.length ≤ maxLen ∧ (putUint s).length + (putUint a).length + p.body.length ≤ maxBytes := by
    simp [pay] at l2
    simp [maxLen, maxBytes]
    omega
  simp -implicitDefEqProofs [l3]
  refine wk_take ?_
  simp -implicitDefEqProofs
  refine wc_of (RFrame_pc (pay ⟨s, a, p.body⟩) (by omega)) (by simp [pay, bv_append]) (by simp) ?_
  rintro _ rfl
  have l4 : ¬ 4096 < (pay ⟨s, a, p.body⟩).length := by omega
  simp -implicitDefEqProofs [frameV, l4]
end Go.Proofs.Ytjgcjahngmkfdaa

namespace Go.Proofs.Ytjgcjahngmkfdaa
open Go.RowKit Go.Proofs

def p0 : Pkt := ⟨0, 0, []⟩
/-- what Decode reads -/
def decR (b : List UInt8) : Pkt × Nat :=
  let f := rdFrame b
  if f.2.2 ≠ 0 then (p0, f.2.2)
  else if f.2.1 ≠ b.length then (p0, 6)
  else
    let u := rdUint f.1
    if u.2.2 ≠ 0 then (p0, u.2.2)
    else
      let w := rdUint (f.1.drop u.2.1)
      if w.2.2 ≠ 0 then (p0, w.2.2)
      else if 1073741824 < u.1 ∨ 1073741824 < w.1 then (p0, 2)
      else if Pkt.valid ⟨u.1, w.1, f.1.drop (u.2.1 + w.2.1)⟩ then (⟨u.1, w.1, f.1.drop (u.2.1 + w.2.1)⟩, 0) else (p0, 2)
def decV (r : Pkt × Nat) : V := .tup [.agg [.s (.int .i64 r.1.seq), .s (.int .i64 r.1.ack), if r.2 = 0 then .own true 5 1 (bv r.1.body) else .s (.slice none 0 0)], .s (.int .i64 r.2)]
theorem rdFrame_cases {l x : List UInt8} {n e : Nat} (h : rdFrame l = (x, n, e)) : (e = 0 ∧ x.length ≤ 4096 ∧ n ≤ l.length) ∨ (x = [] ∧ n = 0 ∧ e ≠ 0 ∧ e < 10) := by
  rcases hr : rdUint l with ⟨v, k, e'⟩
  rcases rdUint_cases hr with ⟨rfl, hv, hk0, hkl, hk10⟩ | ⟨rfl, rfl, he⟩
  · by_cases h1 : 4096 < v
    · rw [rdFrame_long hr h1] at h; cases h; exact .inr ⟨rfl, rfl, by omega, by omega⟩
    by_cases h2 : l.length - k < v + 4
    · rw [rdFrame_short hr h1 h2] at h; cases h; exact .inr ⟨rfl, rfl, by omega, by omega⟩
    by_cases h3 : be ((l.drop (k + v)).take 4) = crc ((l.drop k).take v)
    · rw [rdFrame_ok hr h1 h2 h3] at h; cases h; exact .inl ⟨rfl, by simp; omega, by omega⟩
    · rw [rdFrame_sum hr h1 h2 h3] at h; cases h; exact .inr ⟨rfl, rfl, by omega, by omega⟩
  · rw [rdFrame_e hr (by omega)] at h; cases h; exact .inr ⟨rfl, rfl, by omega, by omega⟩
theorem Decode_pc (b : List UInt8) (hb : b.length ≤ 1000000) : PC Try.prog 24 [.list 1 (bv b)] (fun r => r = decV (decR b)) := by
  refine pc_end c24 mixed rfl ?_
  simp -implicitDefEqProofs [a24, F24]
  refine wk_take ?_
  simp -implicitDefEqProofs
  refine wc_of (Unframe_pc b hb) (by simp) (by simp) ?_
  rintro _ rfl
  rcases hf : rdFrame b with ⟨x, n, e⟩
  rcases rdFrame_cases hf with ⟨rfl, hx, hn⟩ | ⟨rfl, rfl, he, _⟩
  case inr =>
    have h1 : ((e : Int) != 0) = true := by simp; omega
    simp -implicitDefEqProofs [ufV, he, h1, decR, hf, decV, p0]
  by_cases hnb : n = b.length
  case neg =>
    have h1 : ((n : Int) != b.length) = true := by rw [neq_nat]; simpa using hnb
    simp -implicitDefEqProofs [ufV, h1, decR, hf, hnb, decV, p0]
  have h1 : ((n : Int) != b.length) = false := by rw [neq_nat]; simpa using hnb
  simp -implicitDefEqProofs [ufV, h1]
  refine wk_take ?_
  simp -implicitDefEqProofs
  refine wc_of (Uint_pc x) (by simp) (by simp) ?_
  rintro _ rfl
  rcases hu : rdUint x with ⟨s, k, e⟩
  rcases rdUint_cases hu with ⟨rfl, hs, hk0, hkl, hk10⟩ | ⟨rfl, rfl, he⟩
  case inr =>
    have he0 : e ≠ 0 := by omega
    have h2 : ((e : Int) != 0) = true := by simp; omega
    simp -implicitDefEqProofs [uintV, h2, decR, hf, hnb, hu, he0, decV, p0]
  have k0 : ¬ (k : Int) < 0 := by omega
  have htk : (x.drop k).take (x.length - k) = x.drop k := List.take_of_length_le (by simp)
  simp -implicitDefEqProofs [uintV, k0, hkl, bv_drop, bv_take, htk]
  refine wk_take ?_
  simp -implicitDefEqProofs
  refine wc_of (Uint_pc (x.drop k)) (by simp) (by simp) ?_
  rintro _ rfl
  rcases hw : rdUint (x.drop k) with ⟨a, j, e⟩
  rcases rdUint_cases hw with ⟨rfl, ha, hj0, hjl, hj10⟩ | ⟨rfl, rfl, he⟩
  case inr =>
    have he0 : e ≠ 0 := by omega
    have h2 : ((e : Int) != 0) = true := by simp; omega
    simp -implicitDefEqProofs [uintV, h2, decR, hf, hnb, hu, hw, he0, decV, p0]
  by_cases h3 : 1073741824 < s
  · have h3' : (s : Int) > 1073741824 := by omega
    simp -implicitDefEqProofs [uintV, h3', h3, decR, hf, hnb, hu, hw, decV, p0]
  have h3' : ¬ (s : Int) > 1073741824 := by omega
  by_cases h4 : 1073741824 < a
  · have h4' : (a : Int) > 1073741824 := by omega
    simp -implicitDefEqProofs [uintV, h3', h4', h3, h4, decR, hf, hnb, hu, hw, decV, p0]
  have h4' : ¬ (a : Int) > 1073741824 := by omega
  have w1 : IntKind.i64.wrap (s : Int) = s := wrap64 (by omega)
  have w2 : IntKind.i64.wrap (a : Int) = a := wrap64 (by omega)
  have j0 : ¬ (j : Int) < 0 := by omega
  have hjl' : j ≤ x.length - k := by simpa using hjl
  have htj : ((x.drop k).drop j).take (x.length - k - j) = (x.drop k).drop j := List.take_of_length_le (by simp; omega)
  simp -implicitDefEqProofs only [List.drop_drop] at htj
  simp -implicitDefEqProofs [uintV, h3', h4', w1, w2, j0, hjl', bv_drop, bv_take, htj]
  refine wk_take ?_
  simp -implicitDefEqProofs
  refine wc_of (clone_pc (bv (x.drop (k + j))) (by simp; omega)) (by simp) (by simp) ?_
  rintro _ rfl
  simp -implicitDefEqProofs
  refine wk_bor ?_
  simp -implicitDefEqProofs
  refine wb_of (validPacket_pc ⟨s, a, x.drop (k + j)⟩) (by simp [Pkt.v]) ?_
  rintro _ rfl
  refine ⟨rfl, ?_⟩
  by_cases hv : Pkt.valid ⟨s, a, x.drop (k + j)⟩ = true
  · simp -implicitDefEqProofs [hv, decR, hf, hnb, hu, hw, h3, h4, decV]
  · simp at hv
    simp -implicitDefEqProofs [hv, decR, hf, hnb, hu, hw, h3, h4, decV, p0]
theorem rDecode_pc (b : List UInt8) (hb : b.length ≤ 1000000) : PC Try.prog 25 [.list 1 (bv b)] (fun r => r = decV (decR b)) := by
  refine pc_end c25 mixed rfl ?_
  simp -implicitDefEqProofs [a25, F25]
  refine wk_take ?_
  simp -implicitDefEqProofs
  refine wc_of (RUnframe_pc b hb) (by simp) (by simp) ?_
  rintro _ rfl
  rcases hf : rdFrame b with ⟨x, n, e⟩
  rcases rdFrame_cases hf with ⟨rfl, hx, hn⟩ | ⟨rfl, rfl, he, _⟩
  case inr =>
    have h1 : ((e : Int) != 0) = true := by simp; omega
    simp -implicitDefEqProofs [ufV, he, h1, decR, hf, decV, p0]
  by_cases hnb : n = b.length
  case neg =>
    have h1 : ((n : Int) != b.length) = true := by rw [neq_nat]; simpa using hnb
    simp -implicitDefEqProofs [ufV, h1, decR, hf, hnb, decV, p0]
  have h1 : ((n : Int) != b.length) = false := by rw [neq_nat]; simpa using hnb
  simp -implicitDefEqProofs [ufV, h1]
  refine wk_take ?_
  simp -implicitDefEqProofs
  refine wc_of (RUint_pc x) (by simp) (by simp) ?_
  rintro _ rfl
  rcases hu : rdUint x with ⟨s, k, e⟩
  rcases rdUint_cases hu with ⟨rfl, hs, hk0, hkl, hk10⟩ | ⟨rfl, rfl, he⟩
  case inr =>
    have he0 : e ≠ 0 := by omega
    have h2 : ((e : Int) != 0) = true := by simp; omega
    simp -implicitDefEqProofs [uintV, h2, decR, hf, hnb, hu, he0, decV, p0]
  have k0 : ¬ (k : Int) < 0 := by omega
  have htk : (x.drop k).take (x.length - k) = x.drop k := List.take_of_length_le (by simp)
  simp -implicitDefEqProofs [uintV, k0, hkl, bv_drop, bv_take, htk]
  refine wk_take ?_
  simp -implicitDefEqProofs
  refine wc_of (RUint_pc (x.drop k)) (by simp) (by simp) ?_
  rintro _ rfl
  rcases hw : rdUint (x.drop k) with ⟨a, j, e⟩
  rcases rdUint_cases hw with ⟨rfl, ha, hj0, hjl, hj10⟩ | ⟨rfl, rfl, he⟩
  case inr =>
    have he0 : e ≠ 0 := by omega
    have h2 : ((e : Int) != 0) = true := by simp; omega
    simp -implicitDefEqProofs [uintV, h2, decR, hf, hnb, hu, hw, he0, decV, p0]
  by_cases h3 : 1073741824 < s
  · have h3' : (s : Int) > 1073741824 := by omega
    simp -implicitDefEqProofs [uintV, h3', h3, decR, hf, hnb, hu, hw, decV, p0]
  have h3' : ¬ (s : Int) > 1073741824 := by omega
  by_cases h4 : 1073741824 < a
  · have h4' : (a : Int) > 1073741824 := by omega
    simp -implicitDefEqProofs [uintV, h3', h4', h3, h4, decR, hf, hnb, hu, hw, decV, p0]
  have h4' : ¬ (a : Int) > 1073741824 := by omega
  have w1 : IntKind.i64.wrap (s : Int) = s := wrap64 (by omega)
  have w2 : IntKind.i64.wrap (a : Int) = a := wrap64 (by omega)
  have hjl' : j ≤ x.length - k := by simpa using hjl
  have w3 : IntKind.i64.wrap ((k : Int) + j) = (k : Int) + j := wrap64 (by omega)
  have j0 : ¬ (k : Int) + j < 0 := by omega
  have j1 : ((k : Int) + j).toNat = k + j := by omega
  have j2 : k + j ≤ x.length := by omega
  have htj : (x.drop (k + j)).take (x.length - (k + j)) = x.drop (k + j) := List.take_of_length_le (by simp)
  have hm : x.length - (k + j) ≤ maxLen ∧ x.length - (k + j) ≤ maxBytes := by simp [maxLen, maxBytes]; omega
  simp -implicitDefEqProofs [uintV, h3', h4', w1, w2, w3, j0, j1, j2, bv_drop, bv_take, htj, hm]
  refine wk_bor ?_
  simp -implicitDefEqProofs
  refine wb_of (rvPacket_pc ⟨s, a, x.drop (k + j)⟩) (by simp [Pkt.v]) ?_
  rintro _ rfl
  refine ⟨rfl, ?_⟩
  by_cases hv : Pkt.valid ⟨s, a, x.drop (k + j)⟩ = true
  · simp -implicitDefEqProofs [hv, decR, hf, hnb, hu, hw, h3, h4, decV]
  · simp at hv
    simp -implicitDefEqProofs [hv, decR, hf, hnb, hu, hw, h3, h4, decV, p0]
/-- a packet is read back -/
theorem decR_enc {p : Pkt} (h : p.valid = true) : decR (frame (pay p)) = (p, 0) := by
  obtain ⟨s, a, hs, ha, hpe, hb⟩ := valid_nat h
  rw [hpe] at h ⊢
  have l2 := pay_len (s := s) (a := a) hb
  have h1 := rdFrame_put (pay ⟨s, a, p.body⟩) [] (by omega)
  rw [List.append_nil] at h1
  have hp : pay ⟨s, a, p.body⟩ = putUint s ++ (putUint a ++ p.body) := by simp [pay]
  have h2 := rdUint_put s (putUint a ++ p.body) (by omega)
  have h3 := rdUint_put a p.body (by omega)
  have h4 : (putUint s ++ (putUint a ++ p.body)).drop (putUint s).length = putUint a ++ p.body := List.drop_left
  have h5 : (putUint s ++ (putUint a ++ p.body)).drop ((putUint s).length + (putUint a).length) = p.body := by
    rw [← List.append_assoc, ← List.length_append, List.drop_left]
  have e1 : ¬ 1073741824 < s := by omega
  have e2 : ¬ 1073741824 < a := by omega
  simp only [decR, h1]
  rw [hp, h2]
  simp only [h4, h3, h5]
  simp [e1, e2, h]
end Go.Proofs.Ytjgcjahngmkfdaa

namespace Go.Proofs.Ytjgcjahngmkfdaa
open Go.RowKit Go.Proofs

@[simp] theorem bytesOf_nil2 : bytesOf [] = some [] := rfl
theorem tmod_pos {n m : Int} (hm : 0 < m) : (n.tmod m < 0 ∧ n % m = n.tmod m + m) ∨ (¬ n.tmod m < 0 ∧ n % m = n.tmod m) := by
  have h1 := Int.emod_nonneg n (b := m) (by omega)
  have h2 := Int.emod_lt_of_pos n hm
  rw [Int.tmod_eq_emod]
  split
  · right; omega
  · left; omega
theorem Mod_pc (n m : Int) (h1 : 1 ≤ m) (h2 : m ≤ 4611686018427387904) : PC Try.prog 21 [.s (.int .i64 n), .s (.int .i64 m)] (fun r => r = .s (.int .i64 (n % m))) := by
  refine pc_end c21 mixed rfl ?_
  have e1 : ¬ m < 1 := by omega
  have e2 : ¬ m = 0 := by omega
  have hb := Int.emod_nonneg n (b := m) (by omega)
  have hc := Int.emod_lt_of_pos n (b := m) (by omega)
  rcases tmod_pos (n := n) (m := m) (by omega) with ⟨h3, h4⟩ | ⟨h3, h4⟩
  · have e3 : IntKind.i64.wrap (n.tmod m + m) = n.tmod m + m := wrap64 (by omega)
    simp -implicitDefEqProofs [a21, F21, e1, e2, h3, h4, e3]
  · simp -implicitDefEqProofs [a21, F21, e1, e2, h3, h4]
def lcQ (p : Pkt) (raw : List UInt8) : Pkt := ⟨p.seq % 9 + 1, p.ack % 300, 1 :: raw.take (raw.length / 2)⟩
def lcXS (p : Pkt) (raw : List UInt8) : List V := [p.v, (lcQ p raw).v]
theorem lcXS_get {p : Pkt} {raw : List UInt8} (hp : p.body.length ≤ 5000) (hr : raw.length ≤ 5000) {i : Nat} (hi : i < 2) : ∃ x : Pkt, x.body.length ≤ 5001 ∧ (lcXS p raw)[i]? = some (.agg [.s (.int .i64 x.seq), .s (.int .i64 x.ack), .list 1 (bv x.body)]) := by
  rcases Nat.lt_succ_iff_lt_or_eq.1 hi with h1 | rfl
  · have : i = 0 := by omega
    subst this
    exact ⟨p, by omega, rfl⟩
  · exact ⟨lcQ p raw, by simp [lcQ]; omega, rfl⟩
def lcInv (p : Pkt) (raw : List UInt8) (k : Nat) (S : St) : Prop := ∃ i, i + k = 2 ∧
  S = ⟨tmL [(2, .ptr 0 0), (45, .list 3 (lcXS p raw)), (46, .s (.int .i64 2)), (47, .s (.int .i64 i))], [p.v, .list 1 (bv raw), .s (.bool false), .own false 27 3 (lcXS p raw), .no, .no, .no, .no, .no, .no, .no],
    [[.s (.int .i64 p.seq), .s (.int .i64 p.ack), .list 1 (bv p.body)]], 0⟩
theorem sNil (s a : Int) : PC Try.prog 18 [.agg [.s (.int .i64 s), .s (.int .i64 a), .s (.slice none 0 0)], .agg [.s (.int .i64 s), .s (.int .i64 a), .s (.slice none 0 0)]] (fun r => r = .s (.bool true)) := by
  refine pc_nil (ys := [Pkt.v ⟨s, a, []⟩, Pkt.v ⟨s, a, []⟩]) ?_ (by simp [Pkt.v, bv]) (by simp [Pkt.v])
  have := rSameP_pc ⟨s, a, []⟩ ⟨s, a, []⟩
  simpa [sameP] using this
theorem sSelf (s a : Int) (m : List UInt8) : PC Try.prog 18 [.agg [.s (.int .i64 s), .s (.int .i64 a), .list 1 (bv m)], .agg [.s (.int .i64 s), .s (.int .i64 a), .list 1 (bv m)]] (fun r => r = .s (.bool true)) := by
  have := rSameP_pc ⟨s, a, m⟩ ⟨s, a, m⟩
  simpa [sameP, Pkt.v] using this
theorem sameP_self (p : Pkt) : sameP p p = true := by simp [sameP]
set_option maxHeartbeats 8000000 in
set_option maxRecDepth 10000 in
theorem LinkCodes_pc (p : Pkt) (raw : List UInt8) : PC Try.prog 4 [p.v, .list 1 (bv raw)] (fun r => r = .s (.bool true)) := by
  refine pc_end c4 mixed rfl ?_
  by_cases hp : (p.body.length : Int) > 5000
  · simp -implicitDefEqProofs [a4, F4, Pkt.v, hp]
    refine wk_take ?_
    simp -implicitDefEqProofs
    refine wc_of awake_pc (by simp) (by simp) ?_
    rintro _ rfl
    simp -implicitDefEqProofs
  by_cases hr : (raw.length : Int) > 5000
  · simp -implicitDefEqProofs [a4, F4, Pkt.v, hp, hr]
    refine wk_take ?_
    simp -implicitDefEqProofs
    refine wc_of awake_pc (by simp) (by simp) ?_
    rintro _ rfl
    simp -implicitDefEqProofs
  have q1 : (raw.length : Int).tdiv 2 = ((raw.length / 2 : Nat) : Int) := by rw [Int.tdiv_eq_ediv_of_nonneg (by omega)]; rfl
  have q2 : IntKind.i64.wrap ((raw.length : Int) / 2) = (raw.length : Int) / 2 := wrap64 (by omega)
  have q3 : ¬ (raw.length : Int) / 2 < 0 := by omega
  have q4 : ((raw.length : Int) / 2).toNat = raw.length / 2 := by omega
  have q5 : raw.length / 2 ≤ raw.length := by omega
  have q6 : min (raw.length / 2) raw.length = raw.length / 2 := by omega
  have q7 : 1 + raw.length / 2 ≤ maxLen ∧ 1 + raw.length / 2 ≤ maxBytes := by simp [maxLen, maxBytes]; omega
  have q8 : IntKind.i64.wrap (p.seq % 9 + 1) = p.seq % 9 + 1 := wrap64 (by omega)
  simp -implicitDefEqProofs [a4, F4, Pkt.v, hp, hr]
  refine wkd_take ?_
  simp -implicitDefEqProofs
  refine wcd_of (Mod_pc p.seq 9 (by omega) (by omega)) (by simp) (by simp) ?_
  simp -implicitDefEqProofs [q8]
  refine wkd_take ?_
  simp -implicitDefEqProofs
  refine wcd_of (Mod_pc p.ack 300 (by omega) (by omega)) (by simp) (by simp) ?_
  simp -implicitDefEqProofs [q1, q2, q3, q4, q5, q6, q7, bv_take]
  refine w_rounds [2, 45, 46, 47] [4, 5, 6, 7, 8] 1 (Nat.zero_le _) (lcInv p raw) 2 ⟨by simp, 0, by simp, by simp [Pkt.v, lcXS, lcQ, bv]⟩ ?_
  rintro k S ⟨i, hi, rfl⟩
  by_cases hi2 : i < 2
  case neg =>
    have h4 : ¬ (i : Int) < 2 := by omega
    simp -implicitDefEqProofs [h4]
    refine wk_take ?_
    simp -implicitDefEqProofs
    refine wc_of (Decode_pc raw (by omega)) (by simp) (by simp) ?_
    rintro _ rfl
    rcases hd : decR raw with ⟨⟨s, a, b⟩, e⟩
    by_cases he : e = 0
    · subst he
      simp -implicitDefEqProofs [decV]
      refine wk_take ?_
      simp -implicitDefEqProofs
      refine wc_of (rDecode_pc raw (by omega)) (by simp) (by simp) ?_
      rintro _ rfl
      simp -implicitDefEqProofs [decV, hd]
      refine wk_take ?_
      simp -implicitDefEqProofs
      refine wc_of awake_pc (by simp) (by simp) ?_
      rintro _ rfl
      simp -implicitDefEqProofs
      refine wk_bor ?_
      simp -implicitDefEqProofs
      refine wb_of (sSelf s a b) (by simp) ?_
      rintro _ rfl
      refine ⟨rfl, ?_⟩
      simp -implicitDefEqProofs
    · simp -implicitDefEqProofs [decV, he]
      refine wk_take ?_
      simp -implicitDefEqProofs
      refine wc_of (rDecode_pc raw (by omega)) (by simp) (by simp) ?_
      rintro _ rfl
      simp -implicitDefEqProofs [decV, hd, he]
      refine wk_take ?_
      simp -implicitDefEqProofs
      refine wc_of awake_pc (by simp) (by simp) ?_
      rintro _ rfl
      simp -implicitDefEqProofs
      refine wk_bor ?_
      simp -implicitDefEqProofs
      refine wb_of (sNil s a) (by simp) ?_
      rintro _ rfl
      refine ⟨rfl, ?_⟩
      simp -implicitDefEqProofs
  have h4 : (i : Int) < 2 := by omega
  have h5 : ¬ (i : Int) < 0 := by omega
  obtain ⟨x, hx, hg⟩ := lcXS_get (p := p) (raw := raw) (by omega) (by omega) hi2
  have hwp : IntKind.i64.wrap ((i : Int) + 1) = (i : Int) + 1 := wrap64 (by omega)
  simp -implicitDefEqProofs [h4, h5, hg]
  refine wk_take ?_
  simp -implicitDefEqProofs
  refine wc_of (Encode_pc x (by omega)) (by simp [Pkt.v]) (by simp [Pkt.v]) ?_
  rintro _ rfl
  by_cases hv : x.valid = true
  · have hfl : (frame (pay x)).length ≤ 1000000 := by
      obtain ⟨s, a, hs, ha, hpe, hb⟩ := valid_nat hv
      have h1 := pay_len (s := s) (a := a) hb
      rw [← hpe] at h1
      have h2 := putUint_len (pay x).length
      simp [frame, sumB]
      omega
    simp -implicitDefEqProofs [encV, hv]
    refine wk_take ?_
    simp -implicitDefEqProofs
    refine wc_of (rEncode_pc x (by omega)) (by simp [Pkt.v]) (by simp [Pkt.v]) ?_
    rintro _ rfl
    simp -implicitDefEqProofs [encV, hv]
    refine wk_take ?_
    simp -implicitDefEqProofs
    refine wc_of (Decode_pc (frame (pay x)) hfl) (by simp) (by simp) ?_
    rintro _ rfl
    rw [decR_enc hv]
    simp -implicitDefEqProofs [decV]
    refine wk_bor ?_
    simp -implicitDefEqProofs
    refine wb_of (sSelf x.seq x.ack x.body) (by simp) ?_
    rintro _ rfl
    refine ⟨rfl, ?_⟩
    simp -implicitDefEqProofs [hwp]
    refine ⟨rfl, ?_⟩
    exact ⟨k - 1, by omega, i + 1, by omega, by rfl⟩
  · simp at hv
    simp -implicitDefEqProofs [encV, hv]
    refine wk_take ?_
    simp -implicitDefEqProofs
    refine wc_of (rEncode_pc x (by omega)) (by simp [Pkt.v]) (by simp [Pkt.v]) ?_
    rintro _ rfl
    simp -implicitDefEqProofs [encV, hv]
    refine wk_take ?_
    simp -implicitDefEqProofs
    refine wc_nil (args := [.list 1 (bv [])]) (Decode_pc [] (by simp)) (by simp [bv]) (by simp) (by simp) ?_
    rintro _ rfl
    rcases hd : decR [] with ⟨⟨s, a, b⟩, e⟩
    by_cases he : e = 0
    · subst he
      simp -implicitDefEqProofs [decV, hwp]
      refine ⟨rfl, ?_⟩
      exact ⟨k - 1, by omega, i + 1, by omega, by rfl⟩
    · simp -implicitDefEqProofs [decV, he, hwp]
      refine ⟨rfl, ?_⟩
      exact ⟨k - 1, by omega, i + 1, by omega, by rfl⟩
end Go.Proofs.Ytjgcjahngmkfdaa
