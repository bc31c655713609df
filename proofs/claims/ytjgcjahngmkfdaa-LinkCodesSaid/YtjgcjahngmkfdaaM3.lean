/- Texts put behind one another: L13, L14, L15. -/
import Derived.Test.YtjgcjahngmkfdaaCD
import Derived.Test.YtjgcjahngmkfdaaM1
set_option linter.unusedVariables false
set_option linter.unusedSimpArgs false
namespace Go.Proofs.Ytjgcjahngmkfdaa
open Go.RowKit Go.Proofs

/-- the payload of a packet -/
def pay (p : Pkt) : List UInt8 := putUint p.seq.toNat ++ putUint p.ack.toNat ++ p.body
def encV (p : Pkt) : V := if p.valid then .tup [.own true 5 1 (bv (frame (pay p))), .s (.int .i64 0)] else .tup [.s (.slice none 0 0), .s (.int .i64 2)]
theorem valid_nat {p : Pkt} (h : p.valid = true) : ∃ s a : Nat, s ≤ 1073741824 ∧ a ≤ 1073741824 ∧ p = ⟨s, a, p.body⟩ ∧ p.body.length ≤ 4064 := by
  obtain ⟨s, a, b⟩ := p
  simp only [Pkt.valid, Bool.and_eq_true, decide_eq_true_eq] at h
  obtain ⟨⟨h1, h2, h3, h4⟩, h5⟩ := h
  refine ⟨s.toNat, a.toNat, by omega, by omega, by simp; omega, ?_⟩
  split at h5
  · simp at h5; simp [h5]
  · simp [isBody] at h5; exact h5.2
theorem pay_len {s a : Nat} {b : List UInt8} (hb : b.length ≤ 4064) : (pay ⟨s, a, b⟩).length ≤ 4084 := by
  have h1 := putUint_len s
  have h2 := putUint_len a
  simp [pay]
  omega
theorem Encode_pc (p : Pkt) (hp : p.body.length ≤ 100000) : PC Try.prog 22 [p.v] (fun r => r = encV p) := by
  refine pc_end c22 mixed rfl ?_
  simp -implicitDefEqProofs [a22, F22, Pkt.v]
  refine wk_take ?_
  simp -implicitDefEqProofs
  refine wc_of (validPacket_pc p) (by simp [Pkt.v]) (by simp [Pkt.v]) ?_
  rintro _ rfl
  by_cases hv : p.valid = true
  case neg =>
    simp at hv
    simp -implicitDefEqProofs [hv, encV]
  obtain ⟨s, a, hs, ha, hpe, hb⟩ := valid_nat hv
  rw [hpe]
  rw [hpe] at hv
  have w1 : IntKind.u64.wrap (s : Int) = s := by rw [IntKind.wrap_u64]; omega
  have w2 : IntKind.u64.wrap (a : Int) = a := by rw [IntKind.wrap_u64]; omega
  simp -implicitDefEqProofs [hv, w1, encV]
  refine wk_take ?_
  simp -implicitDefEqProofs
  refine wc_of (PutUint_nil s (by omega)) (by simp) (by simp) ?_
  rintro _ rfl
  simp -implicitDefEqProofs [w2]
  refine wk_take ?_
  simp -implicitDefEqProofs
  have l1 := putUint_len s
  refine wc_of (PutUint_pc (putUint s) a (by omega) (by omega)) (by simp) (by simp) ?_
  rintro _ rfl
  have l2 := pay_len (s := s) (a := a) hb
  have l3 : (putUint s).length + (putUint a).length + p.body.length ≤ maxLen ∧ (putUint s).length + (putUint a).length + p.body.length ≤ maxBytes := by
    simp [pay] at l2
    simp [maxLen, maxBytes]
    omega
  simp -implicitDefEqProofs [l3]
  refine wk_take ?_
  simp -implicitDefEqProofs
  refine wc_of (Frame_pc (pay ⟨s, a, p.body⟩) (by omega)) (by simp [pay, bv_append]) (by simp) ?_
  rintro _ rfl
  have l4 : ¬ 4096 < (pay ⟨s, a, p.body⟩).length := by omega
  simp -implicitDefEqProofs [frameV, l4]
theorem rEncode_pc (p : Pkt) (hp : p.body.length ≤ 100000) : PC Try.prog 23 [p.v] (fun r => r = encV p) := by
  refine pc_end c23 mixed rfl ?_
  simp -implicitDefEqProofs [a23, F23, Pkt.v]
  refine wk_take ?_
  simp -implicitDefEqProofs
  refine wc_of (rvPacket_pc p) (by simp [Pkt.v]) (by simp [Pkt.v]) ?_
  rintro _ rfl
  by_cases hv : p.valid = true
  case neg =>
    simp at hv
    simp -implicitDefEqProofs [hv, encV]
  obtain ⟨s, a, hs, ha, hpe, hb⟩ := valid_nat hv
  rw [hpe]
  rw [hpe] at hv
  have w1 : IntKind.u64.wrap (s : Int) = s := by rw [IntKind.wrap_u64]; omega
  have w2 : IntKind.u64.wrap (a : Int) = a := by rw [IntKind.wrap_u64]; omega
  simp -implicitDefEqProofs [hv, w1, w2, encV]
  refine wkd_take ?_
  simp -implicitDefEqProofs
  refine wcd_of (RPutUint_nil s (by omega)) (by simp) (by simp) ?_
  simp -implicitDefEqProofs [w2]
  refine wkd_take ?_
  simp -implicitDefEqProofs
  have l1 := putUint_len s
  refine wcd_of (RPutUint_pc (putUint s) a (by omega) (by omega)) (by simp) (by simp) ?_
  have l2 := pay_len (s := s) (a := a) hb
  have l3 : (putUint s).length + (putUint a).length + p.body.length ≤ maxLen ∧ (putUint s).length + (putUint a).length + p.body.length ≤ maxBytes := by
    simp [pay] at l2
    simp [maxLen, maxBytes]
    omega
  simp -implicitDefEqProofs [l3]
  refine wk_take ?_
  simp -implicitDefEqProofs
  refine wc_of (RFrame_pc (pay ⟨s, a, p.body⟩) (by omega)) (by simp [pay, bv_append]) (by simp) ?_
  rintro _ rfl
  have l4 : ¬ 4096 < (pay ⟨s, a, p.body⟩).length := by omega
  simp -implicitDefEqProofs [frameV, l4]
end Go.Proofs.Ytjgcjahngmkfdaa

namespace Go.Proofs.Ytjgcjahngmkfdaa
open Go.RowKit Go.Proofs

def p0 : Pkt := ⟨0, 0, []⟩
/-- what Decode reads -/
def decR (b : List UInt8) : Pkt × Nat :=
  let f := rdFrame b
  if f.2.2 ≠ 0 then (p0, f.2.2)
  else if f.2.1 ≠ b.length then (p0, 6)
  else
    let u := rdUint f.1
    if u.2.2 ≠ 0 then (p0, u.2.2)
    else
      let w := rdUint (f.1.drop u.2.1)
      if w.2.2 ≠ 0 then (p0, w.2.2)
      else if 1073741824 < u.1 ∨ 1073741824 < w.1 then (p0, 2)
      else if Pkt.valid ⟨u.1, w.1, f.1.drop (u.2.1 + w.2.1)⟩ then (⟨u.1, w.1, f.1.drop (u.2.1 + w.2.1)⟩, 0) else (p0, 2)
def decV (r : Pkt × Nat) : V := .tup [.agg [.s (.int .i64 r.1.seq), .s (.int .i64 r.1.ack), if r.2 = 0 then .own true 5 1 (bv r.1.body) else .s (.slice none 0 0)], .s (.int .i64 r.2)]
theorem rdFrame_cases {l x : List UInt8} {n e : Nat} (h : rdFrame l = (x, n, e)) : (e = 0 ∧ x.length ≤ 4096 ∧ n ≤ l.length) ∨ (x = [] ∧ n = 0 ∧ e ≠ 0 ∧ e < 10) := by
  rcases hr : rdUint l with ⟨v, k, e'⟩
  rcases rdUint_cases hr with ⟨rfl, hv, hk0, hkl, hk10⟩ | ⟨rfl, rfl, he⟩
  · by_cases h1 : 4096 < v
    · rw [rdFrame_long hr h1] at h; cases h; exact .inr ⟨rfl, rfl, by omega, by omega⟩
    by_cases h2 : l.length - k < v + 4
    · rw [rdFrame_short hr h1 h2] at h; cases h; exact .inr ⟨rfl, rfl, by omega, by omega⟩
    by_cases h3 : be ((l.drop (k + v)).take 4) = crc ((l.drop k).take v)
    · rw [rdFrame_ok hr h1 h2 h3] at h; cases h; exact .inl ⟨rfl, by simp; omega, by omega⟩
    · rw [rdFrame_sum hr h1 h2 h3] at h; cases h; exact .inr ⟨rfl, rfl, by omega, by omega⟩
  · rw [rdFrame_e hr (by omega)] at h; cases h; exact .inr ⟨rfl, rfl, by omega, by omega⟩
theorem Decode_pc (b : List UInt8) (hb : b.length ≤ 1000000) : PC Try.prog 24 [.list 1 (bv b)] (fun r => r = decV (decR b)) := by
  refine pc_end c24 mixed rfl ?_
  simp -implicitDefEqProofs [a24, F24]
  refine wk_take ?_
  simp -implicitDefEqProofs
  refine wc_of (Unframe_pc b hb) (by simp) (by simp) ?_
  rintro _ rfl
  rcases hf : rdFrame b with ⟨x, n, e⟩
  rcases rdFrame_cases hf with ⟨rfl, hx, hn⟩ | ⟨rfl, rfl, he, _⟩
  case inr =>
    have h1 : ((e : Int) != 0) = true := by simp; omega
    simp -implicitDefEqProofs [ufV, he, h1, decR, hf, decV, p0]
  by_cases hnb : n = b.length
  case neg =>
    have h1 : ((n : Int) != b.length) = true := by rw [neq_nat]; simpa using hnb
    simp -implicitDefEqProofs [ufV, h1, decR, hf, hnb, decV, p0]
  have h1 : ((n : Int) != b.length) = false := by rw [neq_nat]; simpa using hnb
  simp -implicitDefEqProofs [ufV, h1]
  refine wk_take ?_
  simp -implicitDefEqProofs
  refine wc_of (Uint_pc x) (by simp) (by simp) ?_
  rintro _ rfl
  rcases hu : rdUint x with ⟨s, k, e⟩
  rcases rdUint_cases hu with ⟨rfl, hs, hk0, hkl, hk10⟩ | ⟨rfl, rfl, he⟩
  case inr =>
    have he0 : e ≠ 0 := by omega
    have h2 : ((e : Int) != 0) = true := by simp; omega
    simp -implicitDefEqProofs [uintV, h2, decR, hf, hnb, hu, he0, decV, p0]
  have k0 : ¬ (k : Int) < 0 := by omega
  have htk : (x.drop k).take (x.length - k) = x.drop k := List.take_of_length_le (by simp)
  simp -implicitDefEqProofs [uintV, k0, hkl, bv_drop, bv_take, htk]
  refine wk_take ?_
  simp -implicitDefEqProofs
  refine wc_of (Uint_pc (x.drop k)) (by simp) (by simp) ?_
  rintro _ rfl
  rcases hw : rdUint (x.drop k) with ⟨a, j, e⟩
  rcases rdUint_cases hw with ⟨rfl, ha, hj0, hjl, hj10⟩ | ⟨rfl, rfl, he⟩
  case inr =>
    have he0 : e ≠ 0 := by omega
    have h2 : ((e : Int) != 0) = true := by simp; omega
    simp -implicitDefEqProofs [uintV, h2, decR, hf, hnb, hu, hw, he0, decV, p0]
  by_cases h3 : 1073741824 < s
  · have h3' : (s : Int) > 1073741824 := by omega
    simp -implicitDefEqProofs [uintV, h3', h3, decR, hf, hnb, hu, hw, decV, p0]
  have h3' : ¬ (s : Int) > 1073741824 := by omega
  by_cases h4 : 1073741824 < a
  · have h4' : (a : Int) > 1073741824 := by omega
    simp -implicitDefEqProofs [uintV, h3', h4', h3, h4, decR, hf, hnb, hu, hw, decV, p0]
  have h4' : ¬ (a : Int) > 1073741824 := by omega
  have w1 : IntKind.i64.wrap (s : Int) = s := wrap64 (by omega)
  have w2 : IntKind.i64.wrap (a : Int) = a := wrap64 (by omega)
  have j0 : ¬ (j : Int) < 0 := by omega
  have hjl' : j ≤ x.length - k := by simpa using hjl
  have htj : ((x.drop k).drop j).take (x.length - k - j) = (x.drop k).drop j := List.take_of_length_le (by simp; omega)
  simp -implicitDefEqProofs only [List.drop_drop] at htj
  simp -implicitDefEqProofs [uintV, h3', h4', w1, w2, j0, hjl', bv_drop, bv_take, htj]
  refine wk_take ?_
  simp -implicitDefEqProofs
  refine wc_of (clone_pc (bv (x.drop (k + j))) (by simp; omega)) (by simp) (by simp) ?_
  rintro _ rfl
  simp -implicitDefEqProofs
  refine wk_bor ?_
  simp -implicitDefEqProofs
  refine wb_of (validPacket_pc ⟨s, a, x.drop (k + j)⟩) (by simp [Pkt.v]) ?_
  rintro _ rfl
  refine ⟨rfl, ?_⟩
  by_cases hv : Pkt.valid ⟨s, a, x.drop (k + j)⟩ = true
  · simp -implicitDefEqProofs [hv, decR, hf, hnb, hu, hw, h3, h4, decV]
  · simp at hv
    simp -implicitDefEqProofs [hv, decR, hf, hnb, hu, hw, h3, h4, decV, p0]
theorem rDecode_pc (b : List UInt8) (hb : b.length ≤ 1000000) : PC Try.prog 25 [.list 1 (bv b)] (fun r => r = decV (decR b)) := by
  refine pc_end c25 mixed rfl ?_
  simp -implicitDefEqProofs [a25, F25]
  refine wk_take ?_
  simp -implicitDefEqProofs
  refine wc_of (RUnframe_pc b hb) (by simp) (by simp) ?_
  rintro _ rfl
  rcases hf : rdFrame b with ⟨x, n, e⟩
  rcases rdFrame_cases hf with ⟨rfl, hx, hn⟩ | ⟨rfl, rfl, he, _⟩
  case inr =>
    have h1 : ((e : Int) != 0) = true := by simp; omega
    simp -implicitDefEqProofs [ufV, he, h1, decR, hf, decV, p0]
  by_cases hnb : n = b.length
  case neg =>
    have h1 : ((n : Int) != b.length) = true := by rw [neq_nat]; simpa using hnb
    simp -implicitDefEqProofs [ufV, h1, decR, hf, hnb, decV, p0]
  have h1 : ((n : Int) != b.length) = false := by rw [neq_nat]; simpa using hnb
  simp -implicitDefEqProofs [ufV, h1]
  refine wk_take ?_
  simp -implicitDefEqProofs
  refine wc_of (RUint_pc x) (by simp) (by simp) ?_
  rintro _ rfl
  rcases hu : rdUint x with ⟨s, k, e⟩
  rcases rdUint_cases hu with ⟨rfl, hs, hk0, hkl, hk10⟩ | ⟨rfl, rfl, he⟩
  case inr =>
    have he0 : e ≠ 0 := by omega
    have h2 : ((e : Int) != 0) = true := by simp; omega
    simp -implicitDefEqProofs [uintV, h2, decR, hf, hnb, hu, he0, decV, p0]
  have k0 : ¬ (k : Int) < 0 := by omega
  have htk : (x.drop k).take (x.length - k) = x.drop k := List.take_of_length_le (by simp)
  simp -implicitDefEqProofs [uintV, k0, hkl, bv_drop, bv_take, htk]
  refine wk_take ?_
  simp -implicitDefEqProofs
  refine wc_of (RUint_pc (x.drop k)) (by simp) (by simp) ?_
  rintro _ rfl
  rcases hw : rdUint (x.drop k) with ⟨a, j, e⟩
  rcases rdUint_cases hw with ⟨rfl, ha, hj0, hjl, hj10⟩ | ⟨rfl, rfl, he⟩
  case inr =>
    have he0 : e ≠ 0 := by omega
    have h2 : ((e : Int) != 0) = true := by simp; omega
    simp -implicitDefEqProofs [uintV, h2, decR, hf, hnb, hu, hw, he0, decV, p0]
  by_cases h3 : 1073741824 < s
  · have h3' : (s : Int) > 1073741824 := by omega
    simp -implicitDefEqProofs [uintV, h3', h3, decR, hf, hnb, hu, hw, decV, p0]
  have h3' : ¬ (s : Int) > 1073741824 := by omega
  by_cases h4 : 1073741824 < a
  · have h4' : (a : Int) > 1073741824 := by omega
    simp -implicitDefEqProofs [uintV, h3', h4', h3, h4, decR, hf, hnb, hu, hw, decV, p0]
  have h4' : ¬ (a : Int) > 1073741824 := by omega
  have w1 : IntKind.i64.wrap (s : Int) = s := wrap64 (by omega)
  have w2 : IntKind.i64.wrap (a : Int) = a := wrap64 (by omega)
  have hjl' : j ≤ x.length - k := by simpa using hjl
  have w3 : IntKind.i64.wrap ((k : Int) + j) = (k : Int) + j := wrap64 (by omega)
  have j0 : ¬ (k : Int) + j < 0 := by omega
  have j1 : ((k : Int) + j).toNat = k + j := by omega
  have j2 : k + j ≤ x.length := by omega
  have htj : (x.drop (k + j)).take (x.length - (k + j)) = x.drop (k + j) := List.take_of_length_le (by simp)
  have hm : x.length - (k + j) ≤ maxLen ∧ x.length - (k + j) ≤ maxBytes := by simp [maxLen, maxBytes]; omega
  simp -implicitDefEqProofs [uintV, h3', h4', w1, w2, w3, j0, j1, j2, bv_drop, bv_take, htj, hm]
  refine wk_bor ?_
  simp -implicitDefEqProofs
  refine wb_of (rvPacket_pc ⟨s, a, x.drop (k + j)⟩) (by simp [Pkt.v]) ?_
  rintro _ rfl
  refine ⟨rfl, ?_⟩
  by_cases hv : Pkt.valid ⟨s, a, x.drop (k + j)⟩ = true
  · simp -implicitDefEqProofs [hv, decR, hf, hnb, hu, hw, h3, h4, decV]
  · simp at hv
    simp -implicitDefEqProofs [hv, decR, hf, hnb, hu, hw, h3, h4, decV, p0]
/-- a packet is read back -/
theorem decR_enc {p : Pkt} (h : p.valid = true) : decR (frame (pay p)) = (p, 0) := by
  obtain ⟨s, a, hs, ha, hpe, hb⟩ := valid_nat h
  rw [hpe] at h ⊢
  have l2 := pay_len (s := s) (a := a) hb
  have h1 := rdFrame_put (pay ⟨s, a, p.body⟩) [] (by omega)
  rw [List.append_nil] at h1
  have hp : pay ⟨s, a, p.body⟩ = putUint s ++ (putUint a ++ p.body) := by simp [pay]
  have h2 := rdUint_put s (putUint a ++ p.body) (by omega)
  have h3 := rdUint_put a p.body (by omega)
  have h4 : (putUint s ++ (putUint a ++ p.body)).drop (putUint s).length = putUint a ++ p.body := List.drop_left
  have h5 : (putUint s ++ (putUint a ++ p.body)).drop ((putUint s).length + (putUint a).length) = p.body := by
    rw [← List.append_assoc, ← List.length_append, List.drop_left]
  have e1 : ¬ 1073741824 < s := by omega
  have e2 : ¬ 1073741824 < a := by omega
  simp only [decR, h1]
  rw [hp, h2]
  simp only [h4, h3, h5]
  simp [e1, e2, h]
end Go.Proofs.Ytjgcjahngmkfdaa

namespace Go.Proofs.Ytjgcjahngmkfdaa
open Go.RowKit Go.Proofs

@[simp] theorem bytesOf_nil2 : bytesOf [] = some [] := rfl
theorem tmod_pos {n m : Int} (hm : 0 < m) : (n.tmod m < 0 ∧ n % m = n.tmod m + m) ∨ (¬ n.tmod m < 0 ∧ n % m = n.tmod m) := by
  have h1 := Int.emod_nonneg n (b := m) (by omega)
  have h2 := Int.emod_lt_of_pos n hm
  rw [Int.tmod_eq_emod]
  split
  · right; omega
  · left; omega
theorem Mod_pc (n m : Int) (h1 : 1 ≤ m) (h2 : m ≤ 4611686018427387904) : PC Try.prog 21 [.s (.int .i64 n), .s (.int .i64 m)] (fun r => r = .s (.int .i64 (n % m))) := by
  refine pc_end c21 mixed rfl ?_
  have e1 : ¬ m < 1 := by omega
  have e2 : ¬ m = 0 := by omega
  have hb := Int.emod_nonneg n (b := m) (by omega)
  have hc := Int.emod_lt_of_pos n (b := m) (by omega)
  rcases tmod_pos (n := n) (m := m) (by omega) with ⟨h3, h4⟩ | ⟨h3, h4⟩
  · have e3 : IntKind.i64.wrap (n.tmod m + m) = n.tmod m + m := wrap64 (by omega)
    simp -implicitDefEqProofs [a21, F21, e1, e2, h3, h4, e3]
  · simp -implicitDefEqProofs [a21, F21, e1, e2, h3, h4]
def lcQ (p : Pkt) (raw : List UInt8) : Pkt := ⟨p.seq % 9 + 1, p.ack % 300, 1 :: raw.take (raw.length / 2)⟩
def lcXS (p : Pkt) (raw : List UInt8) : List V := [p.v, (lcQ p raw).v]
theorem lcXS_get {p : Pkt} {raw : List UInt8} (hp : p.body.length ≤ 5000) (hr : raw.length ≤ 5000) {i : Nat} (hi : i < 2) : ∃ x : Pkt, x.body.length ≤ 5001 ∧ (lcXS p raw)[i]? = some (.agg [.s (.int .i64 x.seq), .s (.int .i64 x.ack), .list 1 (bv x.body)]) := by
  rcases Nat.lt_succ_iff_lt_or_eq.1 hi with h1 | rfl
  · have : i = 0 := by omega
    subst this
    exact ⟨p, by omega, rfl⟩
  · exact ⟨lcQ p raw, by simp [lcQ]; omega, rfl⟩
def lcInv (p : Pkt) (raw : List UInt8) (k : Nat) (S : St) : Prop := ∃ i, i + k = 2 ∧
  S = ⟨tmL [(2, .ptr 0 0), (45, .list 3 (lcXS p raw)), (46, .s (.int .i64 2)), (47, .s (.int .i64 i))], [p.v, .list 1 (bv raw), .s (.bool false), .own false 27 3 (lcXS p raw), .no, .no, .no, .no, .no, .no, .no],
    [[.s (.int .i64 p.seq), .s (.int .i64 p.ack), .list 1 (bv p.body)]], 0⟩
theorem sNil (s a : Int) : PC Try.prog 18 [.agg [.s (.int .i64 s), .s (.int .i64 a), .s (.slice none 0 0)], .agg [.s (.int .i64 s), .s (.int .i64 a), .s (.slice none 0 0)]] (fun r => r = .s (.bool true)) := by
  refine pc_nil (ys := [Pkt.v ⟨s, a, []⟩, Pkt.v ⟨s, a, []⟩]) ?_ (by simp [Pkt.v, bv]) (by simp [Pkt.v])
  have := rSameP_pc ⟨s, a, []⟩ ⟨s, a, []⟩
  simpa [sameP] using this
theorem sSelf (s a : Int) (m : List UInt8) : PC Try.prog 18 [.agg [.s (.int .i64 s), .s (.int .i64 a), .list 1 (bv m)], .agg [.s (.int .i64 s), .s (.int .i64 a), .list 1 (bv m)]] (fun r => r = .s (.bool true)) := by
  have := rSameP_pc ⟨s, a, m⟩ ⟨s, a, m⟩
  simpa [sameP, Pkt.v] using this
theorem sameP_self (p : Pkt) : sameP p p = true := by simp [sameP]
set_option maxHeartbeats 8000000 in
set_option maxRecDepth 10000 in
theorem LinkCodes_pc (p : Pkt) (raw : List UInt8) : PC Try.prog 4 [p.v, .list 1 (bv raw)] (fun r => r = .s (.bool true)) := by
  refine pc_end c4 mixed rfl ?_
  by_cases hp : (p.body.length : Int) > 5000
  · simp -implicitDefEqProofs [a4, F4, Pkt.v, hp]
    refine wk_take ?_
    simp -implicitDefEqProofs
    refine wc_of awake_pc (by simp) (by simp) ?_
    rintro _ rfl
    simp -implicitDefEqProofs
  by_cases hr : (raw.length : Int) > 5000
  · simp -implicitDefEqProofs [a4, F4, Pkt.v, hp, hr]
    refine wk_take ?_
    simp -implicitDefEqProofs
    refine wc_of awake_pc (by simp) (by simp) ?_
    rintro _ rfl
    simp -implicitDefEqProofs
  have q1 : (raw.length : Int).tdiv 2 = ((raw.length / 2 : Nat) : Int) := by rw [Int.tdiv_eq_ediv_of_nonneg (by omega)]; rfl
  have q2 : IntKind.i64.wrap ((raw.length : Int) / 2) = (raw.length : Int) / 2 := wrap64 (by omega)
  have q3 : ¬ (raw.length : Int) / 2 < 0 := by omega
  have q4 : ((raw.length : Int) / 2).toNat = raw.length / 2 := by omega
  have q5 : raw.length / 2 ≤ raw.length := by omega
  have q6 : min (raw.length / 2) raw.length = raw.length / 2 := by omega
  have q7 : 1 + raw.length / 2 ≤ maxLen ∧ 1 + raw.length / 2 ≤ maxBytes := by simp [maxLen, maxBytes]; omega
  have q8 : IntKind.i64.wrap (p.seq % 9 + 1) = p.seq % 9 + 1 := wrap64 (by omega)
  simp -implicitDefEqProofs [a4, F4, Pkt.v, hp, hr]
  refine wkd_take ?_
  simp -implicitDefEqProofs
  refine wcd_of (Mod_pc p.seq 9 (by omega) (by omega)) (by simp) (by simp) ?_
  simp -implicitDefEqProofs [q8]
  refine wkd_take ?_
  simp -implicitDefEqProofs
  refine wcd_of (Mod_pc p.ack 300 (by omega) (by omega)) (by simp) (by simp) ?_
  simp -implicitDefEqProofs [q1, q2, q3, q4, q5, q6, q7, bv_take]
  refine w_rounds [2, 45, 46, 47] [4, 5, 6, 7, 8] 1 (Nat.zero_le _) (lcInv p raw) 2 ⟨by simp, 0, by simp, by simp [Pkt.v, lcXS, lcQ, bv]⟩ ?_
  rintro k S ⟨i, hi, rfl⟩
  by_cases hi2 : i < 2
  case neg =>
    have h4 : ¬ (i : Int) < 2 := by omega
    simp -implicitDefEqProofs [h4]
    refine wk_take ?_
    simp -implicitDefEqProofs
    refine wc_of (Decode_pc raw (by omega)) (by simp) (by simp) ?_
    rintro _ rfl
    rcases hd : decR raw with ⟨⟨s, a, b⟩, e⟩
    by_cases he : e = 0
    · subst he
      simp -implicitDefEqProofs [decV]
      refine wk_take ?_
      simp -implicitDefEqProofs
      refine wc_of (rDecode_pc raw (by omega)) (by simp) (by simp) ?_
      rintro _ rfl
      simp -implicitDefEqProofs [decV, hd]
      refine wk_take ?_
      simp -implicitDefEqProofs
      refine wc_of awake_pc (by simp) (by simp) ?_
      rintro _ rfl
      simp -implicitDefEqProofs
      refine wk_bor ?_
      simp -implicitDefEqProofs
      refine wb_of (sSelf s a b) (by simp) ?_
      rintro _ rfl
      refine ⟨rfl, ?_⟩
      simp -implicitDefEqProofs
    · simp -implicitDefEqProofs [decV, he]
      refine wk_take ?_
      simp -implicitDefEqProofs
      refine wc_of (rDecode_pc raw (by omega)) (by simp) (by simp) ?_
      rintro _ rfl
      simp -implicitDefEqProofs [decV, hd, he]
      refine wk_take ?_
      simp -implicitDefEqProofs
      refine wc_of awake_pc (by simp) (by simp) ?_
      rintro _ rfl
      simp -implicitDefEqProofs
      refine wk_bor ?_
      simp -implicitDefEqProofs
      refine wb_of (sNil s a) (by simp) ?_
      rintro _ rfl
      refine ⟨rfl, ?_⟩
      simp -implicitDefEqProofs
  have h4 : (i : Int) < 2 := by omega
  have h5 : ¬ (i : Int) < 0 := by omega
  obtain ⟨x, hx, hg⟩ := lcXS_get (p := p) (raw := raw) (by omega) (by omega) hi2
  have hwp : IntKind.i64.wrap ((i : Int) + 1) = (i : Int) + 1 := wrap64 (by omega)
  simp -implicitDefEqProofs [h4, h5, hg]
  refine wk_take ?_
  simp -implicitDefEqProofs
  refine wc_of (Encode_pc x (by omega)) (by simp [Pkt.v]) (by simp [Pkt.v]) ?_
  rintro _ rfl
  by_cases hv : x.valid = true
  · have hfl : (frame (pay x)).length ≤ 1000000 := by
      obtain ⟨s, a, hs, ha, hpe, hb⟩ := valid_nat hv
      have h1 := pay_len (s := s) (a := a) hb
      rw [← hpe] at h1
      have h2 := putUint_len (pay x).length
      simp [frame, sumB]
      omega
    simp -implicitDefEqProofs [encV, hv]
    refine wk_take ?_
    simp -implicitDefEqProofs
    refine wc_of (rEncode_pc x (by omega)) (by simp [Pkt.v]) (by simp [Pkt.v]) ?_
    rintro _ rfl
    simp -implicitDefEqProofs [encV, hv]
    refine wk_take ?_
    simp -implicitDefEqProofs
    refine wc_of (Decode_pc (frame (pay x)) hfl) (by simp) (by simp) ?_
    rintro _ rfl
    rw [decR_enc hv]
    simp -implicitDefEqProofs [decV]
    refine wk_bor ?_
    simp -implicitDefEqProofs
    refine wb_of (sSelf x.seq x.ack x.body) (by simp) ?_
    rintro _ rfl
    refine ⟨rfl, ?_⟩
    simp -implicitDefEqProofs [hwp]
    refine ⟨rfl, ?_⟩
    exact ⟨k - 1, by omega, i + 1, by omega, by rfl⟩
  · simp at hv
    simp -implicitDefEqProofs [encV, hv]
    refine wk_take ?_
    simp -implicitDefEqProofs
    refine wc_of (rEncode_pc x (by omega)) (by simp [Pkt.v]) (by simp [Pkt.v]) ?_
    rintro _ rfl
    simp -implicitDefEqProofs [encV, hv]
    refine wk_take ?_
    simp -implicitDefEqProofs
    refine wc_nil (args := [.list 1 (bv [])]) (Decode_pc [] (by simp)) (by simp [bv]) (by simp) (by simp) ?_
    rintro _ rfl
    rcases hd : decR [] with ⟨⟨s, a, b⟩, e⟩
    by_cases he : e = 0
    · subst he
      simp -implicitDefEqProofs [decV, hwp]
      refine ⟨rfl, ?_⟩
      exact ⟨k - 1, by omega, i + 1, by omega, by rfl⟩
    · simp -implicitDefEqProofs [decV, he, hwp]
      refine ⟨rfl, ?_⟩
      exact ⟨k - 1, by omega, i + 1, by omega, by rfl⟩
end Go.Proofs.Ytjgcjahngmkfdaa
