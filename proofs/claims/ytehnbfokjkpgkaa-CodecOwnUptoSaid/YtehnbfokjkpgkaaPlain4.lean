/- Plain laws of varints, strings and frames: what is written is read back, and what is read is what would be written. -/
import Derived.Test.YtehnbfokjkpgkaaW5
namespace Go.Proofs.Ytehnbfokjkpgkaa

theorem toNat_ofNat (y : Nat) (h : y < 256) : (UInt8.ofNat y).toNat = y := UInt8.toNat_ofNat_of_lt' (by simpa using h)

/-- what is written is read back, whatever follows -/
theorem rd_put : ∀ (f x k y : Nat) (pre tail : List UInt8), pre.length = k → f + k = 10 → 0 < f → y < 128 ^ f → y * 2 ^ (7 * k) < 18446744073709551616 → (0 < k → 0 < y) →
    rdU (pre ++ putU f y ++ tail) f x k = (x + y * 2 ^ (7 * k), k + (putU f y).length, 0)
  | 0, _, _, _, _, _, _, _, h, _, _, _ => by omega
  | f + 1, x, k, y, pre, tail, hk, hf, _, hy, hb, h0 => by
    by_cases hlt : 127 < y
    · have hf0 : 0 < f := by
        rcases Nat.eq_zero_or_pos f with h | h
        · subst h; simp at hy; omega
        · exact h
      rw [putU_more hlt]
      have hl : k < (pre ++ UInt8.ofNat (y % 128 + 128) :: putU f (y / 128) ++ tail).length := by simp; omega
      have hc : (pre ++ UInt8.ofNat (y % 128 + 128) :: putU f (y / 128) ++ tail)[k].toNat = y % 128 + 128 := by
        simp only [List.append_assoc]
        rw [List.getElem_append_right (by omega)]
        simp [hk]
        omega
      rw [rdU_b hl (by omega) (by omega), hc]
      have ih := rd_put f (x + (y % 128 + 128) % 128 * 2 ^ (7 * k)) (k + 1) (y / 128) (pre ++ [UInt8.ofNat (y % 128 + 128)]) tail (by simp [hk]) (by omega) hf0
        (by rw [Nat.pow_succ] at hy; exact Nat.div_lt_of_lt_mul (by rw [Nat.mul_comm]; exact hy))
        (by
          have e : 2 ^ (7 * (k + 1)) = 128 * 2 ^ (7 * k) := by rw [Nat.mul_add, Nat.pow_add]; omega
          rw [e, ← Nat.mul_assoc]
          have : y / 128 * 128 ≤ y := by omega
          have := Nat.mul_le_mul_right (2 ^ (7 * k)) this
          omega)
        (by omega)
      have e : pre ++ UInt8.ofNat (y % 128 + 128) :: putU f (y / 128) ++ tail = pre ++ [UInt8.ofNat (y % 128 + 128)] ++ putU f (y / 128) ++ tail := by simp
      rw [e, ih]
      have e2 : 2 ^ (7 * (k + 1)) = 128 * 2 ^ (7 * k) := by rw [Nat.mul_add, Nat.pow_add]; omega
      have e3 : (y % 128 + 128) % 128 = y % 128 := by omega
      have e4 : y % 128 * 2 ^ (7 * k) + y / 128 * (128 * 2 ^ (7 * k)) = y * 2 ^ (7 * k) := by
        rw [← Nat.mul_assoc, ← Nat.add_mul]
        congr 1
        omega
      rw [e2, e3]
      simp only [List.length_cons, Prod.mk.injEq, and_true]
      omega
    · rw [putU_last hlt]
      have hl : k < (pre ++ [UInt8.ofNat y] ++ tail).length := by simp; omega
      have hc : (pre ++ [UInt8.ofNat y] ++ tail)[k].toNat = y := by
        simp only [List.append_assoc]
        rw [List.getElem_append_right (by omega)]
        simp [hk]
        omega
      have hk9 : k = 9 → y ≤ 1 := by
        intro h
        subst h
        have : y * 2 ^ (7 * 9) < 2 * 2 ^ (7 * 9) := by omega
        omega
      rw [rdU_d hl (by omega) (by omega) (by omega), hc, Nat.mod_eq_of_lt (by omega)]
      simp

theorem rdUint_put (v : Nat) (tail : List UInt8) (hv : v < 18446744073709551616) : rdUint (putUint v ++ tail) = (v, (putUint v).length, 0) := by
  have := rd_put 10 0 0 v [] tail rfl rfl (by omega) (by omega) (by omega) (by omega)
  simpa [rdUint, putUint] using this

/-- a beginning of a varint is too short -/
theorem rd_prefix : ∀ (f x k y j : Nat) (pre : List UInt8), pre.length = k → f + k = 10 → y < 128 ^ f → j < (putU f y).length → rdU (pre ++ (putU f y).take j) f x k = (0, 0, 5)
  | 0, _, _, _, _, _, _, _, _, h => by simp [putU] at h
  | f + 1, x, k, y, j, pre, hk, hf, hy, hj => by
    cases j with
    | zero => rw [rdU_end (by simp [hk])]
    | succ j =>
      by_cases hlt : 127 < y
      · rw [putU_more hlt] at hj ⊢
        have hf0 : 0 < f := by
          rcases Nat.eq_zero_or_pos f with h | h
          · subst h; simp at hy; omega
          · exact h
        rw [List.take_succ_cons]
        have hl : k < (pre ++ UInt8.ofNat (y % 128 + 128) :: (putU f (y / 128)).take j).length := by simp; omega
        have hc : (pre ++ UInt8.ofNat (y % 128 + 128) :: (putU f (y / 128)).take j)[k].toNat = y % 128 + 128 := by
          rw [List.getElem_append_right (by omega)]
          simp [hk]
          omega
        rw [rdU_b hl (by omega) (by omega), hc]
        have ih := rd_prefix f (x + (y % 128 + 128) % 128 * 2 ^ (7 * k)) (k + 1) (y / 128) j (pre ++ [UInt8.ofNat (y % 128 + 128)]) (by simp [hk]) (by omega)
          (by rw [Nat.pow_succ] at hy; exact Nat.div_lt_of_lt_mul (by rw [Nat.mul_comm]; exact hy)) (by simpa using hj)
        simpa using ih
      · rw [putU_last hlt] at hj
        simp at hj
theorem rdUint_prefix (v j : Nat) (hv : v < 18446744073709551616) (hj : j < (putUint v).length) : rdUint ((putUint v).take j) = (0, 0, 5) := by
  have := rd_prefix 10 0 0 v j [] rfl rfl (by omega) hj
  simpa [rdUint, putUint] using this

/-- what is read is the shortest form of its number -/
theorem rd_short (l : List UInt8) : ∀ (f x k v n : Nat), f + k = 10 → rdU l f x k = (v, n, 0) → ∃ y, v = x + y * 2 ^ (7 * k) ∧ k < n ∧ n ≤ l.length ∧ (l.drop k).take (n - k) = putU f y ∧ (0 < k → 0 < y)
  | 0, _, _, _, _, _, h => by simp [rdU] at h
  | f + 1, x, k, v, n, hf, h => by
    rw [rdU] at h
    split at h
    · next hk =>
      have hc := l[k].toNat_lt
      split at h
      · simp at h
      · split at h
        · next h1 h2 =>
          obtain ⟨y, hv, hn, hnl, ht, h0⟩ := rd_short l f _ (k + 1) v n (by omega) h
          have hy0 := h0 (by omega)
          refine ⟨l[k].toNat % 128 + 128 * y, ?_, by omega, hnl, ?_, fun _ => by omega⟩
          · rw [hv]
            have e2 : 2 ^ (7 * (k + 1)) = 128 * 2 ^ (7 * k) := by rw [Nat.mul_add, Nat.pow_add]; omega
            rw [e2, Nat.add_mul, ← Nat.mul_assoc, Nat.mul_comm 128 y]
            omega
          · rw [putU_more (by omega)]
            rw [List.drop_eq_getElem_cons hk, show n - k = (n - (k + 1)) + 1 by omega, List.take_succ_cons, ht]
            congr 1
            · apply UInt8.toNat_inj.1
              rw [toNat_ofNat _ (by omega)]
              omega
            · congr 1
              omega
        · split at h
          · simp at h
          · next h1 h2 h3 =>
            simp only [Prod.mk.injEq, and_true] at h
            obtain ⟨rfl, rfl⟩ := h
            refine ⟨l[k].toNat, by rw [Nat.mod_eq_of_lt (by omega)], by omega, by omega, ?_, fun _ => by omega⟩
            rw [putU_last (by omega)]
            rw [List.drop_eq_getElem_cons hk, show k + 1 - k = 0 + 1 by omega, List.take_succ_cons, List.take_zero, UInt8.ofNat_toNat]
    · simp at h
theorem rdUint_short {l : List UInt8} {v n : Nat} (h : rdUint l = (v, n, 0)) : putUint v = l.take n := by
  obtain ⟨y, hv, _, _, ht, _⟩ := rd_short l 10 0 0 v n rfl h
  simp at hv ht
  subst hv
  rw [ht]
  rfl

theorem putUint_pos (x : Nat) : 0 < (putUint x).length := by
  unfold putUint
  rw [putU]
  split <;> simp
theorem be_sumB (x : Nat) (h : x < 4294967296) : be (sumB x) = x := by
  simp only [sumB]
  rw [be4, toNat_ofNat _ (by omega), toNat_ofNat _ (by omega), toNat_ofNat _ (by omega), toNat_ofNat _ (by omega)]
  omega

theorem rdText_put (s tail : List UInt8) (h : s.length < 18446744073709551616) : rdText (putUint s.length ++ s ++ tail) = if 1024 < s.length then ([], 0, 3) else (s, (putUint s.length).length + s.length, 0) := by
  have hr := rdUint_put s.length (s ++ tail) h
  rw [← List.append_assoc] at hr
  split
  · next h1 => exact rdText_long hr h1
  · next h1 =>
    rw [rdText_ok hr h1 (by simp)]
    congr 1
    rw [List.append_assoc, List.drop_left]
    exact List.take_left

theorem rdFrame_put (l tail : List UInt8) (h : l.length ≤ 4096) : rdFrame (frame l ++ tail) = (l, (frame l).length, 0) := by
  have hr := rdUint_put l.length (l ++ sumB (crc l) ++ tail) (by omega)
  have e : frame l ++ tail = putUint l.length ++ (l ++ sumB (crc l) ++ tail) := by simp [frame]
  rw [← e] at hr
  have hs : (sumB (crc l)).length = 4 := rfl
  have e1 : ((frame l ++ tail).drop (putUint l.length).length).take l.length = l := by
    rw [e, List.drop_left, List.append_assoc]
    exact List.take_left
  have e2 : ((frame l ++ tail).drop ((putUint l.length).length + l.length)).take 4 = sumB (crc l) := by
    rw [e, ← List.drop_drop, List.drop_left, List.append_assoc, List.drop_left, ← hs]
    exact List.take_left
  rw [rdFrame_ok hr (by omega) (by rw [e]; simp only [List.length_append, hs]; omega) (by rw [e1, e2, be_sumB _ (crc_lt l)]), e1]
  simp only [frame, List.length_append, hs]

/-- a beginning of a frame is too short -/
theorem rdFrame_prefix (l : List UInt8) (cut : Nat) (h : l.length ≤ 4096) (hc : cut < (frame l).length) : rdFrame ((frame l).take cut) = ([], 0, 5) := by
  have hs : (sumB (crc l)).length = 4 := rfl
  have e : frame l = putUint l.length ++ (l ++ sumB (crc l)) := by simp [frame]
  rw [e] at hc ⊢
  simp only [List.length_append, hs] at hc
  by_cases h1 : cut < (putUint l.length).length
  · rw [List.take_append_of_le_length (by omega)]
    exact rdFrame_e (rdUint_prefix l.length cut (by omega) h1) (by omega)
  · rw [List.take_append, List.take_of_length_le (by omega)]
    have hr := rdUint_put l.length ((l ++ sumB (crc l)).take (cut - (putUint l.length).length)) (by omega)
    refine rdFrame_short hr (by omega) ?_
    simp only [List.length_append, List.length_take, hs]
    omega
end Go.Proofs.Ytehnbfokjkpgkaa
