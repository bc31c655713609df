/- The checksum is linear, and its steps can be undone: what differs within four bytes has different checksums. -/
import Derived.Test.YtehnbfokjkpgkaaPlain4
namespace Go.Proofs.Ytehnbfokjkpgkaa

theorem xor_mod2 (a b : Nat) : (a ^^^ b) % 2 = (a + b) % 2 := by
  rw [← Nat.and_one_is_mod, ← Nat.and_one_is_mod, Nat.and_xor_distrib_right, Nat.and_one_is_mod, Nat.and_one_is_mod, Nat.and_one_is_mod]
  have ha := Nat.mod_two_eq_zero_or_one a
  have hb := Nat.mod_two_eq_zero_or_one b
  rcases ha with ha | ha <;> rcases hb with hb | hb <;> rw [ha, hb] <;> simp <;> omega
theorem xor_div2 (a b : Nat) : (a ^^^ b) / 2 = a / 2 ^^^ b / 2 := by
  have := Nat.xor_div_two_pow (a := a) (b := b) (n := 1)
  simpa using this
theorem crcStep_xor (a b : Nat) : crcStep (a ^^^ b) = crcStep a ^^^ crcStep b := by
  unfold crcStep
  rw [xor_mod2, xor_div2]
  have ha := Nat.mod_two_eq_zero_or_one a
  have hb := Nat.mod_two_eq_zero_or_one b
  rcases ha with ha | ha <;> rcases hb with hb | hb
  · rw [if_neg (by omega), if_neg (by omega), if_neg (by omega)]
  · rw [if_pos (by omega), if_neg (by omega), if_pos (by omega), Nat.xor_assoc]
  · rw [if_pos (by omega), if_pos (by omega), if_neg (by omega), Nat.xor_assoc, Nat.xor_assoc, Nat.xor_comm (b / 2)]
  · rw [if_neg (by omega), if_pos (by omega), if_pos (by omega)]
    rw [Nat.xor_assoc, ← Nat.xor_assoc 3988292384, Nat.xor_comm 3988292384 (b / 2), Nat.xor_assoc (b / 2), Nat.xor_self, Nat.xor_zero]
theorem crcN_xor : ∀ (n a b : Nat), crcN n (a ^^^ b) = crcN n a ^^^ crcN n b
  | 0, _, _ => rfl
  | n + 1, a, b => by rw [crcN, crcN, crcN, crcStep_xor, crcN_xor n]
theorem crcStep_zero (a : Nat) (ha : a < 4294967296) (h : crcStep a = 0) : a = 0 := by
  unfold crcStep at h
  split at h
  · next ho =>
    have h1 : a / 2 = 3988292384 := by
      have := congrArg (· ^^^ 3988292384) h
      simpa [Nat.xor_assoc, Nat.xor_self] using this
    omega
  · omega
theorem crcN_zero : ∀ (n a : Nat), a < 4294967296 → crcN n a = 0 → a = 0
  | 0, _, _, h => h
  | n + 1, a, ha, h => crcStep_zero a ha (crcN_zero n _ (crcStep_lt a ha) h)
theorem crcStep_0 : crcStep 0 = 0 := rfl
theorem crcN_0 : ∀ n, crcN n 0 = 0
  | 0 => rfl
  | n + 1 => by rw [crcN, crcStep_0, crcN_0 n]
theorem crcN_add : ∀ (m n a : Nat), crcN (m + n) a = crcN n (crcN m a)
  | 0, n, a => by rw [Nat.zero_add]; rfl
  | m + 1, n, a => by rw [Nat.add_right_comm, crcN, crcN_add m n, crcN]
/-- eight steps on a number whose low byte is zero -/
theorem crcN_shift : ∀ (k y : Nat), crcN k (y * 2 ^ k) = y
  | 0, y => by simp [crcN]
  | k + 1, y => by
    have h2 : y * 2 ^ (k + 1) = 2 * (y * 2 ^ k) := by rw [Nat.pow_succ, ← Nat.mul_assoc, Nat.mul_comm]
    rw [crcN, crcStep_even _ (by omega)]
    rw [show y * 2 ^ (k + 1) / 2 = y * 2 ^ k by omega]
    exact crcN_shift k y

/-- how a difference d of two sums goes on under the differences es of the bytes -/
def diffs (d : Nat) (es : List Nat) : Nat := es.foldl (fun d e => crcN 8 (d ^^^ e)) d
def word : List Nat → Nat
  | [] => 0
  | e :: es => e + 256 * word es
theorem word_lt : ∀ (es : List Nat), (∀ e ∈ es, e < 256) → word es < 256 ^ es.length
  | [], _ => by simp [word]
  | e :: es, h => by
    have h1 := word_lt es (fun x hx => h x (List.mem_cons_of_mem _ hx))
    have h2 := h e List.mem_cons_self
    simp only [word, List.length_cons, Nat.pow_succ]
    omega
theorem word_zero : ∀ (es : List Nat), word es = 0 → ∀ e ∈ es, e = 0
  | [], _, _, h => by simp at h
  | x :: es, h, e, he => by
    simp only [word] at h
    rcases List.mem_cons.1 he with rfl | he
    · omega
    · exact word_zero es (by omega) e he
theorem xor_low (d e y : Nat) (he : e < 256) : d ^^^ (e + 256 * y) = (d ^^^ e) ^^^ (y * 2 ^ 8) := by
  have : e + 256 * y = e ^^^ (y * 2 ^ 8) := by
    have h := Nat.two_pow_add_eq_or_of_lt (i := 8) (b := e) (by omega) y
    have h2 : 2 ^ 8 * y ||| e = 2 ^ 8 * y ^^^ e := by
      apply Nat.eq_of_testBit_eq
      intro i
      rw [Nat.testBit_or, Nat.testBit_xor]
      by_cases hi : i < 8
      · have : (2 ^ 8 * y).testBit i = false := by
          rw [Nat.testBit_two_pow_mul]
          simp
          omega
        rw [this]
        simp
      · have : e.testBit i = false := Nat.testBit_lt_two_pow (Nat.lt_of_lt_of_le (show e < 2 ^ 8 by omega) (Nat.pow_le_pow_right (by omega) (by omega)))
        rw [this]
        simp
    rw [Nat.mul_comm y, Nat.xor_comm, ← h2, ← h]
    omega
  rw [this, Nat.xor_assoc]
theorem diffs_word : ∀ (es : List Nat) (d : Nat), (∀ e ∈ es, e < 256) → es.length ≤ 4 → diffs d es = crcN (8 * es.length) (d ^^^ word es)
  | [], d, _, _ => by simp [diffs, word, crcN]
  | e :: es, d, h, hl => by
    have he := h e List.mem_cons_self
    have h' : ∀ x ∈ es, x < 256 := fun x hx => h x (List.mem_cons_of_mem _ hx)
    have hl' : es.length ≤ 3 := by simpa using hl
    have hd : diffs d (e :: es) = diffs (crcN 8 (d ^^^ e)) es := rfl
    rw [hd, diffs_word es _ h' (by omega), word, xor_low d e _ he]
    rw [show 8 * (e :: es).length = 8 + 8 * es.length by simp; omega, crcN_add, crcN_xor 8 (d ^^^ e) (word es * 2 ^ 8), crcN_shift 8]
theorem diffs_zero (es : List Nat) (h : ∀ e ∈ es, e < 256) (hl : es.length ≤ 4) (h0 : diffs 0 es = 0) : ∀ e ∈ es, e = 0 := by
  rw [diffs_word es 0 h hl, Nat.zero_xor] at h0
  have hw := word_lt es h
  have : 256 ^ es.length ≤ 256 ^ 4 := Nat.pow_le_pow_right (by omega) hl
  exact word_zero es (crcN_zero _ _ (by omega) h0)
theorem diffs_zeros : ∀ (es : List Nat), (∀ e ∈ es, e = 0) → diffs 0 es = 0
  | [], _ => rfl
  | e :: es, h => by
    have he := h e List.mem_cons_self
    subst he
    have hd : diffs 0 (0 :: es) = diffs (crcN 8 (0 ^^^ 0)) es := rfl
    rw [hd, Nat.xor_self, crcN_0]
    exact diffs_zeros es (fun x hx => h x (List.mem_cons_of_mem _ hx))

/-- bytes and their differences -/
def xorL : List UInt8 → List UInt8 → List UInt8
  | a :: l, e :: es => (a ^^^ e) :: xorL l es
  | l, _ => l
theorem crcB_xor (s d : Nat) (b e : UInt8) : crcB (s ^^^ d) (b ^^^ e) = crcB s b ^^^ crcN 8 (d ^^^ e.toNat) := by
  unfold crcB
  rw [UInt8.toNat_xor, ← crcN_xor]
  congr 1
  rw [Nat.xor_assoc, ← Nat.xor_assoc d, Nat.xor_comm d, Nat.xor_assoc, Nat.xor_assoc]
theorem crcB_same (s d : Nat) (b : UInt8) : crcB (s ^^^ d) b = crcB s b ^^^ crcN 8 d := by
  have := crcB_xor s d b 0
  simpa using this
theorem crcL_same : ∀ (l : List UInt8) (s d : Nat), crcL l (s ^^^ d) = crcL l s ^^^ crcN (8 * l.length) d
  | [], s, d => by simp [crcL, crcN]
  | b :: l, s, d => by
    have h1 : crcL (b :: l) (s ^^^ d) = crcL l (crcB (s ^^^ d) b) := rfl
    have h2 : crcL (b :: l) s = crcL l (crcB s b) := rfl
    rw [h1, h2, crcB_same, crcL_same l, show 8 * (b :: l).length = 8 + 8 * l.length by simp; omega, crcN_add]
theorem crcL_xor : ∀ (l es : List UInt8) (s d : Nat), es.length = l.length → crcL (xorL l es) (s ^^^ d) = crcL l s ^^^ diffs d (es.map (·.toNat))
  | [], [], s, d, _ => rfl
  | [], e :: es, _, _, h => by simp at h
  | b :: l, [], _, _, h => by simp at h
  | b :: l, e :: es, s, d, h => by
    have h1 : crcL (xorL (b :: l) (e :: es)) (s ^^^ d) = crcL (xorL l es) (crcB (s ^^^ d) (b ^^^ e)) := rfl
    have h2 : crcL (b :: l) s = crcL l (crcB s b) := rfl
    rw [h1, h2, crcB_xor, crcL_xor l es _ _ (by simpa using h)]
    rfl
theorem crcL_append (l m : List UInt8) (s : Nat) : crcL (l ++ m) s = crcL m (crcL l s) := by simp [crcL]
theorem diffs_lt : ∀ (es : List Nat) (d : Nat), (∀ e ∈ es, e < 256) → d < 4294967296 → diffs d es < 4294967296
  | [], _, _, h => h
  | e :: es, d, h, hd => by
    have he := h e List.mem_cons_self
    exact diffs_lt es _ (fun x hx => h x (List.mem_cons_of_mem _ hx)) (crcN_lt 8 _ (xor_lt _ _ hd (by omega)))

/-- two texts that differ within at most four bytes have different sums -/
theorem crc_burst (pre mid post es : List UInt8) (hl : es.length = mid.length) (h4 : mid.length ≤ 4) :
    (crc (pre ++ xorL mid es ++ post) = crc (pre ++ mid ++ post)) ↔ ∀ e ∈ es, e = 0 := by
  unfold crc
  rw [crcL_append, crcL_append, crcL_append, crcL_append]
  have h := crcL_xor mid es (crcL pre 4294967295) 0 hl
  rw [Nat.xor_zero] at h
  rw [h, crcL_same]
  have hb : ∀ e ∈ es.map (·.toNat), e < 256 := by
    intro e he
    obtain ⟨x, _, rfl⟩ := List.mem_map.1 he
    exact x.toNat_lt
  constructor
  · intro heq
    have h1 := congrArg (· ^^^ 4294967295) heq
    simp only [Nat.xor_assoc, Nat.xor_self, Nat.xor_zero] at h1
    have h2 : crcN (8 * post.length) (diffs 0 (es.map (·.toNat))) = 0 := by
      have := congrArg (crcL post (crcL mid (crcL pre 4294967295)) ^^^ ·) h1
      simpa [← Nat.xor_assoc, Nat.xor_self] using this
    have h3 := crcN_zero _ _ (diffs_lt _ 0 hb (by omega)) h2
    intro e he
    have := diffs_zero _ hb (by simp; omega) h3 e.toNat (List.mem_map_of_mem he)
    exact UInt8.toNat_inj.1 (by simpa using this)
  · intro h0
    rw [diffs_zeros _ (by
      intro e he
      obtain ⟨x, hx, rfl⟩ := List.mem_map.1 he
      rw [h0 x hx]
      rfl), crcN_0, Nat.xor_zero]
end Go.Proofs.Ytehnbfokjkpgkaa
