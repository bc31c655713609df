/- The walks of Uint: the program's and the reference's. -/
import Derived.Test.YtehnbfokjkpgkaaRows
import Derived.Test.YtehnbfokjkpgkaaPlain1
import Derived.WalkKit
import Derived.WalkSpells
import Derived.WalkLawsBesides
import Derived.Lib.Hide
import Derived.Outline
namespace Go.Proofs.Ytehnbfokjkpgkaa
open Go.RowKit

/-- the cells of a slice of bytes -/
def BR (w : World) (A : Option Addr) (l : List UInt8) : Prop :=
  ∀ k, (h : k < l.length) → ∃ b o, A = some ⟨b, o, none⟩ ∧ b < w.heap.size ∧ w.cell? ⟨b, o + k, none⟩ = some (.int .u8 l[k].toNat)

def uintVal (r : Nat × Nat × Nat) : Value := .tuple #[.int .u64 r.1, .int .i64 r.2.1, .int .i64 r.2.2]

theorem ret_val {a b : Value} (h : a = b) : Ending.returned a = .returned b := by rw [h]

theorem uintVal_of {a b e : Int} {x n m : Nat} (h1 : a = x) (h2 : b = n) (h3 : e = m) : Value.tuple #[.int .u64 a, .int .i64 b, .int .i64 e] = uintVal (x, n, m) := by
  subst h1 h2 h3
  rfl

theorem rdU_end {l : List UInt8} {f x k : Nat} (h : ¬ k < l.length) : rdU l (f + 1) x k = (0, 0, 5) := by
  rw [rdU, dif_neg h]
theorem rdU_a {l : List UInt8} {f x k : Nat} (h : k < l.length) (h1 : k = 9 ∧ 1 < l[k].toNat) : rdU l (f + 1) x k = (0, 0, 6) := by
  rw [rdU, dif_pos h, if_pos h1]
theorem rdU_b {l : List UInt8} {f x k : Nat} (h : k < l.length) (h1 : ¬ (k = 9 ∧ 1 < l[k].toNat)) (h2 : 128 ≤ l[k].toNat) : rdU l (f + 1) x k = rdU l f (x + l[k].toNat % 128 * 2 ^ (7 * k)) (k + 1) := by
  rw [rdU, dif_pos h, if_neg h1, if_pos h2]
theorem rdU_c {l : List UInt8} {f x k : Nat} (h : k < l.length) (h1 : ¬ (k = 9 ∧ 1 < l[k].toNat)) (h2 : ¬ 128 ≤ l[k].toNat) (h3 : l[k].toNat = 0 ∧ 0 < k) : rdU l (f + 1) x k = (0, 0, 6) := by
  rw [rdU, dif_pos h, if_neg h1, if_neg h2, if_pos h3]
theorem rdU_d {l : List UInt8} {f x k : Nat} (h : k < l.length) (h1 : ¬ (k = 9 ∧ 1 < l[k].toNat)) (h2 : ¬ 128 ≤ l[k].toNat) (h3 : ¬ (l[k].toNat = 0 ∧ 0 < k)) : rdU l (f + 1) x k = (x + l[k].toNat % 128 * 2 ^ (7 * k), k + 1, 0) := by
  rw [rdU, dif_pos h, if_neg h1, if_neg h2, if_neg h3]

set_option maxRecDepth 100000 in
set_option maxHeartbeats 400000 in
theorem uint_any (A : Option Addr) (n c : Nat) (l : List UInt8) (w : World) (hn : l.length = n) (hm : n ≤ maxLen) (h : BR w A l) :
    Calls Try.prog 15 #[.slice A n c] w fun e w' => e = .returned (uintVal (rdUint l)) ∧ w = w' := by
  unfold maxLen at hm
  have H := Lib.hid h
  have Hn := Lib.hid hn
  have hnl : n ≤ l.length := by omega
  have hnl2 : l.length ≤ n := by omega
  clear h hn
  go_enter Try.func15, Try.ntmps15
  go_wp2
  go_loop [5, 8] (fun v i => ∃ (k x : Nat), k ≤ 10 ∧ k ≤ n ∧ i = .int .i64 k ∧ v = .int .u64 x ∧ x < 2 ^ (7 * k) ∧ rdUint l = rdU l (10 - k) x k) (fun _ i => 10 - (intOf i).toNat)
  case atStart => exact ⟨0, 0, by omega, by omega, rfl, rfl, by simp, rfl⟩
  case round =>
    obtain ⟨k, x, hk, hkn, rfl, rfl, hx, hr⟩ := hrel
    have HR := Lib.hid hr
    clear hr
    by_cases hk10 : k < 10
    · obtain ⟨f, hf⟩ : ∃ f, 10 - k = f + 1 := ⟨9 - k, by omega⟩
      rw [hf] at HR
      have HF := Lib.hid hf
      clear hf
      by_cases hlt : k < n
      · have hkl : k < l.length := by omega
        obtain ⟨b, o, rfl, hb, hc⟩ := H.out k hkl
        have hc256 : l[k].toNat < 256 := l[k].toNat_lt
        generalize hcc : l[k].toNat = cc at *
        have HC := Lib.hid hcc
        clear hcc
        by_cases hA : k = 9 ∧ 1 < cc
        · have HRR := Lib.hid (HR.out.trans (rdU_a hkl (by rw [HC.out]; exact hA)))
          obtain ⟨rfl, hc1⟩ := hA
          go_wp2
          go_ret3
          exact ⟨ret_val (by rw [HRR.out]; rfl), rfl⟩
        · by_cases hB : 128 ≤ cc
          · have h128 : (bits .and .u8 (cc : Int) 128 != 0) = true := by rw [and128 cc hc256]; simpa using hB
            have hk9 : k < 9 := by omega
            have HE := Lib.hid (or_step x cc k hx hc256 (by omega) ((2 : Int) ^ (7 * k)) (by simp))
            have HRR := Lib.hid (HR.out.trans (rdU_b hkl (by rw [HC.out]; exact hA) (by rw [HC.out]; exact hB)))
            rw [HC.out] at HRR
            have hlt' := step_lt x cc k hx
            have HL := Lib.hid hlt'
            clear hlt'
            go_wp2
            go_round
            case rel => exact ⟨k + 1, _, by omega, by omega, by go_num, by rw [HE.out], HL.out, by rw [HRR.out]; congr 1; have := HF.out; omega⟩
            case measure => simp [intOf]; omega
          · have h128 : (bits .and .u8 (cc : Int) 128 != 0) = false := by rw [and128 cc hc256]; simpa using hB
            by_cases hC : cc = 0 ∧ 0 < k
            · have HRR := Lib.hid (HR.out.trans (rdU_c hkl (by rw [HC.out]; exact hA) (by rw [HC.out]; exact hB) (by rw [HC.out]; exact hC)))
              obtain ⟨rfl, hk0⟩ := hC
              go_wp2
              all_goals go_ret3
              all_goals exact ⟨ret_val (by rw [HRR.out]; rfl), rfl⟩
            · have HRR := Lib.hid (HR.out.trans (rdU_d hkl (by rw [HC.out]; exact hA) (by rw [HC.out]; exact hB) (by rw [HC.out]; exact hC)))
              rw [HC.out] at HRR
              by_cases hk9 : k = 9
              · have HE := Lib.hid (or_step x cc k hx hc256 (by omega) 9223372036854775808 (by rw [hk9]; rfl))
                subst hk9
                go_wp2
                all_goals go_ret3
                all_goals exact ⟨ret_val (by rw [HRR.out]; exact uintVal_of HE.out (by omega) rfl), rfl⟩
              · have HE := Lib.hid (or_step x cc k hx hc256 (by omega) ((2 : Int) ^ (7 * k)) (by simp))
                go_wp2
                all_goals go_ret3
                all_goals exact ⟨ret_val (by rw [HRR.out]; exact uintVal_of (by first | exact HE.out | (have e : cc = 0 := (by assumption); have hh := HE.out; rw [e] at hh ⊢; exact hh)) (by omega) rfl), rfl⟩
      · have HRR := Lib.hid (HR.out.trans (rdU_end (by omega)))
        go_wp2
        go_ret3
        exact ⟨ret_val (by rw [HRR.out]; rfl), rfl⟩
    · have hk11 : k = 10 := by omega
      subst hk11
      have HRR := Lib.hid (HR.out.trans (show rdU l (10 - 10) x 10 = (0, 0, 6) from rfl))
      go_wp2
      go_ret3
      exact ⟨ret_val (by rw [HRR.out]; rfl), rfl⟩
set_option maxRecDepth 100000 in
set_option maxHeartbeats 400000 in
theorem ruint_any (A : Option Addr) (n c : Nat) (l : List UInt8) (w : World) (hn : l.length = n) (hm : n ≤ maxLen) (h : BR w A l) :
    Calls Try.prog 16 #[.slice A n c] w fun e w' => e = .returned (uintVal (rdUint l)) ∧ w = w' := by
  unfold maxLen at hm
  have H := Lib.hid h
  have Hn := Lib.hid hn
  have hnl : n ≤ l.length := by omega
  have hnl2 : l.length ≤ n := by omega
  clear h hn
  go_enter Try.func16, Try.ntmps16
  go_wp2
  go_loop [5, 6] (fun v i => ∃ (k x : Nat), k ≤ 10 ∧ k ≤ n ∧ i = .int .i64 k ∧ v = .int .u64 x ∧ x < 2 ^ (7 * k) ∧ rdUint l = rdU l (10 - k) x k) (fun _ i => 10 - (intOf i).toNat)
  case atStart => exact ⟨0, 0, by omega, by omega, rfl, rfl, by simp, rfl⟩
  case round =>
    obtain ⟨k, x, hk, hkn, rfl, rfl, hx, hr⟩ := hrel
    have HR := Lib.hid hr
    clear hr
    by_cases hk10 : k < 10
    · obtain ⟨f, hf⟩ : ∃ f, 10 - k = f + 1 := ⟨9 - k, by omega⟩
      rw [hf] at HR
      have HF := Lib.hid hf
      clear hf
      by_cases hlt : k < n
      · have hkl : k < l.length := by omega
        obtain ⟨b, o, rfl, hb, hc⟩ := H.out k hkl
        have hc256 : l[k].toNat < 256 := l[k].toNat_lt
        generalize hcc : l[k].toNat = cc at *
        have HC := Lib.hid hcc
        clear hcc
        by_cases hA : k = 9 ∧ 1 < cc
        · have HRR := Lib.hid (HR.out.trans (rdU_a hkl (by rw [HC.out]; exact hA)))
          obtain ⟨rfl, hc1⟩ := hA
          go_wp2
          go_ret3
          exact ⟨ret_val (by rw [HRR.out]; rfl), rfl⟩
        · by_cases hB : 128 ≤ cc
          · have h128 : (bits .and .u8 (cc : Int) 128 != 0) = true := by rw [and128 cc hc256]; simpa using hB
            have hk9 : k < 9 := by omega
            have HE := Lib.hid (or_step x cc k hx hc256 (by omega) ((2 : Int) ^ (7 * k)) (by simp))
            have HRR := Lib.hid (HR.out.trans (rdU_b hkl (by rw [HC.out]; exact hA) (by rw [HC.out]; exact hB)))
            rw [HC.out] at HRR
            have hlt' := step_lt x cc k hx
            have HL := Lib.hid hlt'
            clear hlt'
            go_wp2
            go_round
            case rel => exact ⟨k + 1, _, by omega, by omega, by go_num, by rw [HE.out], HL.out, by rw [HRR.out]; congr 1; have := HF.out; omega⟩
            case measure => simp [intOf]; omega
          · have h128 : (bits .and .u8 (cc : Int) 128 != 0) = false := by rw [and128 cc hc256]; simpa using hB
            by_cases hC : cc = 0 ∧ 0 < k
            · have HRR := Lib.hid (HR.out.trans (rdU_c hkl (by rw [HC.out]; exact hA) (by rw [HC.out]; exact hB) (by rw [HC.out]; exact hC)))
              obtain ⟨rfl, hk0⟩ := hC
              go_wp2
              all_goals go_ret3
              all_goals exact ⟨ret_val (by rw [HRR.out]; rfl), rfl⟩
            · have HRR := Lib.hid (HR.out.trans (rdU_d hkl (by rw [HC.out]; exact hA) (by rw [HC.out]; exact hB) (by rw [HC.out]; exact hC)))
              rw [HC.out] at HRR
              by_cases hk9 : k = 9
              · have HE := Lib.hid (or_step x cc k hx hc256 (by omega) 9223372036854775808 (by rw [hk9]; rfl))
                subst hk9
                go_wp2
                all_goals go_ret3
                all_goals exact ⟨ret_val (by rw [HRR.out]; exact uintVal_of HE.out (by omega) rfl), rfl⟩
              · have HE := Lib.hid (or_step x cc k hx hc256 (by omega) ((2 : Int) ^ (7 * k)) (by simp))
                go_wp2
                all_goals go_ret3
                all_goals exact ⟨ret_val (by rw [HRR.out]; exact uintVal_of (by first | exact HE.out | (have e : cc = 0 := (by assumption); have hh := HE.out; rw [e] at hh ⊢; exact hh)) (by omega) rfl), rfl⟩
      · have HRR := Lib.hid (HR.out.trans (rdU_end (by omega)))
        go_wp2
        go_ret3
        exact ⟨ret_val (by rw [HRR.out]; rfl), rfl⟩
    · have hk11 : k = 10 := by omega
      subst hk11
      have HRR := Lib.hid (HR.out.trans (show rdU l (10 - 10) x 10 = (0, 0, 6) from rfl))
      go_wp2
      go_ret3
      exact ⟨ret_val (by rw [HRR.out]; rfl), rfl⟩
end Go.Proofs.Ytehnbfokjkpgkaa
