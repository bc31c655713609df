/- The walks of Checksum: the program's and the reference's. -/
import Derived.Test.YtehnbfokjkpgkaaW1
import Derived.Test.YtehnbfokjkpgkaaPlain2
namespace Go.Proofs.Ytehnbfokjkpgkaa
open Go.RowKit

theorem ret_i {k : IntKind} {a b : Int} (h : a = b) : Ending.returned (.int k a) = .returned (.int k b) := by rw [h]

set_option maxRecDepth 100000 in
set_option maxHeartbeats 400000 in
theorem crc_any (A : Option Addr) (n c : Nat) (l : List UInt8) (w : World) (hn : l.length = n) (hm : n ≤ maxLen) (h : BR w A l) :
    Calls Try.prog 18 #[.slice A n c] w fun e w' => e = .returned (.int .u32 (crc l)) ∧ w = w' := by
  unfold maxLen at hm
  have H := Lib.hid h
  have hnl : n ≤ l.length := by omega
  have hnl2 : l.length ≤ n := by omega
  clear h hn
  go_enter Try.func18, Try.ntmps18
  go_wp2
  go_loop [3, 9] (fun v i => ∃ (k s : Nat), k ≤ n ∧ i = .int .i64 k ∧ v = .int .u32 s ∧ s < 4294967296 ∧ crcL (l.drop k) s = crcL l 4294967295) (fun _ i => n - (intOf i).toNat)
  case atStart => exact ⟨0, 4294967295, by omega, rfl, rfl, by omega, rfl⟩
  case round =>
    obtain ⟨k, s, hkn, rfl, rfl, hs, hr⟩ := hrel
    have HR := Lib.hid hr
    clear hr
    by_cases hlt : k < n
    · have hkl : k < l.length := by omega
      obtain ⟨b, o, rfl, hb, hc⟩ := H.out k hkl
      have hc256 : l[k].toNat < 256 := l[k].toNat_lt
      have HX := Lib.hid (xor32 s l[k].toNat hs (by omega))
      have HXL := Lib.hid (xor_lt s l[k].toNat hs (by omega))
      go_wp2
      go_loop [3, 17] (fun v i => ∃ (j t : Nat), j ≤ 8 ∧ i = .int .i64 j ∧ v = .int .u32 t ∧ t < 4294967296 ∧ crcN (8 - j) t = crcB s l[k]) (fun _ i => 8 - (intOf i).toNat)
      case atStart => exact ⟨0, _, by omega, rfl, by rw [HX.out], HXL.out, rfl⟩
      case round =>
        obtain ⟨j, t, hj8, rfl, rfl, ht, hr⟩ := hrel
        have HT := Lib.hid hr
        clear hr
        by_cases hj : j < 8
        · have h8 : 8 - j = (7 - j) + 1 := by omega
          rw [h8] at HT
          have h7 : 7 - j = 8 - (j + 1) := by omega
          rw [h7] at HT
          clear h8 h7
          have HL := Lib.hid (crcStep_lt t ht)
          have HA := Lib.hid (and1 t ht)
          by_cases ho : t % 2 = 1
          · have hne : (bits .and .u32 (t : Int) 1 != 0) = true := by rw [HA.out, ho]; rfl
            have HS := Lib.hid (crcStep_odd t ho)
            have HXX := Lib.hid (xor32 (t / 2) 3988292384 (by omega) (by omega))
            clear ho
            go_wp2
            go_round
            case rel => exact ⟨j + 1, crcStep t, by omega, by go_num, by rw [HS.out, ← HXX.out]; simp, HL.out, HT.out⟩
            case measure => simp [intOf]; omega
          · have hne : (bits .and .u32 (t : Int) 1 != 0) = false := by rw [HA.out]; simp; omega
            have HS := Lib.hid (crcStep_even t ho)
            clear ho
            go_wp2
            go_round
            case rel => exact ⟨j + 1, crcStep t, by omega, by go_num, by rw [HS.out]; simp, HL.out, HT.out⟩
            case measure => simp [intOf]; omega
        · have h8 : j = 8 := by omega
          subst h8
          go_wp2
          go_round
          case rel => exact ⟨k + 1, t, by omega, by go_num, rfl, ht, by rw [← HR.out, crcL_drop l k s hkl, ← HT.out]; rfl⟩
          case measure => simp [intOf]; omega
    · have hkn' : k = n := by omega
      subst hkn'
      have HXX := Lib.hid (xor32 s 4294967295 hs (by omega))
      go_wp2
      go_ret
      refine ⟨ret_i ?_, rfl⟩
      have hd : l.drop k = [] := List.drop_eq_nil_of_le (by omega)
      have := HR.out
      rw [hd] at this
      rw [crc, ← this]
      exact HXX.out
set_option maxRecDepth 100000 in
set_option maxHeartbeats 400000 in
theorem rcrc_any (A : Option Addr) (n c : Nat) (l : List UInt8) (w : World) (hn : l.length = n) (hm : n ≤ maxLen) (h : BR w A l) :
    Calls Try.prog 19 #[.slice A n c] w fun e w' => e = .returned (.int .u32 (crc l)) ∧ w = w' := by
  unfold maxLen at hm
  have H := Lib.hid h
  have hnl : n ≤ l.length := by omega
  have hnl2 : l.length ≤ n := by omega
  clear h hn
  go_enter Try.func19, Try.ntmps19
  go_wp2
  go_loop [3, 4] (fun v i => ∃ (k s : Nat), k ≤ n ∧ i = .int .i64 k ∧ v = .int .u32 s ∧ s < 4294967296 ∧ crcL (l.drop k) s = crcL l 4294967295) (fun _ i => n - (intOf i).toNat)
  case atStart => exact ⟨0, 4294967295, by omega, rfl, rfl, by omega, rfl⟩
  case round =>
    obtain ⟨k, s, hkn, rfl, rfl, hs, hr⟩ := hrel
    have HR := Lib.hid hr
    clear hr
    by_cases hlt : k < n
    · have hkl : k < l.length := by omega
      obtain ⟨b, o, rfl, hb, hc⟩ := H.out k hkl
      have hc256 : l[k].toNat < 256 := l[k].toNat_lt
      have HX := Lib.hid (xor32 s l[k].toNat hs (by omega))
      have HXL := Lib.hid (xor_lt s l[k].toNat hs (by omega))
      go_wp2
      go_loop [3, 5] (fun v i => ∃ (j t : Nat), j ≤ 8 ∧ i = .int .i64 j ∧ v = .int .u32 t ∧ t < 4294967296 ∧ crcN (8 - j) t = crcB s l[k]) (fun _ i => 8 - (intOf i).toNat)
      case atStart => exact ⟨0, _, by omega, rfl, by rw [HX.out], HXL.out, rfl⟩
      case round =>
        obtain ⟨j, t, hj8, rfl, rfl, ht, hr⟩ := hrel
        have HT := Lib.hid hr
        clear hr
        by_cases hj : j < 8
        · have h8 : 8 - j = (7 - j) + 1 := by omega
          rw [h8] at HT
          have h7 : 7 - j = 8 - (j + 1) := by omega
          rw [h7] at HT
          clear h8 h7
          have HL := Lib.hid (crcStep_lt t ht)
          have HA := Lib.hid (and1 t ht)
          by_cases ho : t % 2 = 1
          · have hne : (bits .and .u32 (t : Int) 1 == 1) = true := by rw [HA.out, ho]; rfl
            have HS := Lib.hid (crcStep_odd t ho)
            have HXX := Lib.hid (xor32 (t / 2) 3988292384 (by omega) (by omega))
            clear ho
            go_wp2
            go_round
            case rel => exact ⟨j + 1, crcStep t, by omega, by go_num, by rw [HS.out, ← HXX.out]; simp, HL.out, HT.out⟩
            case measure => simp [intOf]; omega
          · have hne : (bits .and .u32 (t : Int) 1 == 1) = false := by rw [HA.out]; simp; omega
            have HS := Lib.hid (crcStep_even t ho)
            clear ho
            go_wp2
            go_round
            case rel => exact ⟨j + 1, crcStep t, by omega, by go_num, by rw [HS.out]; simp, HL.out, HT.out⟩
            case measure => simp [intOf]; omega
        · have h8 : j = 8 := by omega
          subst h8
          go_wp2
          go_round
          case rel => exact ⟨k + 1, t, by omega, by go_num, rfl, ht, by rw [← HR.out, crcL_drop l k s hkl, ← HT.out]; rfl⟩
          case measure => simp [intOf]; omega
    · have hkn' : k = n := by omega
      subst hkn'
      go_wp2
      go_ret
      refine ⟨ret_i ?_, rfl⟩
      have hd : l.drop k = [] := List.drop_eq_nil_of_le (by omega)
      have := HR.out
      rw [hd] at this
      rw [crc, ← this]
      rw [show IntKind.u32.max = ((4294967295 : Nat) : Int) from by decide]
      rw [xor32 4294967295 s (by omega) hs, Nat.xor_comm]
      rfl
end Go.Proofs.Ytehnbfokjkpgkaa
