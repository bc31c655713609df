/- The walk of the law CodecShort. -/
import Derived.Test.YtehnbfokjkpgkaaLA
import Derived.Deep.RegionHeld3
namespace Go.Proofs.Ytehnbfokjkpgkaa
open Go.RowKit

set_option maxRecDepth 100000 in
set_option maxHeartbeats 1000000 in
theorem law_short (A : Option Addr) (n c : Nat) (l : List UInt8) (w : World) (h : IsB w A n c l) : Calls Try.prog 7 #[.slice A n c] w (Yes w) := by
  have hm := h.reach
  have hle := h.le
  obtain ⟨v, k, er, hr⟩ : ∃ v k er, rdUint l = (v, k, er) := ⟨_, _, _, rfl⟩
  have hok := rdUint_cases hr
  rw [h.len] at hok
  have HU := Lib.hid (uint_at A n c l w h.len (by unfold maxLen; omega) h.at_ hr)
  by_cases h1 : er = 0
  · subst h1
    obtain ⟨hv, hk0, hkl, hk10⟩ : v < 18446744073709551616 ∧ 0 < k ∧ k ≤ n ∧ k ≤ 10 := by omega
    have HP := Lib.hid (fun (w' : World) => put_at none 0 0 [] v v w' (fun _ => rfl) rfl (Nat.le_refl _) (by omega) rfl hv (At.nil _ _))
    have hat : At w A (bytesV (l.take k)) := by
      have := h.at_.take k
      rwa [bytesV_take] at this
    have hs := rdUint_short hr
    rw [← hs] at hat
    have hlk : (putUint v).length = k := by rw [hs, List.length_take, h.len]; omega
    have HAT := Lib.hid hat
    have HLK := Lib.hid hlk
    have b1 : decide ((0 : Int) < (k : Int)) = true := by simpa using hk0
    have b2 : decide ((k : Int) ≤ (n : Int)) = true := by simpa using hkl
    have i1 : (0 : Int) ≤ (k : Int) := by omega
    have i2 : (k : Int) ≤ (c : Int) := by omega
    clear h hr hok hat hs hlk
    go_enter Try.func7, Try.ntmps7
    go_wp2_with (go_at_call 15; go_must (refine HU.out.mono ?_); rintro e w' ⟨rfl, rfl⟩)
    go_region_held3 (fun _ => True) (trivial) (first
      | (go_at_call 17; refine (awake_any _).mono ?_; rintro e w1 ⟨rfl, hb1⟩; have HB1 := Lib.hid hb1; clear hb1)
      | (go_at_call 20; refine (HP.out _).mono ?_; rintro e w2 ⟨v2, rfl, q2, hb2⟩; obtain ⟨A2, c2, rfl, hc2, hc2m, hat2⟩ := q2.slice; have HB2 := Lib.hid hb2; have HQ2 := Lib.hid hat2; clear q2 hb2 hat2)
      | (go_at_call 22; refine (equal_any A2 A _ _ c2 c (putUint v) (putUint v) _ rfl HLK.out (by simpa using HQ2.out) ((HAT.out.drew.below HB1.out (Nat.le_refl _)).below HB2.out (Nat.le_refl _))).mono ?_; rintro e w' ⟨rfl, rfl⟩))
    go_wp2
    go_ret
    exact ⟨rfl, (((Below.refl _ _).drew).trans HB1.out).trans (HB2.out.mono HB1.out.size)⟩
  · obtain ⟨rfl, rfl, he⟩ : v = 0 ∧ k = 0 ∧ (er = 5 ∨ er = 6) := by omega
    clear h hr hok
    rcases he with rfl | rfl
    all_goals
      go_enter Try.func7, Try.ntmps7
      go_wp2_with (first
        | (go_at_call 15; go_must (refine HU.out.mono ?_); rintro e w' ⟨rfl, rfl⟩)
        | (go_at_call 17; go_must (refine (awake_any _).mono ?_); rintro e w1 ⟨rfl, hb⟩; have HB := Lib.hid hb; clear hb))
      go_ret
      exact ⟨rfl, HB.out⟩
end Go.Proofs.Ytehnbfokjkpgkaa
