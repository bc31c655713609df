/- The walks of the laws CodecFrames and CodecPrefixes. -/
import Derived.Test.YtehnbfokjkpgkaaLA
namespace Go.Proofs.Ytehnbfokjkpgkaa
open Go.RowKit

theorem frame_length (l : List UInt8) : (frame l).length = (putUint l.length).length + l.length + 4 := by
  simp [frame, sumB]
  omega
theorem below3 {w w1 w2 w3 : World} (h1 : Below w.heap.size w w1) (h2 : Below w1.heap.size w1 w2) (h3 : Below w2.heap.size w2 w3) : Below w.heap.size w w3 :=
  h1.trans ((h2.mono h1.size).trans (h3.mono (Nat.le_trans h1.size h2.size)))
theorem below2 {w w1 w2 : World} (h1 : Below w.heap.size w w1) (h2 : Below w1.heap.size w1 w2) : Below w.heap.size w w2 := h1.trans (h2.mono h1.size)

set_option maxRecDepth 100000 in
set_option maxHeartbeats 1000000 in
theorem law_frames (A : Option Addr) (n c : Nat) (l : List UInt8) (A' : Option Addr) (n' c' : Nat) (l' : List UInt8) (w : World) (h : IsB w A n c l) (h' : IsB w A' n' c' l') :
    Calls Try.prog 12 #[.slice A n c, .slice A' n' c'] w (Yes w) := by
  obtain ⟨i0, hi, hz0, hz1, hz2⟩ := info_parts info5
  have r1 := h.reach
  have e1 := h.le
  have r2 := h'.reach
  have e2 := h'.le
  have HF := Lib.hid (frame_any A n c l w h.len (by omega) h.at_)
  have HR := Lib.hid (fun w' (hb : Below w.heap.size w w') => rframe_any A n c l w' h.len (by omega) (h.at_.below hb (Nat.le_refl _)))
  have HL := Lib.hid h.len
  have HL' := Lib.hid h'.len
  have HAt := Lib.hid h.at_
  have HAt' := Lib.hid h'.at_
  have hln := h.len
  by_cases hbig : 4096 < n
  · rw [show frameR l = ([], 3) by unfold frameR; rw [if_pos (by omega)]] at HF HR
    clear h h' hln
    go_enter Try.func12, Try.ntmps12
    go_wp2_with (first
      | (go_at_call 27; go_must (refine HF.out.mono ?_); rintro e w1 ⟨v1, rfl, q1, hb1⟩; obtain ⟨A1, c1, rfl, hc1, hm1, hat1⟩ := q1.slice; have HB1 := Lib.hid hb1; have HAt1 := Lib.hid hat1; clear q1 hb1 hat1)
      | (go_at_call 29; go_must (refine (HR.out _ HB1.out).mono ?_); rintro e w2 ⟨v2, rfl, q2, hb2⟩; obtain ⟨A2, c2, rfl, hc2, hm2, hat2⟩ := q2.slice; have HB2 := Lib.hid hb2; have HAt2 := Lib.hid hat2; clear q2 hb2 hat2)
      | (go_at_call 17; go_must (refine (awake_any _).mono ?_); rintro e w3 ⟨rfl, hb3⟩; have HB3 := Lib.hid hb3; clear hb3)
      | (go_at_call 22; go_must (refine (equal_any A1 A2 _ _ c1 c2 [] [] _ rfl rfl (At.nil _ _) (At.nil _ _)).mono ?_); rintro e w' ⟨rfl, rfl⟩))
    go_ret
    exact ⟨by simp; omega, below3 HB1.out HB2.out HB3.out⟩
  · rw [show frameR l = (frame l, 0) by unfold frameR; rw [if_neg (by omega)]] at HF HR
    have hfl := frame_length l
    have hpl := putUint_length l.length
    rw [hln] at hfl hpl
    obtain ⟨N, hN⟩ : ∃ N, N = (frame l).length := ⟨_, rfl⟩
    have hN1 : N ≤ 4110 := by omega
    have hN2 : 0 < N := by omega
    have HN := Lib.hid hN.symm
    have HU := Lib.hid (rdFrame_put l l' (by omega))
    rw [← hN] at HU
    clear h h' hln hfl hpl hN
    go_enter Try.func12, Try.ntmps12
    go_wp2_with (first
      | (go_at_call 27; go_must (refine HF.out.mono ?_); rintro e w1 ⟨v1, rfl, q1, hb1⟩; obtain ⟨A1, c1, hv1, hc1, hm1, hat1⟩ := q1.slice; rw [HN.out] at hv1 hc1; subst hv1; have HB1 := Lib.hid hb1; have HAt1 := Lib.hid hat1; clear q1 hb1 hat1)
      | (go_at_call 29; go_must (refine (HR.out _ HB1.out).mono ?_); rintro e w2 ⟨v2, rfl, q2, hb2⟩; obtain ⟨A2, c2, hv2, hc2, hm2, hat2⟩ := q2.slice; rw [HN.out] at hv2 hc2; subst hv2; have HB2 := Lib.hid hb2; have HAt2 := Lib.hid hat2; clear q2 hb2 hat2)
      | (go_at_call 17; go_must (refine (awake_any _).mono ?_); rintro e w3 ⟨rfl, hb3⟩; have HB3 := Lib.hid hb3; clear hb3; have HBW := Lib.hid (below3 HB1.out HB2.out HB3.out))
      | (go_at_call 22; have _t := HB6; go_must (refine (equal_any A6 A _ _ c6 c l l _ rfl HL.out HAt6.out ((HAt.out.below HBW5.out (Nat.le_refl _)).below HB6.out (Nat.le_refl _))).mono ?_); rintro e w' ⟨rfl, rfl⟩)
      | (go_at_call 22; go_must (refine (equal_any A1 A2 _ _ c1 c2 (frame l) (frame l) _ HN.out HN.out ((HAt1.out.below HB2.out (Nat.le_refl _)).below HB3.out (Nat.le_refl _)) (HAt2.out.below HB3.out (Nat.le_refl _))).mono ?_); rintro e w' ⟨rfl, rfl⟩)
      | (at_builtin; have _t := HO4; go_must (refine wpList_app _ rfl (.tmp 43) (.tmp 44) 22 rfl w3.heap.size 5 i0 _ 1 1 Try.underlying22 hi hz0 hz1 hz2 rfl (by decide) (by decide) _ _ _ rfl (.inl HO4.out) A' n' c' (bytesV l') rfl (by rw [bytesV_length, HL'.out]; simp) ((HAt'.out.below HBW.out (Nat.le_refl _)).below HB4.out (Nat.le_refl _)) (bytesV_one l') (by unfold maxLen; omega) (by omega) HB4.out.size ?_); intro v5 w5 k1 k2 k3 k4 k5; have HO5 := Lib.hid (k3 HO4.out); have HB5 := Lib.hid k5; clear k1 k2 k3 k4 k5; obtain ⟨A5, c5, hv5, hc5, hc5m, hat5⟩ := own_slice HO5.out; subst hv5; have HAt5 := Lib.hid hat5; clear hat5; have HBW5 : Hid (Below w.heap.size w w5) := HBW.out.trans ((HB4.out.mono HBW.out.size).trans (HB5.out.mono HBW.out.size)))
      | (at_builtin; go_must (refine wpList_app _ rfl (.tmp 41) (.tmp 42) 22 rfl w3.heap.size 5 i0 _ 1 1 Try.underlying22 hi hz0 hz1 hz2 rfl (by decide) (by decide) _ 0 [] rfl (.inl (own_empty w3 5)) A1 N c1 (bytesV (frame l)) rfl (by rw [bytesV_length, HN.out]; simp) (((HAt1.out.below HB2.out (Nat.le_refl _)).below HB3.out (Nat.le_refl _)).alloc _) (bytesV_one _) (by unfold maxLen; omega) (by omega) (by simp) ?_); intro v4 w4 k1 k2 k3 k4 k5; have HO4 := Lib.hid (k3 (own_empty w3 5)); have HB4' := Lib.hid k5; clear k1 k2 k3 k4 k5; have HB4 : Hid (Below w3.heap.size w3 w4) := ((Below.refl _ _).alloc (Nat.le_refl _) _).trans HB4'.out)
      | (go_at_call 28; have hu := unframe_any A5 (N + n') c5 (frame l ++ l') w5 (by rw [List.length_append, HN.out, HL'.out]) (by omega) (by omega) (by rw [← bytesV_append]; simpa using HAt5.out); rw [HU.out] at hu; go_must (refine hu.mono ?_); rintro e w6 ⟨v6, rfl, q6, hb6⟩; obtain ⟨A6, c6, hv6, hc6, hm6, hat6⟩ := q6.slice; subst hv6; have HB6 := Lib.hid hb6; have HAt6 := Lib.hid hat6; clear q6 hb6 hat6 hu))
    go_ret
    exact ⟨by simp, HBW5.out.trans (HB6.out.mono HBW5.out.size)⟩

set_option maxRecDepth 100000 in
set_option maxHeartbeats 1000000 in
theorem law_prefixes (A : Option Addr) (n c : Nat) (l : List UInt8) (cut : Int) (w : World) (h : IsB w A n c l) (hcut : (Lit.int .i64 cut).wf = true) :
    Calls Try.prog 10 #[.slice A n c, .int .i64 cut] w (Yes w) := by
  have hcb : -9223372036854775808 ≤ cut ∧ cut ≤ 9223372036854775807 := by simpa [Lit.wf, IntKind.min, IntKind.max, IntKind.signed, IntKind.bits] using hcut
  clear hcut
  have r1 := h.reach
  have e1 := h.le
  have HF := Lib.hid (frame_any A n c l w h.len (by omega) h.at_)
  have hln := h.len
  by_cases hbig : 4096 < n
  · rw [show frameR l = ([], 3) by unfold frameR; rw [if_pos (by omega)]] at HF
    clear h hln
    go_enter Try.func10, Try.ntmps10
    go_wp2_with (first
      | (go_at_call 27; go_must (refine HF.out.mono ?_); rintro e w1 ⟨v1, rfl, q1, hb1⟩; obtain ⟨A1, c1, rfl, hc1, hm1, hat1⟩ := q1.slice; have HB1 := Lib.hid hb1; clear q1 hb1 hat1)
      | (go_at_call 17; go_must (refine (awake_any _).mono ?_); rintro e w3 ⟨rfl, hb3⟩; have HB3 := Lib.hid hb3; clear hb3))
    all_goals go_ret
    all_goals exact ⟨rfl, below2 HB1.out HB3.out⟩
  · rw [show frameR l = (frame l, 0) by unfold frameR; rw [if_neg (by omega)]] at HF
    have hfl := frame_length l
    have hpl := putUint_length l.length
    rw [hln] at hfl hpl
    obtain ⟨N, hN⟩ : ∃ N, N = (frame l).length := ⟨_, rfl⟩
    have hN1 : N ≤ 4110 := by omega
    have hN2 : 0 < N := by omega
    have HN := Lib.hid hN.symm
    have hd : decide ((n : Int) ≤ 4096) = true := by simp; omega
    by_cases hc : 0 ≤ cut ∧ cut < N
    · obtain ⟨k, rfl⟩ := Int.eq_ofNat_of_zero_le hc.1
      have hk : k < N := by omega
      have HU := Lib.hid (rdFrame_prefix l k (by omega) (by omega))
      clear h hln hfl hpl hN hc
      go_enter Try.func10, Try.ntmps10
      go_wp2_with (first
        | (go_at_call 27; go_must (refine HF.out.mono ?_); rintro e w1 ⟨v1, rfl, q1, hb1⟩; obtain ⟨A1, c1, hv1, hc1, hm1, hat1⟩ := q1.slice; rw [HN.out] at hv1 hc1; subst hv1; have HB1 := Lib.hid hb1; have HAt1 := Lib.hid hat1; clear q1 hb1 hat1)
        | (go_at_call 17; go_must (refine (awake_any _).mono ?_); rintro e w3 ⟨rfl, hb3⟩; have HB3 := Lib.hid hb3; clear hb3)
        | (go_at_call 28; have hu := unframe_any A1 k c1 ((frame l).take k) w3 (by rw [List.length_take, HN.out]; omega) (by omega) (by omega) (by rw [← bytesV_take]; exact (HAt1.out.below HB3.out (Nat.le_refl _)).take k); rw [HU.out] at hu; go_must (refine hu.mono ?_); rintro e w6 ⟨v6, rfl, q6, hb6⟩; obtain ⟨A6, c6, hv6, hc6, hm6, hat6⟩ := q6.slice; subst hv6; have HB6 := Lib.hid hb6; clear q6 hb6 hat6 hu))
      go_ret
      exact ⟨rfl, below3 HB1.out HB3.out HB6.out⟩
    · clear h hln hfl hpl hN
      by_cases hc0 : cut < 0
      all_goals
        go_enter Try.func10, Try.ntmps10
        go_wp2_with (first
          | (go_at_call 27; go_must (refine HF.out.mono ?_); rintro e w1 ⟨v1, rfl, q1, hb1⟩; obtain ⟨A1, c1, hv1, hc1, hm1, hat1⟩ := q1.slice; rw [HN.out] at hv1 hc1; subst hv1; have HB1 := Lib.hid hb1; clear q1 hb1 hat1)
          | (go_at_call 17; go_must (refine (awake_any _).mono ?_); rintro e w3 ⟨rfl, hb3⟩; have HB3 := Lib.hid hb3; clear hb3))
      all_goals go_ret
      all_goals exact ⟨rfl, below2 HB1.out HB3.out⟩
end Go.Proofs.Ytehnbfokjkpgkaa
