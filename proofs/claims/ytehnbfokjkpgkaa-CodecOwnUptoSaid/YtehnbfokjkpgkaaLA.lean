/- The walks of the laws CodecTextReads, CodecUnframes, CodecUints. -/
import Derived.Test.YtehnbfokjkpgkaaW8
import Derived.Test.YtehnbfokjkpgkaaPlain4
namespace Go.Proofs.Ytehnbfokjkpgkaa
open Go.RowKit

theorem OwnB.slice1 {B : Nat} {w : World} {v : Value} {l : List UInt8} (h : OwnB B w v l) (h0 : 0 < l.length) : ∃ b c, v = .slice (some ⟨b, 0, none⟩) l.length c ∧ l.length ≤ c ∧ c ≤ maxLen ∧ B ≤ b ∧ b < w.heap.size ∧ At w (some ⟨b, 0, none⟩) (bytesV l) := by
  have hat := h.slice
  rcases h.2 with ⟨hv, hn⟩ | ⟨g, cap, cur, hv, hb, hg, hnc, hcm, hcs, ht⟩
  · omega
  · obtain ⟨A, c, e, _, _, hat⟩ := hat
    rw [hv] at e
    injection e with e1 e2 e3
    subst e1
    exact ⟨g, cap, hv, hnc, hcm, hb, (Array.getElem?_eq_some_iff.1 hg).1, hat⟩

set_option maxRecDepth 100000 in
set_option maxHeartbeats 1000000 in
theorem law_textReads (A : Option Addr) (n c : Nat) (l : List UInt8) (w : World) (h : IsB w A n c l) : Calls Try.prog 8 #[.slice A n c] w (Yes w) := by
  have HA := Lib.hid (awake_any w)
  have hm := h.reach
  have hle := h.le
  obtain ⟨s, k, er, hr⟩ : ∃ s k er, rdText l = (s, k, er) := ⟨_, _, _, rfl⟩
  have HU := Lib.hid (text_any A n c l w h.len hle (by omega) h.at_)
  have HR := Lib.hid (rtext_any A n c l w h.len hle (by omega) h.at_)
  rw [hr, show textVal (s, k, er) = .tuple #[.string ⟨s.toArray⟩, .int .i64 k, .int .i64 er] from rfl] at HU HR
  clear h hr
  go_enter Try.func8, Try.ntmps8
  go_wp2_with (first
    | (go_at_call 23; go_must (refine HU.out.mono ?_); rintro e w' ⟨rfl, rfl⟩)
    | (go_at_call 24; go_must (refine HR.out.mono ?_); rintro e w' ⟨rfl, rfl⟩)
    | (go_at_call 17; go_must (refine HA.out.mono ?_); rintro e w1 ⟨rfl, hb⟩; have HB := Lib.hid hb; clear hb))
  all_goals go_ret
  all_goals exact ⟨by simp, HB.out⟩

set_option maxRecDepth 100000 in
set_option maxHeartbeats 1000000 in
theorem law_unframes (A : Option Addr) (n c : Nat) (l : List UInt8) (w : World) (h : IsB w A n c l) : Calls Try.prog 13 #[.slice A n c] w (Yes w) := by
  have hm := h.reach
  have hle := h.le
  obtain ⟨s, k, er, hr⟩ : ∃ s k er, rdFrame l = (s, k, er) := ⟨_, _, _, rfl⟩
  have HU := Lib.hid (unframe_any A n c l w h.len hle (by omega) h.at_)
  have HR := Lib.hid (fun w' (hb : Below w.heap.size w w') => runframe_any A n c l w' h.len hle (by omega) (h.at_.below hb (Nat.le_refl _)))
  rw [hr] at HU HR
  clear h hr
  go_enter Try.func13, Try.ntmps13
  go_wp2_with (first
    | (go_at_call 28; go_must (refine HU.out.mono ?_); rintro e w1 ⟨v1, rfl, h1, hb1⟩; obtain ⟨A1, c1, rfl, hc1, hm1, hat1⟩ := h1.slice; have HB1 := Lib.hid hb1; have HAt1 := Lib.hid hat1; clear h1 hb1 hat1)
    | (go_at_call 30; go_must (refine (HR.out _ HB1.out).mono ?_); rintro e w2 ⟨v2, rfl, h1, hb2⟩; obtain ⟨A2, c2, rfl, hc2, hm2, hat2⟩ := h1.slice; have HB2 := Lib.hid hb2; have HAt2 := Lib.hid hat2; clear h1 hb2 hat2)
    | (go_at_call 17; go_must (refine (awake_any _).mono ?_); rintro e w3 ⟨rfl, hb3⟩; have HB3 := Lib.hid hb3; clear hb3)
    | (go_at_call 22; go_must (refine (equal_any A1 A2 _ _ c1 c2 s s _ rfl rfl ((HAt1.out.below HB2.out (Nat.le_refl _)).below HB3.out (Nat.le_refl _)) (HAt2.out.below HB3.out (Nat.le_refl _))).mono ?_); rintro e w' ⟨rfl, rfl⟩))
  all_goals go_ret
  all_goals exact ⟨by simp, HB1.out.trans ((HB2.out.mono HB1.out.size).trans (HB3.out.mono (Nat.le_trans HB1.out.size HB2.out.size)))⟩

set_option maxRecDepth 100000 in
set_option maxHeartbeats 1000000 in
theorem law_uints (x : Int) (A1 : Option Addr) (n1 c1 : Nat) (l1 : List UInt8) (A2 : Option Addr) (n2 c2 : Nat) (l2 : List UInt8) (w : World) (hx : (Lit.int .u64 x).wf = true) (h1 : IsB w A1 n1 c1 l1) (h2 : IsB w A2 n2 c2 l2) :
    Calls Try.prog 6 #[.int .u64 x, .slice A1 n1 c1, .slice A2 n2 c2] w (Yes w) := by
  have hxb : 0 ≤ x ∧ x ≤ 18446744073709551615 := by simpa [Lit.wf, IntKind.min, IntKind.max, IntKind.signed, IntKind.bits] using hx
  obtain ⟨y, rfl⟩ := Int.eq_ofNat_of_zero_le hxb.1
  have hy : y < 18446744073709551616 := by omega
  clear hx hxb
  obtain ⟨i0, hi, hz0, hz1, hz2⟩ := info_parts info5
  have r1 := h1.reach
  have e1 := h1.le
  have r2 := h2.reach
  have e2 := h2.le
  have HP := Lib.hid (put_at A1 n1 c1 l1 y y w h1.nil h1.len e1 (by omega) rfl hy h1.at_)
  have HR := Lib.hid (fun w' (hb : Below w.heap.size w w') => rput_at A1 n1 c1 l1 y y w' h1.len (by omega) rfl hy (h1.at_.below hb (Nat.le_refl _)))
  have HAt2 := Lib.hid h2.at_
  have HL1 := Lib.hid h1.len
  have HL2 := Lib.hid h2.len
  have hpl := putUint_length y
  have hpp := putUint_pos y
  obtain ⟨pl, hpl'⟩ : ∃ pl, pl = (putUint y).length := ⟨_, rfl⟩
  have HPL := Lib.hid hpl'
  have hpl1 : pl ≤ 10 := by omega
  have hpl2 : 0 < pl := by omega
  obtain ⟨b, hb⟩ : ∃ b, b = l1 ++ putUint y := ⟨_, rfl⟩
  have hbl : b.length = n1 + pl := by rw [hb, List.length_append, h1.len, hpl']
  rw [← hb] at HP HR
  have HBB := Lib.hid hb
  have HBL := Lib.hid hbl
  clear h1 h2 hpl hpp hpl' hb hbl
  go_enter Try.func6, Try.ntmps6
  go_wp2_with (first
    | (go_at_call 20; go_must (refine HP.out.mono ?_); rintro e w1 ⟨v1, rfl, q1, hb1⟩; obtain ⟨g1, d1, hv1, hd1, hd1m, hg1, hg1', hat1⟩ := q1.slice1 (by have := HBL.out; omega); rw [HBL.out] at hv1 hd1; subst hv1; have HB1 := Lib.hid hb1; have HQ1 := Lib.hid hat1; clear q1 hb1 hat1)
    | (go_at_call 21; go_must (refine (HR.out _ HB1.out).mono ?_); rintro e w2 ⟨v2, rfl, q2, hb2⟩; obtain ⟨g2, d2, hv2, hd2, hd2m, hg2, hg2', hat2⟩ := q2.slice1 (by have := HBL.out; omega); rw [HBL.out] at hv2 hd2; subst hv2; have HB2 := Lib.hid hb2; have HQ2 := Lib.hid hat2; clear q2 hb2 hat2)
    | (go_at_call 17; go_must (refine (awake_any _).mono ?_); rintro e w3 ⟨rfl, hb3⟩; have HB3 := Lib.hid hb3; clear hb3)
    | (go_at_call 22; go_must (refine (equal_any _ _ _ _ d1 d2 b b _ HBL.out HBL.out ((HQ1.out.below HB2.out (Nat.le_refl _)).below HB3.out (Nat.le_refl _)) (HQ2.out.below HB3.out (Nat.le_refl _))).mono ?_); rintro e w' ⟨rfl, rfl⟩)
    | (at_builtin; have _t := HO4; go_must (refine wpList_app _ rfl (.tmp 32) (.tmp 33) 22 rfl w3.heap.size 5 i0 _ 1 1 Try.underlying22 hi hz0 hz1 hz2 rfl (by decide) (by decide) _ _ _ rfl (.inl HO4.out) A2 n2 c2 (bytesV l2) rfl (by rw [bytesV_length, HL2.out]; simp) ((HAt2.out.below HBW.out (Nat.le_refl _)).below HB4.out (Nat.le_refl _)) (bytesV_one l2) (by unfold maxLen; omega) (by omega) HB4.out.size ?_); intro v5 w5 k1 k2 k3 k4 k5; have HO5 := Lib.hid (k3 HO4.out); have HB5 := Lib.hid k5; clear k1 k2 k3 k4 k5; obtain ⟨A5, c5, hv5, hc5, hc5m, hat5⟩ := own_slice HO5.out; subst hv5; have HAt5 := Lib.hid hat5; clear hat5)
    | (at_builtin; have hs : At w3 (some ⟨g1, n1, none⟩) (bytesV (putUint y)) := (by
          have := ((HQ1.out.below HB2.out (Nat.le_refl _)).below HB3.out (Nat.le_refl _)).drop n1
          rw [bytesV_drop, HBB.out, ← HL1.out, List.drop_left] at this
          simpa [addr_add, HL1.out] using this); go_must (refine wpList_app _ rfl (.tmp 27) (.tmp 31) 22 rfl w3.heap.size 5 i0 _ 1 1 Try.underlying22 hi hz0 hz1 hz2 rfl (by decide) (by decide) _ 0 [] rfl (.inl (own_empty w3 5)) _ _ _ (bytesV (putUint y)) rfl (by rw [bytesV_length, ← HPL.out]; omega) (by simpa using hs.alloc _) (bytesV_one _) (by unfold maxLen; omega) (by omega) (by simp) ?_); intro v4 w4 k1 k2 k3 k4 k5; have HO4 := Lib.hid (k3 (own_empty w3 5)); have HB4' := Lib.hid k5; clear k1 k2 k3 k4 k5 hs; have HB4 : Hid (Below w3.heap.size w3 w4) := ((Below.refl _ _).alloc (Nat.le_refl _) _).trans HB4'.out; have HBW : Hid (Below w.heap.size w w3) := HB1.out.trans ((HB2.out.mono HB1.out.size).trans (HB3.out.mono (Nat.le_trans HB1.out.size HB2.out.size))))
    | (go_at_call 15; go_must (refine (uint_at A5 _ c5 (putUint y ++ l2) w5 (v := y) (k := pl) (e := 0) (by rw [List.length_append, HL2.out, ← HPL.out] <;> omega) (by unfold maxLen; omega) (by rw [← bytesV_append]; simpa using HAt5.out) (by rw [rdUint_put y l2 hy, HPL.out])).mono ?_); rintro e w' ⟨rfl, rfl⟩))
  go_ret
  exact ⟨ret_val (congrArg Value.bool (beq_iff_eq.2 (by omega))), HBW.out.trans ((HB4.out.mono HBW.out.size).trans (HB5.out.mono HBW.out.size))⟩
end Go.Proofs.Ytehnbfokjkpgkaa
