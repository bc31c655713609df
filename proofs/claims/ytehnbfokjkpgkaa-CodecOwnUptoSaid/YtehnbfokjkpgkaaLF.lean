/- The walks of the laws CodecTexts and CodecOwn, where what comes in is of bulk at most 1048576. -/
import Derived.Test.YtehnbfokjkpgkaaLC
namespace Go.Proofs.Ytehnbfokjkpgkaa
open Go.RowKit

theorem strB_eq (s : ByteArray) : (⟨(strB s).toArray⟩ : ByteArray) = s := by unfold strB; simp

set_option maxRecDepth 100000 in
set_option maxHeartbeats 1000000 in
theorem law_texts (s : ByteArray) (A1 : Option Addr) (n1 c1 : Nat) (l1 : List UInt8) (A2 : Option Addr) (n2 c2 : Nat) (l2 : List UInt8) (w : World) (_hs : s.size ≤ 140737488351232) (h1 : IsB w A1 n1 c1 l1) (h2 : IsB w A2 n2 c2 l2)
    (b0 : s.size ≤ 1048576) (b1 : l1.length ≤ 1048576) (b2 : l2.length ≤ 1048576) :
    Calls Try.prog 9 #[.string s, .slice A1 n1 c1, .slice A2 n2 c2] w (Yes w) := by
  obtain ⟨i0, hi, hz0, hz1, hz2⟩ := info_parts info5
  have r1 := h1.reach
  have e1 := h1.le
  have r2 := h2.reach
  have e2 := h2.le
  rw [h1.len] at b1
  rw [h2.len] at b2
  have HP := Lib.hid (puttext_any A1 n1 c1 l1 s w h1.nil h1.len e1 (by omega) h1.at_)
  have HR := Lib.hid (fun w' (hb : Below w.heap.size w w') => rputtext_any A1 n1 c1 l1 s w' h1.len (by omega) (h1.at_.below hb (Nat.le_refl _)))
  have HAt2 := Lib.hid h2.at_
  have HL1 := Lib.hid h1.len
  have HL2 := Lib.hid h2.len
  have hpl := putUint_length s.size
  have hpp := putUint_pos s.size
  have hsb := strB_length s
  obtain ⟨pt, hpt⟩ : ∃ pt, pt = putUint s.size ++ strB s := ⟨_, rfl⟩
  obtain ⟨pl, hpl'⟩ : ∃ pl, pl = pt.length := ⟨_, rfl⟩
  have hplv : pl = (putUint s.size).length + s.size := by rw [hpl', hpt, List.length_append, hsb]
  have hpl1 : pl ≤ 1048586 := by omega
  have hpl2 : 0 < pl := by omega
  have HPL := Lib.hid hpl'
  obtain ⟨b, hb⟩ : ∃ b, b = l1 ++ pt := ⟨_, rfl⟩
  have hbl : b.length = n1 + pl := by rw [hb, List.length_append, h1.len, hpl']
  rw [List.append_assoc, ← hpt, ← hb] at HP
  have HR' : Hid (∀ w', Below w.heap.size w w' → Calls Try.prog 26 #[.slice A1 n1 c1, .string s] w' (MadeB w' b)) := fun w' hb' => by
    have := HR.out w' hb'
    rw [List.append_assoc, ← hpt, ← hb] at this
    exact this
  have HT := Lib.hid (rdText_put (strB s) l2 (by omega))
  rw [hsb, ← hpt] at HT
  have HBB := Lib.hid hb
  have HBL := Lib.hid hbl
  have HPV := Lib.hid hplv
  clear h1 h2 hpl hpp hpl' hb hbl HR hpt hsb hplv
  by_cases hlong : 1024 < s.size
  · have HT2 : Hid (rdText (pt ++ l2) = ([], 0, 3)) := by
      have := HT.out
      rw [if_pos hlong] at this
      exact this
    clear HT
    go_enter Try.func9, Try.ntmps9
    go_wp2_with (first
      | (go_at_call 25; go_must (refine HP.out.mono ?_); rintro e w1 ⟨v1, rfl, q1, hb1⟩; obtain ⟨g1, d1, hv1, hd1, hd1m, hg1, hg1', hat1⟩ := q1.slice1 (by have := HBL.out; omega); rw [HBL.out] at hv1 hd1; subst hv1; have HB1 := Lib.hid hb1; have HQ1 := Lib.hid hat1; clear q1 hb1 hat1)
      | (go_at_call 17; go_must (refine (awake_any _).mono ?_); rintro e w2 ⟨rfl, hb2⟩; have HB2 := Lib.hid hb2; clear hb2)
      | (go_at_call 26; go_must (refine (HR'.out _ (below2 HB1.out HB2.out)).mono ?_); rintro e w3 ⟨v2, rfl, q2, hb2⟩; obtain ⟨g2, d2, hv2, hd2, hd2m, hg2, hg2', hat2⟩ := q2.slice1 (by have := HBL.out; omega); rw [HBL.out] at hv2 hd2; subst hv2; have HB3 := Lib.hid hb2; have HQ2 := Lib.hid hat2; clear q2 hb2 hat2)
      | (go_at_call 22; go_must (refine (equal_any _ _ _ _ d1 d2 b b _ HBL.out HBL.out ((HQ1.out.below HB2.out (Nat.le_refl _)).below HB3.out (Nat.le_refl _)) HQ2.out).mono ?_); rintro e w' ⟨rfl, rfl⟩)
      | (at_builtin; have _t := HO4; go_must (refine wpList_app _ rfl (.tmp 30) (.tmp 31) 22 rfl w3.heap.size 5 i0 _ 1 1 Try.underlying22 hi hz0 hz1 hz2 rfl (by decide) (by decide) _ _ _ rfl (.inl HO4.out) A2 n2 c2 (bytesV l2) rfl (by rw [bytesV_length, HL2.out]; simp) ((HAt2.out.below HBW.out (Nat.le_refl _)).below HB4.out (Nat.le_refl _)) (bytesV_one l2) (by unfold maxLen; omega) (by omega) HB4.out.size ?_); intro v5 w5 k1 k2 k3 k4 k5; have HO5 := Lib.hid (k3 HO4.out); have HB5 := Lib.hid k5; clear k1 k2 k3 k4 k5; obtain ⟨A5, c5, hv5, hc5, hc5m, hat5⟩ := own_slice HO5.out; subst hv5; have HAt5 := Lib.hid hat5; clear hat5)
      | (at_builtin; have hs : At w3 (some ⟨g1, n1, none⟩) (bytesV pt) := (by
            have := ((HQ1.out.below HB2.out (Nat.le_refl _)).below HB3.out (Nat.le_refl _)).drop n1
            rw [bytesV_drop, HBB.out, ← HL1.out, List.drop_left] at this
            simpa [addr_add, HL1.out] using this); go_must (refine wpList_app _ rfl (.tmp 25) (.tmp 29) 22 rfl w3.heap.size 5 i0 _ 1 1 Try.underlying22 hi hz0 hz1 hz2 rfl (by decide) (by decide) _ 0 [] rfl (.inl (own_empty w3 5)) _ _ _ (bytesV pt) rfl (by rw [bytesV_length, ← HPL.out]; omega) (by simpa using hs.alloc _) (bytesV_one _) (by unfold maxLen; omega) (by omega) (by simp) ?_); intro v4 w4 k1 k2 k3 k4 k5; have HO4 := Lib.hid (k3 (own_empty w3 5)); have HB4' := Lib.hid k5; clear k1 k2 k3 k4 k5 hs; have HB4 : Hid (Below w3.heap.size w3 w4) := ((Below.refl _ _).alloc (Nat.le_refl _) _).trans HB4'.out; have HBW : Hid (Below w.heap.size w w3) := below3 HB1.out HB2.out HB3.out)
      | (go_at_call 23; have hu := text_any A5 (pl + n2) c5 (pt ++ l2) w5 (by rw [List.length_append, HL2.out, ← HPL.out]) (by omega) (by omega) (by rw [← bytesV_append]; simpa using HAt5.out); rw [HT2.out, show textVal ([], 0, 3) = .tuple #[.string ⟨#[]⟩, .int .i64 0, .int .i64 3] from rfl] at hu; go_must (refine hu.mono ?_); rintro e w' ⟨rfl, rfl⟩))
    go_ret
    exact ⟨rfl, HBW.out.trans ((HB4.out.mono HBW.out.size).trans (HB5.out.mono HBW.out.size))⟩
  · have HT2 : Hid (rdText (pt ++ l2) = (strB s, pl, 0)) := by
      have := HT.out
      rw [if_neg hlong, ← HPV.out] at this
      exact this
    clear HT
    go_enter Try.func9, Try.ntmps9
    go_wp2_with (first
      | (go_at_call 25; go_must (refine HP.out.mono ?_); rintro e w1 ⟨v1, rfl, q1, hb1⟩; obtain ⟨g1, d1, hv1, hd1, hd1m, hg1, hg1', hat1⟩ := q1.slice1 (by have := HBL.out; omega); rw [HBL.out] at hv1 hd1; subst hv1; have HB1 := Lib.hid hb1; have HQ1 := Lib.hid hat1; clear q1 hb1 hat1)
      | (go_at_call 17; go_must (refine (awake_any _).mono ?_); rintro e w2 ⟨rfl, hb2⟩; have HB2 := Lib.hid hb2; clear hb2)
      | (go_at_call 26; go_must (refine (HR'.out _ (below2 HB1.out HB2.out)).mono ?_); rintro e w3 ⟨v2, rfl, q2, hb2⟩; obtain ⟨g2, d2, hv2, hd2, hd2m, hg2, hg2', hat2⟩ := q2.slice1 (by have := HBL.out; omega); rw [HBL.out] at hv2 hd2; subst hv2; have HB3 := Lib.hid hb2; have HQ2 := Lib.hid hat2; clear q2 hb2 hat2)
      | (go_at_call 22; go_must (refine (equal_any _ _ _ _ d1 d2 b b _ HBL.out HBL.out ((HQ1.out.below HB2.out (Nat.le_refl _)).below HB3.out (Nat.le_refl _)) HQ2.out).mono ?_); rintro e w' ⟨rfl, rfl⟩)
      | (at_builtin; have _t := HO4; go_must (refine wpList_app _ rfl (.tmp 30) (.tmp 31) 22 rfl w3.heap.size 5 i0 _ 1 1 Try.underlying22 hi hz0 hz1 hz2 rfl (by decide) (by decide) _ _ _ rfl (.inl HO4.out) A2 n2 c2 (bytesV l2) rfl (by rw [bytesV_length, HL2.out]; simp) ((HAt2.out.below HBW.out (Nat.le_refl _)).below HB4.out (Nat.le_refl _)) (bytesV_one l2) (by unfold maxLen; omega) (by omega) HB4.out.size ?_); intro v5 w5 k1 k2 k3 k4 k5; have HO5 := Lib.hid (k3 HO4.out); have HB5 := Lib.hid k5; clear k1 k2 k3 k4 k5; obtain ⟨A5, c5, hv5, hc5, hc5m, hat5⟩ := own_slice HO5.out; subst hv5; have HAt5 := Lib.hid hat5; clear hat5)
      | (at_builtin; have hs : At w3 (some ⟨g1, n1, none⟩) (bytesV pt) := (by
            have := ((HQ1.out.below HB2.out (Nat.le_refl _)).below HB3.out (Nat.le_refl _)).drop n1
            rw [bytesV_drop, HBB.out, ← HL1.out, List.drop_left] at this
            simpa [addr_add, HL1.out] using this); go_must (refine wpList_app _ rfl (.tmp 25) (.tmp 29) 22 rfl w3.heap.size 5 i0 _ 1 1 Try.underlying22 hi hz0 hz1 hz2 rfl (by decide) (by decide) _ 0 [] rfl (.inl (own_empty w3 5)) _ _ _ (bytesV pt) rfl (by rw [bytesV_length, ← HPL.out]; omega) (by simpa using hs.alloc _) (bytesV_one _) (by unfold maxLen; omega) (by omega) (by simp) ?_); intro v4 w4 k1 k2 k3 k4 k5; have HO4 := Lib.hid (k3 (own_empty w3 5)); have HB4' := Lib.hid k5; clear k1 k2 k3 k4 k5 hs; have HB4 : Hid (Below w3.heap.size w3 w4) := ((Below.refl _ _).alloc (Nat.le_refl _) _).trans HB4'.out; have HBW : Hid (Below w.heap.size w w3) := below3 HB1.out HB2.out HB3.out)
      | (go_at_call 23; have hu := text_any A5 (pl + n2) c5 (pt ++ l2) w5 (by rw [List.length_append, HL2.out, ← HPL.out]) (by omega) (by omega) (by rw [← bytesV_append]; simpa using HAt5.out); rw [HT2.out, show textVal (strB s, pl, 0) = .tuple #[.string s, .int .i64 pl, .int .i64 0] by unfold textVal; rw [strB_eq]; rfl] at hu; go_must (refine hu.mono ?_); rintro e w' ⟨rfl, rfl⟩))
    go_ret
    exact ⟨ret_val (congrArg Value.bool (beq_iff_eq.2 (by omega))), HBW.out.trans ((HB4.out.mono HBW.out.size).trans (HB5.out.mono HBW.out.size))⟩

def sevens : List UInt8 := [7, 7, 7, 7]
theorem bytesV_sevens : bytesV sevens = [.int .u8 7, .int .u8 7, .int .u8 7, .int .u8 7] := rfl

set_option maxRecDepth 100000 in
set_option maxHeartbeats 2000000 in
theorem law_own (A : Option Addr) (n c : Nat) (l : List UInt8) (x : Int) (s : ByteArray) (w : World) (h : IsB w A n c l) (hx : (Lit.int .u64 x).wf = true) (_hs : s.size ≤ 140737488351232)
    (b1 : l.length ≤ 1048576) (b0 : s.size ≤ 1048576) :
    Calls Try.prog 14 #[.slice A n c, .int .u64 x, .string s] w (Yes w) := by
  have hxb : 0 ≤ x ∧ x ≤ 18446744073709551615 := by simpa [Lit.wf, IntKind.min, IntKind.max, IntKind.signed, IntKind.bits] using hx
  obtain ⟨y, rfl⟩ := Int.eq_ofNat_of_zero_le hxb.1
  have hy : y < 18446744073709551616 := by omega
  clear hx hxb
  obtain ⟨i0, hi, hz0, hz1, hz2⟩ := info_parts info5
  have r1 := h.reach
  have e1 := h.le
  rw [h.len] at b1
  have HAt := Lib.hid h.at_
  have HL := Lib.hid h.len
  clear h
  obtain ⟨room, hroom⟩ : ∃ room, room = l ++ sevens := ⟨_, rfl⟩
  have hrl : room.length = n + 4 := by rw [hroom, List.length_append, HL.out]; rfl
  have HRM := Lib.hid hroom
  have HRL := Lib.hid hrl
  clear hroom hrl
  have tok1 : True := trivial
  obtain ⟨tv, tk, te, hr⟩ : ∃ v k er, rdUint l = (v, k, er) := ⟨_, _, _, rfl⟩
  have HRD := Lib.hid hr
  clear hr
  go_enter Try.func14, Try.ntmps14
  go_wp2_with (first
    | (at_builtin; have _t := HB9; have _t2 := HO10; go_must (refine wpList_app_g _ rfl (.tmp 39) (.tmp 40) 22 rfl w9.heap.size 5 i0 _ 1 1 Try.underlying22 hi hz0 hz1 hz2 rfl (by decide) (by decide) v10 _ _ rfl (Gr.alloc (.inl HO10.out) _) (some ⟨w10.heap.size, 0, none⟩) 4 4 (bytesV sevens) rfl rfl (At.new w10 (bytesV sevens) 5) (bytesV_one _) (by unfold maxLen; omega) (by omega) (by have := HB10.out.size; simp; omega) ?_); intro v11 w11 k1 k2 k3 k4 k5; have HO11 := Lib.hid (k2 (by decide)); have HB11' := Lib.hid k5; clear k1 k2 k3 k4 k5; obtain ⟨A11, c11, hv11, hc11, hc11m, hat11⟩ := own_slice HO11.out; subst hv11; have HAt11 := Lib.hid hat11; clear hat11)
    | (at_builtin; have _t := HB9; go_must (refine wpList_app_g _ rfl (.tmp 37) (.tmp 38) 22 rfl w9.heap.size 5 i0 _ 1 1 Try.underlying22 hi hz0 hz1 hz2 rfl (by decide) (by decide) _ 0 [] rfl (.inl (own_empty w9 5)) A n c (bytesV l) rfl (by rw [bytesV_length, HL.out]; simp) ((HAt.out.below HBW9.out (Nat.le_refl _)).alloc _) (bytesV_one _) (by unfold maxLen; omega) (by omega) (by simp) ?_); intro v10 w10 k1 k2 k3 k4 k5; have HO10 := Lib.hid (k3 (own_empty w9 5)); have HB10' := Lib.hid k5; clear k1 k2 k3 k4 k5; have HB10 : Hid (Below w9.heap.size w9 w10) := ((Below.refl _ _).alloc (Nat.le_refl _) _).trans HB10'.out)
    | (at_builtin; have _t := HO1; go_must (refine wpList_app _ rfl (.tmp 11) (.tmp 12) 22 rfl w.heap.size 5 i0 _ 1 1 Try.underlying22 hi hz0 hz1 hz2 rfl (by decide) (by decide) v1 _ _ rfl (Gr.alloc (.inl HO1.out) _) (some ⟨w1.heap.size, 0, none⟩) 4 4 (bytesV sevens) rfl rfl (At.new w1 (bytesV sevens) 5) (bytesV_one _) (by unfold maxLen; omega) (by omega) (by have := HB1.out.size; simp; omega) ?_); intro v2 w2 k1 k2 k3 k4 k5; have hO2 := k2 (by decide); have HB2' := Lib.hid k5; clear k1 k2 k3 k4 k5; have HB2 : Hid (Below w.heap.size w w2) := (HB1.out.alloc HB1.out.size _).trans HB2'.out; simp only [List.nil_append, bytesV_append, ← HRM.out, Nat.zero_add, ← HRL.out] at hO2; obtain ⟨g, cap, hv2, hcap, hcapm, hg, hg', hat2⟩ := OwnB.slice1 hO2 (by have := HRL.out; omega); rw [HRL.out] at hv2 hcap; subst hv2; have HQ2 := Lib.hid hat2; clear hat2 hO2)
    | (at_builtin; go_must (refine wpList_app _ rfl (.tmp 9) (.tmp 10) 22 rfl w.heap.size 5 i0 _ 1 1 Try.underlying22 hi hz0 hz1 hz2 rfl (by decide) (by decide) _ 0 [] rfl (.inl (own_empty w 5)) A n c (bytesV l) rfl (by rw [bytesV_length, HL.out]; simp) (HAt.out.alloc _) (bytesV_one _) (by unfold maxLen; omega) (by omega) (by simp) ?_); intro v1 w1 k1 k2 k3 k4 k5; have HO1 := Lib.hid (k3 (own_empty w 5)); have HB1' := Lib.hid k5; clear k1 k2 k3 k4 k5; have HB1 : Hid (Below w.heap.size w w1) := ((Below.refl _ _).alloc (Nat.le_refl _) _).trans HB1'.out)
    | (go_at_call 20; have hp : At w2 (some ⟨g, 0, none⟩) (bytesV l) := (by have := HQ2.out.take l.length; rw [bytesV_take, HRM.out, List.take_left] at this; exact this); have HPT := Lib.hid hp; clear hp; go_must (refine (put_at (some ⟨g, 0, none⟩) n cap l y y w2 (fun h => by cases h) HL.out (by omega) (by omega) rfl hy HPT.out).mono ?_); rintro e w3 ⟨v3, rfl, q3, hb3⟩; have HB3 := Lib.hid hb3; clear q3 hb3)
    | (go_at_call 25; go_must (refine (puttext_any (some ⟨g, 0, none⟩) n cap l s w3 (fun h => by cases h) HL.out (by omega) (by omega) (HPT.out.below HB3.out (Nat.le_refl _))).mono ?_); rintro e w4 ⟨v4, rfl, q4, hb4⟩; have HB4 := Lib.hid hb4; have HPT4 := Lib.hid ((HPT.out.below HB3.out (Nat.le_refl _)).below hb4 (Nat.le_refl _)); clear q4 hb4)
    | (go_at_call 15; go_must (refine (uint_at (some ⟨g, 0, none⟩) n cap l w4 HL.out (by unfold maxLen; omega) HPT4.out HRD.out).mono ?_); rintro e w' ⟨rfl, rfl⟩)
    | (go_at_call 23; go_must (refine (text_any (some ⟨g, 0, none⟩) n cap l w4 HL.out (by omega) (by omega) HPT4.out).mono ?_); rintro e w' ⟨rfl, rfl⟩)
    | (go_at_call 27; go_must (refine (frame_any (some ⟨g, 0, none⟩) n cap l w4 HL.out (by omega) HPT4.out).mono ?_); rintro e w5 ⟨v5, rfl, q5, hb5⟩; have HB5 := Lib.hid hb5; clear q5 hb5)
    | (go_at_call 28; go_must (refine (unframe_any (some ⟨g, 0, none⟩) n cap l w5 HL.out (by omega) (by omega) (HPT4.out.below HB5.out (Nat.le_refl _))).mono ?_); rintro e w6 ⟨v6, rfl, q6, hb6⟩; have HB6 := Lib.hid hb6; clear q6 hb6)
    | (go_at_call 18; go_must (refine (crc_at (some ⟨g, 0, none⟩) n cap l w6 HL.out (by unfold maxLen; omega) ((HPT4.out.below HB5.out (Nat.le_refl _)).below HB6.out (Nat.le_refl _))).mono ?_); rintro e w' ⟨rfl, rfl⟩)
    | (go_at_call 17; go_must (refine (awake_any _).mono ?_); rintro e w9 ⟨rfl, hb9⟩; have HB9 := Lib.hid hb9; clear hb9; have HB29 : Hid (Below w2.heap.size w2 w9) := below2 (below3 HB3.out HB4.out HB5.out) (below2 HB6.out HB9.out); have HBW9 : Hid (Below w.heap.size w w9) := HB2.out.trans (HB29.out.mono HB2.out.size))
    | (go_at_call 22; go_must (refine (equal_any (some ⟨g, 0, none⟩) A11 _ _ cap c11 room room w11 HRL.out (by rw [HRL.out] <;> omega) ((HQ2.out.below HB29.out (Nat.le_refl _)).below ((HB10.out.alloc HB10.out.size _).trans HB11'.out) (Nat.le_refl _)) (by have := HAt11.out; rw [List.nil_append, bytesV_append, ← HRM.out] at this; exact this)).mono ?_); rintro e w' ⟨rfl, rfl⟩))
  go_ret
  exact ⟨rfl, HBW9.out.trans (((HB10.out.alloc HB10.out.size _).trans HB11'.out).mono HBW9.out.size)⟩

theorem bulk_lits {H : Type} (k : IntKind) (zs : List Int) : zs.length ≤ Rows.uptoBulkAll (ChangeShapes.lits (H := H) k zs) := by
  induction zs with
  | nil => simp [ChangeShapes.lits, Rows.uptoBulkAll]
  | cons z zs ih =>
    simp only [ChangeShapes.lits, List.map_cons, Rows.uptoBulkAll, Rows.uptoBulk, List.length_cons] at ih ⊢
    omega
end Go.Proofs.Ytehnbfokjkpgkaa
