/- The walk of the law CodecFlips. -/
import Derived.Test.YtehnbfokjkpgkaaLC
import Derived.Test.YtehnbfokjkpgkaaLD
namespace Go.Proofs.Ytehnbfokjkpgkaa
open Go.RowKit

theorem be_inj4 (a b c d a' b' c' d' : UInt8) (h : be [a, b, c, d] = be [a', b', c', d']) : a = a' ∧ b = b' ∧ c = c' ∧ d = d' := by
  rw [be4, be4] at h
  have h1 := a.toNat_lt; have h2 := b.toNat_lt; have h3 := c.toNat_lt; have h4 := d.toNat_lt
  have h5 := a'.toNat_lt; have h6 := b'.toNat_lt; have h7 := c'.toNat_lt; have h8 := d'.toNat_lt
  refine ⟨UInt8.toNat_inj.1 ?_, UInt8.toNat_inj.1 ?_, UInt8.toNat_inj.1 ?_, UInt8.toNat_inj.1 ?_⟩ <;> omega
theorem xor_ne (a e : UInt8) (he : e ≠ 0) : a ^^^ e ≠ a := by
  intro h
  have := congrArg (a ^^^ ·) h
  simp only [← UInt8.xor_assoc, UInt8.xor_self, UInt8.zero_xor] at this
  exact he this
theorem be_set (t : List UInt8) (ht : t.length = 4) (j : Nat) (hj : j < t.length) (e : UInt8) (he : e ≠ 0) : be (t.set j (t[j] ^^^ e)) ≠ be t := by
  match t, ht with
  | [a, b, c, d], _ =>
    intro h
    match j, hj with
    | 0, _ => exact xor_ne a e he (be_inj4 _ _ _ _ _ _ _ _ h).1
    | 1, _ => exact xor_ne b e he (be_inj4 _ _ _ _ _ _ _ _ h).2.1
    | 2, _ => exact xor_ne c e he (be_inj4 _ _ _ _ _ _ _ _ h).2.2.1
    | 3, _ => exact xor_ne d e he (be_inj4 _ _ _ _ _ _ _ _ h).2.2.2
theorem crc_set (l : List UInt8) (j : Nat) (hj : j < l.length) (e : UInt8) (he : e ≠ 0) : crc (l.set j (l[j] ^^^ e)) ≠ crc l := by
  have h := crc_burst (l.take j) [l[j]] (l.drop (j + 1)) [e] rfl (by simp)
  have e1 : l.take j ++ [l[j]] ++ l.drop (j + 1) = l := by rw [List.append_assoc, List.singleton_append, ← List.drop_eq_getElem_cons hj, List.take_append_drop]
  have e2 : l.take j ++ xorL [l[j]] [e] ++ l.drop (j + 1) = l.set j (l[j] ^^^ e) := by
    rw [List.set_eq_take_append_cons_drop, if_pos hj]
    simp [xorL]
  rw [e1, e2] at h
  intro hc
  exact he (h.1 hc e (by simp))

/-- a single changed bit is noticed -/
theorem rdFrame_flip (l : List UInt8) (at_ : Nat) (h : l.length ≤ 4096) (ha : at_ < l.length + 4) (e : UInt8) (he : e ≠ 0) (hp : (putUint l.length).length + at_ < (frame l).length) :
    rdFrame ((frame l).set ((putUint l.length).length + at_) ((frame l)[(putUint l.length).length + at_] ^^^ e)) = ([], 0, 7) := by
  have hs : (sumB (crc l)).length = 4 := rfl
  have ef : frame l = putUint l.length ++ (l ++ sumB (crc l)) := by simp [frame]
  have hget : (frame l)[(putUint l.length).length + at_] = (l ++ sumB (crc l))[at_]'(by simp [hs]; omega) := by
    simp only [ef]
    rw [List.getElem_append_right (by omega)]
    congr 1
    omega
  rw [hget]
  rw [ef, List.set_append_right _ _ (by omega), show (putUint l.length).length + at_ - (putUint l.length).length = at_ by omega]
  by_cases h1 : at_ < l.length
  · have e1 : (l ++ sumB (crc l)).set at_ ((l ++ sumB (crc l))[at_]'(by simp [hs]; omega) ^^^ e) = l.set at_ (l[at_] ^^^ e) ++ sumB (crc l) := by
      rw [List.set_append_left _ _ h1, List.getElem_append_left h1]
    rw [e1]
    have hr := rdUint_put l.length (l.set at_ (l[at_] ^^^ e) ++ sumB (crc l)) (by omega)
    have hl : (l.set at_ (l[at_] ^^^ e)).length = l.length := by simp
    have d1 : ((putUint l.length ++ (l.set at_ (l[at_] ^^^ e) ++ sumB (crc l))).drop (putUint l.length).length).take l.length = l.set at_ (l[at_] ^^^ e) := by
      rw [List.drop_left]
      exact List.take_left' hl
    have d2 : ((putUint l.length ++ (l.set at_ (l[at_] ^^^ e) ++ sumB (crc l))).drop ((putUint l.length).length + l.length)).take 4 = sumB (crc l) := by
      rw [← List.drop_drop, List.drop_left, List.drop_left' hl]
      exact List.take_of_length_le (by rw [hs]; omega)
    refine rdFrame_sum hr (by omega) (by simp [hs]) ?_
    rw [d1, d2, be_sumB _ (crc_lt l)]
    exact (crc_set l at_ h1 e he).symm
  · have e1 : (l ++ sumB (crc l)).set at_ ((l ++ sumB (crc l))[at_]'(by simp [hs]; omega) ^^^ e) = l ++ (sumB (crc l)).set (at_ - l.length) ((sumB (crc l))[at_ - l.length]'(by rw [hs]; omega) ^^^ e) := by
      rw [List.set_append_right _ _ (by omega), List.getElem_append_right (by omega)]
    rw [e1]
    have hb := be_set (sumB (crc l)) hs (at_ - l.length) (by rw [hs]; omega) e he
    generalize hT : (sumB (crc l)).set (at_ - l.length) ((sumB (crc l))[at_ - l.length]'(by rw [hs]; omega) ^^^ e) = T at *
    have hTl : T.length = 4 := by rw [← hT]; simp [hs]
    have hr := rdUint_put l.length (l ++ T) (by omega)
    have d1 : ((putUint l.length ++ (l ++ T)).drop (putUint l.length).length).take l.length = l := by
      rw [List.drop_left]
      exact List.take_left
    have d2 : ((putUint l.length ++ (l ++ T)).drop ((putUint l.length).length + l.length)).take 4 = T := by
      rw [← List.drop_drop, List.drop_left, List.drop_left]
      exact List.take_of_length_le (by omega)
    refine rdFrame_sum hr (by omega) (by simp [hTl]) ?_
    rw [d1, d2]
    rw [be_sumB _ (crc_lt l)] at hb
    exact hb

theorem rdFrame_flip' (l : List UInt8) (hd at_ : Nat) (hH : hd = (putUint l.length).length) (h : l.length ≤ 4096) (ha : at_ < l.length + 4) (z e : UInt8) (he : e ≠ 0) (hz : (frame l)[hd + at_]? = some z) :
    rdFrame ((frame l).set (hd + at_) (z ^^^ e)) = ([], 0, 7) := by
  subst hH
  obtain ⟨hp, hz'⟩ := List.getElem?_eq_some_iff.1 hz
  rw [← hz']
  exact rdFrame_flip l at_ h ha e he hp

theorem bit_byte (b : Nat) (hb : b ≤ 7) : ∃ e : UInt8, e ≠ 0 ∧ (2 : Int) ^ b % 256 = (e.toNat : Int) := by
  have key : ∀ b : Fin 8, UInt8.ofNat (2 ^ b.val) ≠ 0 ∧ (2 : Int) ^ b.val % 256 = ((UInt8.ofNat (2 ^ b.val)).toNat : Int) := by decide +kernel
  exact ⟨UInt8.ofNat (2 ^ b), key ⟨b, by omega⟩⟩

set_option maxRecDepth 100000 in
set_option maxHeartbeats 1000000 in
theorem law_flips (A : Option Addr) (n c : Nat) (l : List UInt8) (x y : Int) (w : World) (h : IsB w A n c l) (hx : (Lit.int .i64 x).wf = true) (hy : (Lit.int .i64 y).wf = true) :
    Calls Try.prog 11 #[.slice A n c, .int .i64 x, .int .i64 y] w (Yes w) := by
  have hxb : -9223372036854775808 ≤ x ∧ x ≤ 9223372036854775807 := by simpa [Lit.wf, IntKind.min, IntKind.max, IntKind.signed, IntKind.bits] using hx
  have hyb : -9223372036854775808 ≤ y ∧ y ≤ 9223372036854775807 := by simpa [Lit.wf, IntKind.min, IntKind.max, IntKind.signed, IntKind.bits] using hy
  clear hx hy
  have r1 := h.reach
  have e1 := h.le
  have HF := Lib.hid (frame_any A n c l w h.len (by omega) h.at_)
  have HP := Lib.hid (fun w' => rput_at none 0 0 [] n n w' rfl (by omega) rfl (by omega) (At.nil _ _))
  have hln := h.len
  by_cases hbig : 4096 < n
  · rw [show frameR l = ([], 3) by unfold frameR; rw [if_pos (by omega)]] at HF
    clear h hln
    go_enter Try.func11, Try.ntmps11
    go_wp2_with (first
      | (go_at_call 27; go_must (refine HF.out.mono ?_); rintro e w1 ⟨v1, rfl, q1, hb1⟩; obtain ⟨A1, c1, rfl, hc1, hm1, hat1⟩ := q1.slice; have HB1 := Lib.hid hb1; clear q1 hb1 hat1)
      | (go_at_call 17; go_must (refine (awake_any _).mono ?_); rintro e w3 ⟨rfl, hb3⟩; have HB3 := Lib.hid hb3; clear hb3)
      | (go_at_call 21; go_must (refine (HP.out _).mono ?_); rintro e w4 ⟨v4, rfl, q4, hb4⟩; obtain ⟨A4, c4, rfl, hc4, hm4, hat4⟩ := q4.slice; have HB4 := Lib.hid hb4; clear q4 hb4 hat4))
    all_goals go_ret
    all_goals exact ⟨rfl, below3 HB1.out HB3.out HB4.out⟩
  · rw [show frameR l = (frame l, 0) by unfold frameR; rw [if_neg (by omega)]] at HF
    replace HF : Hid (Calls Try.prog 27 #[.slice A n c] w (MadeF w (frame l) 0)) := HF
    have hfl := frame_length l
    have hpl := putUint_length l.length
    have hpp := putUint_pos l.length
    have hd : decide ((n : Int) ≤ 4096) = true := by simp; omega
    obtain ⟨N, hN⟩ : ∃ N, N = (frame l).length := ⟨_, rfl⟩
    obtain ⟨hd_, hH⟩ : ∃ h, h = (putUint l.length).length := ⟨_, rfl⟩
    have hN1 : N = hd_ + n + 4 := by omega
    have hH1 : hd_ ≤ 10 := by omega
    have hH2 : 0 < hd_ := by omega
    have HH : Hid (([] ++ putUint n).length = hd_) := by rw [List.nil_append, ← hln]; exact hH.symm
    by_cases hc : 0 ≤ x ∧ x < n + 4 ∧ 0 ≤ y ∧ y ≤ 7
    · obtain ⟨k, rfl⟩ := Int.eq_ofNat_of_zero_le hc.1
      obtain ⟨b, rfl⟩ := Int.eq_ofNat_of_zero_le hc.2.2.1
      have hk : k < n + 4 := by omega
      have hb : b ≤ 7 := by omega
      have hpos : hd_ + k < (frame l).length := by omega
      have HU := Lib.hid (fun (z e : UInt8) (he : e ≠ 0) => rdFrame_flip' l hd_ k hH (by omega) (by omega) z e he)
      obtain ⟨z, hz⟩ : ∃ z, (frame l)[hd_ + k]? = some z := ⟨_, List.getElem?_eq_getElem hpos⟩
      have HZ := Lib.hid hz
      clear hz
      have HN := Lib.hid (show (frame l).length = hd_ + n + 4 by omega)
      have HLN := Lib.hid hln
      have HHH := Lib.hid hH
      clear h hln hfl hpl hpp hN hN1 hc hH hpos hxb hyb
      have j1 : (0 : Int) ≤ (b : Int) := by omega
      have j2 : (b : Int) ≤ 7 := by omega
      go_enter Try.func11, Try.ntmps11
      go_wp2_with (first
        | (go_at_call 27; go_must (refine HF.out.mono ?_); rintro e w1 ⟨v1, rfl, q1, hb1⟩; obtain ⟨g, c1, hv1, hc1, hm1, hg, hg', _⟩ := q1.slice1 (by have := HN.out; omega); rw [HN.out] at hv1 hc1; subst hv1; have HB1 := Lib.hid hb1; have HQ1 := Lib.hid q1; clear q1 hb1)
        | (go_at_call 17; go_must (refine (awake_any _).mono ?_); rintro e w3 ⟨rfl, hb3⟩; have HB3 := Lib.hid hb3; clear hb3)
        | (go_at_call 21; go_must (refine (HP.out _).mono ?_); rintro e w4 ⟨v4, rfl, q4, hb4⟩; obtain ⟨A4, c4, hv4, hc4, hm4, hat4⟩ := q4.slice; rw [HH.out] at hv4; subst hv4; have HB4 := Lib.hid hb4; clear q4 hb4 hat4;
            have hO := own_below (own_below HQ1.out HB3.out (Nat.le_refl _)) HB4.out (Nat.le_refl _); rw [HN.out] at hO;
            have hcell : w4.cell? ⟨g, hd_ + k, none⟩ = some (.int .u8 z.toNat) := (by rw [hO.cellAt (hd_ + k) (by omega)]; unfold bytesV; rw [List.getElem?_map, HZ.out]; rfl);
            have hfro : w4.frozen? ⟨g, hd_ + k, none⟩ = false := hO.frozenAt (hd_ + k);
            have HO := Lib.hid hO; clear hO))
      obtain ⟨e, he0, hev⟩ := bit_byte b hb
      rw [hev, xor8]
      have hst := (HO.out.stored (hd_ + k) (.int .u8 (z ^^^ e).toNat)).1
      rw [bytesV_set] at hst
      have hu := unframe_any (some ⟨g, 0, none⟩) (hd_ + n + 4) c1 _ _ (by rw [List.length_set, HN.out]) hc1 (by omega) (At.of_own hst)
      rw [HU.out z e he0 HZ.out] at hu
      refine hu.mono ?_
      rintro e w6 ⟨v6, rfl, q6, hb6⟩
      obtain ⟨A6, c6, hv6, hc6, hm6, hat6⟩ := q6.slice
      subst hv6
      have HB6 := Lib.hid hb6
      clear q6 hb6 hat6 hu hst
      go_wp2
      go_ret
      refine ⟨rfl, ?_⟩
      have h4 := below3 HB1.out HB3.out HB4.out
      exact (h4.setCell (p := ⟨g, hd_ + k, none⟩) hg _).trans (HB6.out.mono (by simpa [World.setCell] using h4.size))
    · clear h hln hfl hpl hpp
      subst hN1
      have HN := Lib.hid hN.symm
      clear hN hH
      by_cases hx0 : x < 0
      · go_enter Try.func11, Try.ntmps11
        go_wp2_with (first
          | (go_at_call 27; go_must (refine HF.out.mono ?_); rintro e w1 ⟨v1, rfl, q1, hb1⟩; obtain ⟨A1, c1, hv1, hc1, hm1, hat1⟩ := q1.slice; rw [HN.out] at hv1; subst hv1; have HB1 := Lib.hid hb1; clear q1 hb1 hat1)
          | (go_at_call 17; go_must (refine (awake_any _).mono ?_); rintro e w3 ⟨rfl, hb3⟩; have HB3 := Lib.hid hb3; clear hb3)
          | (go_at_call 21; go_must (refine (HP.out _).mono ?_); rintro e w4 ⟨v4, rfl, q4, hb4⟩; obtain ⟨A4, c4, hv4, hc4, hm4, hat4⟩ := q4.slice; rw [HH.out] at hv4; subst hv4; have HB4 := Lib.hid hb4; clear q4 hb4 hat4))
        go_ret
        exact ⟨rfl, below3 HB1.out HB3.out HB4.out⟩
      · by_cases hx1 : x < n + 4
        all_goals
          by_cases hy0 : y < 0
          all_goals
            go_enter Try.func11, Try.ntmps11
            go_wp2_with (first
              | (go_at_call 27; go_must (refine HF.out.mono ?_); rintro e w1 ⟨v1, rfl, q1, hb1⟩; obtain ⟨A1, c1, hv1, hc1, hm1, hat1⟩ := q1.slice; rw [HN.out] at hv1; subst hv1; have HB1 := Lib.hid hb1; clear q1 hb1 hat1)
              | (go_at_call 17; go_must (refine (awake_any _).mono ?_); rintro e w3 ⟨rfl, hb3⟩; have HB3 := Lib.hid hb3; clear hb3)
              | (go_at_call 21; go_must (refine (HP.out _).mono ?_); rintro e w4 ⟨v4, rfl, q4, hb4⟩; obtain ⟨A4, c4, hv4, hc4, hm4, hat4⟩ := q4.slice; rw [HH.out] at hv4; subst hv4; have HB4 := Lib.hid hb4; clear q4 hb4 hat4))
        all_goals go_ret
        all_goals exact ⟨rfl, below3 HB1.out HB3.out HB4.out⟩
end Go.Proofs.Ytehnbfokjkpgkaa
