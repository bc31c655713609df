/- The walk of the law CodecBursts. -/
import Derived.Test.YtehnbfokjkpgkaaLA
import Derived.Test.YtehnbfokjkpgkaaPlain5
import Derived.RegionTactic
import Derived.ChangeAlike
namespace Go.Proofs.Ytehnbfokjkpgkaa
open Go.RowKit

def burst (l : List UInt8) (k : Nat) (by_ : List UInt8) (i : Nat) : List UInt8 := l.take k ++ xorL ((l.drop k).take i) (by_.take i) ++ l.drop (k + i)
def zeros (by_ : List UInt8) (i : Nat) : Bool := (by_.take i).all (· == 0)
theorem xorL_length : ∀ (l es : List UInt8), (xorL l es).length = l.length
  | [], _ => by simp [xorL]
  | _ :: _, [] => by simp [xorL]
  | a :: l, e :: es => by simp [xorL, xorL_length l es]
theorem xorL_snoc : ∀ (l es : List UInt8) (a e : UInt8), l.length = es.length → xorL (l ++ [a]) (es ++ [e]) = xorL l es ++ [a ^^^ e]
  | [], [], a, e, _ => rfl
  | [], _ :: _, _, _, h => by simp at h
  | _ :: _, [], _, _, h => by simp at h
  | x :: l, y :: es, a, e, h => by simp [xorL, xorL_snoc l es a e (by simpa using h)]
theorem burst_zero (l : List UInt8) (k : Nat) (by_ : List UInt8) : burst l k by_ 0 = l := by simp [burst, xorL]
theorem burst_length (l : List UInt8) (k : Nat) (by_ : List UInt8) (i : Nat) (h : k + i ≤ l.length) : (burst l k by_ i).length = l.length := by
  simp [burst, xorL_length]
  omega
theorem burst_get (l : List UInt8) (k : Nat) (by_ : List UInt8) (i : Nat) (h : k + i < l.length) : (burst l k by_ i)[k + i]? = some l[k + i] := by
  have hlen : (l.take k ++ xorL ((l.drop k).take i) (by_.take i)).length = k + i := by simp [xorL_length]; omega
  rw [burst, List.getElem?_append_right (by omega), hlen, Nat.sub_self, List.getElem?_drop, Nat.add_zero, List.getElem?_eq_getElem h]
theorem burst_succ (l : List UInt8) (k : Nat) (by_ : List UInt8) (i : Nat) (h : k + i < l.length) (hb : i < by_.length) : (burst l k by_ i).set (k + i) (l[k + i] ^^^ by_[i]) = burst l k by_ (i + 1) := by
  have hlen : (l.take k ++ xorL ((l.drop k).take i) (by_.take i)).length = k + i := by simp [xorL_length]; omega
  unfold burst
  rw [List.set_append_right _ _ (by omega), hlen, Nat.sub_self, List.drop_eq_getElem_cons h, List.set_cons_zero]
  rw [List.take_succ_eq_append_getElem (by simp; omega), List.take_succ_eq_append_getElem hb, xorL_snoc _ _ _ _ (by simp; omega)]
  simp [Nat.add_assoc]
theorem zeros_succ (by_ : List UInt8) (i : Nat) (hb : i < by_.length) : zeros by_ (i + 1) = (zeros by_ i && (by_[i] == 0)) := by
  unfold zeros
  rw [List.take_succ_eq_append_getElem hb, List.all_append]
  simp
theorem burst_crc (l : List UInt8) (k : Nat) (by_ : List UInt8) (i : Nat) (h : k + i ≤ l.length) (hb : i ≤ by_.length) (h4 : i ≤ 4) : (crc (burst l k by_ i) == crc l) = zeros by_ i := by
  have e : l = l.take k ++ (l.drop k).take i ++ l.drop (k + i) := by
    rw [← List.drop_drop, List.append_assoc, List.take_append_drop, List.take_append_drop]
  have := crc_burst (l.take k) ((l.drop k).take i) (l.drop (k + i)) (by_.take i) (by simp; omega) (by simp; omega)
  rw [← e] at this
  rw [Bool.eq_iff_iff, beq_iff_eq]
  unfold burst
  rw [this]
  unfold zeros
  simp [List.all_eq_true]
theorem bytesV_set (l : List UInt8) (k : Nat) (b : UInt8) : (bytesV l).set k (.int .u8 b.toNat) = bytesV (l.set k b) := by
  have : Value.int .u8 b.toNat = byteV b := rfl
  rw [this]
  unfold bytesV
  rw [List.map_set]
theorem xor8 (a b : UInt8) : bits .xor .u8 (a.toNat : Int) (b.toNat : Int) = ((a ^^^ b).toNat : Int) := by
  rw [u8_xor_nat _ _ a.toNat_lt b.toNat_lt, UInt8.toNat_xor]

theorem zero8 (b : UInt8) : ((b.toNat : Int) == 0) = (b == 0) := by
  rw [Bool.eq_iff_iff, beq_iff_eq, beq_iff_eq, ← UInt8.toNat_inj]
  simp
theorem castBeq (a b : Nat) : ((a : Int) == (b : Int)) = (a == b) := by
  rw [Bool.eq_iff_iff, beq_iff_eq, beq_iff_eq]
  omega

set_option maxRecDepth 100000 in
set_option maxHeartbeats 1000000 in
theorem law_bursts (A : Option Addr) (n c : Nat) (l : List UInt8) (x : Int) (A' : Option Addr) (n' c' : Nat) (l' : List UInt8) (w : World) (h : IsB w A n c l) (hx : (Lit.int .i64 x).wf = true) (h' : IsB w A' n' c' l') :
    Calls Try.prog 5 #[.slice A n c, .int .i64 x, .slice A' n' c'] w (Yes w) := by
  have hxb : -9223372036854775808 ≤ x ∧ x ≤ 9223372036854775807 := by simpa [Lit.wf, IntKind.min, IntKind.max, IntKind.signed, IntKind.bits] using hx
  clear hx
  obtain ⟨i0, hi, hz0, hz1, hz2⟩ := info_parts info5
  have r1 := h.reach
  have e1 := h.le
  have r2 := h'.reach
  have e2 := h'.le
  by_cases hc : 0 ≤ x ∧ x < n
  · obtain ⟨k, rfl⟩ := Int.eq_ofNat_of_zero_le hc.1
    have hk : k < n := by omega
    have HL := Lib.hid h.len
    have HL' := Lib.hid h'.len
    have HAt := Lib.hid h.at_
    have HAt' := Lib.hid h'.at_
    clear h h' hc hxb
    have hk0 : (0 : Int) ≤ (k : Int) := by omega
    go_enter Try.func5, Try.ntmps5
    go_wp2_with (at_builtin; go_must (refine wpList_app _ rfl (.tmp 19) (.tmp 20) 22 rfl w.heap.size 5 i0 _ 1 1 Try.underlying22 hi hz0 hz1 hz2 rfl (by decide) (by decide) _ 0 [] rfl (.inl (own_empty w 5)) A n c (bytesV l) rfl (by rw [bytesV_length, HL.out]; simp) (HAt.out.alloc _) (bytesV_one _) (by unfold maxLen; omega) (by omega) (by simp) ?_); intro v4 w4 k1 k2 k3 k4 k5; have HO4 := Lib.hid (k3 (own_empty w 5)); have HB4' := Lib.hid k5; clear k1 k2 k3 k4 k5; have HB4 : Hid (Below w.heap.size w w4) := ((Below.refl _ _).alloc (Nat.le_refl _) _).trans HB4'.out; have hO4 : OwnB w.heap.size w4 v4 l := (by have := HO4.out; simp only [Nat.zero_add, List.nil_append] at this; unfold OwnB; rw [HL.out]; exact this); obtain ⟨g, cap, hv, hcap, hcapm, hg, hg', _⟩ := hO4.slice1 (by have := HL.out; omega); rw [HL.out] at hv hcap; subst hv; have HO := Lib.hid hO4; clear hO4 HO4 HB4')
    go_loopw [8, 9] (fun s t wr => ∃ i : Nat, i ≤ 4 ∧ k + i ≤ n ∧ i ≤ n' ∧ t = .int .i64 i ∧ s = .bool (zeros l' i) ∧ wr.ownsRow w.heap.size 5 1 (.slice (some ⟨g, 0, none⟩) n cap) n (bytesV (burst l k l' i)) ∧ Below w.heap.size w wr) (fun _ t _ => 4 - (intOf t).toNat)
    case atStart =>
      refine ⟨0, by omega, by omega, by omega, rfl, rfl, ?_, HB4.out⟩
      rw [burst_zero]
      have := HO.out
      unfold OwnB at this
      rw [HL.out] at this
      exact this
    case round =>
      obtain ⟨i, hi4, hki, hin, rfl, rfl, hown, hbw⟩ := hrel
      have HOW := Lib.hid hown
      have HBW := Lib.hid hbw
      clear hown hbw
      by_cases hgo : i < 4 ∧ i < n' ∧ k + i < n
      · obtain ⟨g1, g2, g3⟩ := hgo
        have hcl : k + i < l.length := by have := HL.out; omega
        have hcl' : i < l'.length := by have := HL'.out; omega
        have hcell : wr.cell? ⟨g, k + i, none⟩ = some (.int .u8 l[k + i].toNat) := by
          rw [HOW.out.cellAt (k + i) (by omega)]
          unfold bytesV
          rw [List.getElem?_map, burst_get l k l' i hcl]
          rfl
        have hfro : wr.frozen? ⟨g, k + i, none⟩ = false := HOW.out.frozenAt (k + i)
        obtain ⟨b', o', rfl, hb', hc'⟩ := HAt'.out i _ (bytesV_get l' i hcl')
        have hcell' : wr.cell? ⟨b', o' + i, none⟩ = some (.int .u8 l'[i].toNat) := (HBW.out.cell (p := ⟨b', o' + i, none⟩) hb').trans hc'
        clear hc'
        have i1 : (0 : Int) ≤ (k : Int) + (i : Int) := by omega
        have i2 : (k : Int) + (i : Int) < (n : Int) := by omega
        have i3 : (0 : Int) ≤ (i : Int) := by omega
        have i4 : (i : Int) < (n' : Int) := by omega
        have i5 : IntKind.i64.wrap ((k : Int) + (i : Int)) = (k : Int) + (i : Int) := IntWalk.i64_in _ (by omega)
        have i6 : ((k : Int) + (i : Int)).toNat = k + i := by omega
        have HX := Lib.hid (xor8 l[k + i] l'[i])
        have HBS := Lib.hid (burst_succ l k l' i hcl hcl')
        have HZS := Lib.hid (zeros_succ l' i hcl')
        have hcell5 : ∀ u, (wr.setCell ⟨g, k + i, none⟩ u).cell? ⟨b', o' + i, none⟩ = some (.int .u8 l'[i].toNat) := fun u => by
          rw [World.cell?_setCell_other _ _ _ _ (fun e => by injection e with e; omega)]
          exact hcell'
        have HST := Lib.hid (HOW.out.stored (k + i) (.int .u8 (l[k + i] ^^^ l'[i]).toNat))
        have HBX := Lib.hid (HBW.out.setCell (p := ⟨g, k + i, none⟩) hg (.int .u8 (l[k + i] ^^^ l'[i]).toNat))
        generalize hzz : zeros l' i = z at *
        have HZZ := Lib.hid hzz
        clear hzz
        cases z
        all_goals
          go_wp2_with fail
          go_region
          go_wp2
        all_goals
          go_roundw
          case rel =>
            refine ⟨i + 1, by omega, by omega, by omega, by go_num, ?_, ?_, ?_⟩
            · rw [HZS.out]
              first | (simp; done) | (rw [zero8]; simp)
            · rw [HX.out]
              have := HST.out.1
              rw [bytesV_set, HBS.out] at this
              exact this
            · rw [HX.out]
              exact HBX.out.drew
          case measure => simp [intOf]; omega
      · have hb1 : (burst l k l' i).length = n := by rw [burst_length l k l' i (by have := HL.out; omega), HL.out]
        have hat : At wr (some ⟨g, 0, none⟩) (bytesV (burst l k l' i)) := At.of_own HOW.out
        have hcrc := burst_crc l k l' i (by have := HL.out; omega) (by have := HL'.out; omega) hi4
        have HAw := Lib.hid (awake_any wr)
        have HC1 := Lib.hid (fun w' (hb : Below wr.heap.size wr w') => crc_at (some ⟨g, 0, none⟩) n cap _ w' hb1 (by unfold maxLen; omega) (hat.below hb (Nat.le_refl _)))
        have HC2 := Lib.hid (fun w' (hb : Below wr.heap.size wr w') => crc_at A n c l w' HL.out (by unfold maxLen; omega) ((HAt.out.below HBW.out (Nat.le_refl _)).below hb (Nat.le_refl _)))
        have HCR := Lib.hid hcrc
        generalize burst l k l' i = bb at *
        clear hb1 hat hcrc
        have tok1 : True := trivial
        go_wp2_with (first
          | (go_at_call 17; go_must (refine HAw.out.mono ?_); rintro e w5 ⟨rfl, hb5⟩; have HB5 := Lib.hid hb5; clear hb5)
          | (go_at_call 18; have _t := tok1; go_must (refine (HC1.out _ HB5.out).mono ?_); rintro e w' ⟨rfl, rfl⟩; clear tok1 _t)
          | (go_at_call 18; go_must (refine (HC2.out _ HB5.out).mono ?_); rintro e w' ⟨rfl, rfl⟩))
        all_goals go_ret
        all_goals exact ⟨ret_val (congrArg Value.bool (by rw [← HCR.out]; simp [castBeq])), HBW.out.trans (HB5.out.mono HBW.out.size)⟩
  · clear h h'
    have HAw := Lib.hid (awake_any w)
    by_cases hx0 : x < 0
    all_goals
      go_enter Try.func5, Try.ntmps5
      go_wp2_with (go_at_call 17; go_must (refine HAw.out.mono ?_); rintro e w5 ⟨rfl, hb5⟩; have HB5 := Lib.hid hb5; clear hb5)
      go_ret
      exact ⟨rfl, HB5.out⟩
end Go.Proofs.Ytehnbfokjkpgkaa
