/- The walks of Frame and Unframe. -/
import Derived.Test.YtehnbfokjkpgkaaW4
import Derived.Test.YtehnbfokjkpgkaaPlain3
namespace Go.Proofs.Ytehnbfokjkpgkaa
open Go.RowKit

def MadeF (w : World) (l : List UInt8) (n : Nat) (e : Ending) (w' : World) : Prop := ∃ v, e = .returned (.tuple #[v, .int .i64 n]) ∧ OwnB w.heap.size w' v l ∧ Below w.heap.size w w'
def frame (l : List UInt8) : List UInt8 := putUint l.length ++ l ++ sumB (crc l)
def frameR (l : List UInt8) : List UInt8 × Nat := if 4096 < l.length then ([], 3) else (frame l, 0)

theorem crc_at (A : Option Addr) (n c : Nat) (l : List UInt8) (w : World) (hn : l.length = n) (hm : n ≤ maxLen) (h : At w A (bytesV l)) :
    Calls Try.prog 18 #[.slice A n c] w fun e w' => e = .returned (.int .u32 (crc l)) ∧ w = w' := crc_any A n c l w hn hm (BR_of h)
theorem rcrc_at (A : Option Addr) (n c : Nat) (l : List UInt8) (w : World) (hn : l.length = n) (hm : n ≤ maxLen) (h : At w A (bytesV l)) :
    Calls Try.prog 19 #[.slice A n c] w fun e w' => e = .returned (.int .u32 (crc l)) ∧ w = w' := rcrc_any A n c l w hn hm (BR_of h)

theorem sum_bytes (x : Nat) (h : x < 4294967296) : [Value.int IntKind.u8 ((x : Int) / 16777216), Value.int IntKind.u8 ((x : Int) / 65536 % 256), Value.int IntKind.u8 ((x : Int) / 256 % 256), Value.int IntKind.u8 ((x : Int) % 256)] = bytesV (sumB x) := by
  simp only [sumB, bytesV, List.map_cons, List.map_nil]
  rw [byteV_ofNat _ (by omega), byteV_ofNat _ (by omega), byteV_ofNat _ (by omega), byteV_ofNat _ (by omega)]
  have e : (x : Int) / 16777216 = ((x / 16777216 % 256 : Nat) : Int) := by omega
  rw [e]
  simp

set_option maxRecDepth 100000 in
set_option maxHeartbeats 400000 in
theorem frame_any (A : Option Addr) (n c : Nat) (l : List UInt8) (w : World) (hn : l.length = n) (hm : n ≤ 140737488351232) (hat : At w A (bytesV l)) :
    Calls Try.prog 27 #[.slice A n c] w (MadeF w (frameR l).1 (frameR l).2) := by
  obtain ⟨i0, hi, hz0, hz1, hz2⟩ := info_parts info5
  by_cases h1 : 4096 < n
  · have HF := Lib.hid (show frameR l = ([], 3) by unfold frameR; rw [if_pos (by omega)])
    clear hn hat
    go_enter Try.func27, Try.ntmps27
    go_wp2
    go_ret2
    exact ⟨.slice none 0 0, by rw [HF.out]; rfl, by rw [HF.out]; exact World.ownsRow_nil _ _ _ _, Below.refl _ _⟩
  · have HF := Lib.hid (show frameR l = (frame l, 0) by unfold frameR; rw [if_neg (by omega)])
    have HC := Lib.hid (crc_at A n c l w hn (by unfold maxLen; omega) hat)
    have HP := Lib.hid (put_at none 0 0 [] n n w (fun _ => rfl) rfl (Nat.le_refl _) (by omega) rfl (by omega) (At.nil _ _))
    have hl := putUint_length n
    have HN := Lib.hid hn
    have HAt := Lib.hid hat
    have hcl := crc_lt l
    clear hn hat
    go_enter Try.func27, Try.ntmps27
    go_wp2_with (first
      | (go_at_call 18; refine HC.out.mono ?_; rintro e w' ⟨rfl, rfl⟩)
      | (go_at_call 20; refine HP.out.mono ?_; rintro e w1 ⟨v, rfl, h1, h2⟩; have H1 := Lib.hid h1; have H2 := Lib.hid h2; clear h1 h2)
      | (at_builtin; have _t := H5; go_must (refine wpList_app _ rfl (.tmp 17) (.tmp 29) 22 rfl w.heap.size 5 i0 _ 1 1 Try.underlying22 hi hz0 hz1 hz2 rfl (by decide) (by decide) v2 _ _ rfl (Gr.alloc (.inl H5.out) _) (some ⟨w2.heap.size, 0, none⟩) 4 4 [_, _, _, _] rfl rfl (At.new w2 [_, _, _, _] 5) (by simp [Value.oneCell']) (by simp; unfold maxLen; omega) (by simp; omega) (by have := H2.out.size; have := H7.out.size; simp; omega) ?_); intro v3 w3 h3 h4 h5 h6 h7; have K5 := Lib.hid (h4 (by decide)); have K7 := Lib.hid h7; clear h3 h4 h5 h6 h7)
      | (at_builtin; go_must (refine wpList_app _ rfl (.tmp 14) (.tmp 15) 22 rfl w.heap.size 5 i0 _ 1 1 Try.underlying22 hi hz0 hz1 hz2 rfl (by decide) (by decide) v _ _ rfl (.inl H1.out) A n c (bytesV l) rfl (by rw [bytesV_length, HN.out]; simp) (HAt.out.below H2.out (Nat.le_refl _)) (bytesV_one l) (by simp; unfold maxLen; omega) (by simp; omega) H2.out.size ?_); intro v2 w2 h3 h4 h5 h6 h7; have H5 := Lib.hid (h5 H1.out); have H7 := Lib.hid h7; clear h3 h4 h5 h6 h7))
    go_ret2
    refine ⟨v3, by rw [HF.out]; rfl, ?_, ((H2.out.trans H7.out).alloc (by have := H2.out.size; have := H7.out.size; omega) _).trans K7.out⟩
    rw [HF.out]
    have := K5.out
    rw [sum_bytes _ hcl, bytesV_append, bytesV_append] at this
    unfold OwnB frame
    rw [HN.out]
    simpa [bytesV_length, HN.out, sumB, Nat.add_assoc] using this
set_option maxRecDepth 100000 in
set_option maxHeartbeats 400000 in
theorem rframe_any (A : Option Addr) (n c : Nat) (l : List UInt8) (w : World) (hn : l.length = n) (hm : n ≤ 140737488351232) (hat : At w A (bytesV l)) :
    Calls Try.prog 29 #[.slice A n c] w (MadeF w (frameR l).1 (frameR l).2) := by
  obtain ⟨i0, hi, hz0, hz1, hz2⟩ := info_parts info5
  by_cases h1 : 4096 < n
  · have HF := Lib.hid (show frameR l = ([], 3) by unfold frameR; rw [if_pos (by omega)])
    clear hn hat
    go_enter Try.func29, Try.ntmps29
    go_wp2
    go_ret2
    exact ⟨.slice none 0 0, by rw [HF.out]; rfl, by rw [HF.out]; exact World.ownsRow_nil _ _ _ _, Below.refl _ _⟩
  · have HF := Lib.hid (show frameR l = (frame l, 0) by unfold frameR; rw [if_neg (by omega)])
    have HC := Lib.hid (fun w' (hb : Below w.heap.size w w') => rcrc_at A n c l w' hn (by unfold maxLen; omega) (hat.below hb (Nat.le_refl _)))
    have HP := Lib.hid (rput_at none 0 0 [] n n w rfl (by omega) rfl (by omega) (At.nil _ _))
    have hl := putUint_length n
    have HN := Lib.hid hn
    have HAt := Lib.hid hat
    have hcl := crc_lt l
    clear hn hat
    go_enter Try.func29, Try.ntmps29
    go_wp2_with (first
      | (go_at_call 19; refine (HC.out _ (H2.out.trans H7.out)).mono ?_; rintro e w' ⟨rfl, rfl⟩)
      | (go_at_call 21; refine HP.out.mono ?_; rintro e w1 ⟨v, rfl, h1, h2⟩; have H1 := Lib.hid h1; have H2 := Lib.hid h2; clear h1 h2)
      | (at_builtin; have _t := H5; go_must (refine wpList_app _ rfl (.tmp 17) (.tmp 29) 22 rfl w.heap.size 5 i0 _ 1 1 Try.underlying22 hi hz0 hz1 hz2 rfl (by decide) (by decide) v2 _ _ rfl (Gr.alloc (.inl H5.out) _) (some ⟨w2.heap.size, 0, none⟩) 4 4 [_, _, _, _] rfl rfl (At.new w2 [_, _, _, _] 5) (by simp [Value.oneCell']) (by simp; unfold maxLen; omega) (by simp; omega) (by have := H2.out.size; have := H7.out.size; simp; omega) ?_); intro v3 w3 h3 h4 h5 h6 h7; have K5 := Lib.hid (h4 (by decide)); have K7 := Lib.hid h7; clear h3 h4 h5 h6 h7)
      | (at_builtin; go_must (refine wpList_app _ rfl (.tmp 12) (.tmp 13) 22 rfl w.heap.size 5 i0 _ 1 1 Try.underlying22 hi hz0 hz1 hz2 rfl (by decide) (by decide) v _ _ rfl (.inl H1.out) A n c (bytesV l) rfl (by rw [bytesV_length, HN.out]; simp) (HAt.out.below H2.out (Nat.le_refl _)) (bytesV_one l) (by simp; unfold maxLen; omega) (by simp; omega) H2.out.size ?_); intro v2 w2 h3 h4 h5 h6 h7; have H5 := Lib.hid (h5 H1.out); have H7 := Lib.hid h7; clear h3 h4 h5 h6 h7))
    go_ret2
    refine ⟨v3, by rw [HF.out]; rfl, ?_, ((H2.out.trans H7.out).alloc (by have := H2.out.size; have := H7.out.size; omega) _).trans K7.out⟩
    rw [HF.out]
    have := K5.out
    rw [sum_bytes _ hcl, bytesV_append, bytesV_append] at this
    unfold OwnB frame
    rw [HN.out]
    simpa [bytesV_length, HN.out, sumB, Nat.add_assoc] using this
end Go.Proofs.Ytehnbfokjkpgkaa
