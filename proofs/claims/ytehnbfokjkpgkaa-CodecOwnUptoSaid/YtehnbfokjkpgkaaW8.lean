/- The walks of the laws. -/
import Derived.Test.YtehnbfokjkpgkaaW7
import Derived.Test.YtehnbfokjkpgkaaRow
namespace Go.Proofs.Ytehnbfokjkpgkaa
open Go.RowKit

set_option maxRecDepth 100000 in
set_option maxHeartbeats 1000000 in
theorem law_sums (A : Option Addr) (n c : Nat) (l : List UInt8) (w : World) (h : IsB w A n c l) : Calls Try.prog 4 #[.slice A n c] w (Yes w) := by
  have HA := Lib.hid (awake_any w)
  have hm := h.reach
  have hle := h.le
  have HC := Lib.hid (fun w' (hb : Below w.heap.size w w') => crc_at A n c l w' h.len (by unfold maxLen; omega) (h.at_.below hb (Nat.le_refl _)))
  have HR := Lib.hid (fun w' (hb : Below w.heap.size w w') => rcrc_at A n c l w' h.len (by unfold maxLen; omega) (h.at_.below hb (Nat.le_refl _)))
  clear h
  go_enter Try.func4, Try.ntmps4
  go_wp2_with (first
    | (go_at_call 17; go_must (refine HA.out.mono ?_); rintro e w1 ⟨rfl, hb⟩; have HB := Lib.hid hb; clear hb)
    | (go_at_call 18; go_must (refine (HC.out _ HB.out).mono ?_); rintro e w' ⟨rfl, rfl⟩)
    | (go_at_call 19; go_must (refine (HR.out _ HB.out).mono ?_); rintro e w' ⟨rfl, rfl⟩))
  go_ret
  exact ⟨by simp, HB.out⟩

set_option maxRecDepth 100000 in
set_option maxHeartbeats 1000000 in
theorem law_reads (A : Option Addr) (n c : Nat) (l : List UInt8) (w : World) (h : IsB w A n c l) : Calls Try.prog 3 #[.slice A n c] w (Yes w) := by
  have HA := Lib.hid (awake_any w)
  have hm := h.reach
  have hle := h.le
  obtain ⟨v, k, er, hr⟩ : ∃ v k er, rdUint l = (v, k, er) := ⟨_, _, _, rfl⟩
  have HU := Lib.hid (uint_at A n c l w h.len (by unfold maxLen; omega) h.at_ hr)
  have HR := Lib.hid (ruint_at A n c l w h.len (by unfold maxLen; omega) h.at_ hr)
  clear h hr
  go_enter Try.func3, Try.ntmps3
  go_wp2_with (first
    | (go_at_call 15; go_must (refine HU.out.mono ?_); rintro e w' ⟨rfl, rfl⟩)
    | (go_at_call 16; go_must (refine HR.out.mono ?_); rintro e w' ⟨rfl, rfl⟩)
    | (go_at_call 17; go_must (refine HA.out.mono ?_); rintro e w1 ⟨rfl, hb⟩; have HB := Lib.hid hb; clear hb))
  all_goals go_ret
  all_goals exact ⟨by simp, HB.out⟩
end Go.Proofs.Ytehnbfokjkpgkaa
