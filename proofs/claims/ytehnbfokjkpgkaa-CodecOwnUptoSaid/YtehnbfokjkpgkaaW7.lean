/- The walk of awake. -/
import Derived.Test.YtehnbfokjkpgkaaW6
import Derived.Lib.SlBytesConst
namespace Go.Proofs.Ytehnbfokjkpgkaa
open Go.RowKit

def Yes (w : World) (e : Ending) (w' : World) : Prop := e = .returned (.bool true) ∧ Below w.heap.size w w'

set_option maxRecDepth 100000 in
set_option maxHeartbeats 1000000 in
theorem awake_any (w : World) : Calls Try.prog 17 #[] w (Yes w) := by
  have kc := fun (w : World) (C : Array Value) (n c : Nat) => Lib.run_convert_bytes_const (P := Try.prog) w 22 5 C n c Try.underlying22 Try.underlying5
  have HU := Lib.hid (fun (w : World) => uint_at (some ⟨w.heap.size, 0, none⟩) 3 3 [172, 2, 9] (w.alloc (.cells #[.int .u8 172, .int .u8 2, .int .u8 9] 5)) rfl (by unfold maxLen; omega) (At.new w [.int .u8 172, .int .u8 2, .int .u8 9] 5) (v := 300) (k := 2) (e := 0) (by decide +kernel))
  have HF := Lib.hid (fun (w : World) => frame_any none 0 0 [] w rfl (by omega) (At.nil _ _))
  have HC := Lib.hid (fun (w : World) (m : Nat × Nat) => crc_at (some ⟨w.heap.size, 0, none⟩) 9 9 [49, 50, 51, 52, 53, 54, 55, 56, 57] (w.alloc (.cells #[.int .u8 49, .int .u8 50, .int .u8 51, .int .u8 52, .int .u8 53, .int .u8 54, .int .u8 55, .int .u8 56, .int .u8 57] 5 m)) rfl (by unfold maxLen; omega) (At.newm w [.int .u8 49, .int .u8 50, .int .u8 51, .int .u8 52, .int .u8 53, .int .u8 54, .int .u8 55, .int .u8 56, .int .u8 57] 5 m))
  rw [show crc [49, 50, 51, 52, 53, 54, 55, 56, 57] = 3421780262 by decide +kernel] at HC
  rw [show frameR [] = (frame [], 0) from rfl] at HF
  have hfl : (frame []).length = 5 := by decide +kernel
  go_enter Try.func17, Try.ntmps17
  go_wp2_with (first
    | (go_at_call 15; go_must (refine (HU.out _).mono ?_); rintro e w' ⟨rfl, rfl⟩)
    | (go_at_call 27; go_must (refine (HF.out _).mono ?_); rintro e w1 ⟨v, rfl, h1, h2⟩; obtain ⟨A1, c1, rfl, _, _, _⟩ := h1.slice; have H2 := Lib.hid h2; clear h1 h2)
    | (go_at_call 18; go_must (refine (HC.out _ _).mono ?_); rintro e w' ⟨rfl, rfl⟩))
  go_ret
  exact ⟨rfl, ((((Below.refl _ _).alloc (Nat.le_refl _) _).trans (H2.out.mono (by simp))).alloc (by have := H2.out.size; simp at this; omega) _)⟩
end Go.Proofs.Ytehnbfokjkpgkaa
