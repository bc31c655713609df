/- The walks of PutUint, the program's and the reference's, and of bytes.Equal. -/
import Derived.Test.YtehnbfokjkpgkaaW2
import Derived.Test.YtehnbfokjkpgkaaMem
import Derived.OwnWalk
import Derived.Deep.DeepMust
namespace Go.Proofs.Ytehnbfokjkpgkaa
open Go.RowKit

/-- the varint of x -/
def putU : Nat → Nat → List UInt8
  | 0, _ => []
  | f + 1, x => if 127 < x then UInt8.ofNat (x % 128 + 128) :: putU f (x / 128) else [UInt8.ofNat x]
def putUint (x : Nat) : List UInt8 := putU 10 x

theorem and127u (y : Nat) (hy : y < 18446744073709551616) : bits .and .u64 (y : Int) 127 = ((y % 128 : Nat) : Int) := by
  have := u64_and_nat y 127 hy (by omega)
  rw [show ((127 : Nat) : Int) = 127 from rfl] at this
  rw [this, show (127 : Nat) = 2 ^ 7 - 1 from rfl, Nat.and_two_pow_sub_one_eq_mod]
theorem or128u (y : Nat) (hy : y < 128) : bits .or .u8 (y : Int) 128 = ((y + 128 : Nat) : Int) := by
  rw [u8_or128_right y (by omega) (by omega)]
  omega

theorem byteV_ofNat (y : Nat) (hy : y < 256) : byteV (UInt8.ofNat y) = .int .u8 y := by
  unfold byteV
  rw [UInt8.toNat_ofNat_of_lt' (by simpa using hy)]
theorem more_byte (y : Nat) (hy : y < 18446744073709551616) : Value.int IntKind.u8 (bits .or .u8 (bits .and .u64 (y : Int) 127 % 256) 128) = byteV (UInt8.ofNat (y % 128 + 128)) := by
  rw [and127u y hy, byteV_ofNat _ (by omega)]
  rw [show (((y % 128 : Nat) : Int) % 256) = ((y % 128 : Nat) : Int) by omega, or128u _ (by omega)]
theorem putU_more {f y : Nat} (h : 127 < y) : putU (f + 1) y = UInt8.ofNat (y % 128 + 128) :: putU f (y / 128) := by rw [putU, if_pos h]
theorem putU_last {f y : Nat} (h : ¬ 127 < y) : putU (f + 1) y = [UInt8.ofNat y] := by rw [putU, if_neg h]
/-- one more round of PutUint -/
theorem put_round {w1 : World} {B : Nat} {v' : Value} {n y f x : Nat} {l pre : List UInt8} (hy : y < 18446744073709551616) (hyf : y < 128 ^ f) (hf : pre.length + f = 10) (hp : pre ++ putU f y = putUint x) (hlt : 127 < y)
    (G : Gr w1 B 5 1 v' (n + pre.length + 1) (bytesV (l ++ pre) ++ [Value.int IntKind.u8 (bits .or .u8 (bits .and .u64 (y : Int) 127 % 256) 128)])) :
    ∃ (f' : Nat) (pre' : List UInt8), y / 128 < 18446744073709551616 ∧ (y / 128 < 128 ^ f' ∧ 0 < f') ∧ pre'.length + f' = 10 ∧ pre' ++ putU f' (y / 128) = putUint x ∧ Gr w1 B 5 1 v' (n + pre'.length) (bytesV (l ++ pre')) := by
  cases f with
  | zero => simp at hyf; omega
  | succ f =>
    refine ⟨f, pre ++ [UInt8.ofNat (y % 128 + 128)], by omega, ?_, by simp; omega, ?_, ?_⟩
    · refine ⟨?_, ?_⟩
      · rw [Nat.pow_succ] at hyf
        exact Nat.div_lt_of_lt_mul (by rw [Nat.mul_comm]; exact hyf)
      · cases f with
        | zero => simp at hyf; omega
        | succ f => omega
    · rw [← hp, putU_more hlt]
      simp
    · rw [more_byte y hy, bytesV_snoc] at G
      simpa [Nat.add_assoc] using G
theorem put_last {w1 : World} {B : Nat} {v' : Value} {n y f x : Nat} {l pre : List UInt8} (hf : 0 < f) (hp : pre ++ putU f y = putUint x) (hlt : ¬ 127 < y)
    (G : w1.ownsRow B 5 1 v' (n + pre.length + 1) (bytesV (l ++ pre) ++ [Value.int IntKind.u8 y])) :
    w1.ownsRow B 5 1 v' (n + (putUint x).length) (bytesV (l ++ putUint x)) := by
  cases f with
  | zero => omega
  | succ f =>
    rw [putU_last hlt] at hp
    rw [← hp]
    rw [← byteV_ofNat y (by omega), bytesV_snoc] at G
    simpa [Nat.add_assoc] using G

theorem info5 : (Try.prog.info? 5).map (fun i => (i.zero, i.size, i.bytes)) = some (some (.int .u8 0), 1, 1) := by kernel_rfl

set_option maxRecDepth 100000 in
set_option maxHeartbeats 400000 in
theorem put_any (A : Option Addr) (n c : Nat) (l : List UInt8) (x : Nat) (w : World) (hA : A = none → c = 0) (hn : l.length = n) (hnc : n ≤ c) (hm : n ≤ 140737488351232) (hx : x < 18446744073709551616) (hat : At w A (bytesV l)) :
    Calls Try.prog 20 #[.slice A n c, .int .u64 x] w fun e w' => ∃ v, e = .returned v ∧ w'.ownsRow w.heap.size 5 1 v (n + (putUint x).length) (bytesV (l ++ putUint x)) ∧ Below w.heap.size w w' := by
  obtain ⟨i0, hi, hz0, hz1, hz2⟩ := info_parts info5
  have H := Lib.hid hat
  have HA := Lib.hid hA
  have HN := Lib.hid hn
  clear hat hA hn
  go_enter Try.func20, Try.ntmps20
  go_wp2
  go_loopw [1, 5] (fun v r wr => ∃ (y f : Nat) (pre : List UInt8), v = .int .u64 y ∧ y < 18446744073709551616 ∧ (y < 128 ^ f ∧ 0 < f) ∧ pre.length + f = 10 ∧ pre ++ putU f y = putUint x ∧ Gr wr w.heap.size 5 1 r (n + pre.length) (bytesV (l ++ pre)) ∧ Below w.heap.size w wr) (fun v _ _ => (intOf v).toNat)
  case atStart => exact ⟨x, 10, [], rfl, hx, ⟨by omega, by omega⟩, rfl, rfl, by simpa using Gr.clip (fun h => by have := HA.out h; omega) (by simpa [bytesV] using HN.out) H.out, Below.refl _ _⟩
  case round =>
    obtain ⟨y, f, pre, rfl, hy, hyf, hf, hp, hG, hb⟩ := hrel
    have HF := Lib.hid hf
    have HP := Lib.hid hp
    have HYF := Lib.hid hyf
    have HG := Lib.hid hG
    have HB := Lib.hid hb
    clear hf hp hyf hG hb
    have hpl : pre.length ≤ 10 := by have := HF.out; omega
    have hsz : w.heap.size ≤ wr.heap.size := HB.out.size
    by_cases hlt : 127 < y
    · have H127 := Lib.hid (and127u y hy)
      have H128 := Lib.hid (or128u (y % 128) (by omega))
      go_wp2_with (at_builtin; go_must (refine wpList_app _ rfl (.tmp 14) (.tmp 19) 22 rfl w.heap.size 5 i0 _ 1 1 Try.underlying22 hi hz0 hz1 hz2 rfl (by decide) (by decide) _ (n + pre.length) (bytesV (l ++ pre)) rfl (HG.out.alloc _) (some ⟨wr.heap.size, 0, none⟩) 1 1 [_] rfl rfl (At.new wr [_] 5) (by simp [Value.oneCell']) (by unfold maxLen; omega) (by omega) (by simp; omega) ?_); intro v' w1 h2 h3 h4 h5 h6; have G2 := Lib.hid h2; clear h2 h3 h4 h5; have G6 := Lib.hid h6; clear h6)
      go_roundw
      case rel =>
        obtain ⟨f', pre', a1, a2, a3, a4, a5⟩ := put_round hy HYF.out.1 HF.out HP.out hlt G2.out
        exact ⟨y / 128, f', pre', by simp, a1, a2, a3, a4, a5, (HB.out.alloc hsz _).trans G6.out⟩
      case measure => simp [intOf]; omega
    · go_wp2_with (at_builtin; go_must (refine wpList_app _ rfl (.tmp 23) (.tmp 26) 22 rfl w.heap.size 5 i0 _ 1 1 Try.underlying22 hi hz0 hz1 hz2 rfl (by decide) (by decide) _ (n + pre.length) (bytesV (l ++ pre)) rfl (HG.out.alloc _) (some ⟨wr.heap.size, 0, none⟩) 1 1 [_] rfl rfl (At.new wr [_] 5) (by simp [Value.oneCell']) (by unfold maxLen; omega) (by omega) (by simp; omega) ?_); intro v' w1 h2 h3 h4 h5 h6; have G3 := Lib.hid (h3 (by decide)); clear h2 h3 h4 h5; have G6 := Lib.hid h6; clear h6)
      go_ret
      exact ⟨v', rfl, put_last HYF.out.2 HP.out hlt G3.out, (HB.out.alloc hsz _).trans G6.out⟩
set_option maxRecDepth 100000 in
set_option maxHeartbeats 400000 in
theorem rput_any (A : Option Addr) (n c : Nat) (l : List UInt8) (x : Nat) (w : World) (hn : l.length = n) (hm : n ≤ 140737488351232) (hx : x < 18446744073709551616) (hat : At w A (bytesV l)) :
    Calls Try.prog 21 #[.slice A n c, .int .u64 x] w fun e w' => ∃ v, e = .returned v ∧ w'.ownsRow w.heap.size 5 1 v (n + (putUint x).length) (bytesV (l ++ putUint x)) ∧ Below w.heap.size w w' := by
  obtain ⟨i0, hi, hz0, hz1, hz2⟩ := info_parts info5
  have H := Lib.hid hat
  have HN := Lib.hid hn
  clear hat hn
  go_enter Try.func21, Try.ntmps21
  go_wp2_with (at_builtin; go_must (refine wpList_app _ rfl (.tmp 6) (.tmp 7) 22 rfl w.heap.size 5 i0 _ 1 1 Try.underlying22 hi hz0 hz1 hz2 rfl (by decide) (by decide) _ 0 [] rfl (Gr.clip (fun h => by cases h) rfl (At.nil _ _)) A n c (bytesV l) rfl (by rw [bytesV_length, HN.out]; simp) (H.out.alloc _) (bytesV_one l) (by unfold maxLen; omega) (by omega) (by simp) ?_); intro v0 w0 h2 h3 h4 h5 h6; have G2 := Lib.hid h2; clear h2 h3 h4 h5; have G6 := Lib.hid h6; clear h6)
  go_loopw [1, 5] (fun v r wr => ∃ (y f : Nat) (pre : List UInt8), v = .int .u64 y ∧ y < 18446744073709551616 ∧ (y < 128 ^ f ∧ 0 < f) ∧ pre.length + f = 10 ∧ pre ++ putU f y = putUint x ∧ Gr wr w.heap.size 5 1 r (n + pre.length) (bytesV (l ++ pre)) ∧ Below w.heap.size w wr) (fun v _ _ => (intOf v).toNat)
  case atStart => exact ⟨x, 10, [], rfl, hx, ⟨by omega, by omega⟩, rfl, rfl, by simpa using G2.out, ((Below.refl _ _).alloc (Nat.le_refl _) _).trans G6.out⟩
  case round =>
    obtain ⟨y, f, pre, rfl, hy, hyf, hf, hp, hG, hb⟩ := hrel
    have HF := Lib.hid hf
    have HP := Lib.hid hp
    have HYF := Lib.hid hyf
    have HG := Lib.hid hG
    have HB := Lib.hid hb
    clear hf hp hyf hG hb
    have hpl : pre.length ≤ 10 := by have := HF.out; omega
    have hsz : w.heap.size ≤ wr.heap.size := HB.out.size
    by_cases hlt : 127 < y
    · have H127 := Lib.hid (and127u y hy)
      have H128 := Lib.hid (or128u (y % 128) (by omega))
      go_wp2_with (at_builtin; go_must (refine wpList_app _ rfl (.tmp 11) (.tmp 16) 22 rfl w.heap.size 5 i0 _ 1 1 Try.underlying22 hi hz0 hz1 hz2 rfl (by decide) (by decide) _ (n + pre.length) (bytesV (l ++ pre)) rfl (HG.out.alloc _) (some ⟨wr.heap.size, 0, none⟩) 1 1 [_] rfl rfl (At.new wr [_] 5) (by simp [Value.oneCell']) (by unfold maxLen; omega) (by omega) (by simp; omega) ?_); intro v' w1 h2 h3 h4 h5 h6; have G2 := Lib.hid h2; clear h2 h3 h4 h5; have G6 := Lib.hid h6; clear h6)
      go_roundw
      case rel =>
        obtain ⟨f', pre', a1, a2, a3, a4, a5⟩ := put_round hy HYF.out.1 HF.out HP.out hlt G2.out
        exact ⟨y / 128, f', pre', by simp, a1, a2, a3, a4, a5, (HB.out.alloc hsz _).trans G6.out⟩
      case measure => simp [intOf]; omega
    · go_wp2_with (at_builtin; go_must (refine wpList_app _ rfl (.tmp 20) (.tmp 23) 22 rfl w.heap.size 5 i0 _ 1 1 Try.underlying22 hi hz0 hz1 hz2 rfl (by decide) (by decide) _ (n + pre.length) (bytesV (l ++ pre)) rfl (HG.out.alloc _) (some ⟨wr.heap.size, 0, none⟩) 1 1 [_] rfl rfl (At.new wr [_] 5) (by simp [Value.oneCell']) (by unfold maxLen; omega) (by omega) (by simp; omega) ?_); intro v' w1 h2 h3 h4 h5 h6; have G3 := Lib.hid (h3 (by decide)); clear h2 h3 h4 h5; have G6 := Lib.hid h6; clear h6)
      go_ret
      exact ⟨v', rfl, put_last HYF.out.2 HP.out hlt G3.out, (HB.out.alloc hsz _).trans G6.out⟩
end Go.Proofs.Ytehnbfokjkpgkaa
