/- The walks of Unframe. -/
import Derived.Test.YtehnbfokjkpgkaaW5
import Derived.WalkSmall
import Derived.BigQuiet
import Derived.Deep.QuietTactic
namespace Go.Proofs.Ytehnbfokjkpgkaa
open Go.RowKit

def MadeU (w : World) (r : List UInt8 × Nat × Nat) (e : Ending) (w' : World) : Prop := ∃ v, e = .returned (.tuple #[v, .int .i64 r.2.1, .int .i64 r.2.2]) ∧ OwnB w.heap.size w' v r.1 ∧ Below w.heap.size w w'
theorem madeU_err {w : World} {r : List UInt8 × Nat × Nat} {n : Nat} {k : Int} (h : r = ([], 0, n)) (hk : k = n) : MadeU w r (.returned (.tuple #[.slice none 0 0, .int .i64 0, .int .i64 k])) w := by
  subst h hk
  exact ⟨_, rfl, World.ownsRow_nil _ _ _ _, Below.refl _ _⟩

theorem own_empty (w : World) (e : TypeId) : (w.alloc (.cells #[] e)).ownsRow w.heap.size e 1 (.slice (some ⟨w.heap.size, 0, none⟩) 0 0) 0 [] :=
  World.ownsRow_made w #[] 0 (Nat.le_refl _) (Nat.zero_le _) rfl

set_option maxRecDepth 100000 in
set_option maxHeartbeats 1000000 in
theorem unframe_any (A : Option Addr) (n c : Nat) (l : List UInt8) (w : World) (hn : l.length = n) (hnc : n ≤ c) (hm : n ≤ 200000000000000) (h : At w A (bytesV l)) :
    Calls Try.prog 28 #[.slice A n c] w (MadeU w (rdFrame l)) := by
  obtain ⟨i0, hi, hz0, hz1, hz2⟩ := info_parts info5
  obtain ⟨v, k, er, hr⟩ : ∃ v k er, rdUint l = (v, k, er) := ⟨_, _, _, rfl⟩
  have hok := rdUint_cases hr
  have HU := Lib.hid (uint_at A n c l w hn (by unfold maxLen; omega) h hr)
  by_cases h1 : er = 0
  · subst h1
    obtain ⟨hv, hk0, hkl, hk10⟩ : v < 18446744073709551616 ∧ 0 < k ∧ k ≤ n ∧ k ≤ 10 := by omega
    clear hok
    by_cases h2 : 4096 < v
    · have HT := Lib.hid (rdFrame_long hr h2)
      clear hr hn h
      go_enter Try.func28, Try.ntmps28
      go_wp2_with (go_at_call 15; refine HU.out.mono ?_; rintro e w' ⟨rfl, rfl⟩)
      go_ret3
      exact madeU_err HT.out rfl
    · by_cases h3 : l.length - k < v + 4
      · have HT := Lib.hid (rdFrame_short hr h2 h3)
        have h3' : n - k < v + 4 := by omega
        clear hr hn h h3
        go_enter Try.func28, Try.ntmps28
        go_wp2_with (go_at_call 15; refine HU.out.mono ?_; rintro e w' ⟨rfl, rfl⟩)
        go_ret3
        exact madeU_err HT.out rfl
      · have h3' : k + v + 4 ≤ n := by omega
        obtain ⟨b, o, rfl, hb, hjunk⟩ := h 0 _ (bytesV_get l 0 (by omega))
        clear hjunk
        have hp : At w (some ⟨b, o + k, none⟩) (bytesV ((l.drop k).take v)) := by
          have := (h.drop k).take v
          rw [bytesV_drop, bytesV_take] at this
          simpa [addr_add] using this
        have ht : At w (some ⟨b, o + (k + v), none⟩) (bytesV ((l.drop (k + v)).take 4)) := by
          have := (h.drop (k + v)).take 4
          rw [bytesV_drop, bytesV_take] at this
          simpa [addr_add] using this
        generalize hpp : (l.drop k).take v = p at *
        generalize htt : (l.drop (k + v)).take 4 = t at *
        have hpl : p.length = v := by rw [← hpp]; simp; omega
        have htl : t.length = 4 := by rw [← htt]; simp; omega
        have HC := Lib.hid (crc_at (some ⟨b, o + k, none⟩) v (c - k) p w hpl (by unfold maxLen; omega) hp)
        have HPL := Lib.hid hpl
        have HTL := Lib.hid htl
        have HPA := Lib.hid hp
        have HTA := Lib.hid ht
        have HE := Lib.hid (fun (hc : be t ≠ crc p) => rdFrame_sum hr h2 h3 (by rw [hpp, htt]; exact hc))
        have HO := Lib.hid (fun (hc : be t = crc p) => (rdFrame_ok hr h2 h3 (by rw [hpp, htt]; exact hc)).trans (by rw [hpp]))
        clear hr hn h h3 hpp htt hpl htl hp ht
        go_enter Try.func28, Try.ntmps28
        go_wp2_with (go_at_call 15; refine HU.out.mono ?_; rintro e w' ⟨rfl, rfl⟩)
        go_loop [9, 44] (fun s i => ∃ j : Nat, j ≤ 4 ∧ i = .int .i64 j ∧ s = .int .u32 (be (t.take j))) (fun _ i => 4 - (intOf i).toNat)
        case atStart => exact ⟨0, by omega, rfl, rfl⟩
        case round =>
          obtain ⟨j, hj4, rfl, rfl⟩ := hrel
          by_cases hj : j < 4
          · have hjt : j < t.length := by have := HTL.out; omega
            obtain ⟨b', o', e', _, hcell⟩ := HTA.out j _ (bytesV_get t j hjt)
            injection e' with e'
            injection e' with e1 e2
            subst e1
            subst e2
            have hc256 : t[j].toNat < 256 := t[j].toNat_lt
            have hbl : be (t.take j) < 16777216 := by
              have h1 := be_lt (t.take j)
              have h2 : (t.take j).length ≤ 3 := by simp; omega
              have h3 : 256 ^ (t.take j).length ≤ 256 ^ 3 := Nat.pow_le_pow_right (by omega) h2
              omega
            have HS := Lib.hid (show be (t.take (j + 1)) = be (t.take j) * 256 + t[j].toNat by rw [List.take_succ_eq_append_getElem hjt, be_snoc])
            have HO8 := Lib.hid (or8 (be (t.take j)) t[j].toNat hbl hc256)
            generalize hbe : be (t.take j) = s0 at *
            have HBE := Lib.hid hbe
            clear hbe
            go_wp2
            go_round
            case rel => exact ⟨j + 1, by omega, by go_num, by rw [HS.out, ← HO8.out]⟩
            case measure => simp [intOf]; omega
          · have hj' : j = 4 := by omega
            subst hj'
            have hbt : be (t.take 4) = be t := by rw [List.take_of_length_le (by have := HTL.out; omega)]
            rw [hbt]
            clear hbt
            by_cases hc : be t = crc p
            · have HT := Lib.hid (HO.out hc)
              have hq : (((be t : Nat) : Int) != ((crc p : Nat) : Int)) = false := by rw [hc]; simp
              have HPO := Lib.hid HPA.out
              clear hc
              go_wp2_with (first
                | (go_at_call 18; go_must (refine HC.out.mono ?_); rintro e w' ⟨rfl, rfl⟩)
                | (at_builtin; go_must (refine wpList_app _ rfl (.const (.slice none 0 0)) (.tmp 64) 22 rfl w.heap.size 5 i0 _ 1 1 Try.underlying22 hi hz0 hz1 hz2 rfl (by decide) (by decide) _ 0 [] rfl (.inl (World.ownsRow_nil _ _ _ _)) (some ⟨b, o + k, none⟩) (k + v - k) (c - k) (bytesV p) rfl (by rw [bytesV_length, HPL.out]; omega) HPA.out (bytesV_one p) (by unfold maxLen; omega) (by omega) (Nat.le_refl _) ?_); intro v2 w2 h3 h4 h5 h6 h7; have H5 := Lib.hid (h5 (World.ownsRow_nil _ _ _ _)); have H7 := Lib.hid h7; clear h3 h4 h5 h6 h7))
              go_ret3
              rw [HT.out]
              refine ⟨v2, congrArg (fun z : Int => Ending.returned (.tuple #[v2, .int .i64 z, .int .i64 0])) (by show _ = ((k + v + 4 : Nat) : Int); omega), ?_, H7.out⟩
              have := H5.out
              unfold OwnB
              rw [show (0 + (k + v - k)) = p.length by have := HPL.out; omega] at this
              exact this
            · have HT := Lib.hid (HE.out hc)
              have hq : (((be t : Nat) : Int) != ((crc p : Nat) : Int)) = true := by simp; omega
              clear hc
              go_wp2_with (go_at_call 18; go_must (refine HC.out.mono ?_); rintro e w' ⟨rfl, rfl⟩)
              go_ret3
              exact madeU_err HT.out rfl
  · have HT := Lib.hid (rdFrame_e hr h1)
    obtain ⟨rfl, rfl, he⟩ : v = 0 ∧ k = 0 ∧ (er = 5 ∨ er = 6) := by omega
    clear hr hn h hok
    rcases he with rfl | rfl
    all_goals
      go_enter Try.func28, Try.ntmps28
      go_wp2_with (go_at_call 15; refine HU.out.mono ?_; rintro e w' ⟨rfl, rfl⟩)
      go_ret3
      exact madeU_err HT.out rfl
set_option maxRecDepth 100000 in
set_option maxHeartbeats 1000000 in
theorem runframe_any (A : Option Addr) (n c : Nat) (l : List UInt8) (w : World) (hn : l.length = n) (hnc : n ≤ c) (hm : n ≤ 200000000000000) (h : At w A (bytesV l)) :
    Calls Try.prog 30 #[.slice A n c] w (MadeU w (rdFrame l)) := by
  obtain ⟨i0, hi, hz0, hz1, hz2⟩ := info_parts info5
  obtain ⟨v, k, er, hr⟩ : ∃ v k er, rdUint l = (v, k, er) := ⟨_, _, _, rfl⟩
  have hok := rdUint_cases hr
  have HU := Lib.hid (ruint_at A n c l w hn (by unfold maxLen; omega) h hr)
  by_cases h1 : er = 0
  · subst h1
    obtain ⟨hv, hk0, hkl, hk10⟩ : v < 18446744073709551616 ∧ 0 < k ∧ k ≤ n ∧ k ≤ 10 := by omega
    clear hok
    by_cases h2 : 4096 < v
    · have HT := Lib.hid (rdFrame_long hr h2)
      clear hr hn h
      go_enter Try.func30, Try.ntmps30
      go_wp2_with (go_at_call 16; refine HU.out.mono ?_; rintro e w' ⟨rfl, rfl⟩)
      go_ret3
      exact madeU_err HT.out rfl
    · by_cases h3 : l.length - k < v + 4
      · have HT := Lib.hid (rdFrame_short hr h2 h3)
        have h3' : n - k < v + 4 := by omega
        clear hr hn h h3
        go_enter Try.func30, Try.ntmps30
        go_wp2_with (go_at_call 16; refine HU.out.mono ?_; rintro e w' ⟨rfl, rfl⟩)
        go_ret3
        exact madeU_err HT.out rfl
      · have h3' : k + v + 4 ≤ n := by omega
        obtain ⟨b, o, rfl, hb, hjunk⟩ := h 0 _ (bytesV_get l 0 (by omega))
        clear hjunk
        have hp : At w (some ⟨b, o + k, none⟩) (bytesV ((l.drop k).take v)) := by
          have := (h.drop k).take v
          rw [bytesV_drop, bytesV_take] at this
          simpa [addr_add] using this
        have ht : At w (some ⟨b, o + (k + v), none⟩) (bytesV ((l.drop (k + v)).take 4)) := by
          have := (h.drop (k + v)).take 4
          rw [bytesV_drop, bytesV_take] at this
          simpa [addr_add] using this
        generalize hpp : (l.drop k).take v = p at *
        generalize htt : (l.drop (k + v)).take 4 = t at *
        have hpl : p.length = v := by rw [← hpp]; simp; omega
        have htl : t.length = 4 := by rw [← htt]; simp; omega
        have HC := Lib.hid (crc_at (some ⟨b, o + k, none⟩) v (c - k) p w hpl (by unfold maxLen; omega) hp)
        have HPL := Lib.hid hpl
        have HTL := Lib.hid htl
        have HPA := Lib.hid hp
        have HTA := Lib.hid ht
        have HE := Lib.hid (fun (hc : be t ≠ crc p) => rdFrame_sum hr h2 h3 (by rw [hpp, htt]; exact hc))
        have HO := Lib.hid (fun (hc : be t = crc p) => (rdFrame_ok hr h2 h3 (by rw [hpp, htt]; exact hc)).trans (by rw [hpp]))
        clear hr hn h h3 hpp htt hpl htl hp ht
        have hcell : ∀ j (hj : j < 4), ∃ x : UInt8, t[j]? = some x ∧ w.cell? ⟨b, o + (k + v) + j, none⟩ = some (.int .u8 x.toNat) := by
          intro j hj
          have hjt : j < t.length := by have := HTL.out; omega
          obtain ⟨b', o', e', _, hcell⟩ := HTA.out j _ (bytesV_get t j hjt)
          injection e' with e'
          injection e' with e1 e2
          subst e1
          subst e2
          exact ⟨t[j], List.getElem?_eq_getElem hjt, hcell⟩
        obtain ⟨x0, t0, c0⟩ := hcell 0 (by omega)
        obtain ⟨x1, t1, c1⟩ := hcell 1 (by omega)
        obtain ⟨x2, t2, c2⟩ := hcell 2 (by omega)
        obtain ⟨x3, t3, c3⟩ := hcell 3 (by omega)
        have ht4 : t = [x0, x1, x2, x3] := by
          apply List.ext_getElem?
          intro i
          match i with
          | 0 => simpa using t0
          | 1 => simpa using t1
          | 2 => simpa using t2
          | 3 => simpa using t3
          | i + 4 => rw [List.getElem?_eq_none (by have := HTL.out; omega)]; simp
        have HT4 := Lib.hid ht4
        clear t0 t1 t2 t3 ht4 hcell HC
        go_enter Try.func30, Try.ntmps30
        go_wp2_with (first
          | (go_at_call 16; refine HU.out.mono ?_; rintro e w' ⟨rfl, rfl⟩)
          | (at_builtin; go_must (refine wpList_app _ rfl (.tmp 29) (.tmp 36) 22 rfl w.heap.size 5 i0 _ 1 1 Try.underlying22 hi hz0 hz1 hz2 rfl (by decide) (by decide) _ 0 [] rfl (.inl (own_empty w 5)) (some ⟨b, o + k, none⟩) (k + v - k) (c - k) (bytesV p) rfl (by rw [bytesV_length, HPL.out]; omega) (HPA.out.alloc _) (bytesV_one p) (by unfold maxLen; omega) (by omega) (by simp) ?_); intro v2 w2 h3 h4 h5 h6 h7; have H5 := Lib.hid (h5 (own_empty w 5)); have H7 := Lib.hid h7; clear h3 h4 h5 h6 h7))
        have HO2 : Hid (OwnB w.heap.size w2 v2 p) := by
          have := H5.out
          rw [show (0 + (k + v - k)) = p.length by have := HPL.out; omega] at this
          exact this
        clear H5
        have hbw : Below w.heap.size w w2 := ((Below.refl _ _).alloc (Nat.le_refl _) _).trans H7.out
        have HBW := Lib.hid hbw
        have cc := hbw.cell (p := ⟨b, o + (k + v) + 0, none⟩) hb
        have d0 : w2.cell? ⟨b, o + (k + v), none⟩ = some (.int .u8 x0.toNat) := cc.trans c0
        have d1 : w2.cell? ⟨b, o + (k + v) + 1, none⟩ = some (.int .u8 x1.toNat) := (hbw.cell (p := ⟨b, o + (k + v) + 1, none⟩) hb).trans c1
        have d2 : w2.cell? ⟨b, o + (k + v) + 2, none⟩ = some (.int .u8 x2.toNat) := (hbw.cell (p := ⟨b, o + (k + v) + 2, none⟩) hb).trans c2
        have d3 : w2.cell? ⟨b, o + (k + v) + 3, none⟩ = some (.int .u8 x3.toNat) := (hbw.cell (p := ⟨b, o + (k + v) + 3, none⟩) hb).trans c3
        clear hbw cc c0 c1 c2 c3
        obtain ⟨A2, e2, hv2, hc2, _, hat2⟩ := HO2.out.slice
        rw [hv2]
        have HV2 := Lib.hid hv2
        have HC : Hid (∀ q, Calls Try.prog 19 #[.slice A2 p.length e2] (w2.drewN q) fun e w' => e = .returned (.int .u32 (crc p)) ∧ w' = w2.drewN q) := fun q => (rcrc_at A2 p.length e2 p (w2.drewN q) rfl (by have := HPL.out; unfold maxLen; omega) hat2).mono fun _ _ ⟨h1, h2⟩ => ⟨h1, h2.symm⟩
        clear hv2 hat2
        have hx0 := x0.toNat_lt
        have hx1 := x1.toNat_lt
        have hx2 := x2.toNat_lt
        have hx3 := x3.toNat_lt
        go_quiet ((go_at_call 19; exact Calls.quiet_of_same (HC.out _)))
        have HX := Lib.hid (or4 x0.toNat x1.toNat x2.toNat x3.toNat hx0 hx1 hx2 hx3)
        go_wp2
        · have hq : ((crc p : Int) != bits .or .u32 (bits .or .u32 (bits .or .u32 ((x0.toNat : Int) * 16777216) ((x1.toNat : Int) * 65536)) ((x2.toNat : Int) * 256)) (x3.toNat : Int)) = true := by assumption
          rw [HX.out, ← be4, ← HT4.out] at hq
          have hne : be t ≠ crc p := by simp at hq; omega
          go_ret3
          rw [HE.out hne]
          exact ⟨_, rfl, World.ownsRow_nil _ _ _ _, below_drewN HBW.out nq⟩
        · have hq : ((crc p : Int) != bits .or .u32 (bits .or .u32 (bits .or .u32 ((x0.toNat : Int) * 16777216) ((x1.toNat : Int) * 65536)) ((x2.toNat : Int) * 256)) (x3.toNat : Int)) = false := by assumption
          rw [HX.out, ← be4, ← HT4.out] at hq
          have he : be t = crc p := by simp at hq; omega
          go_ret3
          rw [HO.out he]
          refine ⟨.slice A2 p.length e2, congrArg (fun z : Int => Ending.returned (.tuple #[.slice A2 p.length e2, .int .i64 z, .int .i64 0])) (by show _ = ((k + v + 4 : Nat) : Int); omega), ?_, below_drewN HBW.out nq⟩
          have := HO2.out
          rw [HV2.out] at this
          exact this
  · have HT := Lib.hid (rdFrame_e hr h1)
    obtain ⟨rfl, rfl, he⟩ : v = 0 ∧ k = 0 ∧ (er = 5 ∨ er = 6) := by omega
    clear hr hn h hok
    rcases he with rfl | rfl
    all_goals
      go_enter Try.func30, Try.ntmps30
      go_wp2_with (go_at_call 16; refine HU.out.mono ?_; rintro e w' ⟨rfl, rfl⟩)
      go_ret3
      exact madeU_err HT.out rfl
end Go.Proofs.Ytehnbfokjkpgkaa
