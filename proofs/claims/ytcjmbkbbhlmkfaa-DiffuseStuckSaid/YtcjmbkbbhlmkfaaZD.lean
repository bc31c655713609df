/- Texts put behind one another: H1, H2, H3, N6, D3. -/
import Derived.Test.YtcjmbkbbhlmkfaaZM
import Derived.Deep.LoopGhost
import Derived.Test.YtcjmbkbbhlmkfaaZV
set_option linter.unusedVariables false
set_option linter.unusedSimpArgs false
namespace Go.Proofs.Ytcjmbkbbhlmkfaa
open Go.RowKit Go.Proofs

theorem infoB : (Try.prog.info? 4).map (fun i => (i.zero, i.size, i.bytes)) = some (some (.bool false), 1, 1) := by kernel_rfl
theorem own_empty (w : World) (e : TypeId) : (w.alloc (.cells #[] e)).ownsRow w.heap.size e 1 (.slice (some ⟨w.heap.size, 0, none⟩) 0 0) 0 [] :=
  World.ownsRow_made w #[] 0 (Nat.le_refl _) (Nat.zero_le _) rfl
def boolsA (s : List Bool) : Array Value := (s.map Value.bool).toArray
theorem boolsA_get {s : List Bool} {q : Nat} (h : q < s.length) : (boolsA s)[q]? = some (.bool (bAt s (q : Nat))) := by
  simp [boolsA, bAt, h]
theorem boolsA_set (s : List Bool) (q : Nat) (b : Bool) : (boolsA s).setIfInBounds q (.bool b) = boolsA (s.set q b) := by
  simp [boolsA, List.map_set]
/-- the rows of a graph that lies in memory -/
def GW (w : World) (b o : Nat) (g : List Nd) : Prop := ∀ q, q < g.length → b < w.heap.size ∧ ∃ A c, w.cell? ⟨b, o + q * 2 + 1, none⟩ = some (.slice A (nodeAt g (q : Nat)).next.length c) ∧ At w A (intsV (nodeAt g (q : Nat)).next)
theorem GW.below {w w' : World} {b o : Nat} {g : List Nd} (h : GW w b o g) (hb : Below w.heap.size w w') : GW w' b o g := fun q hq => by
  obtain ⟨h1, A, c, h2, h3⟩ := h q hq
  exact ⟨Nat.lt_of_lt_of_le h1 hb.size, A, c, (hb.cell (p := ⟨b, _, none⟩) h1).trans h2, h3.below hb (Nat.le_refl _)⟩
/-- a row of its own, one shorter -/
theorem own_pop {M : Nat} {w : World} {v : Value} {l : List Int} {x : Int} (h : w.ownsRow M 3 1 v (l ++ [x]).length (intsV (l ++ [x]))) : ∃ k cap, v = .slice (some ⟨k, 0, none⟩) (l.length + 1) cap ∧ l.length + 1 ≤ cap ∧ cap ≤ maxLen ∧ w.cell? ⟨k, l.length, none⟩ = some (.int .i64 x) ∧ w.ownsRow M 3 1 (.slice (some ⟨k, 0, none⟩) l.length cap) l.length (intsV l) := by
  rcases h.2 with ⟨_, hn⟩ | ⟨k, cap, cur, rfl, hb, hh, hc, hm, hs, ht⟩
  · simp at hn
  · have hlen : (l ++ [x]).length = l.length + 1 := by simp
    rw [hlen] at hc ht
    refine ⟨k, cap, by rw [hlen], by omega, hm, ?_, by simp, .inr ⟨k, cap, cur, rfl, hb, hh, by omega, hm, hs, ?_⟩⟩
    · rw [cell_of_row w k _ cur 3 (0, 0) hh]
      have := congrArg (·[l.length]?) ht
      simp only [List.getElem?_take, Array.getElem?_toList] at this
      rw [if_pos (by omega)] at this
      rw [this]
      simp [intsV]
    · have := congrArg (List.take l.length) ht
      rw [List.take_take] at this
      rw [show min l.length ((l.length + 1) * 1) = l.length * 1 by omega] at this
      rw [this]
      simp [intsV, List.take_append]
structure RI (g : List Nd) (i K : Nat) (w0 : World) (m : Nat) (r : Value) (s : List Bool) (ls : List Int) (w : World) : Prop where
  dfs : Dfs g (i : Nat) s ls
  ms : unseen s * (g.length + 1) + ls.length ≤ m
  blk : w.heap[K]? = some (.cells (boolsA s) 4 (0, 0))
  row : w.ownsRow (K + 1) 3 1 r ls.length (intsV ls)
  bel : Below w0.heap.size w0 w
  ksz : K + 1 ≤ w.heap.size
section
variable {g : List Nd} {i K : Nat} {w0 : World} {m : Nat} {r : Value} {s : List Bool} {l : List Int} {w : World} {x : Int}
theorem RI.cell (h : RI g i K w0 m r s l w) {q : Nat} (hq : q < g.length) : w.cell? ⟨K, q, none⟩ = some (.bool (bAt s (q : Nat))) := by
  rw [block_cells h.blk, boolsA_get (by rw [h.dfs.len]; exact hq)]
theorem unseen_rep (n : Nat) : unseen (List.replicate n false) = n := by simp [unseen, List.countP_replicate]
/-- a number that was seen is taken off -/
theorem RI.old {m : Nat} {k cap : Nat} (h : RI g i K w0 (m + 1) r s (l ++ [x]) w) (hs : bAt s x = true) (hr : w.ownsRow (K + 1) 3 1 (.slice (some ⟨k, 0, none⟩) l.length cap) l.length (intsV l)) : RI g i K w0 m (.slice (some ⟨k, 0, none⟩) l.length cap) s l w :=
  ⟨h.dfs.old hs, by have := h.ms; simp at this; omega, h.blk, hr, h.bel, h.ksz⟩
/-- a new number is taken off, its neighbours are put on -/
theorem RI.new {m : Nat} (hg : gOk g = true) (h : RI g i K w0 (m + 1) r s (l ++ [x]) w) (hs : bAt s x = false) {w' : World} {r' : Value} (h6 : Below (K + 1) (w.setCell ⟨K, x.toNat, none⟩ (.bool true)) w')
    (hr : w'.ownsRow (K + 1) 3 1 r' (l.length + (nodeAt g x).next.length) (intsV l ++ intsV (nodeAt g x).next)) (hK : w0.heap.size ≤ K) : RI g i K w0 m r' (s.set x.toNat true) (l ++ (nodeAt g x).next) w' := by
  have hx := h.dfs.bd x (by simp)
  have hlen := h.dfs.len
  have hu : unseen (s.set x.toNat true) + 1 = unseen s := by
    refine unseen_set ?_
    rw [bAt, List.getD_eq_getElem?_getD] at hs
    rw [List.getElem?_eq_getElem (by omega)] at hs ⊢
    simpa using hs
  have hnl := nodeAt_next hg x
  refine ⟨h.dfs.new hg, ?_, ?_, ?_, (h.bel.setCell (by simp; omega) _).trans (h6.mono (by omega)), ?_⟩
  · have hm := h.ms
    rw [← hu, Nat.add_mul] at hm
    simp only [List.length_append, List.length_singleton] at hm ⊢
    omega
  · rw [h6.block K (by omega), ← boolsA_set]
    exact setCell_row h.blk
  · simpa [intsV] using hr
  · have := h6.size
    have h2 := h.ksz
    simp only [World.setCell, Array.size_modify] at this
    omega
end
end Go.Proofs.Ytcjmbkbbhlmkfaa

namespace Go.Proofs.Ytcjmbkbbhlmkfaa
open Go.RowKit Go.Proofs

theorem nil_or_snoc (l : List Int) : l = [] ∨ ∃ l' x, l = l' ++ [x] := by
  by_cases h : l = []
  · exact .inl h
  · exact .inr ⟨l.dropLast, l.getLast h, (List.dropLast_concat_getLast h).symm⟩
/-- the row of what was seen, as it is made -/
theorem seen_made {w1 w2 : World} {N : Nat} (ho : w2.ownsRow w1.heap.size 4 1 (.slice (some ⟨w1.heap.size, 0, none⟩) N N) N (madeCells (Value.bool false).cells (N * 1)).toList) (hN : 0 < N) : w2.heap[w1.heap.size]? = some (.cells (boolsA (List.replicate N false)) 4 (0, 0)) := by
  rcases ho.2 with ⟨h1, h2⟩ | ⟨g, cap, cur, hv, hb1, hh, hc, hm, hcs, ht⟩
  · cases h1
  · injection hv with q1 q2 q3
    injection q1 with q1
    injection q1 with q1
    subst q1
    subst q3
    rw [hh]
    have e : cur = boolsA (List.replicate N false) := by
      apply Array.ext'
      rw [List.take_of_length_le (by simp; omega)] at ht
      rw [ht]
      apply List.ext_getElem?
      intro q
      rw [Array.getElem?_toList, Array.getElem?_toList]
      by_cases hq : q < N
      · rw [made_get _ _ _ (by omega) (by simp [Value.cells])]
        simp [Value.cells, boolsA, hq]
      · rw [Array.getElem?_eq_none (by simp [madeCells]; omega), Array.getElem?_eq_none (by simp [boolsA]; omega)]
    rw [e]
theorem own_down {w : World} {B B' n : Nat} {v : Value} {us : List Value} (h : w.ownsRow B 3 1 v n us) (hB : B' ≤ B) : w.ownsRow B' 3 1 v n us := by
  obtain ⟨h1, h2⟩ := h
  refine ⟨h1, ?_⟩
  rcases h2 with h2 | ⟨k, cap, cur, a, hb, r⟩
  · exact .inl h2
  · exact .inr ⟨k, cap, cur, a, by omega, r⟩
theorem grown_below {w1 w2 : World} (h : w1.grownBy w2 none) : Below w1.heap.size w1 w2 := ⟨h.os, h.tape, h.output, h.size, fun b q => h.block b (by omega) (by simp)⟩
theorem own_emptyB (w : World) (e : TypeId) {B : Nat} (hB : B ≤ w.heap.size) : (w.alloc (.cells #[] e)).ownsRow B e 1 (.slice (some ⟨w.heap.size, 0, none⟩) 0 0) 0 [] :=
  World.ownsRow_made w #[] 0 hB (Nat.zero_le _) rfl
theorem RI.start {w0 w1 w2 w3 : World} {g : List Nd} {i N : Nat} {v' : Value} (hN : g.length = N) (hg : gOk g = true) (hN0 : 0 < N) (hb1 : Below w0.heap.size w0 w1) (h5 : w2.ownsRow w1.heap.size 4 1 (.slice (some ⟨w1.heap.size, 0, none⟩) N N) N (madeCells (Value.bool false).cells (N * 1)).toList) (h6 : w1.grownBy w2 none)
    (h7 : Below (w1.heap.size + 1) (w2.alloc (.cells #[] 3)) w3) (hr : w3.ownsRow (w1.heap.size + 1) 3 1 v' (0 + (nodeAt g (i : Nat)).next.length) ([] ++ intsV (nodeAt g (i : Nat)).next)) : RI g i w1.heap.size w0 (N * (N + 1) + (nodeAt g (i : Nat)).next.length) v' (List.replicate N false) (nodeAt g (i : Nat)).next w3 := by
  have hm := seen_made h5 hN0
  have hlt := (Array.getElem?_eq_some_iff.1 hm).1
  have hs1 := hb1.size
  have hs7 := h7.size
  simp only [World.alloc, Array.size_push] at hs7
  refine ⟨by rw [← hN]; exact .start hg i, by rw [unseen_rep, hN]; exact Nat.le_refl _, ?_, by simpa using hr, ?_, by omega⟩
  · rw [h7.block _ (by omega)]
    exact block_old hm _
  · exact (hb1.trans ((grown_below h6).mono hs1)).trans (((below_new w2 _).mono (by omega)).trans (h7.mono (by omega)))
/-- what is given out -/
structure RO (K : Nat) (w0 : World) (s : List Bool) (kk : Nat) (o : Value) (w : World) : Prop where
  row : w.ownsRow (K + 1) 3 1 o (trues s kk).length (intsV (trues s kk))
  blk : w.heap[K]? = some (.cells (boolsA s) 4 (0, 0))
  bel : Below w0.heap.size w0 w
  ksz : K + 1 ≤ w.heap.size
theorem RO.pass {K : Nat} {w0 : World} {s : List Bool} {kk : Nat} {o : Value} {w : World} (h : RO K w0 s kk o w) (hs : bAt s (kk : Nat) = false) : RO K w0 s (kk + 1) o w := by
  have e : trues s (kk + 1) = trues s kk := by rw [trues_succ, if_neg (by simp [hs])]
  exact ⟨by rw [e]; exact h.row, h.blk, h.bel, h.ksz⟩
theorem RO.app {K : Nat} {w0 : World} {s : List Bool} {kk : Nat} {o v' : Value} {w w2 : World} {ob : Obj} (h : RO K w0 s kk o w) (hs : bAt s (kk : Nat) = true) (hK : w0.heap.size ≤ K) (h6 : Below (K + 1) (w.alloc ob) w2) (hr : w2.ownsRow (K + 1) 3 1 v' ((trues s kk).length + 1) (intsV (trues s kk) ++ [.int .i64 kk])) : RO K w0 s (kk + 1) v' w2 := by
  have e : trues s (kk + 1) = trues s kk ++ [(kk : Int)] := by rw [trues_succ, if_pos hs]
  have h1 := h.ksz
  have h2 := h6.size
  simp only [World.alloc, Array.size_push] at h2
  refine ⟨by rw [e]; simpa [intsV] using hr, ?_, ?_, by omega⟩
  · rw [h6.block _ (by omega)]
    exact block_old h.blk _
  · exact h.bel.trans (((below_new w ob).mono (by have := h.bel.size; omega)).trans (h6.mono (by omega)))
set_option maxRecDepth 100000 in
set_option maxHeartbeats 400000 in
theorem reach_any (b o N c i : Nat) (g : List Nd) (w : World) (hN : g.length = N) (hg : gOk g = true) (hG8 : N ≤ 1000) (hi : i < N) (hG : GW w b o g)
    (hv : Calls Try.prog 28 #[.slice (some ⟨b, o, none⟩) N c] w fun e w' => e = .returned (.bool true) ∧ Below w.heap.size w w') :
    Calls Try.prog 21 #[.slice (some ⟨b, o, none⟩) N c, .int .i64 i] w fun e w' => ∃ v out, e = .returned v ∧ w'.ownsRow w.heap.size 3 1 v out.length (intsV out) ∧ out.length ≤ N ∧ (∀ x : Int, x ∈ out ↔ Rea g (i : Nat) x) ∧ Below w.heap.size w w' := by
  obtain ⟨i0, hi0, hz0, hz1, hz2⟩ := info_parts infoI
  obtain ⟨i1, hi1, hy0, hy1, hy2⟩ := info_parts infoB
  have HV := Lib.hid hv
  have HG := Lib.hid hG
  have HN := Lib.hid hN
  have HGO := Lib.hid hg
  have hi' : (i : Int) < N := by omega
  have hi0' : ¬ (i : Int) < 0 := by omega
  have hb := (hG i (by omega)).1
  obtain ⟨A1, c1, hc1, hat1⟩ := (hG i (by omega)).2
  have HC1 := Lib.hid hc1
  have HA1 := Lib.hid hat1
  have HB := Lib.hid hb
  have hnl : (nodeAt g (i : Nat)).next.length ≤ N := by have := nodeAt_next hg (i : Nat); omega
  clear hv hG hN hg hc1 hat1 hb
  go_enter Try.func21, Try.ntmps21
  go_wp2_with (first
    | (go_at_call 28; go_must (refine HV.out.mono ?_); rintro e w1 ⟨rfl, h1⟩; have HB1 := Lib.hid h1; clear h1)
    | (at_make; go_must (refine wpList_make_full _ rfl (.tmp 24) (.tmp 24) 24 rfl _ 4 i1 _ 1 Try.underlying24 hi1 hy0 hy1 .i64 .i64 (N : Int) (N : Int) N rfl rfl rfl rfl (by rw [hy2]; omega) (by unfold maxLen; omega) (Nat.le_refl _) ?_); intro w2 h5 h6; have hlt := (Array.getElem?_eq_some_iff.1 (seen_made h5 (by omega))).1; have hb2 := (HB1.out.trans ((grown_below h6).mono HB1.out.size)).trans ((below_new w2 (.cells #[] 3)).mono (by have := HB1.out.size; omega)); have D1 : (w2.alloc (.cells #[] 3)).cell? ⟨b, o + i * 2 + 1, none⟩ = some (.slice A1 (nodeAt g (i : Nat)).next.length c1) := (hb2.cell (p := ⟨b, _, none⟩) HB.out).trans HC1.out; have HA2 := Lib.hid (HA1.out.below hb2 (Nat.le_refl _)); have H5 := Lib.hid h5; have H6 := Lib.hid h6; have HLT := Lib.hid hlt; clear h5 h6 hlt hb2)
    | (at_builtin; go_must (refine wpList_app _ rfl (.tmp 26) (.tmp 31) 25 rfl (w1.heap.size + 1) 3 i0 _ 1 8 Try.underlying25 hi0 hz0 hz1 hz2 rfl (by decide) (by decide) _ 0 [] rfl (.inl (own_emptyB w2 3 HLT.out)) A1 (nodeAt g (i : Nat)).next.length c1 (intsV (nodeAt g (i : Nat)).next) rfl (by simp) HA2.out (intsV_one _) (by unfold maxLen; omega) (by omega) (by have := HLT.out; simp; omega) ?_); intro v' w3 g2 g3 g4 g5 g6; have HR : Hid (RI g i w1.heap.size w (N * (N + 1) + (nodeAt g (i : Nat)).next.length) v' (List.replicate N false) (nodeAt g (i : Nat)).next w3) := (RI.start HN.out HGO.out (by omega) HB1.out H5.out H6.out g6 (g4 (own_emptyB w2 3 HLT.out))); clear g2 g3 g4 g5 g6))
  have HK0 := Lib.hid HB1.out.size
  go_loopg [6] (N * (N + 1) + (nodeAt g (i : Nat)).next.length) (fun m r wr => Hid (m ≤ 2000000) ∧ ∃ (s : List Bool) (ls : List Int), RI g i w1.heap.size w m r s ls wr)
  case atStart =>
    have : N * (N + 1) ≤ 1000 * 1001 := Nat.mul_le_mul hG8 (by omega)
    exact ⟨Lib.hid (by omega), _, _, HR.out⟩
  case round =>
    clear HR HLT HA2 D1 H5 H6
    obtain ⟨hgm, s, ls, hRI⟩ := hrel
    have hsl := hRI.dfs.len
    have hgN := HN.out
    rcases nil_or_snoc ls with rfl | ⟨l, x, rfl⟩
    · obtain ⟨A, c', hv', _, _, _⟩ := own_slice (n := 0) hRI.row
      subst hv'
      have HI := Lib.hid hRI
      have HSL := Lib.hid hsl
      clear hRI hsl hgN
      go_wp2_with fail
      have HDN := Lib.hid (HI.out.dfs.done HGO.out)
      go_loopw [8, 9] (fun o t wr => ∃ kk : Nat, t = .int .i64 kk ∧ kk ≤ N ∧ RO w1.heap.size w s kk o wr) (fun _ t _ => N - (intOf t).toNat)
      case atStart => exact ⟨0, rfl, by omega, ⟨by simp, .inl ⟨rfl, by simp [trues]⟩⟩, HI.out.blk, HI.out.bel, HI.out.ksz⟩
      case round =>
        clear HI
        obtain ⟨kk, rfl, hkk, hRO⟩ := hrel
        obtain ⟨Ao, co, hvo, _, _, _⟩ := own_slice hRO.row
        subst hvo
        by_cases hk : kk < N
        · have hks := HSL.out
          have hgN := HN.out
          have hkc : wr.cell? ⟨w1.heap.size, kk, none⟩ = some (.bool (bAt s (kk : Nat))) := by rw [block_cells hRO.blk, boolsA_get (by omega)]
          have hk' : (kk : Int) < N := by omega
          have htl := trues_len s kk
          have hkz := hRO.ksz
          have HO := Lib.hid hRO
          clear hRO hks hgN
          cases hsk : bAt s (kk : Nat)
          · rw [hsk] at hkc
            have HS := Lib.hid hsk
            clear hsk
            go_wp2_with fail
            go_roundw
            case rel => exact ⟨kk + 1, by go_num, by omega, HO.out.pass HS.out⟩
            case measure => simp [intOf]; omega
          · rw [hsk] at hkc
            have HS := Lib.hid hsk
            clear hsk
            go_wp2_with (at_builtin; go_must (refine wpList_app _ rfl (.tmp 72) (.tmp 74) 25 rfl (w1.heap.size + 1) 3 i0 _ 1 8 Try.underlying25 hi0 hz0 hz1 hz2 rfl (by decide) (by decide) _ (trues s kk).length (intsV (trues s kk)) rfl (Gr.alloc (.inl HO.out.row) _) (some ⟨wr.heap.size, 0, none⟩) 1 1 [_] rfl rfl (At.new wr [_] 3) (by simp [Value.oneCell']) (by unfold maxLen; omega) (by omega) (by simp; omega) ?_); intro v' w3 g2 g3 g4 g5 g6; have HN2 := Lib.hid (HO.out.app HS.out HK0.out g6 (g3 (by decide))); clear g2 g3 g4 g5 g6)
            go_roundw
            case rel => exact ⟨kk + 1, by go_num, by omega, HN2.out⟩
            case measure => simp [intOf]; omega
        · have hk' : ¬ (kk : Int) < N := by omega
          have hke : kk = N := by omega
          subst hke
          have HO := Lib.hid hRO
          clear hRO
          go_wp2_with fail
          go_ret
          refine ⟨_, rfl, trues s kk, own_down HO.out.row (by have := HK0.out; omega), trues_len s kk, fun x => ?_, HO.out.bel⟩
          have hgN := HN.out
          rw [mem_trues, ← hgN]
          constructor
          · rintro ⟨q1, q2, q3⟩
            exact (HDN.out x q1).1 q3
          · intro q
            have hb := q.bd HGO.out
            exact ⟨hb.1, hb.2, (HDN.out x hb.1).2 q⟩
    · obtain ⟨k, cap, rfl, hcap, hcm, hcell, hrow⟩ := own_pop hRI.row
      have hl64 : (l.length : Int) < 9223372036854775807 := by unfold maxLen at hcm; omega
      clear hcm
      have wl : RowKit.wrap64 (l.length : Int) = (l.length : Int) := by unfold RowKit.wrap64; omega
      have hx := hRI.dfs.bd x (by simp)
      obtain ⟨q, rfl⟩ : ∃ q : Nat, x = q := ⟨x.toNat, by omega⟩
      have hq : q < g.length := by omega
      have hqN : q < N := by omega
      have hcs := hRI.cell hq
      have hfr := block_frees hRI.blk
      have HI := Lib.hid hRI
      have HRW := Lib.hid hrow
      clear hRI hrow hsl hgN
      cases hsq : bAt s (q : Nat)
      · rw [hsq] at hcs
        obtain ⟨hbq, A2, c2, hc2, hat2⟩ := HG.out q hq
        have hnl2 : (nodeAt g (q : Nat)).next.length ≤ N := by have h1 := nodeAt_next HGO.out (q : Nat); have h2 := HN.out; omega
        have HLL : Hid (l.length ≤ 2000000) := Lib.hid (by have h1 := HI.out.ms; have h2 := hgm.out; rw [List.length_append] at h1; simp only [List.length_singleton] at h1; omega)
        have hbs := HI.out.bel.setCell (p := ⟨w1.heap.size, q, none⟩) HK0.out (.bool true)
        have D2 : (wr.setCell ⟨w1.heap.size, q, none⟩ (.bool true)).cell? ⟨b, o + q * 2 + 1, none⟩ = some (.slice A2 (nodeAt g (q : Nat)).next.length c2) := (hbs.cell (p := ⟨b, _, none⟩) hbq).trans hc2
        have HAT := Lib.hid (hat2.below hbs (Nat.le_refl _))
        have HOW := Lib.hid (ownsRow_setCell_below (a := ⟨w1.heap.size, q, none⟩) HRW.out (Nat.lt_succ_self _) (.bool true))
        have HKS := Lib.hid HI.out.ksz
        have HSQ := Lib.hid hsq
        clear hsq hbs hat2 hc2 hbq
        go_wp2_with (at_builtin; go_must (refine wpList_app _ rfl (.tmp 55) (.tmp 60) 25 rfl (w1.heap.size + 1) 3 i0 _ 1 8 Try.underlying25 hi0 hz0 hz1 hz2 rfl (by decide) (by decide) _ l.length (intsV l) rfl (.inl HOW.out) A2 (nodeAt g (q : Nat)).next.length c2 (intsV (nodeAt g (q : Nat)).next) rfl (by simp) HAT.out (intsV_one _) (by have := HLL.out; unfold maxLen; omega) (by have := HLL.out; omega) (by have := HKS.out; simp [World.setCell]; omega) ?_); intro v' w3 g2 g3 g4 g5 g6; have HW3 := Lib.hid g6; have HO3 := Lib.hid (g4 HOW.out); clear g2 g3 g4 g5 g6)
        obtain ⟨gm, rfl⟩ : ∃ gm, gk = gm + 1 := ⟨gk - 1, by have h1 := HI.out.ms; rw [List.length_append] at h1; simp only [List.length_singleton] at h1; omega⟩
        go_roundg gm
        case rel => exact ⟨Lib.hid (by have := hgm.out; omega), _, _, HI.out.new HGO.out HSQ.out HW3.out HO3.out HK0.out⟩
        case measure => omega
      · rw [hsq] at hcs
        have HSQ := Lib.hid hsq
        clear hsq
        go_wp2_with fail
        obtain ⟨gm, rfl⟩ : ∃ gm, gk = gm + 1 := ⟨gk - 1, by have h1 := HI.out.ms; rw [List.length_append] at h1; simp only [List.length_singleton] at h1; omega⟩
        go_roundg gm
        case rel => exact ⟨Lib.hid (by have := hgm.out; omega), s, l, HI.out.old HSQ.out HRW.out⟩
        case measure => omega
end Go.Proofs.Ytcjmbkbbhlmkfaa

namespace Go.Proofs.Ytcjmbkbbhlmkfaa
open Go.RowKit Go.Proofs

theorem rep_graph {g : Gh} {w : World} {G : List Nd} {v : Value} (h : Rep g w (.list 2 (gv G)) v) (hlt : ∀ k, 0 < g.I k → k < w.heap.size) (hn : 0 < G.length) : ∃ b o c, v = .slice (some ⟨b, o, none⟩) G.length c ∧ GW w b o G := by
  cases h with
  | list vals hc hm hA hz hi hcell hrep =>
    rename_i A c
    have hfl : (flat (gv G)).length = G.length * 2 := by rw [flat_length hz]; simp
    obtain ⟨b, o, rfl, h1, h2⟩ := hcell 0 (by omega)
    refine ⟨b, o, c, by simp, fun q hq => ⟨hlt b (by omega), ?_⟩⟩
    obtain ⟨b', o', e, h3, h4⟩ := hcell (q * 2 + 1) (by omega)
    cases e
    have hx := gv_atn hq
    have hf := flat_get (o := 1) hz hx (by omega)
    simp [cellsOf] at hf
    obtain ⟨A, c', e, _, hat⟩ := rep_ints (hrep _ _ hf) hlt
    rw [e] at h4
    exact ⟨A, c', by rw [Nat.add_assoc]; exact h4, hat⟩
theorem reach_pc (G : List Nd) (i : Nat) (hg : gOk G = true) (hG8 : G.length ≤ 1000) (hi : i < G.length) : PC Try.prog 21 [.list 2 (gv G), .s (.int .i64 i)] (fun r => ∃ out : List Int, r = .list 1 (iv out) ∧ out.length ≤ G.length ∧ ∀ x, x ∈ out ↔ Rea G i x) := by
  have hGn : ∀ n ∈ G, n.next.length ≤ 1000000 := fun n hn => by have := gOk_next hg hn; omega
  refine pc_imm (by intro x hx; simp at hx; rcases hx with rfl | rfl <;> rfl) fun g w vs hsz hrep hlt => ?_
  have hs : vs.size = 2 := by simpa using hsz.symm
  have e0 : vs[0]? = some vs[0] := Array.getElem?_eq_getElem (by omega)
  have e1 : vs[1]? = some vs[1] := Array.getElem?_eq_getElem (by omega)
  have r0 := hrep 0 _ _ rfl e0
  have r1 := (hrep 1 _ _ rfl e1).of_s rfl
  obtain ⟨b, o, c, hv, hat⟩ := rep_graph r0 hlt (by omega)
  have hvs : vs = #[.slice (some ⟨b, o, none⟩) G.length c, .int .i64 i] := by
    apply Array.ext
    · simpa using hs
    · intro i h1 h2
      have : i = 0 ∨ i = 1 := by simp at h2; omega
      rcases this with rfl | rfl
      · simpa using hv
      · simpa using r1
  have hcv := calls_bool (g := g) (w := w) (vals := #[.slice (some ⟨b, o, none⟩) G.length c]) (rgValid_pc G hGn) rfl (by intro x hx; simp at hx; subst hx; rfl) (fun i x v hx hv' => by
    cases i with
    | zero => simp at hx hv'; subst hx; subst hv'; rw [← hv]; exact r0
    | succ i => simp at hx) hlt
  rw [hg] at hcv
  rw [hvs]
  refine (reach_any b o G.length c i G w rfl hg hG8 hi hat hcv).mono ?_
  rintro e' w' ⟨v, out, rfl, hown, hlen, hmem, hbel⟩
  refine ⟨v, .list 1 (iv out), newI g w w', rfl, ⟨out, rfl, hlen, hmem⟩, rfl, rfl, fun b hb => by simp [newI, hb], fun b hb => ?_, seen_rep (own_seen hown (Nat.le_refl _)) (Nat.le_refl _), hbel⟩
  simp only [newI] at hb
  split at hb
  · have := hlt b hb
    have := hbel.size
    omega
  · exact blk_lt hb
end Go.Proofs.Ytcjmbkbbhlmkfaa

namespace Go.Proofs.Ytcjmbkbbhlmkfaa

/-- the number of neighbours that are done -/
def ndn (g : List Nd) (s : List Bool) (i : Int) : Nat := (nodeAt g i).next.countP fun x => bAt s x
/-- nothing more can be done -/
def Cl (g : List Nd) (s : List Bool) : Prop := ∀ i : Int, 0 ≤ i → i < g.length → (nodeAt g i).k ≤ ndn g s i → bAt s i = true
/-- what is done must be done -/
def Ls (g : List Nd) (s : List Bool) : Prop := ∀ S : Int → Bool, (∀ i : Int, 0 ≤ i → i < g.length → (nodeAt g i).k ≤ (nodeAt g i).next.countP S → S i = true) → ∀ x : Int, 0 ≤ x → bAt s x = true → S x = true
theorem Ls.start (g : List Nd) (n : Nat) : Ls g (List.replicate n false) := fun S _ x _ h => by rw [bAt_rep] at h; cases h
theorem Ls.put {g : List Nd} (hg : gOk g = true) {s : List Bool} (h : Ls g s) {i : Nat} (hi : i < g.length) (hl : s.length = g.length) (hk : (nodeAt g (i : Nat)).k ≤ ndn g s (i : Nat)) : Ls g (s.set i true) := by
  intro S hS x h0 hx
  have := bAt_set (s := s) (i := (i : Nat)) (x := x) (by omega) (by omega) h0
  simp only [Int.toNat_natCast] at this
  rw [this, Bool.or_eq_true, decide_eq_true_eq] at hx
  rcases hx with rfl | hx
  · refine hS _ (by omega) (by omega) ?_
    have hm : ndn g s (i : Nat) ≤ (nodeAt g (i : Nat)).next.countP S := List.countP_mono_left fun y hy q => h S hS y (gOk_mem hg hy).1 q
    omega
  · exact h S hS x h0 hx
theorem Rea.head {g : List Nd} {i x : Int} (h : Rea g i x) : ∃ y ∈ (nodeAt g i).next, y = x ∨ Rea g y x := by
  induction h with
  | one h => exact ⟨_, h, .inl rfl⟩
  | step _ hx ih =>
    obtain ⟨y, hy, q⟩ := ih
    refine ⟨y, hy, .inr ?_⟩
    rcases q with rfl | q
    · exact .one hx
    · exact .step q hx
theorem countP_lt {α : Type} {p q : α → Bool} : ∀ {l : List α}, (∀ a ∈ l, p a = true → q a = true) → (∃ a ∈ l, q a = true ∧ p a = false) → l.countP p < l.countP q
  | [], _, h => by obtain ⟨a, ha, _⟩ := h; cases ha
  | x :: r, hm, h => by
    have hle : r.countP p ≤ r.countP q := List.countP_mono_left fun a ha => hm a (by simp [ha])
    obtain ⟨a, ha, h1, h2⟩ := h
    rw [List.mem_cons] at ha
    simp only [List.countP_cons]
    rcases ha with rfl | ha
    · simp only [h1, h2, if_true, Bool.false_eq_true, if_false]; omega
    · have := countP_lt (fun a ha => hm a (by simp [ha])) ⟨a, ha, h1, h2⟩
      have hx := hm x (by simp)
      split
      · next e => rw [if_pos (hx e)]; omega
      · split <;> omega
theorem Rea.back {g : List Nd} {to : Int} {P : Int → Prop} (h0 : ∀ j, to ∈ (nodeAt g j).next → P j) (h1 : ∀ j y, y ∈ (nodeAt g j).next → P y → P j) {j : Int} (h : Rea g j to) : P j := by
  have key : ∀ x, Rea g j x → (x = to ∨ P x) → P j := by
    intro x hx
    induction hx with
    | one hx =>
      rintro (rfl | q)
      · exact h0 _ hx
      · exact h1 _ _ hx q
    | step _ hx ih =>
      rintro (rfl | q)
      · exact ih (.inr (h0 _ hx))
      · exact ih (.inr (h1 _ _ hx q))
  exact key to h (.inl rfl)
theorem node_lt {g : List Nd} {j x : Int} (h : x ∈ (nodeAt g j).next) : j < g.length := by
  by_cases hi : j.toNat < g.length
  · omega
  · rw [nodeAt, List.getD_eq_getElem?_getD, List.getElem?_eq_none (by omega)] at h
    simp at h
open Classical in
theorem stuck_one {g : List Nd} (hg : gOk g = true) (ha : ∀ n ∈ g, n.k ≤ 1) {s : List Bool} (hc : Cl g s) (hl : Ls g s) {i : Int} (h0 : 0 ≤ i) (h1 : i < g.length) (hk : (nodeAt g i).k ≠ 0) : bAt s i = false ↔ ∀ x, Rea g i x → (nodeAt g x).k ≠ 0 := by
  have hk1 : ∀ x : Int, 0 ≤ x → x < g.length → (nodeAt g x).k ≤ 1 := fun x a b => ha _ (nodeAt_mem a b)
  constructor
  · intro hs x hr hx
    have hb := Rea.bd hg hr
    have hsx : bAt s x = true := hc x hb.1 hb.2 (by rw [hx]; exact Int.natCast_nonneg _)
    have step : ∀ j y, y ∈ (nodeAt g j).next → bAt s y = true → 0 ≤ j → bAt s j = true := fun j y hy q j0 => by
      have j1 := node_lt hy
      refine hc j j0 j1 ?_
      have : 0 < ndn g s j := List.countP_pos_iff.2 ⟨y, hy, q⟩
      have := hk1 j j0 j1
      omega
    have := Rea.back (P := fun j => 0 ≤ j → bAt s j = true) (fun j hj j0 => step j x hj hsx j0) (fun j y hy q j0 => step j y hy (q (gOk_mem hg hy).1) j0) hr h0
    rw [hs] at this; cases this
  · intro hno
    cases hs : bAt s i with
    | false => rfl
    | true =>
      exfalso
      have := hl (fun x => decide ((nodeAt g x).k = 0 ∨ ∃ y, Rea g x y ∧ (nodeAt g y).k = 0)) (fun x a b hx => ?_) i h0 hs
      · simp only [decide_eq_true_eq] at this
        rcases this with q | ⟨y, q1, q2⟩
        · exact hk q
        · exact hno y q1 q2
      · refine decide_eq_true ?_
        by_cases hx0 : (nodeAt g x).k = 0
        · exact .inl hx0
        · right
          have hx1 := (asc_next hg a b).1
          have : 0 < (nodeAt g x).next.countP (fun x => decide ((nodeAt g x).k = 0 ∨ ∃ y, Rea g x y ∧ (nodeAt g y).k = 0)) := by omega
          obtain ⟨y, hy, q⟩ := List.countP_pos_iff.1 this
          rcases of_decide_eq_true q with q | ⟨z, q1, q2⟩
          · exact ⟨y, .one hy, q⟩
          · exact ⟨z, .front hy q1, q2⟩
/-- the numbers of the false ones, below a bound -/
def flss (s : List Bool) (k : Nat) : List Int := ((List.range k).filter fun j : Nat => !bAt s (j : Int)).map fun j : Nat => (j : Int)
theorem flss_succ (s : List Bool) (k : Nat) : flss s (k + 1) = if bAt s (k : Nat) = true then flss s k else flss s k ++ [(k : Int)] := by
  simp only [flss, List.range_succ, List.filter_append, List.map_append]
  split
  · next h => simp [h]
  · next h => simp [h]
theorem mem_flss {s : List Bool} {k : Nat} {x : Int} : x ∈ flss s k ↔ 0 ≤ x ∧ x < k ∧ bAt s x = false := by
  simp only [flss, List.mem_map, List.mem_filter, List.mem_range]
  constructor
  · rintro ⟨j, ⟨h1, h2⟩, rfl⟩
    exact ⟨by omega, by omega, by simpa using h2⟩
  · rintro ⟨h1, h2, h3⟩
    refine ⟨x.toNat, ⟨by omega, ?_⟩, by omega⟩
    rw [show ((x.toNat : Nat) : Int) = x by omega, h3]; rfl
theorem flss_len (s : List Bool) (k : Nat) : (flss s k).length ≤ k := by
  simp only [flss, List.length_map]
  exact Nat.le_trans (List.length_filter_le _ _) (by simp)
end Go.Proofs.Ytcjmbkbbhlmkfaa

namespace Go.Proofs.Ytcjmbkbbhlmkfaa
open Go.RowKit Go.Proofs

theorem lv_ateN {s : List Bool} {i : Nat} (h1 : i < s.length) : (lv s)[i]'(by simpa using h1) = .s (.bool (bAt s (i : Nat))) := lv_ate (s := s) (i := (i : Int)) (by omega) h1
theorem gv_ateN {g : List Nd} {i : Nat} (h1 : i < g.length) : (gv g)[i]'(by simpa using h1) = .agg [.s (.int .i64 (nodeAt g (i : Int)).k), .list 1 (iv (nodeAt g (i : Int)).next)] := gv_ate (g := g) (i := (i : Int)) (by omega) h1
theorem iv_gete {d : List Int} {i : Nat} (h1 : i < d.length) : (iv d)[i]'(by simpa using h1) = .s (.int .i64 d[i]) := ate_of _ (iv_get h1)
theorem gOk_len {g : List Nd} (h : gOk g = true) : g.length ≤ 160 := by simp only [gOk, Bool.and_eq_true, decide_eq_true_eq] at h; exact h.1
theorem lv_set1 (s : List Bool) (i : Nat) (b : Bool) : (lv s).set i (.s (.bool b)) = lv (s.set i b) := by simp [lv, List.map_set]
def b2n (b : Bool) : Nat := if b then 1 else 0
def s24a (g : List Nd) (m : Nat) (S : St) : Prop := ∃ (s : List Bool) (ag : Bool), s.length = g.length ∧ Ls g s ∧ (ag = false → Cl g s) ∧ m = unseen s + b2n ag ∧ S = ⟨tmL [], [.list 2 (gv g), .s (.slice none 0 0), .own true 4 1 (lv s), .s (.bool ag), .no, .no, .no, .no, .no], [], 0⟩
def s24b (g : List Nd) (s0 : List Bool) (m : Nat) (S : St) : Prop := ∃ (i : Nat) (s : List Bool) (ag : Bool), i + m = g.length ∧ s.length = g.length ∧ Ls g s ∧ unseen s + b2n ag ≤ unseen s0 ∧ (ag = false → ∀ j : Int, 0 ≤ j → j < (i : Nat) → (nodeAt g j).k ≤ ndn g s j → bAt s j = true) ∧
  S = ⟨tmL [], [.list 2 (gv g), .s (.slice none 0 0), .own true 4 1 (lv s), .s (.bool ag), .s (.int .i64 i), .no, .no, .no, .no], [], 0⟩
def s24c (g : List Nd) (s : List Bool) (ag : Bool) (i : Nat) (m : Nat) (S : St) : Prop := ∃ (k : Nat), k + m = (nodeAt g (i : Nat)).next.length ∧
  S = ⟨tmL [], [.list 2 (gv g), .s (.slice none 0 0), .own true 4 1 (lv s), .s (.bool ag), .s (.int .i64 i), .s (.int .i64 (((nodeAt g (i : Nat)).next.take k).countP fun x => bAt s x : Nat)), .s (.int .i64 k), .no, .no], [], 0⟩
def s24d (g : List Nd) (s : List Bool) (m : Nat) (S : St) : Prop := ∃ (k : Nat), k + m = g.length ∧
  S = ⟨tmL [], [.list 2 (gv g), .s (.slice none 0 0), .own true 4 1 (lv s), .s (.bool false), .no, .no, .no, .own true 3 1 (iv (flss s k)), .s (.int .i64 k)], [], 0⟩
set_option maxHeartbeats 8000000 in
set_option maxRecDepth 10000 in
theorem stuck_pc0 (g : List Nd) (hg : gOk g = true) (hn : ∀ n ∈ g, n.next.length ≤ 1000000) : PC Try.prog 23 [.list 2 (gv g)] (fun r => ∃ s, s.length = g.length ∧ Cl g s ∧ Ls g s ∧ r = .own true 3 1 (iv (flss s g.length))) := by
  have hl := gOk_len hg
  refine pc_end c23 mixed rfl ?_
  simp -implicitDefEqProofs [a23, F23]
  refine wk_take ?_
  simp -implicitDefEqProofs
  refine wc_of (rgValid_pc g hn) (by simp) (by simp) ?_
  rintro _ rfl
  have b1 : g.length ≤ maxLen ∧ g.length ≤ 140737488355328 := by simp [maxLen]; omega
  simp -implicitDefEqProofs [hg, b1]
  refine w_rounds [] [4, 5, 6] 0 (by simp) (s24a g) (g.length + 1) ⟨by simp, List.replicate g.length false, true, by simp, Ls.start g _, by simp, by simp [unseen, b2n, List.countP_replicate], by simp [lv_rep]⟩ ?_
  rintro m S ⟨s0, ag, hs0, hL0, hC0, rfl, rfl⟩
  cases ag
  · have hC := hC0 rfl
    simp -implicitDefEqProofs
    refine w_rounds [] [] 0 (by simp) (s24d g s0) g.length ⟨by simp, 0, by omega, by simp [flss, iv]⟩ ?_
    rintro m2 S ⟨k, hkm, rfl⟩
    have hfl := flss_len s0 k
    by_cases hk : k < g.length
    · have hk' : (k : Int) < g.length := by omega
      have k0 : ¬ (k : Int) < 0 := by omega
      have wk : IntKind.i64.wrap ((k : Int) + 1) = ((k + 1 : Nat) : Int) := by rw [wrap64 (by omega)]; rfl
      have gk := lv_ateN (s := s0) (i := k) (by omega)
      have b2 : (flss s0 k).length + 1 ≤ maxLen ∧ ((flss s0 k).length + 1) * 8 ≤ maxBytes := by simp [maxLen, maxBytes]; omega
      have hsc := flss_succ s0 k
      cases hsk : bAt s0 (k : Nat)
      · rw [if_neg (by simp [hsk])] at hsc
        simp -implicitDefEqProofs [hk, hk', k0, gk, hs0, hsk, b2, wk]
        exact ⟨m2 - 1, by omega, k + 1, by omega, by rw [hsc]; simp [iv]⟩
      · rw [if_pos hsk] at hsc
        simp -implicitDefEqProofs [hk, hk', k0, gk, hs0, hsk, wk]
        exact ⟨m2 - 1, by omega, k + 1, by omega, by rw [hsc]; simp⟩
    · have hke : k = g.length := by omega
      subst hke
      simp -implicitDefEqProofs
      exact ⟨s0, hs0, hC, hL0, rfl⟩
  · simp -implicitDefEqProofs
    refine w_rounds [] [5, 6] 0 (by simp) (s24b g s0) g.length ⟨by simp, 0, s0, false, by omega, hs0, hL0, by simp [b2n], fun _ j h0 h1 => by omega, by simp⟩ ?_
    rintro m2 S ⟨i, s, ag, him, hs, hL, hu, hC, rfl⟩
    by_cases hi : i < g.length
    · have hi' : (i : Int) < g.length := by omega
      have i0 : ¬ (i : Int) < 0 := by omega
      have wi : IntKind.i64.wrap ((i : Int) + 1) = ((i + 1 : Nat) : Int) := by rw [wrap64 (by omega)]; rfl
      have gi := gv_ateN hi
      have hnl := nodeAt_next hg (i : Nat)
      simp -implicitDefEqProofs [hi, hi']
      refine w_rounds [] [] 0 (by simp) (s24c g s ag i) (nodeAt g (i : Nat)).next.length ⟨by simp, 0, by omega, by simp⟩ ?_
      rintro m3 S ⟨k, hkm, rfl⟩
      by_cases hk : k < (nodeAt g (i : Nat)).next.length
      · have k0 : ¬ (k : Int) < 0 := by omega
        have wk : IntKind.i64.wrap ((k : Int) + 1) = ((k + 1 : Nat) : Int) := by rw [wrap64 (by omega)]; rfl
        have hcl : ((nodeAt g (i : Nat)).next.take k).countP (fun x => bAt s x) ≤ k := Nat.le_trans List.countP_le_length (by simp; omega)
        have hc1 : ((nodeAt g (i : Nat)).next.take (k + 1)).countP (fun x => bAt s x) = ((nodeAt g (i : Nat)).next.take k).countP (fun x => bAt s x) + (if bAt s (nodeAt g (i : Nat)).next[k] = true then 1 else 0) := by
          rw [List.take_succ_eq_append_getElem hk, List.countP_append]
          simp [List.countP_cons]
        have hx := gOk_mem hg (List.getElem_mem hk)
        have gx := iv_gete hk
        revert hcl hc1 hx gx
        generalize (nodeAt g (i : Nat)).next[k] = x
        generalize hca : ((nodeAt g (i : Nat)).next.take k).countP (fun x => bAt s x) = ca
        intro hcl hc1 hx gx
        obtain ⟨y, rfl⟩ : ∃ y : Nat, x = y := ⟨x.toNat, by omega⟩
        have hy : y < g.length := by omega
        have y0 : ¬ (y : Int) < 0 := by omega
        have gy := lv_ateN (s := s) (i := y) (by omega)
        have wc : IntKind.i64.wrap ((ca : Int) + 1) = ((ca + 1 : Nat) : Int) := by rw [wrap64 (by omega)]; rfl
        cases hsy : bAt s (y : Nat)
        · rw [if_neg (by simp [hsy])] at hc1
          simp -implicitDefEqProofs [hi, hi', i0, gi, hs, hk, wk, k0, gx, y0, hy, gy, hsy]
          exact ⟨m3 - 1, by omega, k + 1, by omega, by rw [hc1]; rfl⟩
        · rw [if_pos hsy] at hc1
          simp -implicitDefEqProofs [hi, hi', i0, gi, hs, hk, wk, k0, gx, y0, hy, gy, hsy, wc]
          exact ⟨m3 - 1, by omega, k + 1, by omega, by rw [hc1]; rfl⟩
      · have htk : (nodeAt g (i : Nat)).next.take k = (nodeAt g (i : Nat)).next := List.take_of_length_le (by omega)
        have gsi := lv_ateN (s := s) (i := i) (by omega)
        have hnd : (nodeAt g (i : Nat)).next.countP (fun x => bAt s x) = ndn g s (i : Nat) := rfl
        cases hsi : bAt s (i : Nat)
        · by_cases hge : (nodeAt g (i : Nat)).k ≤ ndn g s (i : Nat)
          · have hu2 : unseen (s.set i true) + 1 = unseen s := by
              refine unseen_set ?_
              rw [bAt, List.getD_eq_getElem?_getD] at hsi
              rw [List.getElem?_eq_getElem (by omega)]
              simp only [Int.toNat_natCast] at hsi
              rw [List.getElem?_eq_getElem (by omega)] at hsi
              simpa using hsi
            simp -implicitDefEqProofs [hi, hi', i0, gi, hs, hk, htk, hnd, gsi, hsi, hge, wi, lv_set1]
            exact ⟨m2 - 1, by omega, i + 1, s.set i true, true, by omega, by simp [hs], hL.put hg hi hs hge, by have : b2n true = 1 := rfl; omega, (fun q => by cases q), rfl⟩
          · simp -implicitDefEqProofs [hi, hi', i0, gi, hs, hk, htk, hnd, gsi, hsi, hge, wi]
            exact ⟨m2 - 1, by omega, i + 1, s, ag, by omega, hs, hL, hu, fun q j j0 j1 jk => by
              by_cases e : j < (i : Nat)
              · exact hC q j j0 e jk
              · have : j = (i : Nat) := by omega
                subst this
                exact absurd jk hge, rfl⟩
        · simp -implicitDefEqProofs [hi, hi', i0, gi, hs, hk, htk, hnd, gsi, hsi, wi]
          exact ⟨m2 - 1, by omega, i + 1, s, ag, by omega, hs, hL, hu, fun q j j0 j1 jk => by
            by_cases e : j < (i : Nat)
            · exact hC q j j0 e jk
            · have : j = (i : Nat) := by omega
              subst this
              exact hsi, rfl⟩
    · simp -implicitDefEqProofs [hi]
      refine ⟨unseen s + b2n ag, by have : b2n true = 1 := rfl; omega, s, ag, hs, hL, fun q i j0 j1 jk => ?_, rfl, rfl⟩
      exact hC q i j0 (by omega) jk
/-- what is returned, as a list -/
theorem stuck_pc (g : List Nd) (hg : gOk g = true) (hn : ∀ n ∈ g, n.next.length ≤ 1000000) : PC Try.prog 23 [.list 2 (gv g)] (fun r => ∃ s, s.length = g.length ∧ Cl g s ∧ Ls g s ∧ r = .list 1 (iv (flss s g.length))) :=
  pc_list (stuck_pc0 g hg hn) fun x hx _ => by
    obtain ⟨s, h1, h2, h3, rfl⟩ := hx
    exact ⟨.list 1 (iv (flss s g.length)), by simp [frT, frA, frL], rfl, s, h1, h2, h3, rfl⟩
end Go.Proofs.Ytcjmbkbbhlmkfaa
