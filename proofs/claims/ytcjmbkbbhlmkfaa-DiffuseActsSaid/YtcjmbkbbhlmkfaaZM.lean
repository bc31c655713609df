/- Texts put behind one another: K13, K14, V4, N1, N2, N3, N4, N5. -/
import Derived.Test.YtcjmbkbbhlmkfaaZV
import Derived.Test.YtcjmbkbbhlmkfaaZG
import Derived.Test.YtcjmbkbbhlmkfaaZE
import Derived.Test.YtcjmbkbbhlmkfaaZK
set_option linter.unusedVariables false
set_option linter.unusedSimpArgs false
namespace Go.Proofs.Ytcjmbkbbhlmkfaa
open Go.RowKit Go.Proofs

def mAt (l : List Ml) (k : Int) : Ml := l.getD k.toNat ⟨0, 0, false⟩
theorem mv_atk {l : List Ml} {k : Int} (h : k.toNat < l.length) : (mv l)[k.toNat]'(by simpa using h) = .agg [.s (.int .i64 (mAt l k).frm), .s (.int .i64 (mAt l k).to), .s (.bool (mAt l k).rep)] := by
  refine ate_of _ ?_
  rw [mv_get h, mAt, List.getD_eq_getElem?_getD, List.getElem?_eq_getElem h]; rfl
theorem mAt_mem {l : List Ml} {k : Int} (h : k.toNat < l.length) : mAt l k ∈ l := by
  rw [mAt, List.getD_eq_getElem?_getD, List.getElem?_eq_getElem h]
  exact List.getElem_mem h
/-- what a step does -/
def repD (r : Df) (i : Int) : Df :=
  if iAt r.opn i = 0 then r
  else if iAt r.opn i > 1 then { r with opn := r.opn.set i.toNat (iAt r.opn i - 1) }
  else if i = r.start then { r with opn := r.opn.set i.toNat (iAt r.opn i - 1), dec := true }
  else { r with opn := r.opn.set i.toNat (iAt r.opn i - 1), ml := r.ml ++ [⟨i, iAt r.par i, true⟩] }
def qryD (r : Df) (i j : Int) : Df :=
  if (nodeAt r.g i).k = 0 then r
  else if bAt r.eng i = true then { r with ml := r.ml ++ [⟨i, j, true⟩] }
  else ({ r with eng := r.eng.set i.toNat true, par := r.par.set i.toNat j } : Df).ask i
def stepD (d : Df) (k : Int) : Df :=
  if (mAt d.ml k).rep = true then repD { d with ml := cut d.ml k } (mAt d.ml k).to
  else qryD { d with ml := cut d.ml k } (mAt d.ml k).to (mAt d.ml k).frm
def stepE (d : Df) (k : Int) : Int := if ¬ d.ok then 2 else if k < 0 ∨ d.ml.length ≤ k then 1 else 0
theorem ok_to {d : Df} (h : d.ok) {m : Ml} (hm : m ∈ d.ml) : 0 ≤ m.to ∧ m.to < d.g.length := by
  have h1 := h.ml m hm
  unfold mOk at h1
  split at h1
  · exact ⟨h1.1.1, h1.1.2.1⟩
  · have := asc_mem (asc_next h.g h1.1 h1.2.1).2.2.2 _ h1.2.2.2
    omega
set_option maxHeartbeats 16000000 in
set_option maxRecDepth 10000 in
theorem Step_pc (d : Df) (k : Int) (hs : d.sm) : PC Try.prog 14 [d.v, .s (.int .i64 k)] (fun r => r = res (stepE d k) (stepD d k)) := by
  refine pc_end c14 mixed rfl ?_
  have hv := Valid_pc d hs
  simp only [Df.v, Df.cells] at hv
  simp -implicitDefEqProofs [a14, F14, Df.v, Df.cells]
  refine wk_take ?_
  simp -implicitDefEqProofs
  refine wc_of hv (by simp) (by simp) ?_
  rintro _ rfl
  by_cases ho : d.ok
  case neg => simp -implicitDefEqProofs [ho, res, stepE, zD, zDs]
  by_cases k1 : k < 0
  · simp -implicitDefEqProofs [ho, k1, res, stepE, zD, zDs]
  by_cases k2 : k ≥ d.ml.length
  · have k2' : (d.ml.length : Int) ≤ k := k2
    simp -implicitDefEqProofs [ho, k1, k2, k2', res, stepE, zD, zDs]
  have k2' : ¬ (d.ml.length : Int) ≤ k := k2
  have kn : k.toNat < d.ml.length := by omega
  have hto := ok_to ho (mAt_mem kn)
  have hml := hs.ml
  have hcut := cut_length kn
  have hst : stepE d k = 0 := by rw [stepE, if_neg (fun h => h ho), if_neg (by omega)]
  have hm := mv_atk kn
  have el := ho.el
  have pl := ho.pl
  have ol := ho.ol
  have ne1 : d.eng ≠ [] := fun e => by rw [e] at el; simp at el; omega
  have ne2 : d.par ≠ [] := fun e => by rw [e] at pl; simp at pl; omega
  have ne3 : d.opn ≠ [] := fun e => by rw [e] at ol; simp at ol; omega
  simp -implicitDefEqProofs [ho, k1, k2]
  refine wk_take ?_
  simp -implicitDefEqProofs
  have hw := without_pc d hs k (by omega) (by omega) ne1 ne2 ne3
  simp only [Df.v, Df.cells] at hw
  refine wc_of hw (by simp) (by simp) ?_
  rintro _ rfl
  have hi0 : ¬ (mAt d.ml k).to < 0 := by omega
  have hin : (mAt d.ml k).to.toNat < d.g.length := by omega
  have hO := iv_ate (s := d.opn) (i := (mAt d.ml k).to) hto.1 (by omega)
  have hP := iv_ate (s := d.par) (i := (mAt d.ml k).to) hto.1 (by omega)
  have hE := lv_ate (s := d.eng) (i := (mAt d.ml k).to) hto.1 (by omega)
  have hG := gv_ate (g := d.g) (i := (mAt d.ml k).to) hto.1 (by omega)
  have b1 : (cut d.ml k).length + 1 ≤ maxLen ∧ ((cut d.ml k).length + 1) * 24 ≤ maxBytes := by simp [maxLen, maxBytes]; omega
  have hx := hs.nx _ (nodeAt_mem (g := d.g) (i := (mAt d.ml k).to) hto.1 hto.2)
  have hop := (ho.nd (mAt d.ml k).to.toNat hin)
  rw [show (((mAt d.ml k).to.toNat : Nat) : Int) = (mAt d.ml k).to by omega] at hop
  have ho2 := hto.2
  simp -implicitDefEqProofs [Df.box, k1, k2', kn, hm]
  cases hr : (mAt d.ml k).rep
  case true =>
    have hop0 : 0 ≤ iAt d.opn (mAt d.ml k).to ∧ iAt d.opn (mAt d.ml k).to ≤ 1000000 := by
      unfold nOk at hop
      split at hop
      · omega
      · omega
    have w1 : IntKind.i64.wrap (iAt d.opn (mAt d.ml k).to - 1) = iAt d.opn (mAt d.ml k).to - 1 := by rw [wrap64 (by omega)]
    have hS : (iv (d.opn.set (mAt d.ml k).to.toNat (iAt d.opn (mAt d.ml k).to - 1)))[(mAt d.ml k).to.toNat]'(by simp; omega) = .s (.int .i64 (iAt d.opn (mAt d.ml k).to - 1)) := by simp [iv]
    by_cases h1 : iAt d.opn (mAt d.ml k).to = 0
    · have hD : stepD d k = { d with ml := cut d.ml k } := by simp only [stepD, repD, hr, if_true]; rw [if_pos h1]
      simp -implicitDefEqProofs [hr, hi0, hin, hO, h1, ho2, el, pl, ol, hst, res, hD, Df.v, Df.cells]
    · have h1' : (iAt d.opn (mAt d.ml k).to == 0) = false := by simpa using h1
      by_cases h2 : iAt d.opn (mAt d.ml k).to > 1
      · have h2' : 1 < iAt d.opn (mAt d.ml k).to := by omega
        have hD : stepD d k = { d with ml := cut d.ml k, opn := d.opn.set (mAt d.ml k).to.toNat (iAt d.opn (mAt d.ml k).to - 1) } := by simp only [stepD, repD, hr, if_true]; rw [if_neg h1, if_pos h2]
        simp -implicitDefEqProofs [hr, hi0, hin, hO, hS, h1', h2', w1, ho2, el, pl, ol, hst, res, hD, Df.v, Df.cells, iv_set]
      · have h2' : ¬ 1 < iAt d.opn (mAt d.ml k).to := by omega
        by_cases h3 : (mAt d.ml k).to = d.start
        · have h3' : ((mAt d.ml k).to == d.start) = true := by simpa using h3
          have hD : stepD d k = { d with ml := cut d.ml k, opn := d.opn.set (mAt d.ml k).to.toNat (iAt d.opn (mAt d.ml k).to - 1), dec := true } := by simp only [stepD, repD, hr, if_true]; rw [if_neg h1, if_neg h2, if_pos h3]
          simp -implicitDefEqProofs [hr, hi0, hin, hO, hS, h1', h2', w1, ho2, el, pl, ol, hst, res, hD, Df.v, Df.cells, iv_set, h3']
        · have h3' : ((mAt d.ml k).to == d.start) = false := by simpa using h3
          have hD : stepD d k = { d with ml := cut d.ml k ++ [⟨(mAt d.ml k).to, iAt d.par (mAt d.ml k).to, true⟩], opn := d.opn.set (mAt d.ml k).to.toNat (iAt d.opn (mAt d.ml k).to - 1) } := by simp only [stepD, repD, hr, if_true]; rw [if_neg h1, if_neg h2, if_neg h3]
          simp -implicitDefEqProofs [hr, hi0, hin, hO, hP, hS, h1', h2', w1, ho2, el, pl, ol, hst, res, hD, Df.v, Df.cells, iv_set, h3', b1, Ml.v, mv]
  case false =>
    cases h1 : ((nodeAt d.g (mAt d.ml k).to).k == 0)
    case true =>
      have h1' : (nodeAt d.g (mAt d.ml k).to).k = 0 := eq_of_beq h1
      simp -implicitDefEqProofs [hr, hi0, hin, hG, h1, h1', ho2, el, pl, ol, hst, res, stepD, qryD, Df.v, Df.cells]
    have h1' : ¬ (nodeAt d.g (mAt d.ml k).to).k = 0 := by simpa using h1
    cases h2 : bAt d.eng (mAt d.ml k).to
    case true =>
      simp -implicitDefEqProofs [hr, hi0, hin, hG, hE, h1, h1', h2, ho2, el, pl, ol, hst, res, stepD, qryD, Df.v, Df.cells, b1, Ml.v, mv]
    simp -implicitDefEqProofs [hr, hi0, hin, hG, hE, hP, h1, h1', h2, ho2, el, pl, ol, lv_set, iv_set]
    refine wk_hand ?_
    simp -implicitDefEqProofs
    refine wa_of (ask_ac ({ d with ml := cut d.ml k, eng := d.eng.set (mAt d.ml k).to.toNat true, par := d.par.set (mAt d.ml k).to.toNat (mAt d.ml k).frm } : Df) (mAt d.ml k).to hto.1 hto.2 ol hx (by show (cut d.ml k).length ≤ _; omega)) (hand2 (q := 2) rfl (Df.box_ok _)) ?_
    rintro _ _ ⟨rfl, rfl⟩
    refine ⟨rfl, ?_⟩
    simp -implicitDefEqProofs [hr, h1', h2, hst, res, stepD, qryD, Df.v, Df.cells, Df.box, Df.ask]
end Go.Proofs.Ytcjmbkbbhlmkfaa

namespace Go.Proofs.Ytcjmbkbbhlmkfaa
open Go.RowKit Go.Proofs

def smallG (g : List Nd) : Bool := decide (g.length ≤ 30) && g.all fun n => decide (n.next.length ≤ 30)
def smInv (g : List Nd) (m : Nat) (S : St) : Prop := ∃ i, i + m = g.length ∧ smallG g = (g.drop i).all (fun n => decide (n.next.length ≤ 30)) ∧ S = ⟨tmL [(8, .list 2 (gv g)), (9, .s (.int .i64 g.length)), (10, .s (.int .i64 i))], [.list 2 (gv g), .s (.bool false)], [], 0⟩
theorem small_pc (g : List Nd) : PC Try.prog 7 [.list 2 (gv g)] (fun r => r = .s (.bool (smallG g))) := by
  refine pc_end c7 mixed rfl ?_
  by_cases h : g.length ≤ 30
  · have h' : ¬ (g.length : Int) > 30 := by omega
    simp -implicitDefEqProofs [a7, F7, h']
    refine w_rounds [8, 9, 10] [] 0 (Nat.le_refl _) (smInv g) g.length ⟨by simp, 0, by simp, by simp [smallG, h], by simp⟩ ?_
    rintro m S ⟨i, hi, ha, rfl⟩
    by_cases hm : i < g.length
    · have h1 : (i : Int) < g.length := by omega
      have h0 : ¬ (i : Int) < 0 := by omega
      rw [all_drop hm] at ha
      by_cases hx : g[i].next.length ≤ 30
      · have hx' : ¬ (g[i].next.length : Int) > 30 := by omega
        simp -implicitDefEqProofs [h1, h0, gv_get hm, hx']
        exact ⟨m - 1, by omega, i + 1, by omega, by rw [ha, decide_eq_true hx, Bool.true_and], by rw [wrap64 (by omega)]; rfl⟩
      · have hx' : (g[i].next.length : Int) > 30 := by omega
        have : smallG g = false := by rw [ha, decide_eq_false hx]; rfl
        simp -implicitDefEqProofs [h1, h0, gv_get hm, hx', this]
    · have h1 : ¬ (i : Int) < g.length := by omega
      have : smallG g = true := by rw [ha, List.drop_eq_nil_of_le (by omega)]; rfl
      simp -implicitDefEqProofs [h1, this]
  · have h' : (g.length : Int) > 30 := by omega
    have : smallG g = false := by simp [smallG, h]
    simp -implicitDefEqProofs [a7, F7, h', this]
theorem smallG_of {g : List Nd} (h : smallG g = true) : g.length ≤ 30 ∧ ∀ n ∈ g, n.next.length ≤ 30 := by
  simp only [smallG, Bool.and_eq_true, decide_eq_true_eq, List.all_eq_true] at h
  exact h
theorem gOk_next {g : List Nd} (h : gOk g = true) {n : Nd} (hn : n ∈ g) : n.next.length ≤ g.length := by
  simp only [gOk, Bool.and_eq_true, List.all_eq_true] at h
  have := h.2 n hn
  simp only [Nd.ok, Bool.and_eq_true] at this
  have := asc_len this.2 (by omega)
  omega
theorem nodeAt_next {g : List Nd} (h : gOk g = true) (i : Int) : (nodeAt g i).next.length ≤ g.length := by
  by_cases hi : i.toNat < g.length
  · rw [nodeAt, List.getD_eq_getElem?_getD, List.getElem?_eq_getElem hi]; exact gOk_next h (List.getElem_mem hi)
  · rw [nodeAt, List.getD_eq_getElem?_getD, List.getElem?_eq_none (by omega)]; simp
def d0 : Df := ⟨[], 0, [], [], [], [], false⟩
def dE (e : Int) (d : Df) : Df := if e = 0 then d else d0
def resP (e : Int) (d : Df) : V := .tup [(dE e d).v, .s (.int .i64 e)]
theorem res_fr (e : Int) (d : Df) : frT (res e d) (resP e d) := by
  unfold res resP dE
  by_cases h : e = 0
  · simp [h, frT, frAs, frA, frLs, frL, Df.v, Df.cells, immC]
  · simp [h, frT, frAs, frA, frLs, frL, Df.v, Df.cells, immC, zD, zDs, d0, gv, mv, lv, iv]
theorem Begin_pl (g : List Nd) (s : Int) (hl : g.length ≤ 1000000) (hn : ∀ n ∈ g, n.next.length ≤ 1000000) : PC Try.prog 10 [.list 2 (gv g), .s (.int .i64 s)] (fun r => r = resP (begE g s) (begD g s)) :=
  pc_list (Begin_pc g s hl hn) fun x hx _ => ⟨_, hx ▸ res_fr _ _, rfl, rfl⟩
theorem Step_pl (d : Df) (k : Int) (hs : d.sm) : PC Try.prog 14 [d.v, .s (.int .i64 k)] (fun r => r = resP (stepE d k) (stepD d k)) :=
  pc_list (Step_pc d k hs) fun x hx _ => ⟨_, hx ▸ res_fr _ _, rfl, rfl⟩
theorem resP_flat (e : Int) (d : Df) : flatV (resP e d) = true := by
  simp [resP, Df.v, Df.cells, flatV, immA, immC]
end Go.Proofs.Ytcjmbkbbhlmkfaa

namespace Go.Proofs.Ytcjmbkbbhlmkfaa
open Go.RowKit Go.Proofs

theorem clone_seen {g : Gh} {w : World} {l : List Int} {v : Value} (hl : l.length ≤ 1000000) (hr : Rep g w (.list 1 (iv l)) v) (hlt : ∀ k, 0 < g.I k → k < w.heap.size) :
    Calls Try.prog 38 #[v] w fun e w' => ∃ v', e = .returned v' ∧ Seen w.heap.size w'.heap.size w' v' l ∧ Below w.heap.size w w' := by
  obtain ⟨hbd, hno⟩ := bd_imm (g := g) (w := w) (args := [.list 1 (iv l)]) (vals := #[v]) rfl (by simp [immA, immC]) (fun i y u hy hu => by
    cases i with
    | zero => simp at hy hu; subst hy; subst hu; exact hr
    | succ i => simp at hy) hlt
  by_cases hn : l = []
  · subst hn
    refine (Clone_pc [] hl _ w _ hbd).mono ?_
    rintro e w' ⟨v', r, bs', g', rfl, ⟨rfl, rfl⟩, _, hb, hex⟩
    have hrep := hb.rep (.l (.var 0)) _ v' ⟨rfl, by simp [valAt, Frn, Act.tv]⟩
    refine ⟨v', rfl, ?_, ⟨hex.os, hex.tape, hex.output, hex.size, fun k hk => (hex.same k hk (hno k)).1⟩⟩
    cases hrep with
    | list vals hc hm hA hz hi hcell hrep => exact ⟨_, _, by simp, by simp, hm, hA, fun j u hj => by simp [intsV] at hj⟩
  · refine (CloneI_pc l hl hn _ w _ hbd).mono ?_
    rintro e w' ⟨v', r, bs', g', rfl, ⟨rfl, rfl⟩, _, hb, hex⟩
    have hva : valAt (Frn 1) g' w' ⟨#[v'], []⟩ (.var 0) = some v' := by simp [valAt, Frn, Act.tv]
    have hrep := hb.rep (.l (.var 0)) _ v' ⟨rfl, hva⟩
    refine ⟨v', rfl, ?_, ⟨hex.os, hex.tape, hex.output, hex.size, fun k hk => (hex.same k hk (hno k)).1⟩⟩
    have hnew : ∀ k, rb v' = some k → w.heap.size ≤ k := fun k hk => by
      rcases hex.owned k (.inl ⟨.l (.var 0), [], _, v', ⟨rfl, hva⟩, .inl ⟨3, 1, iv l, v', rfl, rfl, hk⟩⟩) with q | q
      · exact absurd q (hno k)
      · exact q
    generalize hiv : iv l = xs at hrep hnew
    cases hrep with
    | own0 =>
      have := congrArg List.length hiv
      simp at this
      exact absurd this hn
    | own vals h0 hc hm hh hs hz hi hcell hrep =>
      rename_i k cap cur
      subst hiv
      have hk := hnew k (by simp [rb]; omega)
      have hklt := (Array.getElem?_eq_some_iff.1 hh).1
      refine ⟨_, cap, by simp, by simpa using hc, hm, (fun q => by cases q), fun j u hj => ⟨k, 0, rfl, hk, hklt, ?_⟩⟩
      have hjl : j < l.length := by have := (List.getElem?_eq_some_iff.1 hj).1; simpa using this
      rw [intsV_get hjl] at hj
      cases hj
      have h1 := hcell j (by rw [iv_flat]; simpa using hjl)
      have h2 := (hrep j _ (by rw [iv_flat]; exact iv_get hjl)).of_s rfl
      rw [Nat.zero_add, block_cells hh, h1, h2]
theorem cell_set2 {w : World} {b1 b2 i j o : Nat} {u u' v : Value} (h : w.cell? ⟨b2, o, none⟩ = some v) (hne : b2 ≠ b1) : ((w.setCell ⟨b1, i, none⟩ u).setCell ⟨b1, j, none⟩ u').cell? ⟨b2, o, none⟩ = some v := by
  rw [cell_heap (Below.heap_setCell _ _ _ _ hne), cell_heap (Below.heap_setCell _ _ _ _ hne)]
  exact h
/-- a graph that is looked at, in memory -/
def GR (g : Gh) (w : World) (G : List Nd) (A : Option Addr) (hd : Nat → Value) : Prop := ∃ b q, A = some ⟨b, q, none⟩ ∧ b < w.heap.size ∧ ∀ a : Nat, a < G.length → w.cell? ⟨b, q + a * 2, none⟩ = some (.int .i64 (nodeAt G (a : Int)).k) ∧ w.cell? ⟨b, q + a * 2 + 1, none⟩ = some (hd a) ∧ Rep g w (.list 1 (iv (nodeAt G (a : Int)).next)) (hd a)
theorem look_graph {g : Gh} {w : World} {G : List Nd} {v : Value} (hG : 0 < G.length) (h : LookR g w 0 (.list 2 (gv G)) v) (hlt : ∀ k, 0 < g.I k → k < w.heap.size) : ∃ A c hd, v = .slice A G.length c ∧ G.length ≤ c ∧ GR g w G A hd := by
  have hz : ∀ x ∈ gv G, (cellsOf x).length = 2 := fun x hx => by simp only [gv, List.mem_map] at hx; obtain ⟨q, _, rfl⟩ := hx; rfl
  have hfl : (flat (gv G)).length = G.length * 2 := by rw [flat_length hz]; simp
  have f0 : ∀ a : Nat, a < G.length → (flat (gv G))[a * 2]? = some (.s (.int .i64 (nodeAt G (a : Int)).k)) := fun a ha => by
    have := flat_get (o := 0) hz (gv_atn ha) (by omega)
    simpa [cellsOf] using this
  have f1 : ∀ a : Nat, a < G.length → (flat (gv G))[a * 2 + 1]? = some (.list 1 (iv (nodeAt G (a : Int)).next)) := fun a ha => by
    have := flat_get (o := 1) hz (gv_atn ha) (by omega)
    simpa [cellsOf] using this
  rcases h with ⟨_, hr⟩ | ⟨_, e, z, xs, hy, hr⟩
  · cases hr with
    | list vals hc hm hA hz' hi hcell hrep =>
      rename_i A c
      obtain ⟨b, q, rfl, hb, _⟩ := hcell 0 (by omega)
      refine ⟨_, c, fun a => vals (a * 2 + 1), by simp, by simpa using hc, b, q, rfl, hlt b (by omega), fun a ha => ?_⟩
      obtain ⟨b1, q1, e1, _, h1⟩ := hcell (a * 2) (by omega)
      obtain ⟨b2, q2, e2, _, h2⟩ := hcell (a * 2 + 1) (by omega)
      cases e1
      cases e2
      refine ⟨?_, h2, hrep _ _ (f1 a ha)⟩
      rw [h1, (hrep _ _ (f0 a ha)).of_s rfl]
  · injection hy with q1 q2
    subst q1
    subst q2
    generalize hgv : gv G = xs at hr
    cases hr with
    | own0 => have := congrArg List.length hgv; simp at this; subst this; simp at hG
    | own vals h0 hc hm hh hs hz' hi hcell hrep =>
      rename_i k cap cur
      subst hgv
      refine ⟨_, cap, fun a => vals (a * 2 + 1), by simp, by simpa using hc, k, 0, rfl, (Array.getElem?_eq_some_iff.1 hh).1, fun a ha => ?_⟩
      have h1 := hcell (a * 2) (by omega)
      have h2 := hcell (a * 2 + 1) (by omega)
      refine ⟨?_, ?_, hrep _ _ (f1 a ha)⟩
      · rw [Nat.zero_add, block_cells hh, h1, (hrep _ _ (f0 a ha)).of_s rfl]
      · rw [Nat.zero_add, block_cells hh, h2]
/-- the first i nodes are copied -/
structure CG (G : List Nd) (w0 : World) (i : Nat) (cs : Array Value) (w : World) : Prop where
  blk : w.heap[w0.heap.size]? = some (.cells cs 42 (0, 0))
  sz : cs.size = G.length * 2
  fin : ∀ a : Nat, a < i → cs[a * 2]? = some (.int .i64 (nodeAt G (a : Int)).k) ∧ ∃ v, cs[a * 2 + 1]? = some v ∧ Seen (w0.heap.size + 1) w.heap.size w v (nodeAt G (a : Int)).next
  rest : ∀ a, i ≤ a → a < G.length → cs[a * 2]? = some (.int .i64 0) ∧ cs[a * 2 + 1]? = some (.slice none 0 0)
  bel : Below w0.heap.size w0 w
theorem CG.lt {G : List Nd} {w0 w : World} {i : Nat} {cs : Array Value} (h : CG G w0 i cs w) : w0.heap.size < w.heap.size := (Array.getElem?_eq_some_iff.1 h.blk).1
theorem Seen.lo {lo lo' hi : Nat} {w : World} {v : Value} {xs : List Int} (h : Seen lo hi w v xs) (hl : lo' ≤ lo) : Seen lo' hi w v xs := by
  obtain ⟨A, c, h1, h2, h3, h4, h5⟩ := h
  refine ⟨A, c, h1, h2, h3, h4, fun j u hj => ?_⟩
  obtain ⟨b, o, e, b1, b2, hc⟩ := h5 j u hj
  exact ⟨b, o, e, by omega, b2, hc⟩
theorem CG.step {G : List Nd} {w0 wo w1 : World} {i : Nat} {cs : Array Value} (h : CG G w0 i cs wo) (hi : i < G.length) {bx : Array Value} {K : Int} (hK : (nodeAt G (i : Int)).k = K) {v' : Value} (hb : Below (wo.alloc (.cells bx 42)).drew.heap.size (wo.alloc (.cells bx 42)).drew w1)
    (hs : Seen (wo.alloc (.cells bx 42)).drew.heap.size w1.heap.size w1 v' (nodeAt G (i : Int)).next) (hblk : w1.heap[w0.heap.size]? = some (.cells cs 42 (0, 0))) :
    CG G w0 (i + 1) ((cs.setIfInBounds (i * 2) (.int .i64 K)).setIfInBounds (i * 2 + 1) v') ((w1.setCell ⟨w0.heap.size, i * 2, none⟩ (.int .i64 K)).setCell ⟨w0.heap.size, i * 2 + 1, none⟩ v') := by
  have hlt := h.lt
  have hsz := h.sz
  have hws : (wo.alloc (.cells bx 42)).drew.heap.size = wo.heap.size + 1 := by simp [World.drew]
  have h1s : wo.heap.size + 1 ≤ w1.heap.size := by rw [← hws]; exact hb.size
  have hw2s : ((w1.setCell ⟨w0.heap.size, i * 2, none⟩ (.int .i64 K)).setCell ⟨w0.heap.size, i * 2 + 1, none⟩ v').heap.size = w1.heap.size := by simp
  have hheap : ∀ b, b ≠ w0.heap.size → ((w1.setCell ⟨w0.heap.size, i * 2, none⟩ (.int .i64 K)).setCell ⟨w0.heap.size, i * 2 + 1, none⟩ v').heap[b]? = w1.heap[b]? := fun b hb => by rw [Below.heap_setCell _ _ _ _ hb, Below.heap_setCell _ _ _ _ hb]
  have hold : ∀ b, b < wo.heap.size → w1.heap[b]? = wo.heap[b]? := fun b hb' => by
    rw [hb.block b (by omega)]
    exact Below.heap_alloc wo _ b hb'
  have hne : ∀ q, q ≠ i * 2 → q ≠ i * 2 + 1 → ((cs.setIfInBounds (i * 2) (.int .i64 K)).setIfInBounds (i * 2 + 1) v')[q]? = cs[q]? := fun q h1 h2 => by
    rw [Array.getElem?_setIfInBounds, if_neg (by omega), Array.getElem?_setIfInBounds, if_neg (by omega)]
  refine ⟨setCell_row (setCell_row hblk), by simp [hsz], fun a ha => ?_, fun a h1 h2 => ?_, ?_⟩
  · by_cases hai : a = i
    · subst hai
      refine ⟨?_, v', ?_, ?_⟩
      · rw [Array.getElem?_setIfInBounds, if_neg (by omega), Array.getElem?_setIfInBounds, if_pos rfl, if_pos (by omega), hK]
      · rw [Array.getElem?_setIfInBounds, if_pos rfl, if_pos (by simp; omega)]
      · rw [hw2s]
        exact (hs.keep (fun b h1 _ => hheap b (by omega)) (Nat.le_refl _)).lo (by omega)
    · obtain ⟨q1, v, q2, q3⟩ := h.fin a (by omega)
      refine ⟨by rw [hne _ (by omega) (by omega)]; exact q1, v, by rw [hne _ (by omega) (by omega)]; exact q2, ?_⟩
      rw [hw2s]
      exact q3.keep (fun b h1 h2 => (hheap b (by omega)).trans (hold b h2)) (by omega)
  · rw [hne _ (by omega) (by omega), hne _ (by omega) (by omega)]
    exact h.rest a (by omega) h2
  · have h1 : Below w0.heap.size w0 (wo.alloc (.cells bx 42)).drew := (h.bel.trans ((below_new wo _).mono h.bel.size)).drew
    exact ((h1.trans (hb.mono h1.size)).setCell (by simp) _).setCell (by simp) _
theorem CG.start {G : List Nd} {w0 w2 : World} (hN : 0 < G.length)
    (ho : w2.ownsRow w0.heap.size 42 2 (.slice (some ⟨w0.heap.size, 0, none⟩) G.length G.length) G.length (madeCells (Value.agg #[.int .i64 0, .slice none 0 0]).cells (G.length * 2)).toList) (hg : w0.grownBy w2 none) : ∃ cs, CG G w0 0 cs w2 := by
  rcases ho.2 with ⟨h1, h2⟩ | ⟨g, cap, cur, hv, hb1, hh, hc, hm, hcs, ht⟩
  · cases h1
  · injection hv with q1 q2 q3
    injection q1 with q1
    injection q1 with q1
    subst q1
    subst q3
    have hget : ∀ q, q < G.length * 2 → cur[q]? = (madeCells (Value.agg #[.int .i64 0, .slice none 0 0]).cells (G.length * 2))[q]? := by
      intro q hq
      have := congrArg (·[q]?) ht
      simp only [List.getElem?_take, if_pos hq, Array.getElem?_toList] at this
      exact this
    refine ⟨cur, hh, hcs, fun a ha => by omega, fun a _ h2 => ⟨?_, ?_⟩, ⟨hg.os, hg.tape, hg.output, hg.size, fun b hb => hg.block b hb (by simp)⟩⟩
    · rw [hget _ (by omega), made_get _ _ _ (by omega) (by simp [Value.cells])]
      simp [Value.cells, Nat.mul_mod_left]
    · rw [hget _ (by omega), made_get _ _ _ (by omega) (by simp [Value.cells])]
      have : (a * 2 + 1) % 2 = 1 := by omega
      simp [Value.cells, this]
set_option maxRecDepth 100000 in
set_option maxHeartbeats 1000000 in
theorem copy_any {g : Gh} (G : List Nd) (N : Nat) (hN : G.length = N) (hG : 0 < N) (hl : N ≤ 1000000) (hn : ∀ n ∈ G, n.next.length ≤ 1000000) (A : Option Addr) (c : Nat) (hd : Nat → Value) (w : World) (hGR : GR g w G A hd) (hlt : ∀ k, 0 < g.I k → k < w.heap.size) :
    Calls Try.prog 26 #[.slice A N c] w fun e w' => e = .returned (.slice (some ⟨w.heap.size, 0, none⟩) N N) ∧ ∃ cs, CG G w N cs w' := by
  obtain ⟨i1, hj, hy0, hy1, hy2⟩ := info_parts infoN
  obtain ⟨b, q, rfl, hb, hcells⟩ := hGR
  have HC0 : Hid (∀ a : Nat, a < N → ∀ w', Below w.heap.size w w' → w'.cell? ⟨b, q + a * 2, none⟩ = some (.int .i64 (nodeAt G (a : Int)).k)) := Lib.hid (fun a ha w' hw => (hw.cell (p := ⟨b, _, none⟩) hb).trans (hcells a (by omega)).1)
  have HC1 : Hid (∀ a : Nat, a < N → ∀ w', Below w.heap.size w w' → w'.cell? ⟨b, q + a * 2 + 1, none⟩ = some (hd a)) := Lib.hid (fun a ha w' hw => (hw.cell (p := ⟨b, _, none⟩) hb).trans (hcells a (by omega)).2.1)
  have HCL : Hid (∀ a : Nat, a < N → ∀ w', Below w.heap.size w w' → Calls Try.prog 38 #[hd a] w' fun e w'' => ∃ v', e = .returned v' ∧ Seen w'.heap.size w''.heap.size w'' v' (nodeAt G (a : Int)).next ∧ Below w'.heap.size w' w'') := Lib.hid (fun a ha w' hw =>
    clone_seen (g := g) (hn _ (nodeAt_mem (by omega) (by omega))) (rep_below (hcells a (by omega)).2.2 hlt rfl hw) (fun k hk => Nat.lt_of_lt_of_le (hlt k hk) hw.size))
  have HS : Hid (∀ a : Nat, a < N → ∃ A' n' c', hd a = .slice A' n' c') := Lib.hid (fun a ha => by
    have hr := (hcells a (by omega)).2.2
    generalize hd a = u at hr
    cases hr with | list => exact ⟨_, _, _, rfl⟩)
  have HSt : Hid (∀ w2, w2.ownsRow w.heap.size 42 2 (.slice (some ⟨w.heap.size, 0, none⟩) N N) N (madeCells (Value.agg #[.int .i64 0, .slice none 0 0]).cells (N * 2)).toList → w.grownBy w2 none → ∃ cs, CG G w 0 cs w2) := Lib.hid (fun w2 h5 h6 => CG.start (by omega) (by rw [hN]; exact h5) h6)
  clear hcells hb hlt hn
  go_enter Try.func26, Try.ntmps26
  go_wp2_with (at_make; go_must (refine wpList_make_full _ rfl (.tmp 7) (.tmp 7) 22 rfl _ 42 i1 _ 2 Try.underlying22 hj hy0 hy1 .i64 .i64 (N : Int) (N : Int) N rfl rfl rfl rfl (by rw [hy2]; omega) (by unfold maxLen; omega) (Nat.le_refl _) ?_); intro w2 h5 h6; have HG := Lib.hid (HSt.out w2 h5 h6); clear h5 h6)
  go_loopw [11] (fun t wr => ∃ (i : Nat) (cs : Array Value), t = .int .i64 i ∧ i ≤ N ∧ CG G w i cs wr) (fun t _ => N - (intOf t).toNat)
  case atStart =>
    obtain ⟨cs, h⟩ := HG.out
    exact ⟨0, cs, rfl, by omega, h⟩
  case round =>
    obtain ⟨i, cs, rfl, hi, hCG⟩ := hrel
    have HO := Lib.hid hCG
    clear hCG
    obtain ⟨wo, rfl⟩ : ∃ wo : World, wo = wr := ⟨_, rfl⟩
    by_cases hlt : i < N
    · have hlt' : (i : Int) < N := by omega
      have CA := HC0.out i hlt _ HO.out.bel
      have CB := HC1.out i hlt _ HO.out.bel
      have HCLi := Lib.hid (HCL.out i hlt)
      obtain ⟨A', n', c', hhd⟩ := HS.out i hlt
      rw [hhd] at CB HCLi
      clear hhd
      generalize hK : (nodeAt G (i : Int)).k = K at CA
      have HK := Lib.hid hK
      clear hK
      go_wp2_with fail
      have hb0 := block_new wo #[.int .i64 K, .slice A' n' c'] 42
      have C := block_cells hb0
      have HB0 := Lib.hid hb0
      have hx0 := HO.out.rest i (Nat.le_refl _) (by omega)
      have HX0 := Lib.hid hx0
      have HLT := Lib.hid HO.out.lt
      have HNE := Lib.hid (Nat.ne_of_gt HLT.out)
      clear hb0 hx0
      go_region_held3 (fun wx => wx.cell? ⟨wo.heap.size, 0, none⟩ = some (.int .i64 K) ∧ wx.cell? ⟨wo.heap.size, 1, none⟩ = some (.slice A' n' c'))
        (first | exact ⟨C 0, C 1⟩ | exact ⟨Ca 0, Ca 1⟩ | exact ⟨cell_set2 (Ca 0) HNE.out, cell_set2 (Ca 1) HNE.out⟩ | go_keep)
        (first | (go_at_call 38; refine (HCLi.out _ ((HO.out.bel.trans ((below_new wo _).mono HO.out.bel.size)).drew)).mono ?_; rintro e w1 ⟨v', rfl, q1, q2⟩; obtain ⟨A2, c2, hv2⟩ : ∃ A2 c2, v' = .slice A2 (nodeAt G (i : Int)).next.length c2 := (by obtain ⟨A2, c2, h, _⟩ := q1; exact ⟨A2, c2, h⟩); subst hv2; have Ca := block_cells (block_below (w := (wo.alloc (.cells #[.int .i64 K, .slice A' n' c'] 42)).drew) HB0.out q2 (by simp)); have hblk := block_below (w := (wo.alloc (.cells #[.int .i64 K, .slice A' n' c'] 42)).drew) (block_old HO.out.blk _) q2 (by have := HLT.out; simp; omega); have CV0 := (block_cells hblk (i * 2)).trans HX0.out.1; have CV1 := (block_cells hblk (i * 2 + 1)).trans HX0.out.2; have RF := block_frees hblk; have HBK := Lib.hid hblk; have HQ1 := Lib.hid q1; have HQ2 := Lib.hid q2; clear hblk q1 q2))
      have hCS := HO.out.step (by omega) HK.out HQ2.out HQ1.out HBK.out
      have HCS := Lib.hid hCS
      clear hCS Ca CV0 CV1 RF C CA CB
      go_wp2_with fail
      go_roundw
      case rel => exact ⟨i + 1, _, by go_num, by omega, HCS.out⟩
      case measure => simp [intOf]; omega
    · have hlt' : ¬ (i : Int) < N := by omega
      have hie : i = N := by omega
      subst hie
      go_wp2_with fail
      go_ret
      exact ⟨rfl, cs, HO.out⟩
theorem cg_rep {G : List Nd} {w w' : World} {cs : Array Value} {g : Gh} (hN : 0 < G.length) (hl : G.length ≤ 1000000) (h : CG G w G.length cs w') : Rep ⟨newI g w w', g.φ⟩ w' (.list 2 (gv G)) (.slice (some ⟨w.heap.size, 0, none⟩) G.length G.length) := by
  have hsz := h.sz
  have hz : ∀ x ∈ gv G, (cellsOf x).length = 2 := fun x hx => by simp only [gv, List.mem_map] at hx; obtain ⟨q, _, rfl⟩ := hx; rfl
  have hfl : (flat (gv G)).length = G.length * 2 := by rw [flat_length hz]; simp
  have hI : newI g w w' w.heap.size = G.length * 2 := by
    simp only [newI]
    rw [if_neg (by omega)]
    simp [blkSize, h.blk, hsz]
  have cell : ∀ j u, (flat (gv G))[j]? = some u → ∃ a : Nat, a < G.length ∧ (j = a * 2 ∧ u = .s (.int .i64 (nodeAt G (a : Int)).k) ∨ j = a * 2 + 1 ∧ u = .list 1 (iv (nodeAt G (a : Int)).next)) := by
    intro j u hu
    have hj := (List.getElem?_eq_some_iff.1 hu).1
    rw [hfl] at hj
    have ha : j / 2 < G.length := by omega
    refine ⟨j / 2, ha, ?_⟩
    have hx := gv_atn ha
    rcases (show j % 2 = 0 ∨ j % 2 = 1 by omega) with q | q
    · have := flat_get (o := 0) hz hx (by omega)
      rw [show j / 2 * 2 + 0 = j by omega, hu] at this
      simp [cellsOf] at this
      exact .inl ⟨by omega, this⟩
    · have := flat_get (o := 1) hz hx (by omega)
      rw [show j / 2 * 2 + 1 = j by omega, hu] at this
      simp [cellsOf] at this
      exact .inr ⟨by omega, this⟩
  have hlen : (gv G).length = G.length := by simp
  have := Rep.list (g := ⟨newI g w w', g.φ⟩) (w := w') (z := 2) (xs := gv G) (A := some ⟨w.heap.size, 0, none⟩) (c := G.length) (fun j => cs[j]?.getD undef) (by omega) (by unfold maxLen; omega) (fun e => by cases e) hz
    (fun u hu => by
      obtain ⟨j, hj, rfl⟩ := List.getElem_of_mem hu
      obtain ⟨a, _, q⟩ := cell j _ (List.getElem?_eq_getElem hj)
      rcases q with ⟨_, q⟩ | ⟨_, q⟩ <;> rw [q] <;> rfl)
    (fun j hj => by
      rw [hfl] at hj
      refine ⟨_, _, rfl, by show 0 + j < newI g w w' w.heap.size; rw [hI]; omega, ?_⟩
      rw [Nat.zero_add, block_cells h.blk, Array.getElem?_eq_getElem (by omega)]; rfl)
    (fun j u hu => by
      obtain ⟨a, ha, q⟩ := cell j u hu
      obtain ⟨f1, v, f2, f3⟩ := h.fin a ha
      rcases q with ⟨rfl, rfl⟩ | ⟨rfl, rfl⟩
      · rw [f1]; exact .s rfl
      · rw [f2]; exact seen_rep f3 (by omega))
  rw [hlen] at this
  exact this
theorem copyGraph_lc (G : List Nd) (hG : 0 < G.length) (hl : G.length ≤ 1000000) (hn : ∀ n ∈ G, n.next.length ≤ 1000000) : LC Try.prog 26 [.list 2 (gv G)] (fun r => r = .list 2 (gv G)) := by
  intro g w vals hsz hlook hlt
  have hs1 : vals.size = 1 := by simpa using hsz.symm
  have e0 : vals[0]? = some vals[0] := Array.getElem?_eq_getElem (by omega)
  obtain ⟨A, c, hd, hv, _, hGR⟩ := look_graph hG (hlook 0 _ _ rfl e0) hlt
  have hvs : vals = #[.slice A G.length c] := by
    apply Array.ext
    · simpa using hs1
    · intro i h1 h2
      have : i = 0 := by simp at h2; omega
      subst this
      simpa using hv
  rw [hvs]
  refine (copy_any G G.length rfl hG hl hn A c hd w hGR hlt).mono ?_
  rintro e w' ⟨rfl, cs, hCG⟩
  refine ⟨_, _, ⟨newI g w w', g.φ⟩, rfl, rfl, rfl, cg_rep hG hl hCG, hCG.bel.os, hCG.bel.tape, hCG.bel.output, hCG.bel.size, fun k hk => ⟨hCG.bel.block k hk, by simp [newI, hk]⟩, fun k hk => ?_⟩
  simp only [newI] at hk
  split at hk
  · next h => exact Nat.lt_of_lt_of_le h hCG.bel.size
  · exact blk_lt hk
end Go.Proofs.Ytcjmbkbbhlmkfaa

namespace Go.Proofs.Ytcjmbkbbhlmkfaa

/-- x is reached from i by one step or more -/
inductive Rea (g : List Nd) (i : Int) : Int → Prop
  | one {x : Int} (h : x ∈ (nodeAt g i).next) : Rea g i x
  | step {y x : Int} (h : Rea g i y) (hx : x ∈ (nodeAt g y).next) : Rea g i x
theorem gOk_mem {g : List Nd} (h : gOk g = true) {i x : Int} (hx : x ∈ (nodeAt g i).next) : 0 ≤ x ∧ x < g.length := by
  by_cases hi : i.toNat < g.length
  · simp only [gOk, Bool.and_eq_true, List.all_eq_true] at h
    rw [nodeAt, List.getD_eq_getElem?_getD, List.getElem?_eq_getElem hi] at hx
    have := h.2 _ (List.getElem_mem hi)
    simp only [Nd.ok, Bool.and_eq_true] at this
    have := asc_mem this.2 x hx
    omega
  · rw [nodeAt, List.getD_eq_getElem?_getD, List.getElem?_eq_none (by omega)] at hx
    simp at hx
theorem Rea.bd {g : List Nd} (hg : gOk g = true) {i x : Int} (h : Rea g i x) : 0 ≤ x ∧ x < g.length := by
  cases h with
  | one h => exact gOk_mem hg h
  | step _ h => exact gOk_mem hg h
theorem Rea.trans {g : List Nd} {i j x : Int} (h : Rea g i j) (k : Rea g j x) : Rea g i x := by
  induction k with
  | one h2 => exact .step h h2
  | step _ h2 ih => exact .step ih h2
theorem Rea.front {g : List Nd} {i j x : Int} (h : j ∈ (nodeAt g i).next) (k : Rea g j x) : Rea g i x := (Rea.one h).trans k
/-- a closed set that holds the first ones holds all that is reached -/
theorem Rea.closed {g : List Nd} {i : Int} {S : Int → Prop} (h0 : ∀ x ∈ (nodeAt g i).next, S x) (h1 : ∀ y, S y → ∀ x ∈ (nodeAt g y).next, S x) {x : Int} (h : Rea g i x) : S x := by
  induction h with
  | one h => exact h0 _ h
  | step _ h ih => exact h1 _ ih _ h

theorem bAt_set {s : List Bool} {i x : Int} (h0 : 0 ≤ i) (h1 : i < s.length) (hx : 0 ≤ x) : bAt (s.set i.toNat true) x = (decide (x = i) || bAt s x) := by
  simp only [bAt, List.getD_eq_getElem?_getD, List.getElem?_set]
  by_cases h : i.toNat = x.toNat
  · have : x = i := by omega
    have h2 : i.toNat < s.length := by omega
    subst this
    simp [h2]
  · have : ¬ x = i := by omega
    simp [h, this]
def unseen (s : List Bool) : Nat := s.countP (· == false)
theorem unseen_set : ∀ {s : List Bool} {i : Nat}, s[i]? = some false → unseen (s.set i true) + 1 = unseen s
  | [], i, h => by simp at h
  | b :: r, 0, h => by
    simp at h
    subst h
    simp [unseen]
  | b :: r, i + 1, h => by
    simp only [List.getElem?_cons_succ] at h
    have := unseen_set h
    simp only [unseen, List.set_cons_succ, List.countP_cons] at this ⊢
    omega
/-- the search: what is seen, what is still to be looked at -/
structure Dfs (g : List Nd) (i : Int) (s : List Bool) (l : List Int) : Prop where
  len : s.length = g.length
  bd : ∀ x ∈ l, 0 ≤ x ∧ x < g.length
  sound : ∀ x, 0 ≤ x → bAt s x = true → Rea g i x
  snd2 : ∀ x ∈ l, Rea g i x
  c0 : ∀ x ∈ (nodeAt g i).next, bAt s x = true ∨ x ∈ l
  c1 : ∀ y, 0 ≤ y → bAt s y = true → ∀ x ∈ (nodeAt g y).next, bAt s x = true ∨ x ∈ l
theorem bAt_rep (n : Nat) (x : Int) : bAt (List.replicate n false) x = false := by
  simp only [bAt, List.getD_eq_getElem?_getD, List.getElem?_replicate]
  split <;> rfl
theorem Dfs.start {g : List Nd} (hg : gOk g = true) (i : Int) : Dfs g i (List.replicate g.length false) (nodeAt g i).next :=
  ⟨by simp, fun x hx => gOk_mem hg hx, fun x _ h => (by rw [bAt_rep] at h; cases h), fun x hx => .one hx, fun x hx => .inr hx, fun y _ h => (by rw [bAt_rep] at h; cases h)⟩
theorem Dfs.old {g : List Nd} {i : Int} {s : List Bool} {l : List Int} {n : Int} (h : Dfs g i s (l ++ [n])) (hn : bAt s n = true) : Dfs g i s l := by
  have key : ∀ x, (bAt s x = true ∨ x ∈ l ++ [n]) → bAt s x = true ∨ x ∈ l := fun x hx => by
    rcases hx with hx | hx
    · exact .inl hx
    · rw [List.mem_append, List.mem_singleton] at hx
      rcases hx with hx | rfl
      · exact .inr hx
      · exact .inl hn
  exact ⟨h.len, fun x hx => h.bd x (by simp [hx]), h.sound, fun x hx => h.snd2 x (by simp [hx]), fun x hx => key x (h.c0 x hx), fun y h0 h1 x hx => key x (h.c1 y h0 h1 x hx)⟩
theorem Dfs.new {g : List Nd} (hg : gOk g = true) {i : Int} {s : List Bool} {l : List Int} {n : Int} (h : Dfs g i s (l ++ [n])) : Dfs g i (s.set n.toNat true) (l ++ (nodeAt g n).next) := by
  have hn := h.bd n (by simp)
  have hlen := h.len
  have hset : ∀ x, 0 ≤ x → bAt (s.set n.toNat true) x = (decide (x = n) || bAt s x) := fun x hx => bAt_set hn.1 (by omega) hx
  have hr := h.snd2 n (by simp)
  have key : ∀ x, 0 ≤ x → (bAt s x = true ∨ x ∈ l ++ [n]) → bAt (s.set n.toNat true) x = true ∨ x ∈ l ++ (nodeAt g n).next := fun x h0 hx => by
    rw [hset x h0]
    rcases hx with hx | hx
    · simp [hx]
    · rw [List.mem_append, List.mem_singleton] at hx
      rcases hx with hx | rfl
      · simp [hx]
      · simp
  refine ⟨by simp [hlen], fun x hx => ?_, fun x h0 hx => ?_, fun x hx => ?_, fun x hx => key x (gOk_mem hg hx).1 (h.c0 x hx), fun y h0 hy x hx => ?_⟩
  · rw [List.mem_append] at hx
    rcases hx with hx | hx
    · exact h.bd x (by simp [hx])
    · exact gOk_mem hg hx
  · rw [hset x h0, Bool.or_eq_true, decide_eq_true_eq] at hx
    rcases hx with rfl | hx
    · exact hr
    · exact h.sound x h0 hx
  · rw [List.mem_append] at hx
    rcases hx with hx | hx
    · exact h.snd2 x (by simp [hx])
    · exact .step hr hx
  · rw [hset y h0, Bool.or_eq_true, decide_eq_true_eq] at hy
    rcases hy with rfl | hy
    · exact .inr (by simp [hx])
    · exact key x (gOk_mem hg hx).1 (h.c1 y h0 hy x hx)
theorem Dfs.done {g : List Nd} (hg : gOk g = true) {i : Int} {s : List Bool} (h : Dfs g i s []) (x : Int) (h0 : 0 ≤ x) : bAt s x = true ↔ Rea g i x := by
  refine ⟨h.sound x h0, fun hr => ?_⟩
  have := Rea.closed (S := fun x => 0 ≤ x ∧ bAt s x = true) (fun x hx => ⟨(gOk_mem hg hx).1, by simpa using h.c0 x hx⟩) (fun y hy x hx => ⟨(gOk_mem hg hx).1, by simpa using h.c1 y hy.1 hy.2 x hx⟩) hr
  exact this.2
/-- the numbers of the true ones, below a bound -/
def trues (s : List Bool) (k : Nat) : List Int := ((List.range k).filter fun j : Nat => bAt s (j : Int)).map fun j : Nat => (j : Int)
theorem trues_succ (s : List Bool) (k : Nat) : trues s (k + 1) = if bAt s (k : Nat) = true then trues s k ++ [(k : Int)] else trues s k := by
  simp only [trues, List.range_succ, List.filter_append, List.map_append]
  split
  · next h => simp [h]
  · next h => simp [h]
theorem mem_trues {s : List Bool} {k : Nat} {x : Int} : x ∈ trues s k ↔ 0 ≤ x ∧ x < k ∧ bAt s x = true := by
  simp only [trues, List.mem_map, List.mem_filter, List.mem_range]
  constructor
  · rintro ⟨j, ⟨h1, h2⟩, rfl⟩
    exact ⟨by omega, by omega, h2⟩
  · rintro ⟨h1, h2, h3⟩
    refine ⟨x.toNat, ⟨by omega, ?_⟩, by omega⟩
    rw [show ((x.toNat : Nat) : Int) = x by omega]; exact h3
theorem trues_len (s : List Bool) (k : Nat) : (trues s k).length ≤ k := by
  simp only [trues, List.length_map]
  exact Nat.le_trans (List.length_filter_le _ _) (by simp)
end Go.Proofs.Ytcjmbkbbhlmkfaa

namespace Go.Proofs.Ytcjmbkbbhlmkfaa

theorem iAt_set {s : List Int} {i x v : Int} (h0 : 0 ≤ i) (h1 : i < s.length) (hx : 0 ≤ x) : iAt (s.set i.toNat v) x = if x = i then v else iAt s x := by
  simp only [iAt, List.getD_eq_getElem?_getD, List.getElem?_set]
  by_cases h : i.toNat = x.toNat
  · have : x = i := by omega
    have h2 : i.toNat < s.length := by omega
    subst this
    simp [h2]
  · have : ¬ x = i := by omega
    simp [h, this]
theorem asc_nodup {N : Int} : ∀ {l : List Int} {lo : Int}, asc lo N l = true → l.Nodup
  | [], _, _ => by simp
  | j :: r, lo, h => by
    simp only [asc, Bool.and_eq_true, decide_eq_true_eq] at h
    rw [List.nodup_cons]
    refine ⟨fun hj => ?_, asc_nodup h.2⟩
    have := asc_mem h.2 j hj
    omega
theorem countP_flip {α : Type} {p q : α → Bool} {x : α} : ∀ {l : List α}, l.Nodup → x ∈ l → (∀ y ∈ l, y ≠ x → p y = q y) → p x = false → q x = true → l.countP q = l.countP p + 1
  | [], _, h, _, _, _ => by cases h
  | a :: r, hn, hx, h, hp, hq => by
    rw [List.nodup_cons] at hn
    rw [List.mem_cons] at hx
    by_cases e : x = a
    · subst e
      have : r.countP q = r.countP p := by
        rw [List.countP_eq_length_filter, List.countP_eq_length_filter, List.filter_congr]
        intro y hy
        exact (h y (by simp [hy]) (fun e => hn.1 (e ▸ hy))).symm
      simp [List.countP_cons, hp, hq, this]
    · have hx' := hx.resolve_left e
      have := countP_flip hn.2 hx' (fun y hy => h y (by simp [hy])) hp hq
      have e2 := h a (by simp) (fun q => e q.symm)
      simp only [List.countP_cons, this, e2]
      omega
theorem countP_same {α : Type} {p q : α → Bool} {l : List α} (h : ∀ y ∈ l, p y = q y) : l.countP p = l.countP q := by
  rw [List.countP_eq_length_filter, List.countP_eq_length_filter, List.filter_congr h]
theorem split_at {l : List Ml} {k : Int} (h : k.toNat < l.length) : l = l.take k.toNat ++ mAt l k :: l.drop (k.toNat + 1) := by
  have e : mAt l k = l[k.toNat] := by rw [mAt, List.getD_eq_getElem?_getD, List.getElem?_eq_getElem h]; rfl
  rw [e, ← List.drop_eq_getElem_cons h, List.take_append_drop]
theorem cut_perm {l : List Ml} {k : Int} (h : k.toNat < l.length) : (mAt l k :: cut l k).Perm l := by
  have := split_at h
  calc (mAt l k :: cut l k).Perm (l.take k.toNat ++ mAt l k :: l.drop (k.toNat + 1)) := List.perm_middle.symm
    _ = l := this.symm
theorem cut_countP {l : List Ml} {k : Int} (h : k.toNat < l.length) (p : Ml → Bool) : (cut l k).countP p + (if p (mAt l k) = true then 1 else 0) = l.countP p := by
  rw [← (cut_perm h).countP_eq, List.countP_cons]
theorem cut_nodup {l : List Ml} {k : Int} (h : k.toNat < l.length) (hn : l.Nodup) : (cut l k).Nodup ∧ mAt l k ∉ cut l k := by
  have := (cut_perm h).nodup_iff.2 hn
  rw [List.nodup_cons] at this
  exact ⟨this.2, this.1⟩
theorem mem_cut_iff {l : List Ml} {k : Int} (h : k.toNat < l.length) (hn : l.Nodup) {m : Ml} : m ∈ cut l k ↔ m ∈ l ∧ m ≠ mAt l k := by
  rw [← (cut_perm h).mem_iff, List.mem_cons]
  constructor
  · intro q
    exact ⟨.inr q, fun e => (cut_nodup h hn).2 (e ▸ q)⟩
  · rintro ⟨q | q, hne⟩
    · exact absurd q hne
    · exact q
/-- all edges -/
def edgs (g : List Nd) : Nat := (g.map fun n => n.next.length).sum
def sent (g : List Nd) (s : List Bool) : Nat := (List.zipWith (fun n b => if b = true then n.next.length else 0) g s).sum
theorem sent_rep : ∀ (g : List Nd) (n : Nat), sent g (List.replicate n false) = 0
  | [], n => by simp [sent]
  | x :: r, 0 => by simp [sent]
  | x :: r, n + 1 => by
    have := sent_rep r n
    simp only [sent, List.replicate_succ, List.zipWith_cons_cons, List.sum_cons] at this ⊢
    simp [this]
theorem sent_set : ∀ {g : List Nd} {s : List Bool} {i : Nat}, s[i]? = some false → i < g.length → sent g (s.set i true) = sent g s + (g.getD i ⟨0, []⟩).next.length
  | [], s, i, _, h => by simp at h
  | x :: r, [], i, h, _ => by simp at h
  | x :: r, b :: t, 0, h, _ => by
    simp at h
    subst h
    simp [sent]
    omega
  | x :: r, b :: t, i + 1, h, hi => by
    simp only [List.getElem?_cons_succ] at h
    simp only [List.length_cons] at hi
    have := sent_set (g := r) h (by omega)
    simp only [sent, List.set_cons_succ, List.zipWith_cons_cons, List.sum_cons, List.getD_cons_succ] at this ⊢
    omega
theorem sent_le : ∀ (g : List Nd) (s : List Bool), sent g s ≤ edgs g
  | [], s => by simp [sent]
  | x :: r, [] => by simp [sent]
  | x :: r, b :: t => by
    have := sent_le r t
    simp only [sent, edgs, List.zipWith_cons_cons, List.sum_cons, List.map_cons] at this ⊢
    split <;> omega
/-- x is a child of a that has not replied -/
def chi (d : Df) (a x : Int) : Prop := bAt d.eng x = true ∧ iAt d.par x = a ∧ 0 < iAt d.opn x
instance (d : Df) (a x : Int) : Decidable (chi d a x) := by unfold chi; infer_instance
/-- a's query to x has no reply yet -/
def opE (d : Df) (a x : Int) : Prop := (⟨a, x, false⟩ : Ml) ∈ d.ml ∨ (⟨x, a, true⟩ : Ml) ∈ d.ml ∨ chi d a x ∨ (nodeAt d.g x).k = 0
instance (d : Df) (a x : Int) : Decidable (opE d a x) := by unfold opE; infer_instance
def ec (d : Df) : Nat := (List.range d.g.length).countP fun j : Nat => bAt d.eng (j : Int)
def pnd (d : Df) : Nat := (List.range d.g.length).countP fun j : Nat => decide (bAt d.eng (j : Int) = true ∧ (j : Int) ≠ d.start ∧ 0 < iAt d.opn (j : Int))
def isQ (m : Ml) : Bool := !m.rep
structure Run (G : List Nd) (i : Int) (d : Df) (n : Nat) : Prop where
  ok : d.ok
  g : d.g = G
  st : d.start = i
  snd : ∀ x, 0 ≤ x → bAt d.eng x = true → x = i ∨ Rea G i x
  hand : ∀ a, 0 ≤ a → bAt d.eng a = true → ∀ x ∈ (nodeAt d.g a).next, (⟨a, x, false⟩ : Ml) ∈ d.ml ∨ bAt d.eng x = true ∨ (nodeAt d.g x).k = 0
  ab : ∀ a x, (⟨a, x, false⟩ : Ml) ∈ d.ml → (⟨x, a, true⟩ : Ml) ∉ d.ml
  ac : ∀ a x, (⟨a, x, false⟩ : Ml) ∈ d.ml → ¬ chi d a x
  bc : ∀ a x, (⟨x, a, true⟩ : Ml) ∈ d.ml → ¬ chi d a x
  cnt : ∀ a, 0 ≤ a → bAt d.eng a = true → iAt d.opn a = ((nodeAt d.g a).next.countP fun x => decide (opE d a x) : Nat)
  dec : d.dec = true ↔ iAt d.opn d.start = 0
  rk : ∃ rk : Int → Nat, (∀ a, 0 ≤ a → bAt d.eng a = true → a ≠ d.start → rk (iAt d.par a) < rk a) ∧ ∀ a, 0 ≤ a → bAt d.eng a = true → rk a < ec d
  pot : n + d.ml.length + d.ml.countP isQ + pnd d ≤ 2 * sent d.g d.eng
theorem eng_lt {d : Df} (h : d.ok) {a : Int} (h0 : 0 ≤ a) (ha : bAt d.eng a = true) : a < d.g.length := by
  by_cases hx : a.toNat < d.eng.length
  · have := h.el; omega
  · rw [bAt, List.getD_eq_getElem?_getD, List.getElem?_eq_none (by omega)] at ha
    cases ha
theorem ok_nd {d : Df} (h : d.ok) {a : Int} (h0 : 0 ≤ a) (h1 : a < d.g.length) : nOk d a := by
  have := h.nd a.toNat (by omega)
  rwa [show ((a.toNat : Nat) : Int) = a by omega] at this
theorem ok_eng {d : Df} (h : d.ok) {a : Int} (h0 : 0 ≤ a) (ha : bAt d.eng a = true) : (nodeAt d.g a).k ≠ 0 ∧ 0 ≤ iAt d.opn a ∧ iAt d.opn a ≤ (nodeAt d.g a).next.length ∧ (a = d.start → iAt d.par a = -1) ∧ (a ≠ d.start → iAt d.par a ≠ a ∧ eOk d (iAt d.par a) a) := by
  have := ok_nd h h0 (eng_lt h h0 ha)
  rw [nOk, if_pos ha] at this
  refine ⟨this.1, this.2.1, this.2.2.1, fun e => ?_, fun e => ?_⟩
  · rw [if_pos e] at this; exact this.2.2.2
  · rw [if_neg e] at this; exact this.2.2.2
theorem ok_qry {d : Df} (h : d.ok) {a x : Int} (hm : (⟨a, x, false⟩ : Ml) ∈ d.ml) : eOk d a x ∧ 0 ≤ x ∧ x < d.g.length := by
  have h1 := h.ml _ hm
  simp only [mOk, Bool.false_eq_true, if_false] at h1
  have := asc_mem (asc_next h.g h1.1 h1.2.1).2.2.2 _ h1.2.2.2
  exact ⟨h1, by omega, by omega⟩
theorem ok_rep {d : Df} (h : d.ok) {a x : Int} (hm : (⟨x, a, true⟩ : Ml) ∈ d.ml) : eOk d a x ∧ bAt d.eng x = true ∧ 0 ≤ x ∧ x < d.g.length := by
  have h1 := h.ml _ hm
  simp only [mOk, if_true] at h1
  have := asc_mem (asc_next h.g h1.1.1 h1.1.2.1).2.2.2 _ h1.1.2.2.2
  exact ⟨h1.1, h1.2, by omega, by omega⟩
/-- an engaged node's parent -/
theorem par_eq {d : Df} (h : d.ok) {a x : Int} (h0 : 0 ≤ x) (hx : bAt d.eng x = true) (hp : iAt d.par x = a) (ha : 0 ≤ a) : x ≠ d.start ∧ a ≠ x ∧ eOk d a x := by
  have h1 := ok_eng h h0 hx
  have hs : x ≠ d.start := fun e => by have := h1.2.2.2.1 e; omega
  have h2 := h1.2.2.2.2 hs
  rw [hp] at h2
  exact ⟨hs, h2⟩
theorem next_nodup {d : Df} (h : d.ok) {a : Int} (h0 : 0 ≤ a) (h1 : a < d.g.length) : (nodeAt d.g a).next.Nodup := asc_nodup (asc_next h.g h0 h1).2.2.2
theorem opE_bd {g : List Nd} (hg : gOk g = true) {a x : Int} (h0 : 0 ≤ a) (h1 : a < g.length) (hx : x ∈ (nodeAt g a).next) : 0 ≤ x ∧ x < g.length := by
  have := asc_mem (asc_next hg h0 h1).2.2.2 _ hx
  omega
theorem mAt_eq {l : List Ml} {k : Int} {a x : Int} {b : Bool} (h1 : (mAt l k).frm = a) (h2 : (mAt l k).to = x) (h3 : (mAt l k).rep = b) : mAt l k = ⟨a, x, b⟩ := by
  subst h1; subst h2; subst h3; rfl
end Go.Proofs.Ytcjmbkbbhlmkfaa

namespace Go.Proofs.Ytcjmbkbbhlmkfaa

theorem Run.repA {G : List Nd} {i : Int} {d : Df} {n : Nat} (h : Run G i d n) {k : Int} (hk : k.toNat < d.ml.length) {a x : Int} (hm : mAt d.ml k = ⟨x, a, true⟩) {ext : List Ml} {dc : Bool}
    (hext : ((iAt d.opn a ≠ 1 ∨ a = d.start) ∧ ext = []) ∨ (iAt d.opn a = 1 ∧ a ≠ d.start ∧ ext = [⟨a, iAt d.par a, true⟩])) (hdc : dc = true ↔ iAt (d.opn.set a.toNat (iAt d.opn a - 1)) d.start = 0) :
    1 ≤ iAt d.opn a ∧ Run G i ⟨d.g, d.start, cut d.ml k ++ ext, d.eng, d.par, d.opn.set a.toNat (iAt d.opn a - 1), dc⟩ (n + 1) := by
  have hmem : (⟨x, a, true⟩ : Ml) ∈ d.ml := hm ▸ mAt_mem hk
  obtain ⟨⟨a0, a1, ae, ax⟩, xe, x0, x1⟩ := ok_rep h.ok hmem
  have hop : opE d a x := .inr (.inl hmem)
  have hea := ok_eng h.ok a0 ae
  have hex := ok_eng h.ok x0 xe
  have hcnt := h.cnt a a0 ae
  have hpos : 0 < (nodeAt d.g a).next.countP fun x => decide (opE d a x) := List.countP_pos_iff.2 ⟨x, ax, by simpa using hop⟩
  have hc1 : 1 ≤ iAt d.opn a := by omega
  refine ⟨hc1, ?_⟩
  have ol := h.ok.ol
  have hset : ∀ y, 0 ≤ y → iAt (d.opn.set a.toNat (iAt d.opn a - 1)) y = if y = a then iAt d.opn a - 1 else iAt d.opn y := fun y hy => iAt_set a0 (by omega) hy
  have hnd := h.ok.nu
  have hcut : ∀ m, m ∈ cut d.ml k ↔ m ∈ d.ml ∧ m ≠ ⟨x, a, true⟩ := fun m => by rw [mem_cut_iff hk hnd, hm]
  have hq : ∀ p y, (⟨p, y, false⟩ : Ml) ∈ cut d.ml k ++ ext ↔ (⟨p, y, false⟩ : Ml) ∈ d.ml := fun p y => by
    rw [List.mem_append, hcut]
    constructor
    · rintro (q | q)
      · exact q.1
      · rcases hext with ⟨_, e⟩ | ⟨_, _, e⟩ <;> rw [e] at q <;> simp at q
    · exact fun q => .inl ⟨q, by simp⟩
  have hr : ∀ p y, (⟨y, p, true⟩ : Ml) ∈ cut d.ml k ++ ext ↔ ((⟨y, p, true⟩ : Ml) ∈ d.ml ∧ ¬ (y = x ∧ p = a)) ∨ (iAt d.opn a = 1 ∧ a ≠ d.start ∧ y = a ∧ p = iAt d.par a) := fun p y => by
    rw [List.mem_append, hcut]
    have e1 : (⟨y, p, true⟩ : Ml) ≠ ⟨x, a, true⟩ ↔ ¬ (y = x ∧ p = a) := by simp
    rw [e1]
    rcases hext with ⟨h1, e⟩ | ⟨h1, h2, e⟩
    · rw [e]
      constructor
      · rintro (q | q)
        · exact .inl q
        · cases q
      · rintro (q | q)
        · exact .inl q
        · rcases h1 with h1 | h1
          · exact absurd q.1 h1
          · exact absurd h1 q.2.1
    · rw [e]
      simp [h1, h2]
  have hnin : ∀ y p, iAt d.opn a = 1 → a ≠ d.start → y = a → p = iAt d.par a → (⟨y, p, true⟩ : Ml) ∉ d.ml := fun y p h1 h2 e1 e2 q => by
    subst e1; subst e2
    exact h.bc _ _ q ⟨ae, rfl, by omega⟩
  let D : Df := ⟨d.g, d.start, cut d.ml k ++ ext, d.eng, d.par, d.opn.set a.toNat (iAt d.opn a - 1), dc⟩
  have hD : D = ⟨d.g, d.start, cut d.ml k ++ ext, d.eng, d.par, d.opn.set a.toNat (iAt d.opn a - 1), dc⟩ := rfl
  have hchi : ∀ p y, 0 ≤ y → chi D p y → chi d p y := fun p y y0 ⟨q1, q2, q3⟩ => by
    refine ⟨q1, q2, ?_⟩
    have q3 : 0 < iAt (d.opn.set a.toNat (iAt d.opn a - 1)) y := q3
    rw [hset y y0] at q3
    split at q3
    · next e => subst e; omega
    · exact q3
  have hchi2 : ∀ p y, 0 ≤ y → chi d p y → chi D p y ∨ (y = a ∧ iAt d.opn a = 1) := fun p y y0 ⟨q1, q2, q3⟩ => by
    by_cases e : y = a ∧ iAt d.opn a = 1
    · exact .inr e
    · refine .inl ⟨q1, q2, ?_⟩
      show 0 < iAt (d.opn.set a.toNat (iAt d.opn a - 1)) y
      rw [hset y y0]
      split
      · next e2 => subst e2; have : iAt d.opn y ≠ 1 := fun e3 => e ⟨rfl, e3⟩; omega
      · exact q3
  -- the edges that are open
  have hE : ∀ p y, 0 ≤ p → 0 ≤ y → ¬ (p = a ∧ y = x) → (opE D p y ↔ opE d p y) := fun p y p0 y0 hne => by
    constructor
    · rintro (q | q | q | q)
      · exact .inl ((hq p y).1 q)
      · rcases (hr p y).1 q with q | ⟨e1, e2, e3, e4⟩
        · exact .inr (.inl q.1)
        · refine .inr (.inr (.inl ?_))
          subst e3
          exact ⟨ae, e4.symm, by omega⟩
      · exact .inr (.inr (.inl (hchi p y y0 q)))
      · exact .inr (.inr (.inr q))
    · rintro (q | q | q | q)
      · exact .inl ((hq p y).2 q)
      · exact .inr (.inl ((hr p y).2 (.inl ⟨q, fun e => hne ⟨e.2, e.1⟩⟩)))
      · rcases hchi2 p y y0 q with q' | ⟨e1, e2⟩
        · exact .inr (.inr (.inl q'))
        · subst e1
          have := par_eq h.ok y0 ae q.2.1 p0
          exact .inr (.inl ((hr p y).2 (.inr ⟨e2, this.1, rfl, q.2.1.symm⟩)))
      · exact .inr (.inr (.inr q))
  have hE0 : ¬ opE D a x := by
    rintro (q | q | q | q)
    · exact h.ab a x ((hq a x).1 q) hmem
    · rcases (hr a x).1 q with q | ⟨e1, e2, e3, e4⟩
      · exact q.2 ⟨rfl, rfl⟩
      · exact (hea.2.2.2.2 e2).1 e4.symm
    · exact h.bc a x hmem (hchi a x x0 q)
    · exact hex.1 q
  refine ⟨⟨h.ok.g, h.ok.s0, h.ok.s1, h.ok.el, h.ok.pl, by simp [ol], h.ok.es, fun j hj => ?_, fun m hmm => ?_, ?_⟩, h.g, h.st, h.snd, fun p p0 pe y hy => ?_, fun p y q => ?_, fun p y q => ?_, fun p y q => ?_, fun p p0 pe => ?_, hdc, h.rk, ?_⟩
  · have hj0 := h.ok.nd j hj
    simp only [nOk] at hj0 ⊢
    rw [hset _ (by omega)]
    split
    · next e =>
      rw [if_pos e] at hj0
      refine ⟨hj0.1, ?_, ?_, hj0.2.2.2⟩
      · split <;> omega
      · split
        · next e2 => rw [e2]; omega
        · exact hj0.2.2.1
    · next e =>
      rw [if_neg e] at hj0
      refine ⟨hj0.1, ?_⟩
      split
      · next e2 => rw [e2] at e; exact absurd ae e
      · exact hj0.2
  · show mOk d m
    rw [List.mem_append] at hmm
    rcases hmm with q | q
    · exact h.ok.ml m ((hcut m).1 q).1
    · rcases hext with ⟨_, e⟩ | ⟨_, e1, e⟩
      · rw [e] at q; cases q
      · rw [e, List.mem_singleton] at q
        subst q
        rw [mOk, if_pos rfl]
        exact ⟨(hea.2.2.2.2 e1).2, ae⟩
  · rw [List.nodup_append]
    refine ⟨(cut_nodup hk hnd).1, ?_, ?_⟩
    · rcases hext with ⟨_, e⟩ | ⟨_, _, e⟩ <;> rw [e] <;> simp
    · intro m h1 m' h2 e3
      subst e3
      rcases hext with ⟨_, e⟩ | ⟨e1, e2, e⟩
      · rw [e] at h2; cases h2
      · rw [e, List.mem_singleton] at h2
        subst h2
        exact hnin _ _ e1 e2 rfl rfl ((hcut _).1 h1).1
  · exact (h.hand p p0 pe y hy).imp (fun q => (hq p y).2 q) id
  · intro q2
    have q1 := (hq p y).1 q
    rcases (hr p y).1 q2 with q3 | ⟨e1, e2, e3, e4⟩
    · exact h.ab p y q1 q3.1
    · exact h.ac _ _ q1 ⟨by rw [e3]; exact ae, by rw [e3]; exact e4.symm, by rw [e3]; omega⟩
  · have q := (hq p y).1 q
    exact fun q2 => h.ac p y q (hchi p y (ok_qry h.ok q).2.1 q2)
  · intro q2
    rcases (hr p y).1 q with q3 | ⟨e1, e2, e3, e4⟩
    · exact h.bc p y q3.1 (hchi p y (ok_rep h.ok q3.1).2.2.1 q2)
    · have q3 : 0 < iAt (d.opn.set a.toNat (iAt d.opn a - 1)) y := q2.2.2
      rw [e3, hset a a0, if_pos rfl] at q3
      omega
  · show iAt (d.opn.set a.toNat (iAt d.opn a - 1)) p = _
    rw [hset p p0]
    have p1 := eng_lt h.ok p0 pe
    by_cases e : p = a
    · subst e
      rw [if_pos rfl]
      have := countP_flip (p := fun y => decide (opE D p y)) (q := fun y => decide (opE d p y)) (next_nodup h.ok p0 p1) ax (fun y hy hne => by
        have := hE p y p0 (opE_bd h.ok.g p0 p1 hy).1 (fun q => hne q.2)
        simp only [this]) (by simpa using hE0) (by simpa using hop)
      show iAt d.opn p - 1 = (((nodeAt d.g p).next.countP fun y => decide (opE D p y) : Nat) : Int)
      omega
    · rw [if_neg e, h.cnt p p0 pe]
      have := countP_same (l := (nodeAt d.g p).next) (p := fun y => decide (opE d p y)) (q := fun y => decide (opE D p y)) (fun y hy => by
        have := hE p y p0 (opE_bd h.ok.g p0 p1 hy).1 (fun q => e q.1)
        simp only [this])
      rw [this]
  · have hpot := h.pot
    have l1 := cut_length hk
    have l2 := cut_countP hk isQ
    rw [hm] at l2
    have l2' : (cut d.ml k).countP isQ = d.ml.countP isQ := by simpa [isQ] using l2
    have l3 : ext.countP isQ = 0 := by rcases hext with ⟨_, e⟩ | ⟨_, _, e⟩ <;> rw [e] <;> simp [isQ]
    have l4 : pnd D + ext.length ≤ pnd d := by
      have hsame : ∀ j : Nat, (j : Int) ≠ a → (decide (bAt D.eng (j : Int) = true ∧ (j : Int) ≠ D.start ∧ 0 < iAt D.opn (j : Int))) = decide (bAt d.eng (j : Int) = true ∧ (j : Int) ≠ d.start ∧ 0 < iAt d.opn (j : Int)) := fun j hj => by
        have := hset (j : Int) (by omega)
        rw [if_neg hj] at this
        show decide (bAt d.eng (j : Int) = true ∧ (j : Int) ≠ d.start ∧ 0 < iAt (d.opn.set a.toNat (iAt d.opn a - 1)) (j : Int)) = _
        rw [this]
      have haN : ((a.toNat : Nat) : Int) = a := by omega
      rcases hext with ⟨e1, e⟩ | ⟨e1, e2, e⟩
      · rw [e]
        have : pnd D ≤ pnd d := by
          unfold pnd
          refine List.countP_mono_left fun j hj q => ?_
          by_cases e3 : (j : Int) = a
          · simp only [decide_eq_true_eq] at q ⊢
            refine ⟨q.1, q.2.1, ?_⟩
            rw [e3]; omega
          · rw [← hsame j e3]; exact q
        simp
        exact this
      · rw [e]
        have := countP_flip (l := List.range d.g.length) (x := a.toNat) (p := fun j : Nat => decide (bAt D.eng (j : Int) = true ∧ (j : Int) ≠ D.start ∧ 0 < iAt D.opn (j : Int))) (q := fun j : Nat => decide (bAt d.eng (j : Int) = true ∧ (j : Int) ≠ d.start ∧ 0 < iAt d.opn (j : Int))) List.nodup_range (by simp; omega) (fun j _ hne => hsame j (by omega)) (by
            rw [haN]
            have := hset a a0
            rw [if_pos rfl] at this
            have e3 : iAt D.opn a = iAt d.opn a - 1 := this
            simp only [e3, e1]
            simp) (by
            rw [haN]
            simp [ae, e2, e1])
        show pnd D + 1 ≤ _
        unfold pnd
        rw [this]
        exact Nat.le_refl _
    simp only [List.length_append, List.countP_append, l3]
    show n + 1 + ((cut d.ml k).length + ext.length) + ((cut d.ml k).countP isQ + 0) + pnd D ≤ 2 * sent d.g d.eng
    omega
theorem Run.stepRep {G : List Nd} {i : Int} {d : Df} {n : Nat} (h : Run G i d n) {k : Int} (hk : k.toNat < d.ml.length) (hr : (mAt d.ml k).rep = true) : Run G i (stepD d k) (n + 1) := by
  have hm : mAt d.ml k = ⟨(mAt d.ml k).frm, (mAt d.ml k).to, true⟩ := mAt_eq rfl rfl hr
  revert hm
  generalize ha : (mAt d.ml k).to = a
  generalize (mAt d.ml k).frm = x
  intro hm
  have hmem : (⟨x, a, true⟩ : Ml) ∈ d.ml := hm ▸ mAt_mem hk
  obtain ⟨⟨a0, a1, ae, ax⟩, xe, x0, x1⟩ := ok_rep h.ok hmem
  have ol := h.ok.ol
  have hs0 := h.ok.s0
  have hset : iAt (d.opn.set a.toNat (iAt d.opn a - 1)) d.start = if d.start = a then iAt d.opn a - 1 else iAt d.opn d.start := iAt_set a0 (by omega) hs0
  have hdec := h.dec
  have hge := ok_eng h.ok a0 ae
  have key : 1 ≤ iAt d.opn a := by
    have hcnt := h.cnt a a0 ae
    have hpos : 0 < (nodeAt d.g a).next.countP fun x => decide (opE d a x) := List.countP_pos_iff.2 ⟨x, ax, by have : opE d a x := .inr (.inl hmem); simpa using this⟩
    omega
  unfold stepD
  rw [if_pos hr, ha]
  unfold repD
  simp only
  rw [if_neg (by omega)]
  split
  · next h1 =>
    have := (h.repA hk hm (ext := []) (dc := d.dec) (.inl ⟨.inl (by omega), rfl⟩) (by
      rw [hset, hdec]
      split
      · next e => rw [e]; omega
      · exact Iff.rfl)).2
    rwa [List.append_nil] at this
  · next h1 =>
    split
    · next h2 =>
      have := (h.repA hk hm (ext := []) (dc := true) (.inl ⟨.inr h2, rfl⟩) (by
        rw [hset, if_pos h2.symm]
        simp
        omega)).2
      rwa [List.append_nil] at this
    · next h2 =>
      exact (h.repA hk hm (ext := [⟨a, iAt d.par a, true⟩]) (dc := d.dec) (.inr ⟨by omega, h2, rfl⟩) (by
        rw [hset, hdec, if_neg (fun e => h2 e.symm)])).2
end Go.Proofs.Ytcjmbkbbhlmkfaa

namespace Go.Proofs.Ytcjmbkbbhlmkfaa

/-- it is answered at once, or lost -/
theorem Run.qryA {G : List Nd} {i : Int} {d : Df} {n : Nat} (h : Run G i d n) {k : Int} (hk : k.toNat < d.ml.length) {a x : Int} (hm : mAt d.ml k = ⟨a, x, false⟩) {ext : List Ml}
    (hext : ((nodeAt d.g x).k = 0 ∧ ext = []) ∨ (bAt d.eng x = true ∧ ext = [⟨x, a, true⟩])) : Run G i ⟨d.g, d.start, cut d.ml k ++ ext, d.eng, d.par, d.opn, d.dec⟩ (n + 1) := by
  have hmem : (⟨a, x, false⟩ : Ml) ∈ d.ml := hm ▸ mAt_mem hk
  obtain ⟨⟨a0, a1, ae, ax⟩, x0, x1⟩ := ok_qry h.ok hmem
  have hop : opE d a x := .inl hmem
  have hnd := h.ok.nu
  have hcut : ∀ m, m ∈ cut d.ml k ↔ m ∈ d.ml ∧ m ≠ ⟨a, x, false⟩ := fun m => by rw [mem_cut_iff hk hnd, hm]
  have hq : ∀ p y, (⟨p, y, false⟩ : Ml) ∈ cut d.ml k ++ ext ↔ (⟨p, y, false⟩ : Ml) ∈ d.ml ∧ ¬ (p = a ∧ y = x) := fun p y => by
    rw [List.mem_append, hcut]
    have e1 : (⟨p, y, false⟩ : Ml) ≠ ⟨a, x, false⟩ ↔ ¬ (p = a ∧ y = x) := by simp
    rw [e1]
    constructor
    · rintro (q | q)
      · exact q
      · rcases hext with ⟨_, e⟩ | ⟨_, e⟩ <;> rw [e] at q <;> simp at q
    · exact fun q => .inl q
  have hr : ∀ p y, (⟨y, p, true⟩ : Ml) ∈ cut d.ml k ++ ext ↔ (⟨y, p, true⟩ : Ml) ∈ d.ml ∨ (ext ≠ [] ∧ y = x ∧ p = a) := fun p y => by
    rw [List.mem_append, hcut]
    rcases hext with ⟨h1, e⟩ | ⟨h1, e⟩ <;> rw [e] <;> simp
  have hnr : (⟨x, a, true⟩ : Ml) ∉ d.ml := h.ab a x hmem
  let D : Df := ⟨d.g, d.start, cut d.ml k ++ ext, d.eng, d.par, d.opn, d.dec⟩
  have hE : ∀ p y, opE D p y ↔ opE d p y := fun p y => by
    by_cases e : p = a ∧ y = x
    · obtain ⟨rfl, rfl⟩ := e
      refine ⟨fun _ => hop, fun _ => ?_⟩
      rcases hext with ⟨h1, _⟩ | ⟨h1, e⟩
      · exact .inr (.inr (.inr h1))
      · exact .inr (.inl ((hr p y).2 (.inr ⟨by rw [e]; simp, rfl, rfl⟩)))
    · constructor
      · rintro (q | q | q | q)
        · exact .inl ((hq p y).1 q).1
        · rcases (hr p y).1 q with q | q
          · exact .inr (.inl q)
          · exact absurd ⟨q.2.2, q.2.1⟩ e
        · exact .inr (.inr (.inl q))
        · exact .inr (.inr (.inr q))
      · rintro (q | q | q | q)
        · exact .inl ((hq p y).2 ⟨q, e⟩)
        · exact .inr (.inl ((hr p y).2 (.inl q)))
        · exact .inr (.inr (.inl q))
        · exact .inr (.inr (.inr q))
  refine ⟨⟨h.ok.g, h.ok.s0, h.ok.s1, h.ok.el, h.ok.pl, h.ok.ol, h.ok.es, h.ok.nd, fun m hmm => ?_, ?_⟩, h.g, h.st, h.snd, fun p p0 pe y hy => ?_, fun p y q => ?_, fun p y q => ?_, fun p y q => ?_, fun p p0 pe => ?_, h.dec, h.rk, ?_⟩
  · show mOk d m
    rw [List.mem_append] at hmm
    rcases hmm with q | q
    · exact h.ok.ml m ((hcut m).1 q).1
    · rcases hext with ⟨_, e⟩ | ⟨e1, e⟩
      · rw [e] at q; cases q
      · rw [e, List.mem_singleton] at q
        subst q
        rw [mOk, if_pos rfl]
        exact ⟨⟨a0, a1, ae, ax⟩, e1⟩
  · rw [List.nodup_append]
    refine ⟨(cut_nodup hk hnd).1, ?_, ?_⟩
    · rcases hext with ⟨_, e⟩ | ⟨_, e⟩ <;> rw [e] <;> simp
    · intro m h1 m' h2 e3
      subst e3
      rcases hext with ⟨_, e⟩ | ⟨e1, e⟩
      · rw [e] at h2; cases h2
      · rw [e, List.mem_singleton] at h2
        subst h2
        exact hnr ((hcut _).1 h1).1
  · by_cases e : p = a ∧ y = x
    · rcases hext with ⟨h1, _⟩ | ⟨h1, _⟩
      · exact .inr (.inr (by rw [e.2]; exact h1))
      · exact .inr (.inl (by rw [e.2]; exact h1))
    · exact (h.hand p p0 pe y hy).imp (fun q => (hq p y).2 ⟨q, e⟩) id
  · have q1 := (hq p y).1 q
    intro q2
    rcases (hr p y).1 q2 with q3 | q3
    · exact h.ab p y q1.1 q3
    · exact q1.2 ⟨q3.2.2, q3.2.1⟩
  · exact h.ac p y ((hq p y).1 q).1
  · rcases (hr p y).1 q with q3 | q3
    · exact h.bc p y q3
    · rw [q3.2.1, q3.2.2]; exact h.ac a x hmem
  · show iAt d.opn p = (((nodeAt d.g p).next.countP fun y => decide (opE D p y) : Nat) : Int)
    rw [h.cnt p p0 pe, countP_same (l := (nodeAt d.g p).next) (p := fun y => decide (opE d p y)) (q := fun y => decide (opE D p y)) (fun y _ => by simp only [hE p y])]
  · have hpot := h.pot
    have l1 := cut_length hk
    have l2 := cut_countP hk isQ
    rw [hm] at l2
    have l2' : (cut d.ml k).countP isQ + 1 = d.ml.countP isQ := by simpa [isQ] using l2
    have l3 : ext.countP isQ = 0 ∧ ext.length ≤ 1 := by rcases hext with ⟨_, e⟩ | ⟨_, e⟩ <;> rw [e] <;> simp [isQ]
    simp only [List.length_append, List.countP_append]
    show n + 1 + ((cut d.ml k).length + ext.length) + ((cut d.ml k).countP isQ + ext.countP isQ) + pnd d ≤ 2 * sent d.g d.eng
    omega
/-- it engages a node -/
theorem Run.qryB {G : List Nd} {i : Int} {d : Df} {n : Nat} (h : Run G i d n) {k : Int} (hk : k.toNat < d.ml.length) {a x : Int} (hm : mAt d.ml k = ⟨a, x, false⟩) (hx1 : (nodeAt d.g x).k ≠ 0) (hx2 : bAt d.eng x = false) :
    Run G i ⟨d.g, d.start, cut d.ml k ++ qrs x (nodeAt d.g x).next, d.eng.set x.toNat true, d.par.set x.toNat a, d.opn.set x.toNat (nodeAt d.g x).next.length, d.dec⟩ (n + 1) := by
  have hmem : (⟨a, x, false⟩ : Ml) ∈ d.ml := hm ▸ mAt_mem hk
  obtain ⟨⟨a0, a1, ae, ax⟩, x0, x1⟩ := ok_qry h.ok hmem
  have hop : opE d a x := .inl hmem
  have hnd := h.ok.nu
  have el := h.ok.el
  have pl := h.ok.pl
  have ol := h.ok.ol
  have hax : a ≠ x := fun e => by rw [e, hx2] at ae; cases ae
  have hsx : d.start ≠ x := fun e => by have := h.ok.es; rw [e, hx2] at this; cases this
  have hnx := asc_next h.ok.g x0 x1
  have hlen : 0 < (nodeAt d.g x).next.length := by
    have : (nodeAt d.g x).k ≤ (nodeAt d.g x).next.length := hnx.2.1
    have : 0 ≤ (nodeAt d.g x).k := hnx.1
    omega
  have hse : ∀ y, 0 ≤ y → bAt (d.eng.set x.toNat true) y = (decide (y = x) || bAt d.eng y) := fun y hy => bAt_set x0 (by omega) hy
  have hsp : ∀ y, 0 ≤ y → iAt (d.par.set x.toNat a) y = if y = x then a else iAt d.par y := fun y hy => iAt_set x0 (by omega) hy
  have hso : ∀ y, 0 ≤ y → iAt (d.opn.set x.toNat (nodeAt d.g x).next.length) y = if y = x then ((nodeAt d.g x).next.length : Int) else iAt d.opn y := fun y hy => iAt_set x0 (by omega) hy
  have hcut : ∀ m, m ∈ cut d.ml k ↔ m ∈ d.ml ∧ m ≠ ⟨a, x, false⟩ := fun m => by rw [mem_cut_iff hk hnd, hm]
  have hq : ∀ p y, (⟨p, y, false⟩ : Ml) ∈ cut d.ml k ++ qrs x (nodeAt d.g x).next ↔ ((⟨p, y, false⟩ : Ml) ∈ d.ml ∧ ¬ (p = a ∧ y = x)) ∨ (p = x ∧ y ∈ (nodeAt d.g x).next) := fun p y => by
    rw [List.mem_append, hcut]
    have e1 : (⟨p, y, false⟩ : Ml) ≠ ⟨a, x, false⟩ ↔ ¬ (p = a ∧ y = x) := by simp
    rw [e1]
    simp only [qrs, List.mem_map, Ml.mk.injEq, and_true]
    constructor
    · rintro (q | ⟨j, q1, q2, q3⟩)
      · exact .inl q
      · exact .inr ⟨q2.symm, q3 ▸ q1⟩
    · rintro (q | ⟨q1, q2⟩)
      · exact .inl q
      · exact .inr ⟨y, q2, q1.symm, rfl⟩
  have hr : ∀ p y, (⟨y, p, true⟩ : Ml) ∈ cut d.ml k ++ qrs x (nodeAt d.g x).next ↔ (⟨y, p, true⟩ : Ml) ∈ d.ml := fun p y => by
    rw [List.mem_append, hcut]
    simp [qrs]
  let D : Df := ⟨d.g, d.start, cut d.ml k ++ qrs x (nodeAt d.g x).next, d.eng.set x.toNat true, d.par.set x.toNat a, d.opn.set x.toNat (nodeAt d.g x).next.length, d.dec⟩
  have hchi : ∀ p y, 0 ≤ y → y ≠ x → (chi D p y ↔ chi d p y) := fun p y y0 hne => by
    show (bAt (d.eng.set x.toNat true) y = true ∧ iAt (d.par.set x.toNat a) y = p ∧ 0 < iAt (d.opn.set x.toNat (nodeAt d.g x).next.length) y) ↔ _
    rw [hse y y0, hsp y y0, hso y y0, if_neg hne, if_neg hne]
    simp [hne, chi]
  have hchix : ∀ p, chi D p x ↔ p = a := fun p => by
    show (bAt (d.eng.set x.toNat true) x = true ∧ iAt (d.par.set x.toNat a) x = p ∧ 0 < iAt (d.opn.set x.toNat (nodeAt d.g x).next.length) x) ↔ _
    rw [hse x x0, hsp x x0, hso x x0, if_pos rfl, if_pos rfl]
    simp [hlen, eq_comm]
  have nchi : ∀ p, ¬ chi d p x := fun p q => by rw [q.1] at hx2; cases hx2
  have hE : ∀ p y, 0 ≤ y → p ≠ x → (opE D p y ↔ opE d p y) := fun p y y0 hpx => by
    by_cases e : p = a ∧ y = x
    · obtain ⟨rfl, rfl⟩ := e
      exact ⟨fun _ => hop, fun _ => .inr (.inr (.inl ((hchix p).2 rfl)))⟩
    · constructor
      · rintro (q | q | q | q)
        · rcases (hq p y).1 q with q | q
          · exact .inl q.1
          · exact absurd q.1 hpx
        · exact .inr (.inl ((hr p y).1 q))
        · by_cases e2 : y = x
          · subst e2
            exact absurd ⟨(hchix p).1 q, rfl⟩ e
          · exact .inr (.inr (.inl ((hchi p y y0 e2).1 q)))
        · exact .inr (.inr (.inr q))
      · rintro (q | q | q | q)
        · exact .inl ((hq p y).2 (.inl ⟨q, e⟩))
        · exact .inr (.inl ((hr p y).2 q))
        · by_cases e2 : y = x
          · subst e2
            exact absurd q (nchi p)
          · exact .inr (.inr (.inl ((hchi p y y0 e2).2 q)))
        · exact .inr (.inr (.inr q))
  have hEx : ∀ y ∈ (nodeAt d.g x).next, opE D x y := fun y hy => .inl ((hq x y).2 (.inr ⟨rfl, hy⟩))
  have heok : ∀ p y, eOk d p y → eOk D p y := fun p y ⟨q1, q2, q3, q4⟩ => ⟨q1, q2, by show bAt (d.eng.set x.toNat true) p = true; rw [hse p q1, q3, Bool.or_true], q4⟩
  refine ⟨⟨h.ok.g, h.ok.s0, h.ok.s1, by simp [el], by simp [pl], by simp [ol], ?_, fun j hj => ?_, fun m hmm => ?_, ?_⟩, h.g, h.st, fun y y0 ye => ?_, fun p p0 pe y hy => ?_, fun p y q => ?_, fun p y q => ?_, fun p y q => ?_, fun p p0 pe => ?_, ?_, ?_, ?_⟩
  · show bAt (d.eng.set x.toNat true) d.start = true
    rw [hse _ h.ok.s0, h.ok.es, Bool.or_true]
  · show nOk D (j : Int)
    have hj0 := h.ok.nd j hj
    unfold nOk
    show if bAt (d.eng.set x.toNat true) (j : Int) = true then (nodeAt d.g (j : Int)).k ≠ 0 ∧ 0 ≤ iAt (d.opn.set x.toNat (nodeAt d.g x).next.length) (j : Int) ∧ iAt (d.opn.set x.toNat (nodeAt d.g x).next.length) (j : Int) ≤ (nodeAt d.g (j : Int)).next.length ∧ (if (j : Int) = d.start then iAt (d.par.set x.toNat a) (j : Int) = -1 else iAt (d.par.set x.toNat a) (j : Int) ≠ (j : Int) ∧ eOk D (iAt (d.par.set x.toNat a) (j : Int)) (j : Int)) else iAt (d.par.set x.toNat a) (j : Int) = -1 ∧ iAt (d.opn.set x.toNat (nodeAt d.g x).next.length) (j : Int) = 0
    rw [hse _ (by omega), hsp _ (by omega), hso _ (by omega)]
    by_cases e : (j : Int) = x
    · simp only [e, decide_true, Bool.true_or, if_true]
      refine ⟨hx1, by omega, by omega, ?_⟩
      rw [if_neg (fun q => hsx q.symm)]
      exact ⟨hax, heok a x ⟨a0, a1, ae, ax⟩⟩
    · simp only [e, decide_false, Bool.false_or, if_false]
      unfold nOk at hj0
      split
      · next e2 =>
        rw [if_pos e2] at hj0
        refine ⟨hj0.1, hj0.2.1, hj0.2.2.1, ?_⟩
        have := hj0.2.2.2
        split at this
        · next e3 => rw [if_pos e3]; exact this
        · next e3 => rw [if_neg e3]; exact ⟨this.1, heok _ _ this.2⟩
      · next e2 => rw [if_neg e2] at hj0; exact hj0
  · show mOk D m
    rw [List.mem_append] at hmm
    rcases hmm with q | q
    · have := h.ok.ml m ((hcut m).1 q).1
      unfold mOk at this ⊢
      split
      · next e =>
        rw [if_pos e] at this
        have hb := asc_mem (asc_next h.ok.g this.1.1 this.1.2.1).2.2.2 _ this.1.2.2.2
        refine ⟨heok _ _ this.1, ?_⟩
        show bAt (d.eng.set x.toNat true) m.frm = true
        rw [hse _ (by omega), this.2, Bool.or_true]
      · next e => rw [if_neg e] at this; exact heok _ _ this
    · simp only [qrs, List.mem_map] at q
      obtain ⟨y, hy, rfl⟩ := q
      show eOk D x y
      exact ⟨x0, x1, by show bAt (d.eng.set x.toNat true) x = true; rw [hse x x0]; simp, hy⟩
  · rw [List.nodup_append]
    refine ⟨(cut_nodup hk hnd).1, ?_, ?_⟩
    · rw [qrs]
      exact List.Pairwise.map _ (fun p q hpq e => hpq (by simpa using e)) (next_nodup h.ok x0 x1)
    · intro m h1 m' h2 e3
      subst e3
      simp only [qrs, List.mem_map] at h2
      obtain ⟨y, hy, rfl⟩ := h2
      have := (ok_qry h.ok ((hcut _).1 h1).1).1.2.2.1
      rw [hx2] at this; cases this
  · have ye : bAt (d.eng.set x.toNat true) y = true := ye
    rw [hse y y0, Bool.or_eq_true, decide_eq_true_eq] at ye
    rcases ye with rfl | ye
    · right
      rcases h.snd a a0 ae with e | e
      · rw [← e, ← h.g]; exact .one ax
      · exact .step e (by rw [← h.g]; exact ax)
    · exact h.snd y y0 ye
  · show (⟨p, y, false⟩ : Ml) ∈ cut d.ml k ++ qrs x (nodeAt d.g x).next ∨ bAt (d.eng.set x.toNat true) y = true ∨ (nodeAt d.g y).k = 0
    have pe : bAt (d.eng.set x.toNat true) p = true := pe
    have hy : y ∈ (nodeAt d.g p).next := hy
    rw [hse p p0, Bool.or_eq_true, decide_eq_true_eq] at pe
    rcases pe with rfl | pe
    · exact .inl ((hq p y).2 (.inr ⟨rfl, hy⟩))
    · have y0 := (opE_bd h.ok.g p0 (eng_lt h.ok p0 pe) hy).1
      rw [hse y y0]
      by_cases e : y = x
      · exact .inr (.inl (by simp [e]))
      · rcases h.hand p p0 pe y hy with q | q | q
        · exact .inl ((hq p y).2 (.inl ⟨q, fun q2 => e q2.2⟩))
        · exact .inr (.inl (by rw [q, Bool.or_true]))
        · exact .inr (.inr q)
  · intro q2
    have q2 := (hr p y).1 q2
    rcases (hq p y).1 q with q1 | q1
    · exact h.ab p y q1.1 q2
    · have := (ok_rep h.ok q2).1.2.2.1
      rw [q1.1, hx2] at this; cases this
  · intro q2
    rcases (hq p y).1 q with q1 | ⟨q1, q3⟩
    · have y0 := (ok_qry h.ok q1.1).2.1
      by_cases e : y = x
      · rw [e] at q2
        exact q1.2 ⟨(hchix p).1 q2, e⟩
      · exact h.ac p y q1.1 ((hchi p y y0 e).1 q2)
    · have y0 := (opE_bd h.ok.g x0 x1 q3).1
      by_cases e : y = x
      · rw [e] at q2
        exact hax (by rw [← q1]; exact ((hchix p).1 q2).symm)
      · have q4 := (hchi p y y0 e).1 q2
        have := (par_eq h.ok y0 q4.1 q4.2.1 (by rw [q1]; exact x0)).2.2.2.2.1
        rw [q1, hx2] at this; cases this
  · have q := (hr p y).1 q
    intro q2
    have q5 := ok_rep h.ok q
    by_cases e : y = x
    · rw [e, hx2] at q5; cases q5.2.1
    · exact h.bc p y q ((hchi p y q5.2.2.1 e).1 q2)
  · have pe : bAt (d.eng.set x.toNat true) p = true := pe
    rw [hse p p0, Bool.or_eq_true, decide_eq_true_eq] at pe
    show iAt (d.opn.set x.toNat (nodeAt d.g x).next.length) p = (((nodeAt d.g p).next.countP fun y => decide (opE D p y) : Nat) : Int)
    rw [hso p p0]
    by_cases e : p = x
    · subst e
      rw [if_pos rfl]
      have : (nodeAt d.g p).next.countP (fun y => decide (opE D p y)) = (nodeAt d.g p).next.length := by
        rw [List.countP_eq_length]
        intro y hy
        simpa using hEx y hy
      rw [this]
    · have pe := pe.resolve_left e
      rw [if_neg e, h.cnt p p0 pe, countP_same (l := (nodeAt d.g p).next) (p := fun y => decide (opE d p y)) (q := fun y => decide (opE D p y)) (fun y hy => by
        simp only [hE p y (opE_bd h.ok.g p0 (eng_lt h.ok p0 pe) hy).1 e])]
  · show d.dec = true ↔ iAt (d.opn.set x.toNat (nodeAt d.g x).next.length) d.start = 0
    rw [hso _ h.ok.s0, if_neg hsx]
    exact h.dec
  · obtain ⟨rk, k1, k2⟩ := h.rk
    have hec : ec D = ec d + 1 := by
      unfold ec
      refine countP_flip (l := List.range d.g.length) (x := x.toNat) (p := fun j : Nat => bAt d.eng (j : Int)) (q := fun j : Nat => bAt D.eng (j : Int)) List.nodup_range (by simp; omega) (fun j _ hne => ?_) ?_ ?_
      · show bAt d.eng (j : Int) = bAt (d.eng.set x.toNat true) (j : Int)
        rw [hse _ (by omega), decide_eq_false (by omega), Bool.false_or]
      · rw [show ((x.toNat : Nat) : Int) = x by omega]; exact hx2
      · show bAt (d.eng.set x.toNat true) ((x.toNat : Nat) : Int) = true
        rw [show ((x.toNat : Nat) : Int) = x by omega, hse x x0]; simp
    refine ⟨fun y => if y = x then ec d else rk y, fun p p0 pe ps => ?_, fun p p0 pe => ?_⟩
    · have pe : bAt (d.eng.set x.toNat true) p = true := pe
      rw [hse p p0, Bool.or_eq_true, decide_eq_true_eq] at pe
      show (if iAt (d.par.set x.toNat a) p = x then ec d else rk (iAt (d.par.set x.toNat a) p)) < if p = x then ec d else rk p
      rw [hsp p p0]
      by_cases e : p = x
      · rw [if_pos e, if_pos e, if_neg hax]
        exact k2 a a0 ae
      · have pe := pe.resolve_left e
        rw [if_neg e, if_neg e]
        have := (ok_eng h.ok p0 pe).2.2.2.2 ps
        rw [if_neg (fun q => by have := this.2.2.2.1; rw [q, hx2] at this; cases this)]
        exact k1 p p0 pe ps
    · have pe : bAt (d.eng.set x.toNat true) p = true := pe
      rw [hse p p0, Bool.or_eq_true, decide_eq_true_eq] at pe
      show (if p = x then ec d else rk p) < ec D
      rw [hec]
      by_cases e : p = x
      · rw [if_pos e]; omega
      · rw [if_neg e]
        have := k2 p p0 (pe.resolve_left e)
        omega
  · have hpot := h.pot
    have l1 := cut_length hk
    have l2 := cut_countP hk isQ
    rw [hm] at l2
    have l2' : (cut d.ml k).countP isQ + 1 = d.ml.countP isQ := by simpa [isQ] using l2
    have l3 : (qrs x (nodeAt d.g x).next).countP isQ = (nodeAt d.g x).next.length := by
      rw [← qrs_length x, List.countP_eq_length]
      intro m hmm
      simp only [qrs, List.mem_map] at hmm
      obtain ⟨y, _, rfl⟩ := hmm
      rfl
    have l4 : pnd D = pnd d + 1 := by
      unfold pnd
      refine countP_flip (l := List.range d.g.length) (x := x.toNat) (p := fun j : Nat => decide (bAt d.eng (j : Int) = true ∧ (j : Int) ≠ d.start ∧ 0 < iAt d.opn (j : Int))) (q := fun j : Nat => decide (bAt D.eng (j : Int) = true ∧ (j : Int) ≠ D.start ∧ 0 < iAt D.opn (j : Int))) List.nodup_range (by simp; omega) (fun j _ hne => ?_) ?_ ?_
      · show _ = decide (bAt (d.eng.set x.toNat true) (j : Int) = true ∧ (j : Int) ≠ d.start ∧ 0 < iAt (d.opn.set x.toNat (nodeAt d.g x).next.length) (j : Int))
        have hjx : ¬ (j : Int) = x := by omega
        rw [hse _ (by omega), hso _ (by omega), if_neg hjx, decide_eq_false hjx, Bool.false_or]
      · rw [show ((x.toNat : Nat) : Int) = x by omega]
        simp [hx2]
      · show decide (bAt (d.eng.set x.toNat true) ((x.toNat : Nat) : Int) = true ∧ ((x.toNat : Nat) : Int) ≠ d.start ∧ 0 < iAt (d.opn.set x.toNat (nodeAt d.g x).next.length) ((x.toNat : Nat) : Int)) = true
        rw [show ((x.toNat : Nat) : Int) = x by omega, hse x x0, hso x x0, if_pos rfl]
        have : (0 : Int) < (nodeAt d.g x).next.length := by omega
        have hsx' : x ≠ d.start := fun e => hsx e.symm
        simp only [decide_true, Bool.true_or, decide_eq_true_eq]
        exact ⟨trivial, hsx', this⟩
    have l5 : sent d.g (d.eng.set x.toNat true) = sent d.g d.eng + (nodeAt d.g x).next.length := by
      refine sent_set ?_ (by omega)
      rw [bAt, List.getD_eq_getElem?_getD] at hx2
      rw [List.getElem?_eq_getElem (by omega)] at hx2 ⊢
      simpa using hx2
    simp only [List.length_append, List.countP_append, l3, qrs_length]
    show n + 1 + ((cut d.ml k).length + (nodeAt d.g x).next.length) + ((cut d.ml k).countP isQ + (nodeAt d.g x).next.length) + pnd D ≤ 2 * sent d.g (d.eng.set x.toNat true)
    omega
end Go.Proofs.Ytcjmbkbbhlmkfaa

namespace Go.Proofs.Ytcjmbkbbhlmkfaa

theorem begE_ok {G : List Nd} {i : Int} (h : begE G i = 0) : gOk G = true ∧ 0 ≤ i ∧ i < G.length ∧ (nodeAt G i).k ≠ 0 := by
  unfold begE at h
  split at h
  · cases h
  · next h1 =>
    split at h
    · cases h
    · next h2 =>
      split at h
      · cases h
      · next h3 => exact ⟨by simpa using h1, by omega, by omega, h3⟩
theorem iAt_rep {n : Nat} {v x : Int} (h0 : 0 ≤ x) (h1 : x < n) : iAt (List.replicate n v) x = v := by
  have : x.toNat < n := by omega
  simp [iAt, List.getD_eq_getElem?_getD, this]
theorem iAt_rep0 (n : Nat) (x : Int) : iAt (List.replicate n 0) x = 0 := by
  simp only [iAt, List.getD_eq_getElem?_getD, List.getElem?_replicate]
  split <;> rfl
theorem Run.begin {G : List Nd} {i : Int} (h : begE G i = 0) : Run G i (begD G i) 0 := by
  obtain ⟨h1, h2, h3, h4⟩ := begE_ok h
  have hnx := asc_next h1 h2 h3
  have hpos : 0 < (nodeAt G i).next.length := by
    have := hnx.1
    have := hnx.2.1
    omega
  have he : ∀ y, 0 ≤ y → bAt (begD G i).eng y = decide (y = i) := fun y hy => by
    show bAt ((List.replicate G.length false).set i.toNat true) y = _
    rw [bAt_set h2 (by simp; omega) hy, bAt_rep, Bool.or_false]
  have ho : ∀ y, 0 ≤ y → iAt (begD G i).opn y = if y = i then ((nodeAt G i).next.length : Int) else 0 := fun y hy => by
    show iAt ((List.replicate G.length 0).set i.toNat ((nodeAt G i).next.length : Int)) y = _
    rw [iAt_set h2 (by simp; omega) hy, iAt_rep0]
  have hp : ∀ y : Int, 0 ≤ y → y < (G.length : Int) → iAt (begD G i).par y = -1 := fun y hy hl => iAt_rep hy hl
  have hml : (begD G i).ml = qrs i (nodeAt G i).next := rfl
  have hchi : ∀ p y, 0 ≤ p → 0 ≤ y → ¬ chi (begD G i) p y := fun p y p0 y0 ⟨q1, q2, _⟩ => by
    rw [he y y0, decide_eq_true_eq] at q1
    rw [hp y y0 (by omega)] at q2
    omega
  have hmr : ∀ p y, (⟨y, p, true⟩ : Ml) ∉ (begD G i).ml := fun p y q => by
    rw [hml] at q
    simp [qrs] at q
  have hmq : ∀ p y, (⟨p, y, false⟩ : Ml) ∈ (begD G i).ml ↔ p = i ∧ y ∈ (nodeAt G i).next := fun p y => by
    rw [hml]
    simp only [qrs, List.mem_map, Ml.mk.injEq, and_true]
    constructor
    · rintro ⟨j, q1, q2, q3⟩
      exact ⟨q2.symm, q3 ▸ q1⟩
    · rintro ⟨q1, q2⟩
      exact ⟨y, q2, q1.symm, rfl⟩
  have heok : ∀ y ∈ (nodeAt G i).next, eOk (begD G i) i y := fun y hy => ⟨h2, h3, by rw [he i h2]; simp, hy⟩
  refine ⟨⟨h1, h2, h3, ?_, ?_, ?_, ?_, fun j hj => ?_, fun m hm => ?_, ?_⟩, rfl, rfl, fun x x0 xe => ?_, fun a a0 ae x hx => ?_, fun a x q => hmr a x, fun a x q => ?_, fun a x q => absurd q (hmr a x), fun a a0 ae => ?_, ?_, ?_, ?_⟩
  · show ((List.replicate G.length false).set i.toNat true).length = _; simp; rfl
  · show (List.replicate G.length (-1 : Int)).length = _; simp; rfl
  · show ((List.replicate G.length 0).set i.toNat ((nodeAt G i).next.length : Int)).length = _; simp; rfl
  · show bAt (begD G i).eng i = true
    rw [he i h2]; simp
  · have hj : j < G.length := hj
    unfold nOk
    rw [he _ (by omega), ho _ (by omega), hp _ (by omega) (by omega)]
    by_cases e : (j : Int) = i
    · rw [if_pos (by simpa using e), if_pos e]
      rw [e]
      refine ⟨h4, by omega, ?_, ?_⟩
      · exact Int.le_refl _
      · rw [if_pos (show i = (begD G i).start from rfl)]
    · rw [if_neg (by simpa using e), if_neg e]
      exact ⟨rfl, rfl⟩
  · rw [hml] at hm
    simp only [qrs, List.mem_map] at hm
    obtain ⟨y, hy, rfl⟩ := hm
    exact heok y hy
  · rw [hml, qrs]
    exact List.Pairwise.map _ (fun p q hpq e => hpq (by simpa using e)) (asc_nodup hnx.2.2.2)
  · rw [he x x0, decide_eq_true_eq] at xe
    exact .inl xe
  · rw [he a a0, decide_eq_true_eq] at ae
    subst ae
    exact .inl ((hmq a x).2 ⟨rfl, hx⟩)
  · have := (hmq a x).1 q
    exact hchi a x (by rw [this.1]; exact h2) (gOk_mem h1 this.2).1
  · rw [he a a0, decide_eq_true_eq] at ae
    subst ae
    rw [ho a a0, if_pos rfl]
    have : (nodeAt G a).next.countP (fun x => decide (opE (begD G a) a x)) = (nodeAt G a).next.length := by
      rw [List.countP_eq_length]
      intro x hx
      have : opE (begD G a) a x := .inl ((hmq a x).2 ⟨rfl, hx⟩)
      simpa using this
    show _ = (((nodeAt G a).next.countP fun x => decide (opE (begD G a) a x) : Nat) : Int)
    rw [this]
  · show (false = true) ↔ iAt (begD G i).opn i = 0
    rw [ho i h2, if_pos rfl]
    constructor
    · intro q; cases q
    · intro q; omega
  · refine ⟨fun _ => 0, fun a a0 ae na => ?_, fun a a0 ae => ?_⟩
    · rw [he a a0, decide_eq_true_eq] at ae
      exact absurd ae na
    · show 0 < (List.range G.length).countP fun j : Nat => bAt (begD G i).eng (j : Int)
      refine List.countP_pos_iff.2 ⟨i.toNat, by simp; omega, ?_⟩
      rw [he _ (by omega)]
      simp; omega
  · have e1 : pnd (begD G i) = 0 := by
      unfold pnd
      rw [List.countP_eq_zero]
      intro j _
      rw [decide_eq_true_eq]
      rintro ⟨q1, q2, _⟩
      rw [he _ (by omega), decide_eq_true_eq] at q1
      exact q2 q1
    have e2 : (begD G i).ml.countP isQ = (nodeAt G i).next.length := by
      rw [hml, ← qrs_length i, List.countP_eq_length]
      intro m hmm
      simp only [qrs, List.mem_map] at hmm
      obtain ⟨y, _, rfl⟩ := hmm
      rfl
    have e3 : sent G ((List.replicate G.length false).set i.toNat true) = (nodeAt G i).next.length := by
      have e4 : (List.replicate G.length false)[i.toNat]? = some false := by
        rw [List.getElem?_replicate, if_pos (by omega)]
      rw [sent_set (i := i.toNat) e4 (by omega), sent_rep, Nat.zero_add]
      rfl
    rw [e1, e2, hml, qrs_length]
    show _ ≤ 2 * sent G ((List.replicate G.length false).set i.toNat true)
    omega
theorem Run.step {G : List Nd} {i : Int} {d : Df} {n : Nat} (h : Run G i d n) {k : Int} (hk : k.toNat < d.ml.length) : Run G i (stepD d k) (n + 1) := by
  cases hr : (mAt d.ml k).rep
  · have hm : mAt d.ml k = ⟨(mAt d.ml k).frm, (mAt d.ml k).to, false⟩ := mAt_eq rfl rfl hr
    unfold stepD
    rw [if_neg (by simp [hr])]
    revert hm
    generalize (mAt d.ml k).to = x
    generalize (mAt d.ml k).frm = a
    intro hm
    unfold qryD
    simp only
    split
    · next h1 =>
      have := h.qryA hk hm (ext := []) (.inl ⟨h1, rfl⟩)
      rwa [List.append_nil] at this
    · next h1 =>
      split
      · next h2 => exact h.qryA hk hm (.inr ⟨h2, rfl⟩)
      · next h2 => exact h.qryB hk hm h1 (by simpa using h2)
  · exact h.stepRep hk hr
/-- when nothing is on its way -/
structure Fini (G : List Nd) (i : Int) (d : Df) (n : Nat) : Prop where
  ok : d.ok
  g : d.g = G
  st : d.start = i
  ml : d.ml = []
  eng : ∀ x, 0 ≤ x → (bAt d.eng x = true ↔ x = i ∨ (Rea G i x ∧ (nodeAt G x).k ≠ 0))
  dec : d.dec = true ↔ ∀ x, Rea G i x → (nodeAt G x).k ≠ 0
  cnt : n ≤ 2 * edgs G
theorem Run.few {G : List Nd} {i : Int} {d : Df} {n : Nat} (h : Run G i d n) : n + d.ml.length ≤ 2 * edgs G := by
  have h1 := h.pot
  have h2 := sent_le d.g d.eng
  rw [h.g] at h1 h2
  omega
theorem Run.done {G : List Nd} {i : Int} {d : Df} {n : Nat} (h : Run G i d n) (hm : d.ml = []) : Fini G i d n := by
  obtain ⟨rk, k1, k2⟩ := h.rk
  have hgG : gOk G = true := by rw [← h.g]; exact h.ok.g
  have i0 : 0 ≤ i := h.st ▸ h.ok.s0
  have ie : bAt d.eng i = true := h.st ▸ h.ok.es
  have hno : ∀ y, (nodeAt G y).k = 0 → ∀ x, x ∉ (nodeAt G y).next := fun y hy x hx => by
    have y1 : ¬ y.toNat ≥ G.length := fun q => by
      rw [nodeAt, List.getD_eq_getElem?_getD, List.getElem?_eq_none (by omega)] at hx
      simp at hx
    have y2 : y.toNat < G.length := by omega
    have e : nodeAt G y = nodeAt G ((y.toNat : Nat) : Int) := rfl
    rw [e] at hy hx
    have := (asc_next hgG (i := ((y.toNat : Nat) : Int)) (by omega) (by omega)).2.2.1 hy
    rw [List.length_eq_zero_iff] at this
    rw [this] at hx
    cases hx
  have hall : ∀ x, Rea G i x → 0 ≤ x ∧ (bAt d.eng x = true ∨ (nodeAt G x).k = 0) := fun x hr => by
    refine Rea.closed (S := fun x => 0 ≤ x ∧ (bAt d.eng x = true ∨ (nodeAt G x).k = 0)) (fun x hx => ⟨(gOk_mem hgG hx).1, ?_⟩) (fun y hy x hx => ⟨(gOk_mem hgG hx).1, ?_⟩) hr
    · rcases h.hand i i0 ie x (by rw [h.g]; exact hx) with q | q
      · rw [hm] at q; cases q
      · rw [h.g] at q; exact q
    · rcases hy.2 with q | q
      · rcases h.hand y hy.1 q x (by rw [h.g]; exact hx) with q | q
        · rw [hm] at q; cases q
        · rw [h.g] at q; exact q
      · exact absurd hx (hno y q x)
  have hop : ∀ a, 0 ≤ a → bAt d.eng a = true → ∀ x ∈ (nodeAt d.g a).next, opE d a x → 0 < iAt d.opn a := fun a a0 ae x hx q => by
    have := h.cnt a a0 ae
    have hpos : 0 < (nodeAt d.g a).next.countP fun x => decide (opE d a x) := List.countP_pos_iff.2 ⟨x, hx, by simpa using q⟩
    omega
  have hup : ∀ m a, rk a ≤ m → 0 ≤ a → bAt d.eng a = true → 0 < iAt d.opn a → 0 < iAt d.opn d.start := by
    intro m
    induction m with
    | zero =>
      intro a hm a0 ae q
      by_cases e : a = d.start
      · rw [← e]; exact q
      · have := k1 a a0 ae e; omega
    | succ m ih =>
      intro a hm a0 ae q
      by_cases e : a = d.start
      · rw [← e]; exact q
      · have h1 := k1 a a0 ae e
        have h2 := ((ok_eng h.ok a0 ae).2.2.2.2 e).2
        exact ih (iAt d.par a) (by omega) h2.1 h2.2.2.1 (hop _ h2.1 h2.2.2.1 a h2.2.2.2 (.inr (.inr (.inl ⟨ae, rfl, q⟩))))
  refine ⟨h.ok, h.g, h.st, hm, fun x x0 => ⟨fun q => ?_, fun q => ?_⟩, ?_, ?_⟩
  · rcases h.snd x x0 q with e | e
    · exact .inl e
    · exact .inr ⟨e, by rw [← h.g]; exact (ok_eng h.ok x0 q).1⟩
  · rcases q with rfl | ⟨q1, q2⟩
    · exact ie
    · exact (hall x q1).2.resolve_right q2
  · rw [h.dec]
    constructor
    · intro q x hr hk
      have hz : ∀ a, 0 ≤ a → bAt d.eng a = true → ¬ 0 < iAt d.opn a := fun a a0 ae q2 => by
        have := hup (rk a) a (Nat.le_refl _) a0 ae q2
        omega
      have fin : ∀ y, 0 ≤ y → bAt d.eng y = true → x ∈ (nodeAt G y).next → False := fun y y0 ye hx =>
        hz y y0 ye (hop y y0 ye x (by rw [h.g]; exact hx) (.inr (.inr (.inr (by rw [h.g]; exact hk)))))
      cases hr with
      | one hx => exact fin i i0 ie hx
      | step hy hx =>
        obtain ⟨y0, q1⟩ := hall _ hy
        rcases q1 with q1 | q1
        · exact fin _ y0 q1 hx
        · exact hno _ q1 x hx
    · intro q
      have hdn : ∀ m a, ec d ≤ rk a + m → 0 ≤ a → bAt d.eng a = true → ¬ 0 < iAt d.opn a := by
        intro m
        induction m with
        | zero =>
          intro a hm a0 ae _
          have := k2 a a0 ae
          omega
        | succ m ih =>
          intro a hm2 a0 ae hpos
          have hc := h.cnt a a0 ae
          have hp2 : 0 < (nodeAt d.g a).next.countP fun x => decide (opE d a x) := by omega
          obtain ⟨y, hy, hoy⟩ := List.countP_pos_iff.1 hp2
          rw [decide_eq_true_eq] at hoy
          have hry : Rea G i y := by
            rw [h.g] at hy
            rcases h.snd a a0 ae with e | e
            · rw [← e]; exact .one hy
            · exact .step e hy
          rcases hoy with q1 | q1 | q1 | q1
          · rw [hm] at q1; cases q1
          · rw [hm] at q1; cases q1
          · have y0 := (Rea.bd hgG hry).1
            have ys := (par_eq h.ok y0 q1.1 q1.2.1 a0).1
            have := k1 y y0 q1.1 ys
            rw [q1.2.1] at this
            exact ih y (by omega) y0 q1.1 q1.2.2
          · rw [h.g] at q1
            exact q y hry q1
      have h1 := hdn (ec d) i (by omega) i0 ie
      have h2 := (ok_eng h.ok i0 ie).2.1
      rw [h.st]
      omega
  · have := h.few
    omega
theorem Fini.uniq {G : List Nd} {i : Int} {a b : Df} {n m : Nat} (h : Fini G i a n) (k : Fini G i b m) : a.dec = b.dec ∧ a.eng = b.eng := by
  refine ⟨Bool.eq_iff_iff.2 (h.dec.trans k.dec.symm), ?_⟩
  apply List.ext_getElem
  · rw [h.ok.el, k.ok.el, h.g, k.g]
  · intro j h1 h2
    have e : bAt a.eng (j : Nat) = true ↔ bAt b.eng (j : Nat) = true := (h.eng _ (by omega)).trans (k.eng _ (by omega)).symm
    have e1 : bAt a.eng (j : Nat) = a.eng[j] := by simp [bAt, h1]
    have e2 : bAt b.eng (j : Nat) = b.eng[j] := by simp [bAt, h2]
    rw [e1, e2] at e
    exact Bool.eq_iff_iff.2 e
theorem Run.eng1 {G : List Nd} {i : Int} {d : Df} {n : Nat} (h : Run G i d n) {m : Ml} (hm : m ∈ d.ml) : (0 ≤ m.frm ∧ m.frm < d.g.length) ∧ 0 ≤ m.to ∧ m.to < d.g.length := by
  obtain ⟨a, x, r⟩ := m
  cases r
  · have := ok_qry h.ok hm
    exact ⟨⟨this.1.1, this.1.2.1⟩, this.2⟩
  · have := ok_rep h.ok hm
    exact ⟨this.2.2, ⟨this.1.1, this.1.2.1⟩⟩
end Go.Proofs.Ytcjmbkbbhlmkfaa
