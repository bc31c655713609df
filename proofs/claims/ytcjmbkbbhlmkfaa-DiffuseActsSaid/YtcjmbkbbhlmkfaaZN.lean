/- Texts put behind one another: K15, Q1, K16, Sh, Q2. -/
import Derived.Test.YtcjmbkbbhlmkfaaZM
import Derived.Test.YtcjmbkbbhlmkfaaZE
import Derived.Test.YtcjmbkbbhlmkfaaZV
import Derived.Test.YtcjmbkbbhlmkfaaZK
set_option linter.unusedVariables false
set_option linter.unusedSimpArgs false
namespace Go.Proofs.Ytcjmbkbbhlmkfaa
open Go.RowKit Go.Proofs

def pInvL (g : List Nd) (s : Int) (m : Nat) (S : St) : Prop := ∃ i, i + m = g.length ∧ S = ⟨tmL [(4, .ptr 0 0), (7, .ptr 1 0), (43, .s (.int .i64 g.length)), (44, .s (.int .i64 i))], [.no, .s (.int .i64 s), .s (.int .i64 0), .s (.int .i64 g.length), .no], [zDs, [.list 2 (gv g), .s (.int .i64 s), .s (.slice none 0 0), .own true 4 1 (lv (List.replicate g.length false)), .own true 3 1 (iv (fillP g.length i)), .own true 3 1 (iv (List.replicate g.length 0)), .s (.bool false)]], 0⟩
set_option maxHeartbeats 16000000 in
set_option maxRecDepth 10000 in
theorem Begin_lc (g : List Nd) (s : Int) (he : begE g s = 0) (hl : g.length ≤ 1000000) (hn : ∀ n ∈ g, n.next.length ≤ 1000000) : LC Try.prog 10 [.list 2 (gv g), .s (.int .i64 s)] (fun r => r = .tup [(begD g s).v, .s (.int .i64 0)]) := by
  have hpc := Begin_pc g s hl hn
  have hres : res (begE g s) (begD g s) = .tup [(begD g s).v, .s (.int .i64 0)] := by rw [res, he, if_pos rfl]
  rw [hres] at hpc
  obtain ⟨g1, s0, s1, hk⟩ := begE_ok he
  refine lc_fn c10 mixed 3 rfl hpc (by rintro _ rfl; simp [Df.v, Df.cells, flatV, immA, immC]) (by simp [immA, immC]) ⟨by decide, by decide⟩ fun e => ?_
  have g2 : ¬ s < 0 := by omega
  have g3' : ¬ (g.length : Int) ≤ s := by omega
  have g4 := gv_at (g := g) (i := s) s0 s1
  have g4' := gv_ate (g := g) (i := s) s0 (by omega)
  have g5 : ((nodeAt g s).k == 0) = false := by simpa using hk
  have i1 : s.toNat < g.length := by omega
  simp -implicitDefEqProofs [a10, F10]
  refine wk_bor ?_
  simp -implicitDefEqProofs
  refine wb_of (wValid_pc g hn) (by simp) ?_
  rintro _ rfl
  refine ⟨rfl, ?_⟩
  simp -implicitDefEqProofs [g1, g2, g3', g4, g4', g5, i1]
  refine wkd_look ?_
  simp -implicitDefEqProofs
  refine wld_of (by simp) (copyGraph_lc g (by omega) hl hn) (by simp) ?_
  have b1 : g.length ≤ maxLen ∧ g.length ≤ 140737488355328 ∧ g.length * 8 ≤ 140737488355328 := by simp [maxLen]; omega
  simp -implicitDefEqProofs [b1]
  refine w_rounds [4, 7, 43, 44] [0, 4] 2 (by simp) (pInvL g s) g.length ⟨by simp, 0, by simp, by simp [fillP, lv_rep, iv_rep, zDs]⟩ ?_
  rintro m S ⟨i, hi, rfl⟩
  by_cases hm : i < g.length
  · have h1 : (i : Int) < g.length := by omega
    have h0 : ¬ (i : Int) < 0 := by omega
    have hlen := fillP_len (n := g.length) (i := i) (by omega)
    simp -implicitDefEqProofs [h1, h0, hlen, hm, fillP_at hm, iv_set, fillP_set hm, zDs]
    exact ⟨m - 1, by omega, i + 1, by omega, by rw [wrap64 (by omega)]; rfl⟩
  have h1 : ¬ (i : Int) < g.length := by omega
  have h2 : i = g.length := by omega
  subst h2
  have e1 : (lv (List.replicate g.length false))[s.toNat]'(by simpa using i1) = .s (.bool false) := by simp [lv]
  have hx := hn _ (nodeAt_mem (g := g) (i := s) (by omega) (by omega))
  simp -implicitDefEqProofs [fillP_end, g2, i1, e1, lv_set, zDs]
  refine wk_hand ?_
  simp -implicitDefEqProofs
  refine wa_of (ask_ac (begD0 g s) s (by omega) (by simp only [begD0]; omega) (by simp [begD0]) (by simpa [begD0] using hx) (by simp [begD0])) (hand2 (q := 1) (by simp [begD0, Df.box, mv]) (Df.box_ok _)) ?_
  rintro _ _ ⟨rfl, rfl⟩
  refine ⟨rfl, ?_⟩
  simp -implicitDefEqProofs [Df.box, begD, Df.v, Df.cells]
end Go.Proofs.Ytcjmbkbbhlmkfaa

namespace Go.Proofs.Ytcjmbkbbhlmkfaa
open Go.RowKit Go.Proofs

theorem tapeB_ok (xs : List Int) (k : Nat) : (tapeB xs k).all cellB = true := rfl
theorem edgs_le {g : List Nd} {m : Nat} (h : ∀ n ∈ g, n.next.length ≤ m) : edgs g ≤ g.length * m := by
  induction g with
  | nil => simp [edgs]
  | cons x r ih =>
    have h1 := h x (by simp)
    have h2 := ih fun n hn => h n (by simp [hn])
    simp only [edgs, List.map_cons, List.sum_cons, List.length_cons, Nat.add_mul] at h2 ⊢
    omega
theorem edgs_64 {g : List Nd} (h : gOk g = true) (h8 : g.length ≤ 8) : edgs g ≤ 64 := by
  have h1 : edgs g ≤ g.length * 8 := edgs_le fun n hn => by have := gOk_next h hn; omega
  omega
theorem Run.sm {G : List Nd} {i : Int} {d : Df} {n : Nat} (h : Run G i d n) (hG : gOk G = true) (h8 : G.length ≤ 8) : d.sm := by
  have h1 := h.few
  have h2 := edgs_64 hG h8
  have h3 := h.ok.el
  have h4 := h.ok.pl
  have h5 := h.ok.ol
  have hg : d.g.length ≤ 8 := by rw [h.g]; exact h8
  refine ⟨by omega, fun n hn => by rw [h.g] at hn; have := gOk_next hG hn; omega, by omega, by omega, by omega, by omega, fun m hm => ?_⟩
  have := h.eng1 hm
  unfold wf64
  omega
theorem Fini.sm {G : List Nd} {i : Int} {d : Df} {n : Nat} (h : Fini G i d n) (h8 : G.length ≤ 8) : d.sm := by
  have hg : d.g.length ≤ 8 := by rw [h.g]; exact h8
  have hG := h.ok.g
  refine ⟨by omega, fun n hn => by have := gOk_next hG hn; omega, by rw [h.ml]; simp, by rw [h.ok.el]; omega, by rw [h.ok.pl]; omega, by rw [h.ok.ol]; omega, fun m hm => ?_⟩
  rw [h.ml] at hm; cases hm
def plInv (G : List Nd) (i : Int) (o : List Int) (m : Nat) (S : St) : Prop := ∃ (n k : Nat) (d : Df), Run G i d n ∧ n + m = 128 ∧ k ≤ o.length ∧
  S = ⟨tmL [(6, .ptr 0 0), (9, .ptr 1 0)], [.no, .s (.int .i64 i), .list 1 (iv o), .s (.int .i64 0), .s (.bool false), .s (.int .i64 0), .ptr 2 0, .s (.int .i64 n)], [zDs, d.cells, tapeB o k], 0⟩
def playQ (G : List Nd) (i : Int) (r : V) : Prop := (begE G i ≠ 0 → r = .tup [d0.v, .s (.int .i64 0), .s (.bool false)]) ∧ (begE G i = 0 → ∃ d n, Fini G i d n ∧ r = .tup [d.v, .s (.int .i64 (n : Nat)), .s (.bool true)])
def playL (G : List Nd) (i : Int) (r : V) : Prop := ∃ d n, Fini G i d n ∧ r = .tup [d.v, .s (.int .i64 (n : Nat)), .s (.bool true)]
set_option maxHeartbeats 8000000 in
set_option maxRecDepth 10000 in
theorem play_pc (G : List Nd) (i : Int) (o : List Int) (hG : gOk G = true) (h8 : G.length ≤ 8) (ho : o.length ≤ 1000000) : PC Try.prog 20 [.list 2 (gv G), .s (.int .i64 i), .list 1 (iv o)] (playQ G i) := by
  have hGn : ∀ n ∈ G, n.next.length ≤ 1000000 := fun n hn => by have := gOk_next hG hn; omega
  have h64 := edgs_64 hG h8
  refine pc_end c20 mixed rfl ?_
  simp -implicitDefEqProofs [a20, F20]
  refine wk_take ?_
  simp -implicitDefEqProofs
  refine wc_of (Begin_pl G i (by omega) hGn) (by simp) (by simp) ?_
  rintro _ rfl
  simp -implicitDefEqProofs [resP, Df.v, Df.cells]
  by_cases he : begE G i = 0
  case neg =>
    have he' : (begE G i == 0) = false := by simpa using he
    have hce : dE (begE G i) (begD G i) = d0 := by rw [dE, if_neg he]
    rw [hce]
    refine w_rounds [6, 9] [] 3 (by simp) (fun m S => m = 0 ∧ S = ⟨tmL [(6, .ptr 0 0), (9, .ptr 1 0)], [.list 2 (gv G), .s (.int .i64 i), .list 1 (iv o), .s (.int .i64 0), .s (.bool false), .s (.int .i64 (begE G i)), .ptr 2 0, .s (.int .i64 0)], [zDs, d0.cells, tapeB o 0], 0⟩) 0 ⟨by simp, rfl, by simp [Df.cells, tapeB, zDs]⟩ ?_
    rintro m S ⟨rfl, rfl⟩
    simp -implicitDefEqProofs [Df.cells, he', zDs]
    exact ⟨fun _ => by simp [Df.v, Df.cells], fun q => absurd q he⟩
  have hce : dE (begE G i) (begD G i) = begD G i := by rw [dE, if_pos he]
  rw [hce]
  refine w_rounds [6, 9] [0] 3 (by simp) (plInv G i o) 128 ⟨by simp, 0, 0, begD G i, .begin he, rfl, by omega, by simp [Df.cells, tapeB, he, zDs]⟩ ?_
  rintro m S ⟨n, k, d, hR, hnm, hk, rfl⟩
  have hf := hR.few
  have hsm := hR.sm hG h8
  have hn2 : (n : Int) < 1000 := by omega
  by_cases hp : 0 < d.ml.length
  · have hnx := nx_bd o k (m := d.ml.length) (by omega)
    generalize hj : nx o k d.ml.length = j at hnx
    have hjl : j.toNat < d.ml.length := by omega
    have hR2 := hR.step hjl
    have hsm2 := hR2.sm hG h8
    have hok2 := hR2.ok
    have hf2 := hR2.few
    have hse : stepE d j = 0 := by
      unfold stepE
      rw [if_neg (not_not_intro hR.ok), if_neg (by omega)]
    have hres : resP (stepE d j) (stepD d j) = .tup [(stepD d j).v, .s (.int .i64 0)] := by rw [resP, dE, if_pos hse, hse]
    have wn : IntKind.i64.wrap ((n : Int) + 1) = ((n + 1 : Nat) : Int) := by rw [wrap64 (by omega)]; rfl
    simp -implicitDefEqProofs [Df.cells, hp, hn2, zDs]
    refine wkd_hand ?_
    simp -implicitDefEqProofs
    refine wad_of (Next_ac o k d.ml.length (by omega) (by omega) (by omega)) (hand2 (q := 2) rfl (tapeB_ok _ _)) (by rfl) ?_
    rw [hj]
    simp -implicitDefEqProofs
    refine wkd_take ?_
    simp -implicitDefEqProofs
    refine wcd_of (Step_pl d j hsm) (by simp [Df.v, Df.cells]) (by simp [Df.v, Df.cells]) ?_
    rw [hres]
    simp -implicitDefEqProofs [Df.v, Df.cells]
    revert hR2 hsm2 hok2 hf2
    generalize stepD d j = d2
    intro hR2 hsm2 hok2 hf2
    refine wk_take ?_
    simp -implicitDefEqProofs
    refine wc_of (Valid_pc d2 hsm2) (by simp [Df.v, Df.cells]) (by simp [Df.v, Df.cells]) ?_
    rintro _ rfl
    simp -implicitDefEqProofs [hok2, wn]
    have hn1 := nat1_le (xs := o) (k := k) hk
    exact ⟨by simp [tapeB], m - 1, by omega, n + 1, nat1 o k, d2, hR2, by omega, hn1.1, by simp [Df.cells, zDs]⟩
  · simp -implicitDefEqProofs [Df.cells, hp, zDs]
    have hp0 : d.ml = [] := List.length_eq_zero_iff.1 (by omega)
    exact ⟨fun q => absurd he q, fun _ => ⟨d, n, hR.done hp0, by simp [Df.v, Df.cells]⟩⟩
set_option maxHeartbeats 8000000 in
set_option maxRecDepth 10000 in
theorem play_lc (G : List Nd) (i : Int) (o : List Int) (hG : gOk G = true) (h8 : G.length ≤ 8) (ho : o.length ≤ 1000000) (he : begE G i = 0) : LC Try.prog 20 [.list 2 (gv G), .s (.int .i64 i), .list 1 (iv o)] (playL G i) := by
  have hGn : ∀ n ∈ G, n.next.length ≤ 1000000 := fun n hn => by have := gOk_next hG hn; omega
  have h64 := edgs_64 hG h8
  have hpc : PC Try.prog 20 [.list 2 (gv G), .s (.int .i64 i), .list 1 (iv o)] (playL G i) := AC.mono (play_pc G i o hG h8 ho) (fun r bs ⟨q1, q2⟩ => ⟨q1, q2.2 he⟩)
  refine lc_fn c20 mixed 3 rfl hpc (by rintro _ ⟨d, n, _, rfl⟩; simp [Df.v, Df.cells, flatV, immA, immC]) (by simp [immA, immC]) ⟨by decide, by decide⟩ fun e => ?_
  simp -implicitDefEqProofs [a20, F20]
  refine wk_look ?_
  simp -implicitDefEqProofs
  refine wl_of (by simp) (Begin_lc G i he (by omega) hGn) (by simp) ?_
  rintro _ rfl
  simp -implicitDefEqProofs [Df.v, Df.cells]
  refine w_rounds [6, 9] [0] 3 (by simp) (plInv G i o) 128 ⟨by simp, 0, 0, begD G i, .begin he, rfl, by omega, by simp [Df.cells, tapeB, zDs]⟩ ?_
  rintro m S ⟨n, k, d, hR, hnm, hk, rfl⟩
  have hf := hR.few
  have hsm := hR.sm hG h8
  have hn2 : (n : Int) < 1000 := by omega
  by_cases hp : 0 < d.ml.length
  · have hnx := nx_bd o k (m := d.ml.length) (by omega)
    generalize hj : nx o k d.ml.length = j at hnx
    have hjl : j.toNat < d.ml.length := by omega
    have hR2 := hR.step hjl
    have hsm2 := hR2.sm hG h8
    have hok2 := hR2.ok
    have hf2 := hR2.few
    have hse : stepE d j = 0 := by
      unfold stepE
      rw [if_neg (not_not_intro hR.ok), if_neg (by omega)]
    have hres : resP (stepE d j) (stepD d j) = .tup [(stepD d j).v, .s (.int .i64 0)] := by rw [resP, dE, if_pos hse, hse]
    have wn : IntKind.i64.wrap ((n : Int) + 1) = ((n + 1 : Nat) : Int) := by rw [wrap64 (by omega)]; rfl
    simp -implicitDefEqProofs [Df.cells, hp, hn2, zDs]
    refine wkd_hand ?_
    simp -implicitDefEqProofs
    refine wad_of (Next_ac o k d.ml.length (by omega) (by omega) (by omega)) (hand2 (q := 2) rfl (tapeB_ok _ _)) (by rfl) ?_
    rw [hj]
    simp -implicitDefEqProofs
    refine wkd_take ?_
    simp -implicitDefEqProofs
    refine wcd_of (Step_pl d j hsm) (by simp [Df.v, Df.cells]) (by simp [Df.v, Df.cells]) ?_
    rw [hres]
    simp -implicitDefEqProofs [Df.v, Df.cells]
    revert hR2 hsm2 hok2 hf2
    generalize stepD d j = d2
    intro hR2 hsm2 hok2 hf2
    refine wk_take ?_
    simp -implicitDefEqProofs
    refine wc_of (Valid_pc d2 hsm2) (by simp [Df.v, Df.cells]) (by simp [Df.v, Df.cells]) ?_
    rintro _ rfl
    simp -implicitDefEqProofs [hok2, wn]
    have hn1 := nat1_le (xs := o) (k := k) hk
    exact ⟨by simp [tapeB], m - 1, by omega, n + 1, nat1 o k, d2, hR2, by omega, hn1.1, by simp [Df.cells, zDs]⟩
  · simp -implicitDefEqProofs [Df.cells, hp, zDs]
    have hp0 : d.ml = [] := List.length_eq_zero_iff.1 (by omega)
    exact ⟨d, n, hR.done hp0, by simp [Df.v, Df.cells]⟩
end Go.Proofs.Ytcjmbkbbhlmkfaa

namespace Go.Proofs.Ytcjmbkbbhlmkfaa
open Go.RowKit Go.Proofs

def gA : List Nd := [⟨1, [1, 2]⟩, ⟨1, [0]⟩, ⟨0, []⟩]
def gB' : List Nd := [⟨1, [1, 2]⟩, ⟨1, [0]⟩, ⟨1, [0]⟩]
theorem Fini.over {G : List Nd} {i : Int} {d : Df} {n : Nat} (h : Fini G i d n) : d.over = true := by
  unfold Df.over
  exact decide_eq_true ⟨h.ml, h.ok⟩
theorem decA {d : Df} {n : Nat} (h : Fini gA 0 d n) : d.dec = false := by
  cases hd : d.dec
  · rfl
  · exact absurd (show (nodeAt gA 2).k = 0 from rfl) (h.dec.1 hd 2 (.one (show (2 : Int) ∈ (nodeAt gA 0).next by decide)))
theorem decB {d : Df} {n : Nat} (h : Fini gB' 0 d n) : d.dec = true := by
  rw [h.dec]
  intro x hx
  have hb := Rea.bd (show gOk gB' = true by decide) hx
  have : x = 0 ∨ x = 1 ∨ x = 2 := by have : (gB'.length : Int) = 3 := rfl; omega
  rcases this with rfl | rfl | rfl <;> decide
set_option maxHeartbeats 8000000 in
set_option maxRecDepth 10000 in
theorem awake_pc : PC Try.prog 8 [] (fun r => r = .s (.bool true)) := by
  refine pc_end c8 mixed rfl ?_
  simp -implicitDefEqProofs [a8, F8]
  refine wk_look ?_
  simp -implicitDefEqProofs
  refine wl_of (by simp) (lc_nil (lc_row (play_lc gA 0 [] (by decide) (by decide) (by simp) (by decide)) (by simp [gv, gA, iv, Nd.v, nilLs, nilL])) (by simp [iv]) (by simp [immA, immC])) rfl ?_
  rintro _ ⟨a, n, hA, rfl⟩
  have sa := hA.sm (by decide)
  have oa := hA.over
  have da := decA hA
  simp -implicitDefEqProofs [Df.v, Df.cells]
  refine wk_look ?_
  simp -implicitDefEqProofs
  refine wl_of (by simp) (lc_nil (lc_row (play_lc gB' 0 [] (by decide) (by decide) (by simp) (by decide)) (by simp [gv, gB', iv, Nd.v, nilLs, nilL])) (by simp [iv]) (by simp [immA, immC])) rfl ?_
  rintro _ ⟨b, m, hB, rfl⟩
  have sb := hB.sm (by decide)
  have ob := hB.ok
  have db := decB hB
  simp -implicitDefEqProofs [Df.v, Df.cells, da, db]
  refine wk_take ?_
  simp -implicitDefEqProofs
  have hO := Over_pc a sa
  simp only [Df.v, Df.cells, da] at hO
  refine wc_of hO (by simp) (by simp) ?_
  rintro _ rfl
  simp -implicitDefEqProofs [oa]
  refine wk_take ?_
  simp -implicitDefEqProofs
  have hV := Valid_pc b sb
  simp only [Df.v, Df.cells, db] at hV
  refine wc_of hV (by simp) (by simp) ?_
  rintro _ rfl
  simp -implicitDefEqProofs [ob]
end Go.Proofs.Ytcjmbkbbhlmkfaa

namespace Go.Proofs.Ytcjmbkbbhlmkfaa
open Go.RowKit Go.Proofs

theorem sh_int0 {dep : Nat} {el : List V} (h : Shape Try.prog (dep + 1) 3 el) : ∃ n : Int, el = [.s (.int .i64 n)] := by
  unfold Shape at h
  rw [Try.underlying3] at h
  obtain ⟨n, _, hn⟩ := h
  exact ⟨n, by simpa using hn⟩
theorem sh_bool0 {dep : Nat} {el : List V} (h : Shape Try.prog (dep + 1) 4 el) : ∃ b : Bool, el = [.s (.bool b)] := by
  unfold Shape at h
  rw [Try.underlying4] at h
  obtain ⟨b, hb⟩ := h
  exact ⟨b, by simpa using hb⟩
/-- the elements of a slice -/
theorem sh_els {α : Type} {dep : Nat} {t : TypeId} {f : α → V} (hf : ∀ el, Shape Try.prog dep t el → ∃ a, elemD Try.prog t el = f a) : ∀ (els : List (List V)), (∀ el ∈ els, Shape Try.prog dep t el) → ∃ m : List α, els.map (elemD Try.prog t) = m.map f
  | [], _ => ⟨[], rfl⟩
  | x :: r, h => by
    obtain ⟨m, hm⟩ := sh_els hf r (fun el hel => h el (by simp [hel]))
    obtain ⟨a, ha⟩ := hf x (h x (by simp))
    exact ⟨a :: m, by rw [List.map_cons, hm, ha]; rfl⟩
theorem sh_ints0 {dep : Nat} {el : List V} (h : Shape Try.prog (dep + 2) 25 el) : ∃ l : List Int, el = [.list 1 (iv l)] := by
  unfold Shape at h
  rw [Try.underlying25] at h
  obtain ⟨els, hx, _, hb⟩ := h
  have e1 : Try.prog.cellsOf 3 = 1 := by kernel_rfl
  have e2 : aggT Try.prog 3 = some false := by kernel_rfl
  rw [e1] at hx
  obtain ⟨m, hm⟩ := sh_els (f := fun n : Int => V.s (.int .i64 n)) (fun el hel => by
    obtain ⟨n, rfl⟩ := sh_int0 hel
    exact ⟨n, by simp [elemD, e2]⟩) els hb
  rw [hm] at hx
  exact ⟨m, hx⟩
theorem sh_bools0 {dep : Nat} {el : List V} (h : Shape Try.prog (dep + 2) 24 el) : ∃ l : List Bool, el = [.list 1 (lv l)] := by
  unfold Shape at h
  rw [Try.underlying24] at h
  obtain ⟨els, hx, _, hb⟩ := h
  have e1 : Try.prog.cellsOf 4 = 1 := by kernel_rfl
  have e2 : aggT Try.prog 4 = some false := by kernel_rfl
  rw [e1] at hx
  obtain ⟨m, hm⟩ := sh_els (f := fun n : Bool => V.s (.bool n)) (fun el hel => by
    obtain ⟨n, rfl⟩ := sh_bool0 hel
    exact ⟨n, by simp [elemD, e2]⟩) els hb
  rw [hm] at hx
  exact ⟨m, hx⟩
theorem parts2 {P : Program} {dep : Nat} {fs : Array Field} {parts : List (List V)} {f0 f1 : Field} (e : fs = #[f0, f1]) (hl : parts.length = fs.size)
    (h : ∀ (i : Nat) (fl : Field) (p : List V), fs[i]? = some fl → parts[i]? = some p → Shape P dep fl.type p) :
    ∃ a b, parts = [a, b] ∧ Shape P dep f0.type a ∧ Shape P dep f1.type b := by
  subst e
  match parts, hl with
  | [a, b], _ => exact ⟨a, b, rfl, h 0 f0 a rfl rfl, h 1 f1 b rfl rfl⟩
theorem parts5 {P : Program} {dep : Nat} {fs : Array Field} {parts : List (List V)} {f0 f1 f2 f3 f4 : Field} (e : fs = #[f0, f1, f2, f3, f4]) (hl : parts.length = fs.size)
    (h : ∀ (i : Nat) (fl : Field) (p : List V), fs[i]? = some fl → parts[i]? = some p → Shape P dep fl.type p) :
    ∃ a b c d e, parts = [a, b, c, d, e] ∧ Shape P dep f0.type a ∧ Shape P dep f1.type b ∧ Shape P dep f2.type c ∧ Shape P dep f3.type d ∧ Shape P dep f4.type e := by
  subst e
  match parts, hl with
  | [a, b, c, d, e], _ => exact ⟨a, b, c, d, e, rfl, h 0 f0 a rfl rfl, h 1 f1 b rfl rfl, h 2 f2 c rfl rfl, h 3 f3 d rfl rfl, h 4 f4 e rfl rfl⟩
theorem sh_nd {dep : Nat} {el : List V} (h : Shape Try.prog (dep + 3) 42 el) : ∃ n : Nd, el = [.s (.int .i64 n.k), .list 1 (iv n.next)] := by
  unfold Shape at h
  rw [Try.underlying42] at h
  obtain ⟨parts, rfl, hl, hp⟩ := h
  obtain ⟨a, b, rfl, ha, hb⟩ := parts2 rfl hl hp
  obtain ⟨k, rfl⟩ := sh_int0 ha
  obtain ⟨l, rfl⟩ := sh_ints0 hb
  exact ⟨⟨k, l⟩, rfl⟩
theorem parts3 {P : Program} {dep : Nat} {fs : Array Field} {parts : List (List V)} {f0 f1 f2 : Field} (e : fs = #[f0, f1, f2]) (hl : parts.length = fs.size)
    (h : ∀ (i : Nat) (fl : Field) (p : List V), fs[i]? = some fl → parts[i]? = some p → Shape P dep fl.type p) :
    ∃ a b c, parts = [a, b, c] ∧ Shape P dep f0.type a ∧ Shape P dep f1.type b ∧ Shape P dep f2.type c := by
  subst e
  match parts, hl with
  | [a, b, c], _ => exact ⟨a, b, c, rfl, h 0 f0 a rfl rfl, h 1 f1 b rfl rfl, h 2 f2 c rfl rfl⟩
theorem parts7 {P : Program} {dep : Nat} {fs : Array Field} {parts : List (List V)} {f0 f1 f2 f3 f4 f5 f6 : Field} (e : fs = #[f0, f1, f2, f3, f4, f5, f6]) (hl : parts.length = fs.size)
    (h : ∀ (i : Nat) (fl : Field) (p : List V), fs[i]? = some fl → parts[i]? = some p → Shape P dep fl.type p) :
    ∃ a b c d e f g, parts = [a, b, c, d, e, f, g] ∧ Shape P dep f0.type a ∧ Shape P dep f1.type b ∧ Shape P dep f2.type c ∧ Shape P dep f3.type d ∧ Shape P dep f4.type e ∧ Shape P dep f5.type f ∧ Shape P dep f6.type g := by
  subst e
  match parts, hl with
  | [a, b, c, d, e, f, g], _ => exact ⟨a, b, c, d, e, f, g, rfl, h 0 f0 a rfl rfl, h 1 f1 b rfl rfl, h 2 f2 c rfl rfl, h 3 f3 d rfl rfl, h 4 f4 e rfl rfl, h 5 f5 f rfl rfl, h 6 f6 g rfl rfl⟩
theorem sh_graph0 {dep : Nat} {el : List V} (h : Shape Try.prog (dep + 4) 22 el) : ∃ g : List Nd, el = [.list 2 (gv g)] := by
  unfold Shape at h
  rw [Try.underlying22] at h
  obtain ⟨els, hx, _, hb⟩ := h
  have e1 : Try.prog.cellsOf 42 = 2 := by kernel_rfl
  have e2 : aggT Try.prog 42 = some true := by kernel_rfl
  rw [e1] at hx
  obtain ⟨m, hm⟩ := sh_els (f := Nd.v) (fun el hel => by
    obtain ⟨n, rfl⟩ := sh_nd hel
    exact ⟨n, by simp [elemD, e2, Nd.v]⟩) els hb
  rw [hm] at hx
  exact ⟨m, hx⟩
theorem sh_int {dep : Nat} {x : V} (h : ArgShape Try.prog (dep + 1) 3 x) : ∃ n : Int, x = .s (.int .i64 n) := by
  unfold ArgShape at h
  rw [Try.underlying3] at h
  simp only at h
  obtain ⟨n, hn⟩ := sh_int0 h
  exact ⟨n, by simpa using hn⟩
theorem sh_byte {dep : Nat} {x : V} (h : ArgShape Try.prog (dep + 1) 5 x) : ∃ n : UInt8, x = .s (.int .u8 n.toNat) := by
  unfold ArgShape at h
  rw [Try.underlying5] at h
  simp only at h
  unfold Shape at h
  rw [Try.underlying5] at h
  obtain ⟨n, hn, hx⟩ := h
  have hb : 0 ≤ n ∧ n ≤ 255 := by simpa [Lit.wf, IntKind.min, IntKind.max, IntKind.signed, IntKind.bits] using hn
  have : ((UInt8.ofNat n.toNat).toNat : Int) = n := by rw [UInt8.toNat_ofNat_of_lt' (by simp; omega)]; omega
  exact ⟨UInt8.ofNat n.toNat, by rw [this]; simpa using hx⟩
theorem sh_ints {dep : Nat} {x : V} (h : ArgShape Try.prog (dep + 2) 25 x) : ∃ l : List Int, x = .list 1 (iv l) := by
  unfold ArgShape at h
  rw [Try.underlying25] at h
  simp only at h
  obtain ⟨l, hl⟩ := sh_ints0 h
  exact ⟨l, by simpa using hl⟩
theorem sh_graph {dep : Nat} {x : V} (h : ArgShape Try.prog (dep + 4) 22 x) : ∃ g : List Nd, x = .list 2 (gv g) := by
  unfold ArgShape at h
  rw [Try.underlying22] at h
  simp only at h
  obtain ⟨l, hl⟩ := sh_graph0 h
  exact ⟨l, by simpa using hl⟩
end Go.Proofs.Ytcjmbkbbhlmkfaa

namespace Go.Proofs.Ytcjmbkbbhlmkfaa
open Go.RowKit Go.Proofs

theorem d0_sm : d0.sm := ⟨by simp [d0], by simp [d0], by simp [d0], by simp [d0], by simp [d0], by simp [d0], by simp [d0]⟩
set_option maxHeartbeats 16000000 in
set_option maxRecDepth 10000 in
theorem DiffuseOrder_pc (l one two : List Int) (b : UInt8) : PC Try.prog 5 [.list 1 (iv l), .list 1 (iv one), .list 1 (iv two), .s (.int .u8 b.toNat)] (fun r => r = .s (.bool true)) := by
  refine pc_end c5 mixed rfl ?_
  simp -implicitDefEqProofs [a5, F5]
  by_cases s1 : l.length ≤ 120
  case neg =>
    have s1' : (l.length : Int) > 120 := by omega
    simp -implicitDefEqProofs [s1']
    refine wk_take ?_
    simp -implicitDefEqProofs
    refine wc_of awake_pc (by simp) (by simp) ?_
    rintro _ rfl
    simp -implicitDefEqProofs
  have s1' : ¬ (l.length : Int) > 120 := by omega
  by_cases s2 : one.length ≤ 200
  case neg =>
    have s2' : (one.length : Int) > 200 := by omega
    simp -implicitDefEqProofs [s1', s2']
    refine wk_take ?_
    simp -implicitDefEqProofs
    refine wc_of awake_pc (by simp) (by simp) ?_
    rintro _ rfl
    simp -implicitDefEqProofs
  have s2' : ¬ (one.length : Int) > 200 := by omega
  by_cases s3 : two.length ≤ 200
  case neg =>
    have s3' : (two.length : Int) > 200 := by omega
    simp -implicitDefEqProofs [s1', s2', s3']
    refine wk_take ?_
    simp -implicitDefEqProofs
    refine wc_of awake_pc (by simp) (by simp) ?_
    rintro _ rfl
    simp -implicitDefEqProofs
  have s3' : ¬ (two.length : Int) > 200 := by omega
  simp -implicitDefEqProofs [s1', s2', s3']
  refine wk_take ?_
  simp -implicitDefEqProofs
  refine wc_of (graph_pc l false (by omega)) (by simp) (by simp) ?_
  rintro _ ⟨G, rfl, hG, hG1, hG8, _⟩
  have hb := b.toNat_lt
  have hw : IntKind.i64.wrap ((b.toNat : Nat) : Int) = b.toNat := wrap64 (by omega)
  have hm : ((b.toNat : Nat) : Int).tmod (G.length : Nat) = ((b.toNat % G.length : Nat) : Int) := rfl
  generalize hi : b.toNat % G.length = i at hm
  have hiN : i < G.length := by rw [← hi]; exact Nat.mod_lt _ (by omega)
  have hne : ¬ G = [] := fun e => by subst e; simp at hG1
  simp -implicitDefEqProofs [hw, hm, hne]
  refine wk_take ?_
  simp -implicitDefEqProofs
  refine wc_of (play_pc G i one hG hG8 (by omega)) (by simp) (by simp) ?_
  rintro _ ⟨p0, p1⟩
  by_cases he : begE G i = 0
  case neg =>
    rw [p0 he]
    simp -implicitDefEqProofs [Df.v, Df.cells]
    refine wk_take ?_
    simp -implicitDefEqProofs
    refine wc_of (play_pc G i two hG hG8 (by omega)) (by simp) (by simp) ?_
    rintro _ ⟨r0, _⟩
    rw [r0 he]
    simp -implicitDefEqProofs [Df.v, Df.cells]
    refine wk_take ?_
    simp -implicitDefEqProofs
    refine wc_of awake_pc (by simp) (by simp) ?_
    rintro _ rfl
    simp -implicitDefEqProofs
    refine wk_take ?_
    simp -implicitDefEqProofs
    refine wc_of (SameBools_pc d0.eng d0.eng (by simp [d0])) (by simp) (by simp) ?_
    rintro _ rfl
    simp -implicitDefEqProofs
  obtain ⟨c, n, hF, rfl⟩ := p1 he
  simp -implicitDefEqProofs [Df.v, Df.cells]
  refine wk_take ?_
  simp -implicitDefEqProofs
  refine wc_of (play_pc G i two hG hG8 (by omega)) (by simp) (by simp) ?_
  rintro _ ⟨_, r1⟩
  obtain ⟨c2, n2, hF2, rfl⟩ := r1 he
  obtain ⟨hd, hee⟩ := hF.uniq hF2
  have hsm := (hF.sm hG8).eng
  simp -implicitDefEqProofs [Df.v, Df.cells, hd, hee]
  refine wk_take ?_
  simp -implicitDefEqProofs
  refine wc_of awake_pc (by simp) (by simp) ?_
  rintro _ rfl
  simp -implicitDefEqProofs
  refine wk_take ?_
  simp -implicitDefEqProofs
  refine wc_of (SameBools_pc c2.eng c2.eng (by rw [← hee]; exact hsm)) (by simp) (by simp) ?_
  rintro _ rfl
  simp -implicitDefEqProofs
end Go.Proofs.Ytcjmbkbbhlmkfaa
