/- chase: the law ChaseActs. -/
import Derived.Test.YtbbhenjhghbimaaZM
set_option linter.unusedVariables false
set_option linter.unusedSimpArgs false
namespace Go.Proofs.Ytbbhenjhghbimaa
open Go.RowKit Go.Proofs

theorem chE_sm {G : List Nd} {b : Ch} {m : Nat} (h : Few G b m) (hG : gOk G = true) (hG8 : G.length ≤ 8) (hm : m ≤ 1000) (e : Int) : (chE e b).sm := by
  unfold chE
  split
  · exact h.sm hG hG8 hm
  · exact ⟨by simp [ch0], by simp [ch0], by simp [ch0], by simp [ch0]⟩
theorem Few.mono {G : List Nd} {b : Ch} {m m' : Nat} (h : Few G b m) (hm : m ≤ m') : Few G b m' := ⟨h.g, h.seen, Nat.le_trans h.ps hm⟩
def acIn (g : List Nd) (c : Ch) (k : Int) (l order : List Int) (G : List Nd) (i f : Int) (m : Nat) (S : St) : Prop := ∃ (j : Nat) (e : Int) (a b : Ch), j + m = order.length ∧ (f = 0 → Few G b (8 + 8 * j)) ∧
  S = ⟨tmL [(6, .ptr 0 0), (13, .ptr 1 0), (15, .ptr 2 0), (91, .list 1 (iv order)), (92, .s (.int .i64 order.length)), (93, .s (.int .i64 j))],
    [.list 2 (gv g), c.v, .s (.int .i64 k), .list 1 (iv l), .list 1 (iv order), .s (.bool false), .list 2 (gv G), .s (.int .i64 i), .s (.int .i64 e), .s (.int .i64 f), .no, .no, .no, .no, .no, .no, .no], [c.cells, a.cells, b.cells], 0⟩
def acOut (g : List Nd) (c : Ch) (k : Int) (l order : List Int) (G : List Nd) (m : Nat) (S : St) : Prop := ∃ (i : Int), -1 ≤ i ∧ i ≤ G.length + 1 ∧ m = (G.length + 1 - i).toNat ∧
  S = ⟨tmL [(6, .ptr 0 0)], [.list 2 (gv g), c.v, .s (.int .i64 k), .list 1 (iv l), .list 1 (iv order), .s (.bool false), .list 2 (gv G), .s (.int .i64 i), .no, .no, .no, .no, .no, .no, .no, .no, .no], [c.cells], 0⟩
set_option maxHeartbeats 16000000 in
set_option maxRecDepth 10000 in
theorem ChaseActs_pc (g : List Nd) (c : Ch) (k : Int) (l order : List Int) : PC Try.prog 3 [.list 2 (gv g), c.v, .s (.int .i64 k), .list 1 (iv l), .list 1 (iv order)] (fun r => r = .s (.bool true)) := by
  refine pc_end c3b mixed rfl ?_
  simp -implicitDefEqProofs [a3b, F3, Ch.v, Ch.cells]
  refine wk_take ?_
  simp -implicitDefEqProofs
  refine wc_of (small_pc g) (by simp) (by simp) ?_
  rintro _ rfl
  by_cases s1 : smallG g = true
  case neg =>
    have s1 : smallG g = false := by simpa using s1
    simp -implicitDefEqProofs [s1]
    refine wk_take ?_
    simp -implicitDefEqProofs
    refine wc_of awake_pc (by simp) (by simp) ?_
    rintro _ rfl
    simp -implicitDefEqProofs
  simp -implicitDefEqProofs [s1]
  refine wk_take ?_
  simp -implicitDefEqProofs
  refine wc_of (small_pc c.g) (by simp) (by simp) ?_
  rintro _ rfl
  by_cases s2 : smallG c.g = true
  case neg =>
    have s2 : smallG c.g = false := by simpa using s2
    simp -implicitDefEqProofs [s2]
    refine wk_take ?_
    simp -implicitDefEqProofs
    refine wc_of awake_pc (by simp) (by simp) ?_
    rintro _ rfl
    simp -implicitDefEqProofs
  by_cases s3 : c.ps.length ≤ 100
  case neg =>
    have s3' : (c.ps.length : Int) > 100 := by omega
    simp -implicitDefEqProofs [s2, s3']
    refine wk_take ?_
    simp -implicitDefEqProofs
    refine wc_of awake_pc (by simp) (by simp) ?_
    rintro _ rfl
    simp -implicitDefEqProofs
  have s3' : ¬ (c.ps.length : Int) > 100 := by omega
  by_cases s4 : c.seen.length ≤ 40
  case neg =>
    have s4' : (c.seen.length : Int) > 40 := by omega
    simp -implicitDefEqProofs [s2, s3', s4']
    refine wk_take ?_
    simp -implicitDefEqProofs
    refine wc_of awake_pc (by simp) (by simp) ?_
    rintro _ rfl
    simp -implicitDefEqProofs
  have s4' : ¬ (c.seen.length : Int) > 40 := by omega
  by_cases s5 : l.length ≤ 120
  case neg =>
    have s5' : (l.length : Int) > 120 := by omega
    simp -implicitDefEqProofs [s2, s3', s4', s5']
    refine wk_take ?_
    simp -implicitDefEqProofs
    refine wc_of awake_pc (by simp) (by simp) ?_
    rintro _ rfl
    simp -implicitDefEqProofs
  have s5' : ¬ (l.length : Int) > 120 := by omega
  by_cases s6 : order.length ≤ 60
  case neg =>
    have s6' : (order.length : Int) > 60 := by omega
    simp -implicitDefEqProofs [s2, s3', s4', s5', s6']
    refine wk_take ?_
    simp -implicitDefEqProofs
    refine wc_of awake_pc (by simp) (by simp) ?_
    rintro _ rfl
    simp -implicitDefEqProofs
  have s6' : ¬ (order.length : Int) > 60 := by omega
  have hcs := smallG_of s2
  have hgs := smallG_of s1
  have csm : c.sm := ⟨by omega, fun n hn => by have := hcs.2 n hn; omega, by omega, by omega⟩
  simp -implicitDefEqProofs [s2, s3', s4', s5', s6']
  refine wk_take ?_
  simp -implicitDefEqProofs
  refine wc_of (graph_pc l false (by omega)) (by simp) (by simp) ?_
  rintro _ ⟨G, rfl, hG, hG1, hG8, _⟩
  have hGn : ∀ n ∈ G, n.next.length ≤ 1000000 := fun n hn => by have := gOk_next hG hn; omega
  simp -implicitDefEqProofs
  refine w_rounds [6] [8, 9, 10, 11, 12] 1 (by simp) (acOut g c k l order G) (G.length + 2) ⟨by simp, -1, by omega, by omega, by omega, by simp [Ch.v, Ch.cells]⟩ ?_
  rintro m S ⟨i, hi1, hi2, rfl, rfl⟩
  by_cases hi : i ≤ G.length
  · have hwi : IntKind.i64.wrap (i + 1) = i + 1 := wrap64 (by omega)
    have next : ∃ m' : Nat, (m' : Int) < G.length + 1 - i ∧ acOut g c k l order G m' ⟨tmL [(6, .ptr 0 0)], [.list 2 (gv g), c.v, .s (.int .i64 k), .list 1 (iv l), .list 1 (iv order), .s (.bool false), .list 2 (gv G), .s (.int .i64 (IntKind.i64.wrap (i + 1))), .no, .no, .no, .no, .no, .no, .no, .no, .no], [c.cells], 0⟩ :=
      ⟨(G.length + 1 - (i + 1)).toNat, by omega, i + 1, by omega, by omega, rfl, by rw [hwi]⟩
    have hF := Few.begin i hG hG8
    have hb := chE_sm hF hG hG8 (by omega) (begE G i)
    have hst : begE G i = 0 → Few G (chE (begE G i) (begC G i)) 8 := fun q => by rw [chE, if_pos q]; exact hF
    clear hF
    simp -implicitDefEqProofs [Ch.v, Ch.cells, hi]
    refine wk_take ?_
    simp -implicitDefEqProofs
    refine wc_of (Begin_pl G i (by omega) hGn) (by simp) (by simp) ?_
    rintro _ rfl
    simp -implicitDefEqProofs [resP, Ch.v, Ch.cells]
    refine wk_take ?_
    simp -implicitDefEqProofs
    refine wc_of (rBegin_pl G i (by omega) hGn) (by simp) (by simp) ?_
    rintro _ rfl
    simp -implicitDefEqProofs [resP, Ch.v, Ch.cells]
    revert hb hst
    generalize chE (begE G i) (begC G i) = b0
    generalize begE G i = f
    intro hb hst
    refine wk_take ?_
    simp -implicitDefEqProofs
    refine wc_of (Same_pc b0 b0 hb) (by simp [Ch.v, Ch.cells]) (by simp [Ch.v, Ch.cells]) ?_
    rintro _ rfl
    simp -implicitDefEqProofs
    refine w_rounds [6, 13, 15, 91, 92, 93] [10, 11, 12] 3 (by simp) (acIn g c k l order G i f) order.length ⟨by simp, 0, f, b0, b0, by simp, hst, by simp [Ch.v, Ch.cells]⟩ ?_
    clear hst hb
    rintro m S ⟨j, e, a, b, hjm, hF, rfl⟩
    by_cases hj : j < order.length
    · have j1 : (j : Int) < order.length := by omega
      have j0 : ¬ (j : Int) < 0 := by omega
      cases hf : (f != 0)
      case' true =>
        simp -implicitDefEqProofs [Ch.v, Ch.cells, j1, j0, iv_get hj, hf]
        exact next
      have hf' : f = 0 := by simpa using hf
      subst hf'
      have hF := hF rfl
      have hb := hF.sm hG hG8 (by omega)
      have hpl := hb.ps
      have wl : IntKind.i64.wrap ((b.ps.length : Int) + 1) = (b.ps.length : Int) + 1 := wrap64 (by omega)
      cases hps : (((b.ps.length : Nat) : Int) == 0)
      case' true =>
        simp -implicitDefEqProofs [Ch.v, Ch.cells, j1, j0, iv_get hj, hps]
        exact next
      simp -implicitDefEqProofs [Ch.v, Ch.cells, j1, j0, iv_get hj, hps, wl]
      refine wk_take ?_
      simp -implicitDefEqProofs
      refine wc_of (Mod_pc order[j] ((b.ps.length : Int) + 1) (by omega) (by omega)) (by simp) (by simp) ?_
      rintro _ rfl
      generalize order[j] % ((b.ps.length : Int) + 1) = n
      simp -implicitDefEqProofs
      refine wk_take ?_
      simp -implicitDefEqProofs
      refine wc_of (Step_pl b n hb) (by simp [Ch.v, Ch.cells]) (by simp [Ch.v, Ch.cells]) ?_
      rintro _ rfl
      simp -implicitDefEqProofs [resP, Ch.v, Ch.cells]
      refine wk_take ?_
      simp -implicitDefEqProofs
      refine wc_of (rStep_pl b n hb) (by simp [Ch.v, Ch.cells]) (by simp [Ch.v, Ch.cells]) ?_
      rintro _ rfl
      simp -implicitDefEqProofs [resP, Ch.v, Ch.cells]
      have hF2 := hF.step hG hG8 n.toNat
      have hd := chE_sm hF2 hG hG8 (by omega) (stepE b n)
      have hst : stepE b n = 0 → Few G (chE (stepE b n) (stepC b n.toNat)) (8 + 8 * j + 8) := fun q => by rw [chE, if_pos q]; exact hF2
      clear hF2
      revert hd hst
      generalize chE (stepE b n) (stepC b n.toNat) = d
      generalize stepE b n = h
      intro hd hst
      refine wkd_take ?_
      simp -implicitDefEqProofs
      refine wcd_of (Same_pc d d hd) (by simp [Ch.v, Ch.cells]) (by simp [Ch.v, Ch.cells]) ?_
      simp -implicitDefEqProofs
      refine wkd_take ?_
      simp -implicitDefEqProofs
      refine wcd_of (Over_pc b hb) (by simp [Ch.v, Ch.cells]) (by simp [Ch.v, Ch.cells]) ?_
      simp -implicitDefEqProofs
      refine wkd_take ?_
      simp -implicitDefEqProofs
      refine wcd_of (rOver_pc b hb) (by simp [Ch.v, Ch.cells]) (by simp [Ch.v, Ch.cells]) ?_
      have wj : IntKind.i64.wrap ((j : Int) + 1) = ((j + 1 : Nat) : Int) := by rw [wrap64 (by omega)]; rfl
      cases hh : (h == 0)
      · simp -implicitDefEqProofs [hh]
        exact ⟨m - 1, by omega, j + 1, h, d, b, by omega, fun _ => hF.mono (by omega), by rw [wj]; rfl⟩
      · simp -implicitDefEqProofs [hh]
        exact ⟨m - 1, by omega, j + 1, h, d, d, by omega, fun _ => (hst (eq_of_beq hh)).mono (by omega), by rw [wj]; rfl⟩
    · have j1 : ¬ (j : Int) < order.length := by omega
      simp -implicitDefEqProofs [Ch.v, Ch.cells, j1]
      exact next
  · simp -implicitDefEqProofs [Ch.v, Ch.cells, hi]
    have hgn : ∀ n ∈ g, n.next.length ≤ 1000000 := fun n hn => by have := hgs.2 n hn; omega
    have hsb : (chE (begE g k) (begC g k)).sm := by
      unfold chE
      split
      · have hx : ((nodeAt g k).next).length ≤ 1000000 := by
          by_cases hk : k.toNat < g.length
          · rw [nodeAt, List.getD_eq_getElem?_getD, List.getElem?_eq_getElem hk]; exact hgn _ (List.getElem_mem hk)
          · rw [nodeAt, List.getD_eq_getElem?_getD, List.getElem?_eq_none (by omega)]; simp
        exact ⟨by simp [begC]; omega, by simpa [begC] using hgn, by simpa [begC] using hx, by simp [begC]; omega⟩
      · exact ⟨by simp [ch0], by simp [ch0], by simp [ch0], by simp [ch0]⟩
    have hsd : (chE (stepE c k) (stepC c k.toNat)).sm := by
      unfold chE
      split
      · have hx : ((nodeAt c.g (toAt c.ps k.toNat)).next).length ≤ 30 := by
          by_cases hk : (toAt c.ps k.toNat).toNat < c.g.length
          · rw [nodeAt, List.getD_eq_getElem?_getD, List.getElem?_eq_getElem hk]; exact hcs.2 _ (List.getElem_mem hk)
          · rw [nodeAt, List.getD_eq_getElem?_getD, List.getElem?_eq_none (by omega)]; simp
        have hc : (cut c.ps k.toNat).length ≤ c.ps.length := by simp only [cut, List.length_append, List.length_take, List.length_drop]; omega
        unfold stepC
        split
        · exact ⟨csm.g, csm.nx, by simp; omega, csm.seen⟩
        · split
          · exact ⟨csm.g, csm.nx, by simp; omega, by simp; exact csm.seen⟩
          · exact ⟨csm.g, csm.nx, by simp; omega, csm.seen⟩
      · exact ⟨by simp [ch0], by simp [ch0], by simp [ch0], by simp [ch0]⟩
    refine wk_take ?_
    simp -implicitDefEqProofs
    refine wc_of (Begin_pl g k (by omega) hgn) (by simp) (by simp) ?_
    rintro _ rfl
    simp -implicitDefEqProofs [resP, Ch.v, Ch.cells]
    refine wk_take ?_
    simp -implicitDefEqProofs
    refine wc_of (rBegin_pl g k (by omega) hgn) (by simp) (by simp) ?_
    rintro _ rfl
    simp -implicitDefEqProofs [resP, Ch.v, Ch.cells]
    revert hsb
    generalize chE (begE g k) (begC g k) = b
    generalize begE g k = e
    intro hsb
    refine wk_take ?_
    simp -implicitDefEqProofs
    refine wc_of (Step_pl c k csm) (by simp [Ch.v, Ch.cells]) (by simp [Ch.v, Ch.cells]) ?_
    rintro _ rfl
    simp -implicitDefEqProofs [resP, Ch.v, Ch.cells]
    refine wk_take ?_
    simp -implicitDefEqProofs
    refine wc_of (rStep_pl c k csm) (by simp [Ch.v, Ch.cells]) (by simp [Ch.v, Ch.cells]) ?_
    rintro _ rfl
    simp -implicitDefEqProofs [resP, Ch.v, Ch.cells]
    revert hsd
    generalize chE (stepE c k) (stepC c k.toNat) = d
    generalize stepE c k = q
    intro hsd
    refine wkd_take ?_
    simp -implicitDefEqProofs
    refine wcd_of awake_pc (by simp) (by simp) ?_
    simp -implicitDefEqProofs
    refine wkd_take ?_
    simp -implicitDefEqProofs
    refine wcd_of (Same_pc b b hsb) (by simp [Ch.v, Ch.cells]) (by simp [Ch.v, Ch.cells]) ?_
    simp -implicitDefEqProofs
    refine wkd_take ?_
    simp -implicitDefEqProofs
    refine wcd_of (Same_pc d d hsd) (by simp [Ch.v, Ch.cells]) (by simp [Ch.v, Ch.cells]) ?_
    simp -implicitDefEqProofs
    refine wkd_take ?_
    simp -implicitDefEqProofs
    refine wcd_of (Valid_pc c csm) (by simp [Ch.v, Ch.cells]) (by simp [Ch.v, Ch.cells]) ?_
    simp -implicitDefEqProofs
    refine wkd_take ?_
    simp -implicitDefEqProofs
    refine wcd_of (rValid_pc c csm) (by simp [Ch.v, Ch.cells]) (by simp [Ch.v, Ch.cells]) ?_
    simp -implicitDefEqProofs
    refine wkd_take ?_
    simp -implicitDefEqProofs
    refine wcd_of (Over_pc c csm) (by simp [Ch.v, Ch.cells]) (by simp [Ch.v, Ch.cells]) ?_
    simp -implicitDefEqProofs
    refine wkd_take ?_
    simp -implicitDefEqProofs
    refine wcd_of (rOver_pc c csm) (by simp [Ch.v, Ch.cells]) (by simp [Ch.v, Ch.cells]) ?_
    simp -implicitDefEqProofs
end Go.Proofs.Ytbbhenjhghbimaa
