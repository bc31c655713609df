/- Texts put behind one another: Q3, Q4. -/
import Derived.Test.YtcjmbkbbhlmkfaaZN
import Derived.Test.YtcjmbkbbhlmkfaaZD
set_option linter.unusedVariables false
set_option linter.unusedSimpArgs false
namespace Go.Proofs.Ytcjmbkbbhlmkfaa
open Go.RowKit Go.Proofs

theorem any_take {out : List Int} {q : Nat} (h : q < out.length) (f : Int → Bool) : (out.take (q + 1)).any f = ((out.take q).any f || f out[q]) := by
  rw [List.take_succ_eq_append_getElem h, List.any_append]; simp
theorem edgs_take {g : List Nd} {q : Nat} (h : q < g.length) : edgs (g.take (q + 1)) = edgs (g.take q) + (nodeAt g (q : Int)).next.length := by
  rw [List.take_succ_eq_append_getElem h, node_getElem h]
  simp [edgs]
theorem edgs_take_le (g : List Nd) (q : Nat) : edgs (g.take q) ≤ edgs g := by
  have h : edgs (g.take q ++ g.drop q) = edgs (g.take q) + edgs (g.drop q) := by unfold edgs; rw [List.map_append, List.sum_append]
  rw [List.take_append_drop] at h
  omega
def f4a (l o : List Int) (st : Int) (G : List Nd) (i : Nat) (n : Nat) (d : Df) (m : Nat) (S : St) : Prop := ∃ q, q + m = G.length ∧
  S = ⟨tmL [(9, .ptr 0 0), (53, .list 2 (gv G)), (54, .s (.int .i64 G.length)), (55, .s (.int .i64 (q : Nat)))], [.list 1 (iv l), .list 1 (iv o), .s (.int .u8 st), .s (.bool false), .list 2 (gv G), .s (.int .i64 i), .s (.int .i64 n), .s (.bool true), .s (.int .i64 (edgs (G.take q) : Nat)), .s (.bool false), .no], [d.cells], 0⟩
def f4b (l o : List Int) (st : Int) (G : List Nd) (i : Nat) (n : Nat) (d : Df) (out : List Int) (m : Nat) (S : St) : Prop := ∃ q, q + m = out.length ∧
  S = ⟨tmL [(9, .ptr 0 0), (67, .list 1 (iv out)), (68, .s (.int .i64 out.length)), (69, .s (.int .i64 (q : Nat)))], [.list 1 (iv l), .list 1 (iv o), .s (.int .u8 st), .s (.bool false), .list 2 (gv G), .s (.int .i64 i), .s (.int .i64 n), .s (.bool true), .s (.int .i64 (edgs G : Nat)), .s (.bool ((out.take q).any fun x => (nodeAt G x).k == 0)), .no], [d.cells], 0⟩
set_option maxHeartbeats 16000000 in
set_option maxRecDepth 10000 in
theorem DiffuseFinds_pc (l o : List Int) (b : UInt8) : PC Try.prog 4 [.list 1 (iv l), .list 1 (iv o), .s (.int .u8 b.toNat)] (fun r => r = .s (.bool true)) := by
  refine pc_end c4 mixed rfl ?_
  simp -implicitDefEqProofs [a4, F4]
  by_cases s1 : l.length ≤ 120
  case neg =>
    have s1' : (l.length : Int) > 120 := by omega
    simp -implicitDefEqProofs [s1']
    refine wk_take ?_
    simp -implicitDefEqProofs
    refine wc_of awake_pc (by simp) (by simp) ?_
    rintro _ rfl
    simp -implicitDefEqProofs
  have s1' : ¬ (l.length : Int) > 120 := by omega
  by_cases s2 : o.length ≤ 200
  case neg =>
    have s2' : (o.length : Int) > 200 := by omega
    simp -implicitDefEqProofs [s1', s2']
    refine wk_take ?_
    simp -implicitDefEqProofs
    refine wc_of awake_pc (by simp) (by simp) ?_
    rintro _ rfl
    simp -implicitDefEqProofs
  have s2' : ¬ (o.length : Int) > 200 := by omega
  simp -implicitDefEqProofs [s1', s2']
  refine wk_take ?_
  simp -implicitDefEqProofs
  refine wc_of (graph_pc l false (by omega)) (by simp) (by simp) ?_
  rintro _ ⟨G, rfl, hG, hG1, hG8, _⟩
  have hGn : ∀ n ∈ G, n.next.length ≤ 1000000 := fun n hn => by have := gOk_next hG hn; omega
  have hb := b.toNat_lt
  have hw : IntKind.i64.wrap ((b.toNat : Nat) : Int) = b.toNat := wrap64 (by omega)
  have hm : ((b.toNat : Nat) : Int).tmod (G.length : Nat) = ((b.toNat % G.length : Nat) : Int) := rfl
  have hne : ¬ G = [] := fun e => by subst e; simp at hG1
  have hiN : b.toNat % G.length < G.length := Nat.mod_lt _ (by omega)
  revert hm hiN
  generalize b.toNat % G.length = i
  intro hm hiN
  have hiN' : (i : Int) < G.length := by omega
  have i0 : ¬ (i : Int) < 0 := by omega
  have i0' : (0 : Int) ≤ i := by omega
  have gi := gv_ateN hiN
  simp -implicitDefEqProofs [hw, hm, hne]
  refine wk_take ?_
  simp -implicitDefEqProofs
  refine wc_of (play_pc G i o hG hG8 (by omega)) (by simp) (by simp) ?_
  rintro _ ⟨hp0, hp1⟩
  cases hk0 : ((nodeAt G (i : Nat)).k == 0)
  case' true =>
    have hk0' : (nodeAt G (i : Nat)).k = 0 := eq_of_beq hk0
    have he : begE G i ≠ 0 := by
      unfold begE
      rw [if_neg (by simp [hG]), if_neg (by omega), if_pos hk0']
      decide
    rw [hp0 he]
    simp -implicitDefEqProofs [Df.v, Df.cells, i0, hiN, gi, hk0]
    refine wk_take ?_
    simp -implicitDefEqProofs
    refine wc_of awake_pc (by simp) (by simp) ?_
    rintro _ rfl
    simp -implicitDefEqProofs
  have hk0' : (nodeAt G (i : Nat)).k ≠ 0 := by simpa using hk0
  have he : begE G i = 0 := by
    unfold begE
    rw [if_neg (by simp [hG]), if_neg (by omega), if_neg hk0']
  obtain ⟨d, n, hF, rfl⟩ := hp1 he
  have h64 := edgs_64 hG hG8
  simp -implicitDefEqProofs [Df.v, Df.cells, i0, hiN, gi, hk0]
  refine w_rounds [9, 53, 54, 55] [10] 1 (by simp) (f4a l o b.toNat G i n d) G.length ⟨by simp, 0, by omega, by simp [Df.cells, edgs]⟩ ?_
  rintro m S ⟨q, hqm, rfl⟩
  by_cases hq : q < G.length
  · have hq' : (q : Int) < G.length := by omega
    have q0 : ¬ (q : Int) < 0 := by omega
    have wq : IntKind.i64.wrap ((q : Int) + 1) = ((q + 1 : Nat) : Int) := by rw [wrap64 (by omega)]; rfl
    have gq := gv_ateN hq
    have hle := edgs_take_le G q
    have hnx := nodeAt_next hG (q : Int)
    have we : IntKind.i64.wrap (((edgs (G.take q) : Nat) : Int) + ((nodeAt G (q : Int)).next.length : Nat)) = ((edgs (G.take (q + 1)) : Nat) : Int) := by rw [wrap64 (by omega), edgs_take hq]; omega
    simp -implicitDefEqProofs [Df.cells, hq, q0, gq, wq, we]
    exact ⟨m - 1, by omega, q + 1, by omega, by simp [Df.cells]⟩
  have htk : G.take q = G := List.take_of_length_le (by omega)
  simp -implicitDefEqProofs [Df.cells, hq, htk]
  clear hq htk hqm
  refine wk_take ?_
  simp -implicitDefEqProofs
  refine wc_of (reach_pc G i hG (by omega) hiN) (by simp) (by simp) ?_
  rintro _ ⟨out, rfl, hol, hout⟩
  simp -implicitDefEqProofs
  refine w_rounds [9, 67, 68, 69] [10] 1 (by simp) (f4b l o b.toNat G i n d out) out.length ⟨by simp, 0, by omega, by simp [Df.cells]⟩ ?_
  rintro m S ⟨q, hqm, rfl⟩
  by_cases hq : q < out.length
  · have hq' : (q : Int) < out.length := by omega
    have q0 : ¬ (q : Int) < 0 := by omega
    have wq : IntKind.i64.wrap ((q : Int) + 1) = ((q + 1 : Nat) : Int) := by rw [wrap64 (by omega)]; rfl
    have gq := iv_gete hq
    have hob := Rea.bd hG ((hout out[q]).1 (List.getElem_mem hq))
    have o0 : ¬ out[q] < 0 := by omega
    have o1 : out[q].toNat < G.length := by omega
    have go := gv_ate (g := G) (i := out[q]) hob.1 o1
    have ht := any_take hq (fun x => (nodeAt G x).k == 0)
    cases ha : (out.take q).any (fun x => (nodeAt G x).k == 0)
    · simp -implicitDefEqProofs [Df.cells, hq, q0, gq, ha, wq, o0, o1, go]
      exact ⟨m - 1, by omega, q + 1, by omega, by rw [ht, ha]; simp [Df.cells]⟩
    · simp -implicitDefEqProofs [Df.cells, hq, q0, gq, ha, wq]
      exact ⟨m - 1, by omega, q + 1, by omega, by rw [ht, ha]; simp [Df.cells]⟩
  have htk : out.take q = out := List.take_of_length_le (by omega)
  have hdec : d.dec = !(out.any fun x => (nodeAt G x).k == 0) := by
    rw [Bool.eq_iff_iff, hF.dec, Bool.not_eq_true', ← Bool.not_eq_true, List.any_eq_true]
    constructor
    · rintro h ⟨x, hx, e⟩
      exact h x ((hout x).1 hx) (eq_of_beq e)
    · intro h x hx e
      exact h ⟨x, (hout x).2 hx, by simpa using e⟩
  have hml := hF.ml
  have hcn := hF.cnt
  have w2 : IntKind.i64.wrap (2 * ((edgs G : Nat) : Int)) = 2 * (edgs G : Nat) := wrap64 (by omega)
  have hle : (n : Int) ≤ 2 * (edgs G : Nat) := by omega
  simp -implicitDefEqProofs [Df.cells, hq, htk]
  refine wk_take ?_
  simp -implicitDefEqProofs
  refine wc_of awake_pc (by simp) (by simp) ?_
  rintro _ rfl
  simp -implicitDefEqProofs [hml, w2, hle, hdec, mv]
end Go.Proofs.Ytcjmbkbbhlmkfaa

namespace Go.Proofs.Ytcjmbkbbhlmkfaa
open Go.RowKit Go.Proofs

def f6a (l o : List Int) (st : Int) (G : List Nd) (i : Nat) (n : Nat) (d : Df) (out : List Int) (m : Nat) (S : St) : Prop := ∃ q, q + m = out.length ∧
  S = ⟨tmL [(9, .ptr 0 0), (47, .list 1 (iv out)), (48, .s (.int .i64 out.length)), (49, .s (.int .i64 (q : Nat)))], [.list 1 (iv l), .list 1 (iv o), .s (.int .u8 st), .s (.bool false), .list 2 (gv G), .s (.int .i64 i), .s (.int .i64 n), .s (.bool true), .s (.bool ((out.take q).any (· == (i : Int)))), .no], [d.cells], 0⟩
set_option maxHeartbeats 16000000 in
set_option maxRecDepth 10000 in
theorem DiffuseStuck_pc (l o : List Int) (b : UInt8) : PC Try.prog 6 [.list 1 (iv l), .list 1 (iv o), .s (.int .u8 b.toNat)] (fun r => r = .s (.bool true)) := by
  refine pc_end c6 mixed rfl ?_
  simp -implicitDefEqProofs [a6, F6]
  by_cases s1 : l.length ≤ 120
  case neg =>
    have s1' : (l.length : Int) > 120 := by omega
    simp -implicitDefEqProofs [s1']
    refine wk_take ?_
    simp -implicitDefEqProofs
    refine wc_of awake_pc (by simp) (by simp) ?_
    rintro _ rfl
    simp -implicitDefEqProofs
  have s1' : ¬ (l.length : Int) > 120 := by omega
  by_cases s2 : o.length ≤ 200
  case neg =>
    have s2' : (o.length : Int) > 200 := by omega
    simp -implicitDefEqProofs [s1', s2']
    refine wk_take ?_
    simp -implicitDefEqProofs
    refine wc_of awake_pc (by simp) (by simp) ?_
    rintro _ rfl
    simp -implicitDefEqProofs
  have s2' : ¬ (o.length : Int) > 200 := by omega
  simp -implicitDefEqProofs [s1', s2']
  refine wk_take ?_
  simp -implicitDefEqProofs
  refine wc_of (graph_pc l true (by omega)) (by simp) (by simp) ?_
  rintro _ ⟨G, rfl, hG, hG1, hG8, hall⟩
  have hall := hall rfl
  have hGn : ∀ n ∈ G, n.next.length ≤ 1000000 := fun n hn => by have := gOk_next hG hn; omega
  have hb := b.toNat_lt
  have hw : IntKind.i64.wrap ((b.toNat : Nat) : Int) = b.toNat := wrap64 (by omega)
  have hm : ((b.toNat : Nat) : Int).tmod (G.length : Nat) = ((b.toNat % G.length : Nat) : Int) := rfl
  have hne : ¬ G = [] := fun e => by subst e; simp at hG1
  have hiN : b.toNat % G.length < G.length := Nat.mod_lt _ (by omega)
  revert hm hiN
  generalize b.toNat % G.length = i
  intro hm hiN
  have hiN' : (i : Int) < G.length := by omega
  have i0 : ¬ (i : Int) < 0 := by omega
  have i0' : (0 : Int) ≤ i := by omega
  have gi := gv_ateN hiN
  cases hk0 : ((nodeAt G (i : Nat)).k == 0)
  case' true =>
    simp -implicitDefEqProofs [hw, hm, hne, i0, hiN, gi, hk0]
    refine wk_take ?_
    simp -implicitDefEqProofs
    refine wc_of awake_pc (by simp) (by simp) ?_
    rintro _ rfl
    simp -implicitDefEqProofs
  have hk0' : (nodeAt G (i : Nat)).k ≠ 0 := by simpa using hk0
  have he : begE G i = 0 := by
    unfold begE
    rw [if_neg (by simp [hG]), if_neg (by omega), if_neg hk0']
  simp -implicitDefEqProofs [hw, hm, hne, i0, hiN, gi, hk0]
  refine wk_take ?_
  simp -implicitDefEqProofs
  refine wc_of (play_pc G i o hG hG8 (by omega)) (by simp) (by simp) ?_
  rintro _ ⟨_, hp1⟩
  obtain ⟨d, n, hF, rfl⟩ := hp1 he
  simp -implicitDefEqProofs [Df.v, Df.cells]
  refine wk_take ?_
  simp -implicitDefEqProofs
  refine wc_of (stuck_pc G hG hGn) (by simp) (by simp) ?_
  rintro _ ⟨s, hsl, hcl, hls, rfl⟩
  have hsk := stuck_one hG hall hcl hls i0' hiN' hk0'
  have hmem : ((i : Int) ∈ flss s G.length) ↔ bAt s (i : Int) = false := by
    rw [mem_flss]
    exact ⟨fun h => h.2.2, fun h => ⟨i0', hiN', h⟩⟩
  have hfl := flss_len s G.length
  revert hmem hfl
  generalize flss s G.length = out
  intro hmem hfl
  simp -implicitDefEqProofs
  refine w_rounds [9, 47, 48, 49] [9] 1 (by simp) (f6a l o b.toNat G i n d out) out.length ⟨by simp, 0, by omega, by simp [Df.cells]⟩ ?_
  rintro m S ⟨q, hqm, rfl⟩
  by_cases hq : q < out.length
  · have hq' : (q : Int) < out.length := by omega
    have q0 : ¬ (q : Int) < 0 := by omega
    have wq : IntKind.i64.wrap ((q : Int) + 1) = ((q + 1 : Nat) : Int) := by rw [wrap64 (by omega)]; rfl
    have gq := iv_gete hq
    have ht := any_take hq (· == (i : Int))
    cases ha : (out.take q).any (· == (i : Int))
    · simp -implicitDefEqProofs [Df.cells, hq, q0, gq, ha, wq]
      exact ⟨m - 1, by omega, q + 1, by omega, by rw [ht, ha]; simp [Df.cells]⟩
    · simp -implicitDefEqProofs [Df.cells, hq, q0, gq, ha, wq]
      exact ⟨m - 1, by omega, q + 1, by omega, by rw [ht, ha]; simp [Df.cells]⟩
  have htk : out.take q = out := List.take_of_length_le (by omega)
  have hdec : d.dec = out.any (· == (i : Int)) := by
    rw [Bool.eq_iff_iff, hF.dec, ← hsk, ← hmem, List.any_eq_true]
    constructor
    · intro h
      exact ⟨_, h, by simp⟩
    · rintro ⟨x, hx, e⟩
      rw [← eq_of_beq e]; exact hx
  simp -implicitDefEqProofs [Df.cells, hq, htk]
  refine wk_take ?_
  simp -implicitDefEqProofs
  refine wc_of awake_pc (by simp) (by simp) ?_
  rintro _ rfl
  simp -implicitDefEqProofs [hdec]
end Go.Proofs.Ytcjmbkbbhlmkfaa
