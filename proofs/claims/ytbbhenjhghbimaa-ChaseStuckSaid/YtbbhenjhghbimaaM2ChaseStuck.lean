/- Texts put behind one another: Q2, Q3, Q4. -/
import Derived.Test.YtbbhenjhghbimaaZN
import Derived.Test.YtbbhenjhghbimaaZK
import Derived.Test.YtbbhenjhghbimaaZD
set_option linter.unusedVariables false
set_option linter.unusedSimpArgs false
namespace Go.Proofs.Ytbbhenjhghbimaa
open Go.RowKit Go.Proofs

theorem Fini.sm {G : List Nd} {i : Int} {c : Ch} {n : Nat} (h : Fini G i c n) (hG : gOk G = true) (h8 : G.length ≤ 8) : c.sm :=
  ⟨by rw [h.g]; omega, fun n hn => by rw [h.g] at hn; have := gOk_next hG hn; omega, by rw [h.ps]; simp, by rw [h.len]; omega⟩
theorem ch0_sm : ch0.sm := ⟨by simp [ch0], by simp [ch0], by simp [ch0], by simp [ch0]⟩
set_option maxHeartbeats 16000000 in
set_option maxRecDepth 10000 in
theorem ChaseOrder_pc (l one two : List Int) (b : UInt8) : PC Try.prog 5 [.list 1 (iv l), .list 1 (iv one), .list 1 (iv two), .s (.int .u8 b.toNat)] (fun r => r = .s (.bool true)) := by
  refine pc_end c5 mixed rfl ?_
  simp -implicitDefEqProofs [a5, F5]
  by_cases s1 : l.length ≤ 120
  case neg =>
    have s1' : (l.length : Int) > 120 := by omega
    simp -implicitDefEqProofs [s1']
    refine wk_take ?_
    simp -implicitDefEqProofs
    refine wc_of awake_pc (by simp) (by simp) ?_
    rintro _ rfl
    simp -implicitDefEqProofs
  have s1' : ¬ (l.length : Int) > 120 := by omega
  by_cases s2 : one.length ≤ 100
  case neg =>
    have s2' : (one.length : Int) > 100 := by omega
    simp -implicitDefEqProofs [s1', s2']
    refine wk_take ?_
    simp -implicitDefEqProofs
    refine wc_of awake_pc (by simp) (by simp) ?_
    rintro _ rfl
    simp -implicitDefEqProofs
  have s2' : ¬ (one.length : Int) > 100 := by omega
  by_cases s3 : two.length ≤ 100
  case neg =>
    have s3' : (two.length : Int) > 100 := by omega
    simp -implicitDefEqProofs [s1', s2', s3']
    refine wk_take ?_
    simp -implicitDefEqProofs
    refine wc_of awake_pc (by simp) (by simp) ?_
    rintro _ rfl
    simp -implicitDefEqProofs
  have s3' : ¬ (two.length : Int) > 100 := by omega
  simp -implicitDefEqProofs [s1', s2', s3']
  refine wk_take ?_
  simp -implicitDefEqProofs
  refine wc_of (graph_pc l false (by omega)) (by simp) (by simp) ?_
  rintro _ ⟨G, rfl, hG, hG1, hG8, _⟩
  have hb := b.toNat_lt
  have hw : IntKind.i64.wrap ((b.toNat : Nat) : Int) = b.toNat := wrap64 (by omega)
  have hm : ((b.toNat : Nat) : Int).tmod (G.length : Nat) = ((b.toNat % G.length : Nat) : Int) := rfl
  generalize hi : b.toNat % G.length = i at hm
  have hiN : i < G.length := by rw [← hi]; exact Nat.mod_lt _ (by omega)
  have hne : ¬ G = [] := fun e => by subst e; simp at hG1
  simp -implicitDefEqProofs [hw, hm, hne]
  refine wk_take ?_
  simp -implicitDefEqProofs
  refine wc_of (play_pc G i one hG hG8 (by omega)) (by simp) (by simp) ?_
  rintro _ ⟨p0, p1⟩
  by_cases he : begE G i = 0
  case neg =>
    rw [p0 he]
    simp -implicitDefEqProofs [Ch.v, Ch.cells]
    refine wk_take ?_
    simp -implicitDefEqProofs
    refine wc_of (play_pc G i two hG hG8 (by omega)) (by simp) (by simp) ?_
    rintro _ ⟨r0, _⟩
    rw [r0 he]
    simp -implicitDefEqProofs [Ch.v, Ch.cells]
    refine wk_take ?_
    simp -implicitDefEqProofs
    refine wc_of awake_pc (by simp) (by simp) ?_
    rintro _ rfl
    simp -implicitDefEqProofs
    refine wk_take ?_
    simp -implicitDefEqProofs
    refine wc_of (Same_pc ch0 ch0 ch0_sm) (by simp [Ch.v, Ch.cells]) (by simp [Ch.v, Ch.cells]) ?_
    rintro _ rfl
    simp -implicitDefEqProofs
  obtain ⟨c, n, hF, hn, rfl⟩ := p1 he
  simp -implicitDefEqProofs [Ch.v, Ch.cells]
  refine wk_take ?_
  simp -implicitDefEqProofs
  refine wc_of (play_pc G i two hG hG8 (by omega)) (by simp) (by simp) ?_
  rintro _ ⟨_, r1⟩
  obtain ⟨c2, n2, hF2, hn2, rfl⟩ := r1 he
  obtain ⟨rfl, rfl⟩ := hF.uniq hF2
  simp -implicitDefEqProofs [Ch.v, Ch.cells]
  refine wk_take ?_
  simp -implicitDefEqProofs
  refine wc_of awake_pc (by simp) (by simp) ?_
  rintro _ rfl
  simp -implicitDefEqProofs
  refine wk_take ?_
  simp -implicitDefEqProofs
  refine wc_of (Same_pc c c (hF.sm hG hG8)) (by simp [Ch.v, Ch.cells]) (by simp [Ch.v, Ch.cells]) ?_
  rintro _ rfl
  simp -implicitDefEqProofs
end Go.Proofs.Ytbbhenjhghbimaa

namespace Go.Proofs.Ytbbhenjhghbimaa
open Go.RowKit Go.Proofs

theorem any_take {out : List Int} {q : Nat} (h : q < out.length) (f : Int → Bool) : (out.take (q + 1)).any f = ((out.take q).any f || f out[q]) := by
  rw [List.take_succ_eq_append_getElem h, List.any_append]; simp
def f4a (l o : List Int) (st : Int) (G : List Nd) (i : Nat) (n : Nat) (c : Ch) (out : List Int) (m : Nat) (S : St) : Prop := ∃ q, q + m = out.length ∧
  S = ⟨tmL [(9, .ptr 0 0), (58, .list 1 (iv out)), (59, .s (.int .i64 out.length)), (60, .s (.int .i64 (q : Nat)))], [.list 1 (iv l), .list 1 (iv o), .s (.int .u8 st), .s (.bool false), .list 2 (gv G), .s (.int .i64 i), .s (.int .i64 n), .s (.bool true), .list 1 (iv out), .s (.bool ((out.take q).any (· == (i : Int)))), .no, .no, .no, .no], [c.cells], 0⟩
def f4b (l o : List Int) (st : Int) (G : List Nd) (i : Nat) (n : Nat) (c : Ch) (out : List Int) (m : Nat) (S : St) : Prop := ∃ q, q + m = G.length ∧
  S = ⟨tmL [(9, .ptr 0 0), (72, .s (.int .i64 G.length)), (73, .s (.int .i64 (q : Nat)))], [.list 1 (iv l), .list 1 (iv o), .s (.int .u8 st), .s (.bool false), .list 2 (gv G), .s (.int .i64 i), .s (.int .i64 n), .s (.bool true), .list 1 (iv out), .s (.bool (out.any (· == (i : Int)))), .no, .no, .no, .no], [c.cells], 0⟩
def f4c (l o : List Int) (st : Int) (G : List Nd) (i : Nat) (n : Nat) (c : Ch) (out : List Int) (q : Nat) (m : Nat) (S : St) : Prop := ∃ p, p + m = out.length ∧
  S = ⟨tmL [(9, .ptr 0 0), (72, .s (.int .i64 G.length)), (73, .s (.int .i64 (q : Nat))), (76, .list 1 (iv out)), (77, .s (.int .i64 out.length)), (78, .s (.int .i64 (p : Nat)))], [.list 1 (iv l), .list 1 (iv o), .s (.int .u8 st), .s (.bool false), .list 2 (gv G), .s (.int .i64 i), .s (.int .i64 n), .s (.bool true), .list 1 (iv out), .s (.bool (out.any (· == (i : Int)))), .no, .s (.int .i64 (q : Nat)), .s (.bool ((out.take p).any (· == (q : Int)))), .no], [c.cells], 0⟩
set_option maxHeartbeats 16000000 in
set_option maxRecDepth 10000 in
theorem ChaseFinds_pc (l o : List Int) (b : UInt8) : PC Try.prog 4 [.list 1 (iv l), .list 1 (iv o), .s (.int .u8 b.toNat)] (fun r => r = .s (.bool true)) := by
  refine pc_end c4 mixed rfl ?_
  simp -implicitDefEqProofs [a4, F4]
  by_cases s1 : l.length ≤ 120
  case neg =>
    have s1' : (l.length : Int) > 120 := by omega
    simp -implicitDefEqProofs [s1']
    refine wk_take ?_
    simp -implicitDefEqProofs
    refine wc_of awake_pc (by simp) (by simp) ?_
    rintro _ rfl
    simp -implicitDefEqProofs
  have s1' : ¬ (l.length : Int) > 120 := by omega
  by_cases s2 : o.length ≤ 100
  case neg =>
    have s2' : (o.length : Int) > 100 := by omega
    simp -implicitDefEqProofs [s1', s2']
    refine wk_take ?_
    simp -implicitDefEqProofs
    refine wc_of awake_pc (by simp) (by simp) ?_
    rintro _ rfl
    simp -implicitDefEqProofs
  have s2' : ¬ (o.length : Int) > 100 := by omega
  simp -implicitDefEqProofs [s1', s2']
  refine wk_take ?_
  simp -implicitDefEqProofs
  refine wc_of (graph_pc l false (by omega)) (by simp) (by simp) ?_
  rintro _ ⟨G, rfl, hG, hG1, hG8, _⟩
  have hGn : ∀ n ∈ G, n.next.length ≤ 1000000 := fun n hn => by have := gOk_next hG hn; omega
  have hb := b.toNat_lt
  have hw : IntKind.i64.wrap ((b.toNat : Nat) : Int) = b.toNat := wrap64 (by omega)
  have hm : ((b.toNat : Nat) : Int).tmod (G.length : Nat) = ((b.toNat % G.length : Nat) : Int) := rfl
  have hne : ¬ G = [] := fun e => by subst e; simp at hG1
  have hiN : b.toNat % G.length < G.length := Nat.mod_lt _ (by omega)
  revert hm hiN
  generalize b.toNat % G.length = i
  intro hm hiN
  have hiN' : (i : Int) < G.length := by omega
  have i0 : ¬ (i : Int) < 0 := by omega
  have i0' : (0 : Int) ≤ i := by omega
  have gi := gv_ate hiN
  simp -implicitDefEqProofs [hw, hm, hne]
  refine wk_take ?_
  simp -implicitDefEqProofs
  refine wc_of (play_pc G i o hG hG8 (by omega)) (by simp) (by simp) ?_
  rintro _ ⟨hp0, hp1⟩
  have hgn := gOk_node hG i0' hiN'
  cases hk0 : ((nodeAt G (i : Nat)).k == 0)
  case' true =>
    have hk0' : (nodeAt G (i : Nat)).k = 0 := eq_of_beq hk0
    have he : begE G i ≠ 0 := by
      unfold begE
      rw [if_neg (by simp [hG]), if_neg (by omega), if_pos hk0']
      decide
    rw [hp0 he]
    simp -implicitDefEqProofs [Ch.v, Ch.cells, i0, hiN, gi, hk0]
    refine wk_take ?_
    simp -implicitDefEqProofs
    refine wc_of awake_pc (by simp) (by simp) ?_
    rintro _ rfl
    simp -implicitDefEqProofs
  have hk0' : (nodeAt G (i : Nat)).k ≠ 0 := by simpa using hk0
  have he : begE G i = 0 := by
    unfold begE
    rw [if_neg (by simp [hG]), if_neg (by omega), if_neg hk0']
  obtain ⟨c, n, hF, hn, rfl⟩ := hp1 he
  simp -implicitDefEqProofs [Ch.v, Ch.cells, i0, hiN, gi, hk0]
  refine wk_take ?_
  simp -implicitDefEqProofs
  refine wc_of (reach_pc G i hG (by omega) hiN) (by simp) (by simp) ?_
  rintro _ ⟨out, rfl, hol, hout⟩
  simp -implicitDefEqProofs
  refine w_rounds [9, 58, 59, 60] [10] 1 (by simp) (f4a l o b.toNat G i n c out) out.length ⟨by simp, 0, by omega, by simp [Ch.cells]⟩ ?_
  rintro m S ⟨q, hqm, rfl⟩
  by_cases hq : q < out.length
  · have hq' : (q : Int) < out.length := by omega
    have q0 : ¬ (q : Int) < 0 := by omega
    have wq : IntKind.i64.wrap ((q : Int) + 1) = ((q + 1 : Nat) : Int) := by rw [wrap64 (by omega)]; rfl
    have gq := iv_gete hq
    have ht := any_take hq (· == (i : Int))
    cases ha : (out.take q).any (· == (i : Int))
    · simp -implicitDefEqProofs [Ch.cells, hq, q0, gq, ha, wq]
      exact ⟨m - 1, by omega, q + 1, by omega, by rw [ht, ha]; simp [Ch.cells]⟩
    · simp -implicitDefEqProofs [Ch.cells, hq, q0, gq, ha, wq]
      exact ⟨m - 1, by omega, q + 1, by omega, by rw [ht, ha]; simp [Ch.cells]⟩
  have htk : out.take q = out := List.take_of_length_le (by omega)
  simp -implicitDefEqProofs [Ch.cells, hq, htk]
  clear hq htk hqm
  refine w_rounds [9, 72, 73] [11, 12, 13] 1 (by simp) (f4b l o b.toNat G i n c out) G.length ⟨by simp, 0, by omega, by simp [Ch.cells]⟩ ?_
  rintro m S ⟨q, hqm, rfl⟩
  by_cases hq : q < G.length
  · have hq' : (q : Int) < G.length := by omega
    have q0 : ¬ (q : Int) < 0 := by omega
    have wq : IntKind.i64.wrap ((q : Int) + 1) = ((q + 1 : Nat) : Int) := by rw [wrap64 (by omega)]; rfl
    simp -implicitDefEqProofs [Ch.cells, hq]
    refine w_rounds [9, 72, 73, 76, 77, 78] [13] 1 (by simp) (f4c l o b.toNat G i n c out q) out.length ⟨by simp, 0, by omega, by simp [Ch.cells]⟩ ?_
    rintro m2 S ⟨p, hpm, rfl⟩
    by_cases hp : p < out.length
    · have p0 : ¬ (p : Int) < 0 := by omega
      have wp : IntKind.i64.wrap ((p : Int) + 1) = ((p + 1 : Nat) : Int) := by rw [wrap64 (by omega)]; rfl
      have gp := iv_gete hp
      have ht := any_take hp (· == (q : Int))
      cases ha : (out.take p).any (· == (q : Int))
      · simp -implicitDefEqProofs [Ch.cells, hp, p0, gp, ha, wp]
        exact ⟨m2 - 1, by omega, p + 1, by omega, by rw [ht, ha]; simp [Ch.cells]⟩
      · simp -implicitDefEqProofs [Ch.cells, hp, p0, gp, ha, wp]
        exact ⟨m2 - 1, by omega, p + 1, by omega, by rw [ht, ha]; simp [Ch.cells]⟩
    have htk : out.take p = out := List.take_of_length_le (by omega)
    have gsq := lv_ate (s := c.seen) (i := q) (by rw [hF.len]; exact hq)
    have gq := gv_ate hq
    have hsl := hF.len
    have hsn := hF.seen (q : Nat) (by omega)
    have hio : out.any (· == (q : Int)) = true ↔ Rea G i (q : Nat) := by
      rw [← hout, List.any_eq_true]
      constructor
      · rintro ⟨x, hx, e⟩
        rw [← eq_of_beq e]; exact hx
      · intro h
        exact ⟨_, h, by simp⟩
    have hqi : (((q : Nat) : Int) != (i : Nat)) = true ↔ ((q : Nat) : Int) ≠ (i : Nat) := by simp
    cases ha : out.any (· == (q : Int))
    · have hse : seenAt c.seen (q : Nat) = false := by
        cases e : seenAt c.seen (q : Nat)
        · rfl
        · have := hio.2 (hsn.1 e).1
          rw [ha] at this; cases this
      simp -implicitDefEqProofs [Ch.cells, hp, htk, ha, hsl, hq, q0, gsq, gq, hse, wq]
      exact ⟨m - 1, by omega, q + 1, by omega, by simp [Ch.cells]⟩
    · have hrq := hio.1 ha
      by_cases hqe : q = i
      · have hse : seenAt c.seen (q : Nat) = false := by
          cases e : seenAt c.seen (q : Nat)
          · rfl
          · have := (hsn.1 e).2.1
            exact absurd (by rw [hqe]) this
        have hne2 : (((q : Nat) : Int) != (i : Nat)) = false := by simp [hqe]
        simp -implicitDefEqProofs [Ch.cells, hp, htk, ha, hsl, hq, q0, gsq, gq, hse, hne2, wq]
        exact ⟨m - 1, by omega, q + 1, by omega, by simp [Ch.cells]⟩
      · have hne2 : (((q : Nat) : Int) != (i : Nat)) = true := by rw [bne_iff_ne]; omega
        by_cases hkq : 0 < (nodeAt G (q : Nat)).k
        · have hse : seenAt c.seen (q : Nat) = true := hsn.2 ⟨hrq, by omega, hkq⟩
          simp -implicitDefEqProofs [Ch.cells, hp, htk, ha, hsl, hq, q0, gsq, gq, hse, hne2, hkq, wq]
          exact ⟨m - 1, by omega, q + 1, by omega, by simp [Ch.cells]⟩
        · have hse : seenAt c.seen (q : Nat) = false := by
            cases e : seenAt c.seen (q : Nat)
            · rfl
            · exact absurd (hsn.1 e).2.2 hkq
          simp -implicitDefEqProofs [Ch.cells, hp, htk, ha, hsl, hq, q0, gsq, gq, hse, hne2, hkq, wq]
          exact ⟨m - 1, by omega, q + 1, by omega, by simp [Ch.cells]⟩
  have hdec : (out.any fun x => x == (i : Int)) = c.dec := by
    rw [Bool.eq_iff_iff, hF.dec, ← hout, List.any_eq_true]
    constructor
    · rintro ⟨x, hx, e⟩
      rw [← eq_of_beq e]; exact hx
    · intro h
      exact ⟨_, h, by simp⟩
  have hps := hF.ps
  have h64 := edgs_64 hG hG8
  have hne' : (n : Int) ≤ edgs G := by omega
  simp -implicitDefEqProofs [Ch.cells, hq, hdec]
  refine wk_take ?_
  simp -implicitDefEqProofs
  refine wc_of awake_pc (by simp) (by simp) ?_
  rintro _ rfl
  simp -implicitDefEqProofs [hps]
  refine wk_take ?_
  simp -implicitDefEqProofs
  refine wc_of (edgs_pc G (by omega) (by omega)) (by simp) (by simp) ?_
  rintro _ rfl
  simp -implicitDefEqProofs [hn]
  refine wk_take ?_
  simp -implicitDefEqProofs
  refine wc_of (cycle_pc G i hG hGn hiN) (by simp) (by simp) ?_
  rintro _ ⟨out2, rfl, hc2⟩
  have hd2 : c.dec = decide (0 < out2.length) := by rw [Bool.eq_iff_iff, hF.dec, decide_eq_true_eq, hc2]
  simp -implicitDefEqProofs [hd2]
end Go.Proofs.Ytbbhenjhghbimaa

namespace Go.Proofs.Ytbbhenjhghbimaa
open Go.RowKit Go.Proofs

open Classical in
/-- whether a node that is reached would be declared -/
noncomputable def dl (G : List Nd) (x : Int) : Bool := decide (0 < (nodeAt G x).k ∧ Rea G x x)
open Classical in
theorem dl_iff {G : List Nd} {x : Int} : dl G x = true ↔ 0 < (nodeAt G x).k ∧ Rea G x x := by
  unfold dl
  exact decide_eq_true_iff
def f6a (l o : List Int) (st : Int) (G : List Nd) (i : Nat) (n : Nat) (c : Ch) (out : List Int) (m : Nat) (S : St) : Prop := ∃ q, q + m = out.length ∧
  S = ⟨tmL [(9, .ptr 0 0), (53, .list 1 (iv out)), (54, .s (.int .i64 out.length)), (55, .s (.int .i64 (q : Nat)))], [.list 1 (iv l), .list 1 (iv o), .s (.int .u8 st), .s (.bool false), .list 2 (gv G), .s (.int .i64 i), .s (.int .i64 n), .s (.bool true), .s (.bool ((out.take q).any (· == (i : Int)))), .no, .no, .no, .no, .no], [c.cells], 0⟩
def f6b (l o : List Int) (st : Int) (G : List Nd) (i : Nat) (n : Nat) (c : Ch) (sk : Bool) (out : List Int) (m : Nat) (S : St) : Prop := ∃ q, q + m = out.length ∧
  S = ⟨tmL [(9, .ptr 0 0), (70, .list 1 (iv out)), (71, .s (.int .i64 out.length)), (72, .s (.int .i64 (q : Nat)))], [.list 1 (iv l), .list 1 (iv o), .s (.int .u8 st), .s (.bool false), .list 2 (gv G), .s (.int .i64 i), .s (.int .i64 n), .s (.bool true), .s (.bool sk), .no, .s (.bool (c.dec || (out.take q).any (dl G))), .no, .no, .no], [c.cells], 0⟩
set_option maxHeartbeats 16000000 in
set_option maxRecDepth 10000 in
theorem ChaseStuck_pc (l o : List Int) (b : UInt8) : PC Try.prog 6 [.list 1 (iv l), .list 1 (iv o), .s (.int .u8 b.toNat)] (fun r => r = .s (.bool true)) := by
  refine pc_end c6 mixed rfl ?_
  simp -implicitDefEqProofs [a6, F6]
  by_cases s1 : l.length ≤ 120
  case neg =>
    have s1' : (l.length : Int) > 120 := by omega
    simp -implicitDefEqProofs [s1']
    refine wk_take ?_
    simp -implicitDefEqProofs
    refine wc_of awake_pc (by simp) (by simp) ?_
    rintro _ rfl
    simp -implicitDefEqProofs
  have s1' : ¬ (l.length : Int) > 120 := by omega
  by_cases s2 : o.length ≤ 100
  case neg =>
    have s2' : (o.length : Int) > 100 := by omega
    simp -implicitDefEqProofs [s1', s2']
    refine wk_take ?_
    simp -implicitDefEqProofs
    refine wc_of awake_pc (by simp) (by simp) ?_
    rintro _ rfl
    simp -implicitDefEqProofs
  have s2' : ¬ (o.length : Int) > 100 := by omega
  simp -implicitDefEqProofs [s1', s2']
  refine wk_take ?_
  simp -implicitDefEqProofs
  refine wc_of (graph_pc l true (by omega)) (by simp) (by simp) ?_
  rintro _ ⟨G, rfl, hG, hG1, hG8, hall⟩
  have hGn : ∀ n ∈ G, n.next.length ≤ 1000000 := fun n hn => by have := gOk_next hG hn; omega
  have hb := b.toNat_lt
  have hw : IntKind.i64.wrap ((b.toNat : Nat) : Int) = b.toNat := wrap64 (by omega)
  have hm : ((b.toNat : Nat) : Int).tmod (G.length : Nat) = ((b.toNat % G.length : Nat) : Int) := rfl
  have hne : ¬ G = [] := fun e => by subst e; simp at hG1
  have hiN : b.toNat % G.length < G.length := Nat.mod_lt _ (by omega)
  revert hm hiN
  generalize b.toNat % G.length = i
  intro hm hiN
  have hiN' : (i : Int) < G.length := by omega
  have i0 : ¬ (i : Int) < 0 := by omega
  have i0' : (0 : Int) ≤ i := by omega
  have gi := gv_ate hiN
  have hall := hall rfl
  have hka : ∀ x : Int, 0 ≤ x → x < G.length → (nodeAt G x).k = (nodeAt G x).next.length := fun x a b => hall _ (nodeAt_mem a b)
  have begk : ∀ x : Int, 0 ≤ x → x < G.length → 0 < (nodeAt G x).k → begE G x = 0 := fun x a b q => by
    unfold begE
    rw [if_neg (by simp [hG]), if_neg (by omega), if_neg (by omega)]
  cases hk0 : ((nodeAt G (i : Nat)).k == 0)
  case' true =>
    simp -implicitDefEqProofs [hw, hm, hne, i0, hiN, gi, hk0]
    refine wk_take ?_
    simp -implicitDefEqProofs
    refine wc_of awake_pc (by simp) (by simp) ?_
    rintro _ rfl
    simp -implicitDefEqProofs
  have hk0' : (nodeAt G (i : Nat)).k ≠ 0 := by simpa using hk0
  have hgn := gOk_node hG i0' hiN'
  have he : begE G i = 0 := begk i i0' hiN' (by omega)
  simp -implicitDefEqProofs [hw, hm, hne, i0, hiN, gi, hk0]
  refine wk_take ?_
  simp -implicitDefEqProofs
  refine wc_of (play_pc G i o hG hG8 (by omega)) (by simp) (by simp) ?_
  rintro _ ⟨_, hp1⟩
  obtain ⟨c, n, hF, hn, rfl⟩ := hp1 he
  simp -implicitDefEqProofs [Ch.v, Ch.cells]
  refine wk_take ?_
  simp -implicitDefEqProofs
  refine wc_of (stuck_pc G hG hGn) (by simp) (by simp) ?_
  rintro _ ⟨s, hsl, hCl, hLs, rfl⟩
  have hsk : (flss s G.length).any (fun x => x == (i : Int)) = true ↔ ∃ j, (j = (i : Int) ∨ Rea G i j) ∧ Rea G j j := by
    rw [← stuck_iff hG hall hCl hLs i0' hiN', List.any_eq_true]
    constructor
    · rintro ⟨x, hx, e⟩
      rw [← eq_of_beq e]
      exact (mem_flss.1 hx).2.2
    · intro h
      exact ⟨_, mem_flss.2 ⟨i0', hiN', h⟩, by simp⟩
  have hfl := flss_len s G.length
  revert hsk hfl
  generalize flss s G.length = fl
  intro hsk hfl
  simp -implicitDefEqProofs
  refine w_rounds [9, 53, 54, 55] [9] 1 (by simp) (f6a l o b.toNat G i n c fl) fl.length ⟨by simp, 0, by omega, by simp [Ch.cells]⟩ ?_
  rintro m S ⟨q, hqm, rfl⟩
  by_cases hq : q < fl.length
  · have q0 : ¬ (q : Int) < 0 := by omega
    have wq : IntKind.i64.wrap ((q : Int) + 1) = ((q + 1 : Nat) : Int) := by rw [wrap64 (by omega)]; rfl
    have gq := iv_gete hq
    have ht := any_take hq (· == (i : Int))
    cases ha : (fl.take q).any (· == (i : Int))
    · simp -implicitDefEqProofs [Ch.cells, hq, q0, gq, ha, wq]
      exact ⟨m - 1, by omega, q + 1, by omega, by rw [ht, ha]; simp [Ch.cells]⟩
    · simp -implicitDefEqProofs [Ch.cells, hq, q0, gq, ha, wq]
      exact ⟨m - 1, by omega, q + 1, by omega, by rw [ht, ha]; simp [Ch.cells]⟩
  have htk : fl.take q = fl := List.take_of_length_le (by omega)
  simp -implicitDefEqProofs [Ch.cells, hq, htk]
  clear hq htk hqm
  revert hsk
  generalize (fl.any fun x => x == (i : Int)) = sk
  intro hsk
  refine wk_take ?_
  simp -implicitDefEqProofs
  refine wc_of (reach_pc G i hG (by omega) hiN) (by simp) (by simp) ?_
  rintro _ ⟨out, rfl, hol, hout⟩
  simp -implicitDefEqProofs
  refine w_rounds [9, 70, 71, 72] [11, 12, 13] 1 (by simp) (f6b l o b.toNat G i n c sk out) out.length ⟨by simp, 0, by omega, by simp [Ch.cells]⟩ ?_
  rintro m S ⟨q, hqm, rfl⟩
  by_cases hq : q < out.length
  · have q0 : ¬ (q : Int) < 0 := by omega
    have wq : IntKind.i64.wrap ((q : Int) + 1) = ((q + 1 : Nat) : Int) := by rw [wrap64 (by omega)]; rfl
    have gq := iv_gete hq
    have ht := any_take hq (dl G)
    have hx := (hout out[q]).1 (List.getElem_mem hq)
    have hxb := hx.bd hG
    revert gq ht hx hxb
    generalize out[q] = x
    intro gq ht hx hxb
    obtain ⟨y, rfl⟩ : ∃ y : Nat, x = y := ⟨x.toNat, by omega⟩
    have hy : y < G.length := by omega
    have y0 : ¬ (y : Int) < 0 := by omega
    have gy := gv_ate hy
    by_cases hky : 0 < (nodeAt G (y : Nat)).k
    · simp -implicitDefEqProofs [Ch.cells, hq, q0, gq, hy, y0, gy, hky, wq]
      refine wk_take ?_
      simp -implicitDefEqProofs
      refine wc_of (play_pc G y o hG hG8 (by omega)) (by simp) (by simp) ?_
      rintro _ ⟨_, hp2⟩
      obtain ⟨c2, n2, hF2, hn2, rfl⟩ := hp2 (begk y (by omega) (by omega) hky)
      have hdy : dl G (y : Nat) = c2.dec := by
        rw [Bool.eq_iff_iff, hF2.dec, dl_iff]
        exact ⟨fun h => h.2, fun h => ⟨hky, h⟩⟩
      rw [hdy] at ht
      cases ha : (c.dec || (out.take q).any (dl G))
      · simp -implicitDefEqProofs [Ch.v, Ch.cells, ha, wq]
        exact ⟨m - 1, by omega, q + 1, by omega, by rw [ht, ← Bool.or_assoc, ha]; simp [Ch.cells]⟩
      · simp -implicitDefEqProofs [Ch.v, Ch.cells, ha, wq]
        exact ⟨m - 1, by omega, q + 1, by omega, by rw [ht, ← Bool.or_assoc, ha]; simp [Ch.cells]⟩
    · have hdy : dl G (y : Nat) = false := by
        cases e : dl G (y : Nat)
        · rfl
        · exact absurd (dl_iff.1 e).1 hky
      rw [hdy, Bool.or_false] at ht
      simp -implicitDefEqProofs [Ch.cells, hq, q0, gq, hy, y0, gy, hky, wq]
      exact ⟨m - 1, by omega, q + 1, by omega, by rw [ht]; simp [Ch.cells]⟩
  have htk : out.take q = out := List.take_of_length_le (by omega)
  have hfin : sk = (c.dec || out.any (dl G)) := by
    rw [Bool.eq_iff_iff, hsk, Bool.or_eq_true, hF.dec, List.any_eq_true]
    constructor
    · rintro ⟨j, hj, hjj⟩
      rcases hj with rfl | hj
      · exact .inl hjj
      · refine .inr ⟨j, (hout j).2 hj, dl_iff.2 ⟨?_, hjj⟩⟩
        have hb := hj.bd hG
        rw [hka j hb.1 hb.2]
        obtain ⟨y, hy, _⟩ := hjj.head
        have := List.length_pos_of_mem hy
        omega
    · rintro (h | ⟨x, hx, hd⟩)
      · exact ⟨_, .inl rfl, h⟩
      · exact ⟨x, .inr ((hout x).1 hx), (dl_iff.1 hd).2⟩
  have hd3 : c.dec = true → sk = true := fun h => by rw [hfin, h]; rfl
  rw [htk, ← hfin]
  simp -implicitDefEqProofs [Ch.cells, hq]
  refine wk_take ?_
  simp -implicitDefEqProofs
  refine wc_of awake_pc (by simp) (by simp) ?_
  rintro _ rfl
  cases hdc : c.dec
  · simp -implicitDefEqProofs [hdc]
  · simp -implicitDefEqProofs [hdc, hd3 hdc]
end Go.Proofs.Ytbbhenjhghbimaa
