/- chase: the law ChaseOrder. -/
import Derived.Test.YtbbhenjhghbimaaZN
import Derived.Test.YtbbhenjhghbimaaZK
set_option linter.unusedVariables false
set_option linter.unusedSimpArgs false
namespace Go.Proofs.Ytbbhenjhghbimaa
open Go.RowKit Go.Proofs

theorem Fini.sm {G : List Nd} {i : Int} {c : Ch} {n : Nat} (h : Fini G i c n) (hG : gOk G = true) (h8 : G.length ≤ 8) : c.sm :=
  ⟨by rw [h.g]; omega, fun n hn => by rw [h.g] at hn; have := gOk_next hG hn; omega, by rw [h.ps]; simp, by rw [h.len]; omega⟩
theorem ch0_sm : ch0.sm := ⟨by simp [ch0], by simp [ch0], by simp [ch0], by simp [ch0]⟩
set_option maxHeartbeats 16000000 in
set_option maxRecDepth 10000 in
theorem ChaseOrder_pc (l one two : List Int) (b : UInt8) : PC Try.prog 5 [.list 1 (iv l), .list 1 (iv one), .list 1 (iv two), .s (.int .u8 b.toNat)] (fun r => r = .s (.bool true)) := by
  refine pc_end c5 mixed rfl ?_
  simp -implicitDefEqProofs [a5, F5]
  by_cases s1 : l.length ≤ 120
  case neg =>
    have s1' : (l.length : Int) > 120 := by omega
    simp -implicitDefEqProofs [s1']
    refine wk_take ?_
    simp -implicitDefEqProofs
    refine wc_of awake_pc (by simp) (by simp) ?_
    rintro _ rfl
    simp -implicitDefEqProofs
  have s1' : ¬ (l.length : Int) > 120 := by omega
  by_cases s2 : one.length ≤ 100
  case neg =>
    have s2' : (one.length : Int) > 100 := by omega
    simp -implicitDefEqProofs [s1', s2']
    refine wk_take ?_
    simp -implicitDefEqProofs
    refine wc_of awake_pc (by simp) (by simp) ?_
    rintro _ rfl
    simp -implicitDefEqProofs
  have s2' : ¬ (one.length : Int) > 100 := by omega
  by_cases s3 : two.length ≤ 100
  case neg =>
    have s3' : (two.length : Int) > 100 := by omega
    simp -implicitDefEqProofs [s1', s2', s3']
    refine wk_take ?_
    simp -implicitDefEqProofs
    refine wc_of awake_pc (by simp) (by simp) ?_
    rintro _ rfl
    simp -implicitDefEqProofs
  have s3' : ¬ (two.length : Int) > 100 := by omega
  simp -implicitDefEqProofs [s1', s2', s3']
  refine wk_take ?_
  simp -implicitDefEqProofs
  refine wc_of (graph_pc l false (by omega)) (by simp) (by simp) ?_
  rintro _ ⟨G, rfl, hG, hG1, hG8, _⟩
  have hb := b.toNat_lt
  have hw : IntKind.i64.wrap ((b.toNat : Nat) : Int) = b.toNat := wrap64 (by omega)
  have hm : ((b.toNat : Nat) : Int).tmod (G.length : Nat) = ((b.toNat % G.length : Nat) : Int) := rfl
  generalize hi : b.toNat % G.length = i at hm
  have hiN : i < G.length := by rw [← hi]; exact Nat.mod_lt _ (by omega)
  have hne : ¬ G = [] := fun e => by subst e; simp at hG1
  simp -implicitDefEqProofs [hw, hm, hne]
  refine wk_take ?_
  simp -implicitDefEqProofs
  refine wc_of (play_pc G i one hG hG8 (by omega)) (by simp) (by simp) ?_
  rintro _ ⟨p0, p1⟩
  by_cases he : begE G i = 0
  case neg =>
    rw [p0 he]
    simp -implicitDefEqProofs [Ch.v, Ch.cells]
    refine wk_take ?_
    simp -implicitDefEqProofs
    refine wc_of (play_pc G i two hG hG8 (by omega)) (by simp) (by simp) ?_
    rintro _ ⟨r0, _⟩
    rw [r0 he]
    simp -implicitDefEqProofs [Ch.v, Ch.cells]
    refine wk_take ?_
    simp -implicitDefEqProofs
    refine wc_of awake_pc (by simp) (by simp) ?_
    rintro _ rfl
    simp -implicitDefEqProofs
    refine wk_take ?_
    simp -implicitDefEqProofs
    refine wc_of (Same_pc ch0 ch0 ch0_sm) (by simp [Ch.v, Ch.cells]) (by simp [Ch.v, Ch.cells]) ?_
    rintro _ rfl
    simp -implicitDefEqProofs
  obtain ⟨c, n, hF, hn, rfl⟩ := p1 he
  simp -implicitDefEqProofs [Ch.v, Ch.cells]
  refine wk_take ?_
  simp -implicitDefEqProofs
  refine wc_of (play_pc G i two hG hG8 (by omega)) (by simp) (by simp) ?_
  rintro _ ⟨_, r1⟩
  obtain ⟨c2, n2, hF2, hn2, rfl⟩ := r1 he
  obtain ⟨rfl, rfl⟩ := hF.uniq hF2
  simp -implicitDefEqProofs [Ch.v, Ch.cells]
  refine wk_take ?_
  simp -implicitDefEqProofs
  refine wc_of awake_pc (by simp) (by simp) ?_
  rintro _ rfl
  simp -implicitDefEqProofs
  refine wk_take ?_
  simp -implicitDefEqProofs
  refine wc_of (Same_pc c c (hF.sm hG hG8)) (by simp [Ch.v, Ch.cells]) (by simp [Ch.v, Ch.cells]) ?_
  rintro _ rfl
  simp -implicitDefEqProofs
end Go.Proofs.Ytbbhenjhghbimaa
