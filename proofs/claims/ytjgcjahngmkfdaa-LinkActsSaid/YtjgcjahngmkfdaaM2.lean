/- link: the law LinkActs. -/
import Derived.Test.YtjgcjahngmkfdaaM1
set_option linter.unusedVariables false
set_option linter.unusedSimpArgs false
namespace Go.Proofs.Ytjgcjahngmkfdaa
open Go.RowKit Go.Proofs

@[simp] theorem bytesOf_nil : bytesOf [] = some [] := rfl
def la2 : Lnk := ⟨3, [[1], [2], [3], [4], [5], [6]], 2⟩
def laXS (l : Lnk) : List V := [l.v, la2.v]
theorem laXS_get {l : Lnk} (h : okLnk l) {i : Nat} (hi : i < 2) : ∃ x : Lnk, okLnk x ∧ (laXS l)[i]? = some (.agg [.s (.int .i64 x.first), .list 1 (cl x.out), .s (.int .i64 x.got)]) := by
  have h2 : okLnk la2 := ⟨by simp [la2], by simp [la2]⟩
  rcases Nat.lt_succ_iff_lt_or_eq.1 hi with h1 | rfl
  · have : i = 0 := by omega
    subst this
    exact ⟨l, h, rfl⟩
  · exact ⟨la2, h2, rfl⟩
def laInv (l : Lnk) (m : List UInt8) (p : Pkt) (k : Nat) (S : St) : Prop := ∃ i, i + k = 2 ∧
  S = ⟨tmL [(3, .ptr 0 0), (5, .ptr 1 0), (50, .list 3 (laXS l)), (51, .s (.int .i64 2)), (52, .s (.int .i64 i))], [l.v, .list 1 (bv m), p.v, .s (.bool false), .own false 24 3 (laXS l), .no, .no, .no, .no, .no, .no, .no, .no, .no, .no, .no],
    [[.s (.int .i64 l.first), .list 1 (cl l.out), .s (.int .i64 l.got)], [.s (.int .i64 p.seq), .s (.int .i64 p.ack), .list 1 (bv p.body)]], 0⟩
def laIn (l : Lnk) (m : List UInt8) (p : Pkt) (i : Nat) (PK : V) (n k : Nat) (S : St) : Prop := ∃ j : Nat, j + k = n ∧
  S = ⟨tmL [(3, .ptr 0 0), (5, .ptr 1 0), (50, .list 3 (laXS l)), (51, .s (.int .i64 2)), (52, .s (.int .i64 i))], [l.v, .list 1 (bv m), p.v, .s (.bool false), .own false 24 3 (laXS l), .no, .no, .no, .no, .no, .no, .no, .no, PK, PK, .s (.int .i64 j)],
    [[.s (.int .i64 l.first), .list 1 (cl l.out), .s (.int .i64 l.got)], [.s (.int .i64 p.seq), .s (.int .i64 p.ack), .list 1 (bv p.body)]], 0⟩
theorem sameNilP (s a : Int) : PC Try.prog 18 [.agg [.s (.int .i64 s), .s (.int .i64 a), .s (.slice none 0 0)], .agg [.s (.int .i64 s), .s (.int .i64 a), .s (.slice none 0 0)]] (fun r => r = .s (.bool true)) := by
  refine pc_nil (ys := [Pkt.v ⟨s, a, []⟩, Pkt.v ⟨s, a, []⟩]) ?_ (by simp [Pkt.v, bv]) (by simp [Pkt.v])
  have := rSameP_pc ⟨s, a, []⟩ ⟨s, a, []⟩
  simpa [sameP] using this
theorem sameSelfP (s a : Int) (m : List UInt8) : PC Try.prog 18 [.agg [.s (.int .i64 s), .s (.int .i64 a), .list 1 (bv m)], .agg [.s (.int .i64 s), .s (.int .i64 a), .list 1 (bv m)]] (fun r => r = .s (.bool true)) := by
  have := rSameP_pc ⟨s, a, m⟩ ⟨s, a, m⟩
  simpa [sameP, Pkt.v] using this
set_option maxHeartbeats 8000000 in
theorem LinkActs_pc (l : Lnk) (m : List UInt8) (p : Pkt) : PC Try.prog 3 [l.v, .list 1 (bv m), p.v] (fun r => r = .s (.bool true)) := by
  refine pc_end c3 mixed rfl ?_
  simp -implicitDefEqProofs [a3, F3, Lnk.v, Pkt.v]
  refine wk_take ?_
  simp -implicitDefEqProofs
  refine wc_of (short_pc l) (by simp [Lnk.v]) (by simp [Lnk.v]) ?_
  rintro _ rfl
  by_cases hs : shortL l = true
  case neg =>
    simp at hs
    simp -implicitDefEqProofs [hs]
    refine wk_take ?_
    simp -implicitDefEqProofs
    refine wc_of awake_pc (by simp) (by simp) ?_
    rintro _ rfl
    simp -implicitDefEqProofs
  by_cases hm : (m.length : Int) > 5000
  · simp -implicitDefEqProofs [hs, hm]
    refine wk_take ?_
    simp -implicitDefEqProofs
    refine wc_of awake_pc (by simp) (by simp) ?_
    rintro _ rfl
    simp -implicitDefEqProofs
  by_cases hp : (p.body.length : Int) > 5000
  · simp -implicitDefEqProofs [hs, hm, hp]
    refine wk_take ?_
    simp -implicitDefEqProofs
    refine wc_of awake_pc (by simp) (by simp) ?_
    rintro _ rfl
    simp -implicitDefEqProofs
  have hok : okLnk l := by
    simp [shortL] at hs
    exact ⟨by omega, fun x hx => by have := hs.2 x hx; omega⟩
  simp -implicitDefEqProofs [hs, hm, hp]
  refine w_rounds [3, 5, 50, 51, 52] [5, 6, 7, 8, 9, 10, 11, 12, 13, 14, 15] 2 (Nat.zero_le _) (laInv l m p) 2 ⟨by simp, 0, by simp, by simp [Lnk.v, Pkt.v, laXS, la2, cl, bv]⟩ ?_
  rintro k S ⟨i, hi, rfl⟩
  by_cases hi2 : i < 2
  case neg =>
    have h4 : ¬ (i : Int) < 2 := by omega
    simp -implicitDefEqProofs [h4]
    refine wk_take ?_
    simp -implicitDefEqProofs
    refine wc_of awake_pc (by simp) (by simp) ?_
    rintro _ rfl
    simp -implicitDefEqProofs
    refine wk_take ?_
    simp -implicitDefEqProofs
    refine wc_of New_pc (by simp) (by simp) ?_
    rintro _ rfl
    simp -implicitDefEqProofs
    refine wk_take ?_
    simp -implicitDefEqProofs
    refine wc_of rNew_pc (by simp) (by simp) ?_
    rintro _ rfl
    simp -implicitDefEqProofs
    refine wk_take ?_
    simp -implicitDefEqProofs
    refine wc_nil (sameSelf ⟨1, [], 0⟩ (by simp)) (by simp [Lnk.v]) (by simp [Lnk.v]) (by simp) ?_
    rintro _ rfl
    simp -implicitDefEqProofs
  have h4 : (i : Int) < 2 := by omega
  have h0 : ¬ (i : Int) < 0 := by omega
  obtain ⟨x, hx, hxi⟩ := laXS_get hok hi2
  have hm' : m.length ≤ 100000 := by omega
  have hp' : p.body.length ≤ 100000 := by omega
  have hx1 := hx.1
  simp -implicitDefEqProofs [h4, h0, hxi, Lnk.v, Pkt.v]
  refine wk_take ?_
  simp -implicitDefEqProofs
  refine wc_of (Offer_pc x m hx hm') (by simp [Lnk.v]) (by simp [Lnk.v]) ?_
  rintro _ rfl
  rcases packets_form x with hpk | ⟨L, hL4, hL, hpk⟩
  · rcases offer_form x m with ⟨e, he⟩ | ⟨a, ha, he⟩ <;> rcases hear_form x p with ⟨e2, hh, hrh⟩ | ⟨b, hb, hh, hrh⟩ | ⟨b, hb, hh, hrh⟩
    all_goals
      simp -implicitDefEqProofs [he, noLnk]
      refine wk_take ?_
      simp -implicitDefEqProofs
      refine wc_of (rOffer_pc x m hx hm') (by simp [Lnk.v]) (by simp [Lnk.v]) ?_
      rintro _ rfl
      simp -implicitDefEqProofs [he, noLnk]
      refine wk_take ?_
      simp -implicitDefEqProofs
      refine wc_of (Hear_pc x p hx hp') (by simp [Lnk.v, Pkt.v]) (by simp [Lnk.v, Pkt.v]) ?_
      rintro _ rfl
      simp -implicitDefEqProofs [hh, noLnk]
      refine wk_take ?_
      simp -implicitDefEqProofs
      refine wc_of (rHear_pc x p hx hp') (by simp [Lnk.v, Pkt.v]) (by simp [Lnk.v, Pkt.v]) ?_
      rintro _ rfl
      simp -implicitDefEqProofs [hrh, noLnk]
      refine wkd_take ?_
      simp -implicitDefEqProofs
      refine wcd_of (Packets_pc x hx) (by simp [Lnk.v]) (by simp [Lnk.v]) ?_
      simp -implicitDefEqProofs
      refine wkd_take ?_
      simp -implicitDefEqProofs
      refine wcd_of (rPackets_pc x hx) (by simp [Lnk.v]) (by simp [Lnk.v]) ?_
      simp -implicitDefEqProofs [hpk]
      refine wkd_bor ?_
      simp -implicitDefEqProofs
      first | (refine wbd_of sameNo ?_ rfl ?_; focus (simp [noLnk]; done)) | (refine wbd_of (sameSelf a (by omega)) ?_ rfl ?_; focus (simp [Lnk.v]; done))
      simp -implicitDefEqProofs
      refine wkd_bor ?_
      simp -implicitDefEqProofs
      first | (refine wbd_of sameNo ?_ rfl ?_; focus (simp [noLnk]; done)) | (refine wbd_of (sameSelf b (by omega)) ?_ rfl ?_; focus (simp [Lnk.v]; done))
      simp -implicitDefEqProofs
      refine wkd_bor ?_
      simp -implicitDefEqProofs
      refine wbd_of (Valid_pc x) (by simp [Lnk.v]) (by simp) ?_
      simp -implicitDefEqProofs
      refine wkd_bor ?_
      simp -implicitDefEqProofs
      refine wbd_of (rValid_pc x (by omega)) (by simp [Lnk.v]) (by simp) ?_
      simp -implicitDefEqProofs
      refine w_rounds [3, 5, 50, 51, 52] [5, 6, 7, 8, 9, 10, 11, 12] 2 (Nat.zero_le _) (laIn l m p i (.s (.slice none 0 0)) 0) 0 ⟨by simp, 0, by simp, by simp [Lnk.v, Pkt.v]⟩ ?_
      rintro k2 S ⟨j, hj, rfl⟩
      have hj0 : j = 0 := by omega
      subst hj0
      simp -implicitDefEqProofs [Lnk.v, Pkt.v]
      exact ⟨k - 1, by omega, i + 1, by omega, by rw [wrap64 (by omega)]; rfl⟩
  · rcases offer_form x m with ⟨e, he⟩ | ⟨a, ha, he⟩ <;> rcases hear_form x p with ⟨e2, hh, hrh⟩ | ⟨b, hb, hh, hrh⟩ | ⟨b, hb, hh, hrh⟩
    all_goals
      simp -implicitDefEqProofs [he, noLnk]
      refine wk_take ?_
      simp -implicitDefEqProofs
      refine wc_of (rOffer_pc x m hx hm') (by simp [Lnk.v]) (by simp [Lnk.v]) ?_
      rintro _ rfl
      simp -implicitDefEqProofs [he, noLnk]
      refine wk_take ?_
      simp -implicitDefEqProofs
      refine wc_of (Hear_pc x p hx hp') (by simp [Lnk.v, Pkt.v]) (by simp [Lnk.v, Pkt.v]) ?_
      rintro _ rfl
      simp -implicitDefEqProofs [hh, noLnk]
      refine wk_take ?_
      simp -implicitDefEqProofs
      refine wc_of (rHear_pc x p hx hp') (by simp [Lnk.v, Pkt.v]) (by simp [Lnk.v, Pkt.v]) ?_
      rintro _ rfl
      simp -implicitDefEqProofs [hrh, noLnk]
      refine wkd_take ?_
      simp -implicitDefEqProofs
      refine wcd_of (Packets_pc x hx) (by simp [Lnk.v]) (by simp [Lnk.v]) ?_
      simp -implicitDefEqProofs
      refine wkd_take ?_
      simp -implicitDefEqProofs
      refine wcd_of (rPackets_pc x hx) (by simp [Lnk.v]) (by simp [Lnk.v]) ?_
      simp -implicitDefEqProofs [hpk]
      refine wkd_bor ?_
      simp -implicitDefEqProofs
      first | (refine wbd_of sameNo ?_ rfl ?_; focus (simp [noLnk]; done)) | (refine wbd_of (sameSelf a (by omega)) ?_ rfl ?_; focus (simp [Lnk.v]; done))
      simp -implicitDefEqProofs
      refine wkd_bor ?_
      simp -implicitDefEqProofs
      first | (refine wbd_of sameNo ?_ rfl ?_; focus (simp [noLnk]; done)) | (refine wbd_of (sameSelf b (by omega)) ?_ rfl ?_; focus (simp [Lnk.v]; done))
      simp -implicitDefEqProofs
      refine wkd_bor ?_
      simp -implicitDefEqProofs
      refine wbd_of (Valid_pc x) (by simp [Lnk.v]) (by simp) ?_
      simp -implicitDefEqProofs
      refine wkd_bor ?_
      simp -implicitDefEqProofs
      refine wbd_of (rValid_pc x (by omega)) (by simp [Lnk.v]) (by simp) ?_
      simp -implicitDefEqProofs
      refine w_rounds [3, 5, 50, 51, 52] [5, 6, 7, 8, 9, 10, 11, 12] 2 (Nat.zero_le _) (laIn l m p i (.own true 27 3 L) L.length) L.length ⟨by simp, 0, by simp, by simp [Lnk.v, Pkt.v]⟩ ?_
      rintro k2 S ⟨j, hj, rfl⟩
      have hj0 : ¬ (j : Int) < 0 := by omega
      by_cases hjl : j < L.length
      · have hjl' : (j : Int) < L.length := by omega
        obtain ⟨s, a', b', e', hb'⟩ := hL _ (List.getElem_mem hjl)
        have hget : L[j]? = some (.agg [.s (.int .i64 s), .s (.int .i64 a'), b']) := by rw [List.getElem?_eq_getElem hjl, e']
        rcases hb' with rfl | ⟨q, rfl⟩
        · simp -implicitDefEqProofs [hjl, hjl', hj0, hget, e', Lnk.v, Pkt.v]
          refine wkd_bor ?_
          simp -implicitDefEqProofs
          refine wbd_of (sameNilP s a') (by simp) rfl ?_
          simp -implicitDefEqProofs
          exact ⟨k2 - 1, by omega, j + 1, by omega, by rw [wrap64 (by omega)]; rfl⟩
        · simp -implicitDefEqProofs [hjl, hjl', hj0, hget, e', Lnk.v, Pkt.v]
          refine wkd_bor ?_
          simp -implicitDefEqProofs
          refine wbd_of (sameSelfP s a' q) (by simp) rfl ?_
          simp -implicitDefEqProofs
          exact ⟨k2 - 1, by omega, j + 1, by omega, by rw [wrap64 (by omega)]; rfl⟩
      · have hjl' : ¬ (j : Int) < L.length := by omega
        simp -implicitDefEqProofs [hjl', Lnk.v, Pkt.v]
        exact ⟨k - 1, by omega, i + 1, by omega, by rw [wrap64 (by omega)]; rfl⟩
end Go.Proofs.Ytjgcjahngmkfdaa
