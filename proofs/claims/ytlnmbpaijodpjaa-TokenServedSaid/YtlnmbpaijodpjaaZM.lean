/- Texts put behind one another: K2, K3, K4, K5, K6, K7, Sh. -/
import Derived.Test.YtlnmbpaijodpjaaZW
import Derived.Test.YtlnmbpaijodpjaaZE
import Derived.Test.YtlnmbpaijodpjaaZK
import Derived.Test.YtlnmbpaijodpjaaZL
set_option linter.unusedVariables false
set_option linter.unusedSimpArgs false
namespace Go.Proofs.Ytlnmbpaijodpjaa
open Go.RowKit Go.Proofs

def tV (t : List Tk) : List V := t.map Tk.v
def mV (ml : List Ms) : List V := ml.map (·.v 1)
@[simp] theorem tV_length (t : List Tk) : (tV t).length = t.length := by simp [tV]
@[simp] theorem mV_length (ml : List Ms) : (mV ml).length = ml.length := by simp [mV]
theorem tV_get {t : List Tk} {k : Nat} (h : k < t.length) : (tV t)[k]'(by simpa using h) = t[k].v := by simp [tV]
theorem mV_get {ml : List Ms} {k : Nat} (h : k < ml.length) : (mV ml)[k]'(by simpa using h) = ml[k].v 1 := by simp [mV]
theorem mV_take (ml : List Ms) (k : Nat) : (mV ml).take k = mV (ml.take k) := by simp [mV, List.map_take]
theorem mV_drop (ml : List Ms) (k : Nat) : (mV ml).drop k = mV (ml.drop k) := by simp [mV, List.map_drop]
theorem mV_app (c d : List Ms) : mV c ++ mV d = mV (c ++ d) := by simp [mV]
theorem tV_set (t : List Tk) (j : Nat) (x : Tk) : (tV t).set j x.v = tV (t.set j x) := by simp [tV, List.map_set]
/-- the sites and the messages in memory -/
def cV (t : List Tk) (ml : List Ms) : List V := [.own true 34 5 (tV t), .own true 55 19 (mV ml)]
theorem tV_set' (t : List Tk) (j : Nat) (x : Tk) : (tV t).set j (.agg [.s (.bool x.has), .s (.bool x.want), .s (.bool x.using_), .s (.int .i64 x.last), .s (.int .i64 x.next)]) = tV (t.set j x) := tV_set t j x
theorem mV_map (ml : List Ms) : ml.map (·.v 1) = mV ml := rfl
theorem one_le : (0 : Int) ≤ 1 ∧ (1 : Int) ≤ 1073741824 := by omega
set_option maxHeartbeats 16000000 in
set_option maxRecDepth 10000 in
theorem deliver_ac {n : Nat} {t : List Tk} {ml : List Ms} {G : Int → Int} (h : Inv n t ml G) (hml : ml.length ≤ 100) {k : Nat} (hk : k < ml.length) : AC Try.prog 9 [.ptr 0 0, .s (.int .i64 k)] [cV t ml] (fun r bs => r = .s (.bool true) ∧ bs = [cV (delT t ml k) (delM t ml k)]) := by
  have hlen := h.len
  have hn4 := h.n4
  have hto := (h.mr _ (msAt_mem hk)).1
  have hma : msAt ml k = ml[k] := by simp [msAt, List.getD_eq_getElem?_getD, List.getElem?_eq_getElem hk]
  rw [hma] at hto
  obtain ⟨j, hj⟩ : ∃ j : Nat, ml[k].to = (j : Int) := ⟨ml[k].to.toNat, by have := hto.1; omega⟩
  have hjn : j < t.length := by have := hto.2; omega
  refine ac_end c9 mixed rfl ?_
  have k0 : ¬ (k : Int) < 0 := by omega
  have gk := mV_get hk
  have hmv : ml[k].v 1 = .agg ((pc j ml[k].k 1 ml[k].s).map .s) := by rw [Ms.v, hj]
  rw [hmv] at gk
  have wk : IntKind.i64.wrap ((k : Int) + 1) = ((k + 1 : Nat) : Int) := by rw [wrap64 (by omega)]; rfl
  have hmin : min k ml.length = k := by omega
  have b1 : k ≤ maxLen ∧ k * 208 ≤ maxBytes := by simp [maxLen, maxBytes]; omega
  have b2 : k + (ml.length - (k + 1)) ≤ maxLen ∧ (k + (ml.length - (k + 1))) * 208 ≤ maxBytes := by simp [maxLen, maxBytes]; omega
  have hk' : k ≤ ml.length := by omega
  have hk1 : k + 1 ≤ ml.length := by omega
  have k1 : ¬ (k : Int) + 1 < 0 := by omega
  have j0 : ¬ (j : Int) < 0 := by omega
  have j1 : ¬ (j : Int) ≥ (t.length : Int) := by omega
  have htd : List.take (ml.length - (k + 1)) (List.drop (k + 1) ml) = List.drop (k + 1) ml := List.take_of_length_le (by simp)
  have gt := tV_get hjn
  have hta : tAt t ml[k].to = t[j] := by simp [tAt, hj, List.getD_eq_getElem?_getD, List.getElem?_eq_getElem hjn]
  have hok := h.val _ hto
  rw [hta] at hok
  simp -implicitDefEqProofs [a9, F9, cV, hk, hk', hk1, k0, k1, htd, gk, wk, hmin, b1, b2, mV_take, mV_drop, mV_app, pc, mc, j0, j1, hjn, gt, Tk.v, Tk.c]
  refine wkd_take ?_
  simp -implicitDefEqProofs
  have htok : ml[k].tok = true → t[j].want = true := fun q => by
    have := (h.tok_in hk (by rw [hma]; exact q)).1
    rw [hma, hta] at this
    exact this
  have hreq : ml[k].tok = false → Othr n ml[k].to ml[k].org := fun q => by
    obtain ⟨r, c⟩ := h.came hk (by rw [hma]; exact q)
    have := c.ot
    rw [hma] at this
    exact this
  have hH := Hear_pc hok one_le htok hreq
  have hlP : (hearM t[j] ml[k]).length ≤ 1 := by unfold hearM; split <;> (try split) <;> (try split) <;> simp
  have e1 : delT t ml k = t.set j (hearT t[j] ml[k]) := by rw [delT, hma, hta, hj]; rfl
  have e2 : delM t ml k = List.take k ml ++ List.drop (k + 1) ml ++ hearM t[j] ml[k] := by rw [delM, hma, hta]; rfl
  rw [e1, e2]
  clear e1 e2
  generalize hearT t[j] ml[k] = R at hH ⊢
  generalize hearM t[j] ml[k] = P at hH hlP ⊢
  rw [hj] at hH
  refine wcd_of hH (by simp [Tk.v, Tk.c, Ms.mv, mc, hlen]) (by simp [Tk.v, Tk.c, Ms.mv, mc]) ?_
  have b3 : min k ml.length + (ml.length - (k + 1)) + P.length ≤ maxLen ∧ (min k ml.length + (ml.length - (k + 1)) + P.length) * 208 ≤ maxBytes := by simp [maxLen, maxBytes]; omega
  rw [hmin] at b3
  simp -implicitDefEqProofs [gt, Tk.v, Tk.c, mV_map, mV_app, tV_set', hjn, j0, hmin, b3]
  refine retA_of 1 ?_
  simp -implicitDefEqProofs
end Go.Proofs.Ytlnmbpaijodpjaa

namespace Go.Proofs.Ytlnmbpaijodpjaa
open Go.RowKit Go.Proofs

def cntH (t : List Tk) (i : Nat) : Nat := (t.take i).countP (·.has)
def cntK (ml : List Ms) (i : Nat) : Nat := (ml.take i).countP (·.tok)
theorem cntH_succ {t : List Tk} {i : Nat} (h : i < t.length) : cntH t (i + 1) = cntH t i + if t[i].has = true then 1 else 0 := by
  rw [cntH, List.take_succ_eq_append_getElem h, List.countP_append, List.countP_singleton]; rfl
theorem cntK_succ {t : List Ms} {i : Nat} (h : i < t.length) : cntK t (i + 1) = cntK t i + if t[i].tok = true then 1 else 0 := by
  rw [cntK, List.take_succ_eq_append_getElem h, List.countP_append, List.countP_singleton]; rfl
theorem cntH_le (t : List Tk) (i : Nat) : cntH t i ≤ t.length := by
  have := List.countP_le_length (p := fun x : Tk => x.has) (l := t.take i)
  simp only [List.length_take] at this
  unfold cntH
  omega
theorem cntK_le (t : List Ms) (i : Nat) : cntK t i ≤ t.length := by
  have := List.countP_le_length (p := fun x : Ms => x.tok) (l := t.take i)
  simp only [List.length_take] at this
  unfold cntK
  omega
def o10a (t : List Tk) (ml : List Ms) (m : Nat) (S : St) : Prop := ∃ i, i ≤ t.length ∧ m = t.length - i ∧ S = ⟨tmL [(11, .s (.int .i64 t.length)), (12, .s (.int .i64 i))], [.ptr 0 0, .s (.bool false), .s (.int .i64 (cntH t i)), .no], [cV t ml], 0⟩
def o10b (t : List Tk) (ml : List Ms) (m : Nat) (S : St) : Prop := ∃ i, i ≤ ml.length ∧ m = ml.length - i ∧ S = ⟨tmL [(44, .view (.cell 0 1) 0), (45, .s (.int .i64 ml.length)), (46, .s (.int .i64 i))], [.ptr 0 0, .s (.bool false), .s (.int .i64 (cntH t t.length + cntK ml i : Nat)), .no], [cV t ml], 0⟩
set_option maxHeartbeats 16000000 in
set_option maxRecDepth 10000 in
theorem one_ac {n : Nat} {t : List Tk} {ml : List Ms} {G : Int → Int} (h : Inv n t ml G) (hml : ml.length ≤ 100) : AC Try.prog 10 [.ptr 0 0] [cV t ml] (fun r bs => r = .s (.bool true) ∧ bs = [cV t ml]) := by
  have hlen := h.len
  have hn4 := h.n4
  refine ac_end c10 mixed rfl ?_
  simp -implicitDefEqProofs [a10, F10, cV]
  refine w_rounds [11, 12] [3] 1 (Nat.le_refl _) (o10a t ml) t.length ⟨by simp, 0, by omega, by simp, by simp [cV, cntH]⟩ ?_
  rintro m S ⟨i, hi, hm, rfl⟩
  by_cases hil : i < t.length
  · have i1 : (i : Int) < t.length := by omega
    have i0 : ¬ (i : Int) < 0 := by omega
    have gt := tV_get hil
    have hr : Rng n (i : Int) := ⟨by omega, by omega⟩
    have hok := h.val _ hr
    have hta : tAt t (i : Int) = t[i] := by simp [tAt, List.getD_eq_getElem?_getD, List.getElem?_eq_getElem hil]
    rw [hta] at hok
    have hs := cntH_succ hil
    have hle := cntH_le t i
    simp -implicitDefEqProofs [cV, i1, i0, hil, gt, Tk.v, Tk.c]
    refine wkd_take ?_
    simp -implicitDefEqProofs
    refine wcd_of (Valid_pc hok) (by simp [Tk.v, Tk.c, hlen]) (by simp [Tk.v, Tk.c]) ?_
    cases hh : t[i].has
    · rw [hh] at hs
      simp -implicitDefEqProofs [cV, i1, i0, hil, gt, Tk.v, Tk.c, hh]
      exact ⟨m - 1, by omega, i + 1, by omega, by omega, by rw [hs, wrap64 (by omega)]; simp [cV]⟩
    · rw [hh] at hs
      simp -implicitDefEqProofs [cV, i1, i0, hil, gt, Tk.v, Tk.c, hh]
      exact ⟨m - 1, by omega, i + 1, by omega, by omega, by rw [hs, wrap64 (by omega), wrap64 (by omega)]; simp [cV]⟩
  · have i1 : ¬ (i : Int) < t.length := by omega
    obtain rfl : i = t.length := by omega
    simp -implicitDefEqProofs [cV]
    refine w_roundsv [44, 45, 46] [3] 1 (Nat.le_refl _) (o10b t ml) ml.length ⟨by simp, 0, by omega, by simp, by simp [cV, cntK]⟩ ?_
    rintro m S ⟨i, hi, hm, rfl⟩
    have hle := cntH_le t t.length
    have hle2 := cntK_le ml i
    by_cases hil : i < ml.length
    · have i1 : (i : Int) < ml.length := by omega
      have i0 : ¬ (i : Int) < 0 := by omega
      have gk := mV_get hil
      have hs := cntK_succ hil
      cases hh : ml[i].tok
      · rw [hh] at hs
        have hk : ml[i].k = 12 := by simp [Ms.k, hh]
        simp -implicitDefEqProofs [cV, i1, i0, hil, gk, Ms.v, pc, mc, hk]
        exact ⟨m - 1, by omega, i + 1, by omega, by omega, by rw [hs, wrap64 (by omega)]; simp [cV]⟩
      · rw [hh] at hs
        have hk : ml[i].k = 13 := by simp [Ms.k, hh]
        simp -implicitDefEqProofs [cV, i1, i0, hil, gk, Ms.v, pc, mc, hk]
        exact ⟨m - 1, by omega, i + 1, by omega, by omega, by rw [show cntH t t.length + cntK ml (i + 1) = cntH t t.length + cntK ml i + 1 by rw [hs]; rfl, wrap64 (by omega), wrap64 (by omega)]; simp [cV]⟩
    · have i1 : ¬ (i : Int) < ml.length := by omega
      obtain rfl : i = ml.length := by omega
      have h1 : cntH t t.length + cntK ml ml.length = 1 := by have := h.one; simpa [cntH, cntK] using this
      rw [h1]
      simp -implicitDefEqProofs [cV]
      refine retA_of 1 ?_
      simp -implicitDefEqProofs
end Go.Proofs.Ytlnmbpaijodpjaa

namespace Go.Proofs.Ytlnmbpaijodpjaa
open Go.RowKit Go.Proofs

theorem hand1 {bx : List (List V)} {B : List V} {q : Nat} (h : bx[q]? = some B) (hc : B.all cellB = true) : handOk bx [.ptr q 0] [] [q] [.ptr 0 0] [B] :=
  ⟨by simp [ren, renA, renL, fzs], rfl, rfl, rfl, by simp [(List.getElem?_eq_some_iff.1 h).1], by simp [h], by simpa using hc⟩
theorem hand2 {bx : List (List V)} {B : List V} {q : Nat} {v : Value} (h : bx[q]? = some B) (hc : B.all cellB = true) : handOk bx [.ptr q 0, .s v] [] [q] [.ptr 0 0, .s v] [B] :=
  ⟨by simp [ren, renA, renL, fzs], rfl, rfl, rfl, by simp [(List.getElem?_eq_some_iff.1 h).1], by simp [h], by simpa using hc⟩
theorem hand3 {bx : List (List V)} {B : List V} {q : Nat} {v u : Value} (h : bx[q]? = some B) (hc : B.all cellB = true) : handOk bx [.ptr q 0, .s v, .s u] [] [q] [.ptr 0 0, .s v, .s u] [B] :=
  ⟨by simp [ren, renA, renL, fzs], rfl, rfl, rfl, by simp [(List.getElem?_eq_some_iff.1 h).1], by simp [h], by simpa using hc⟩
theorem cV_ok (t : List Tk) (ml : List Ms) : (cV t ml).all cellB = true := rfl
theorem rem_nat (a b : Nat) : Int.tmod (a : Int) (b : Int) = ((a % b : Nat) : Int) := (Int.ofNat_tmod a b).symm
/-- the state and the messages may stand -/
def StP (n : Nat) (r : V) (bs : List (List V)) : Prop := r = .s (.bool true) ∧ ∃ t ml G, Inv n t ml G ∧ bs = [cV t ml]
set_option maxHeartbeats 16000000 in
set_option maxRecDepth 10000 in
theorem step_dlv {n : Nat} {t : List Tk} {ml : List Ms} {G : Int → Int} (h : Inv n t ml G) (u : Int) (k : Nat) (hu : u < 4) (hm : 0 < ml.length) (hk : k ≤ 100) : AC Try.prog 16 [.ptr 0 0, .s (.int .i64 u), .s (.int .i64 k)] [cV t ml] (StP n) := by
  have hlen := h.len
  have hn4 := h.n4
  have hn1 := h.n1
  have hm4 := h.len4
  have hkm : k % ml.length < ml.length := Nat.mod_lt _ hm
  have ht0 : 0 < t.length := by omega
  have hm' : (ml.length : Int) > 0 := by omega
  have e1 : ¬ ml = [] := fun q => by rw [q] at hm; simp at hm
  have e2 : ¬ t = [] := fun q => by rw [q] at ht0; simp at ht0
  refine ac_end c16b mixed rfl ?_
  simp -implicitDefEqProofs [a16b, F16, cV, hu, hm', hm, e1, e2, rem_nat]
  refine wk_hand ?_
  simp -implicitDefEqProofs
  refine wa_of (mask := []) (sel := [0]) (deliver_ac h (by omega) hkm) (hand2 (q := 0) (by simp [cV]) (cV_ok _ _)) ?_
  rintro _ _ ⟨rfl, rfl⟩
  refine ⟨rfl, ?_⟩
  simp -implicitDefEqProofs
  refine retA_of 1 ?_
  simp -implicitDefEqProofs
  obtain ⟨G', V', hI, _, _⟩ := h.deliver (Vis.none n t ml G) hkm
  exact ⟨by simp [cV], rfl, _, _, G', hI, rfl⟩
set_option maxHeartbeats 16000000 in
set_option maxRecDepth 10000 in
theorem step_hi {n : Nat} {t : List Tk} {ml : List Ms} {G : Int → Int} (h : Inv n t ml G) (u : Int) (k : Nat) (hq : ¬ u < 4) (hk : k ≤ 100) : AC Try.prog 16 [.ptr 0 0, .s (.int .i64 u), .s (.int .i64 k)] [cV t ml] (StP n) := by
  have hlen := h.len
  have hn4 := h.n4
  have hn1 := h.n1
  have hm4 := h.len4
  have ht0 : 0 < t.length := by omega
  obtain ⟨j, hj⟩ : ∃ j, j = k % t.length := ⟨_, rfl⟩
  have hjn : j < t.length := by rw [hj]; exact Nat.mod_lt _ ht0
  have hj0 : ¬ (j : Int) < 0 := by omega
  have e2 : ¬ t = [] := fun q => by rw [q] at ht0; simp at ht0
  have gt := tV_get hjn
  have hr : Rng n (j : Int) := ⟨by omega, by omega⟩
  have hok := h.val _ hr
  have hta : tAt t (j : Int) = t[j] := by simp [tAt, List.getD_eq_getElem?_getD, List.getElem?_eq_getElem hjn]
  rw [hta] at hok
  have hrem : Int.tmod (k : Int) (t.length : Int) = ((j : Nat) : Int) := by rw [rem_nat, hj]
  refine ac_end c16b mixed rfl ?_
  cases hu : t[j].using_
  · cases hw : t[j].want
    · have hP := Want_pc hok one_le hw hu
      have hI := h.want hr (by rw [hta]; exact hw) (by rw [hta]; exact hu)
      rw [hta] at hI
      have hlP : (wantM t[j] (j : Int)).length ≤ 1 := by unfold wantM; split <;> simp
      generalize wantT t[j] = R at hP hI
      generalize wantM t[j] (j : Int) = P at hP hI hlP
      have b3 : ml.length + P.length ≤ maxLen ∧ (ml.length + P.length) * 208 ≤ maxBytes := by simp [maxLen, maxBytes]; omega
      have b4 : P.length ≤ maxLen ∧ P.length * 208 ≤ maxBytes := by simp [maxLen, maxBytes]; omega
      simp -implicitDefEqProofs [a16b, F16, cV, hq, e2, hrem, hj0, hjn, gt, Tk.v, Tk.c, hu, hw]
      refine wkd_take ?_
      simp -implicitDefEqProofs
      refine wcd_of hP (by simp [Tk.v, Tk.c, hlen, hu, hw]) (by simp [Tk.v, Tk.c]) ?_
      simp -implicitDefEqProofs [Tk.v, Tk.c, mV_map, mV_app, tV_set', hjn, hj0, gt, b3, b4]
      refine retA_of 1 ?_
      simp -implicitDefEqProofs
      exact ⟨rfl, _, _, G, hI, by first | rfl | (rw [hm0]; rfl)⟩
    · simp -implicitDefEqProofs [a16b, F16, cV, hq, e2, hrem, hj0, hjn, gt, Tk.v, Tk.c, hu, hw]
      refine retA_of 1 ?_
      simp -implicitDefEqProofs
      exact ⟨rfl, _, _, G, h, by first | rfl | (rw [hm0]; rfl)⟩
  · have hP := Done_pc hok one_le hu
    have hI := h.done (Vis.none n t ml G) hr (by rw [hta]; exact hu)
    rw [hta] at hI
    have hlP : (doneM t[j]).length ≤ 1 := by unfold doneM; split <;> simp
    generalize doneT t[j] = R at hP hI
    generalize doneM t[j] = P at hP hI hlP
    have b3 : ml.length + P.length ≤ maxLen ∧ (ml.length + P.length) * 208 ≤ maxBytes := by simp [maxLen, maxBytes]; omega
    have b4 : P.length ≤ maxLen ∧ P.length * 208 ≤ maxBytes := by simp [maxLen, maxBytes]; omega
    simp -implicitDefEqProofs [a16b, F16, cV, hq, e2, hrem, hj0, hjn, gt, Tk.v, Tk.c, hu]
    refine wkd_take ?_
    simp -implicitDefEqProofs
    refine wcd_of hP (by simp [Tk.v, Tk.c, hlen, hu]) (by simp [Tk.v, Tk.c]) ?_
    simp -implicitDefEqProofs [Tk.v, Tk.c, mV_map, mV_app, tV_set', hjn, hj0, gt, b3, b4]
    refine retA_of 1 ?_
    simp -implicitDefEqProofs
    exact ⟨rfl, _, _, G, hI.1, by first | rfl | (rw [hm0]; rfl)⟩
set_option maxHeartbeats 16000000 in
set_option maxRecDepth 10000 in
theorem step_no {n : Nat} {t : List Tk} {ml : List Ms} {G : Int → Int} (h : Inv n t ml G) (u : Int) (k : Nat) (hq : u < 4) (hm0 : ml = []) (hk : k ≤ 100) : AC Try.prog 16 [.ptr 0 0, .s (.int .i64 u), .s (.int .i64 k)] [cV t ml] (StP n) := by
  have hlen := h.len
  have hn4 := h.n4
  have hn1 := h.n1
  have hm4 := h.len4
  have ht0 : 0 < t.length := by omega
  obtain ⟨j, hj⟩ : ∃ j, j = k % t.length := ⟨_, rfl⟩
  have hjn : j < t.length := by rw [hj]; exact Nat.mod_lt _ ht0
  have hj0 : ¬ (j : Int) < 0 := by omega
  have e2 : ¬ t = [] := fun q => by rw [q] at ht0; simp at ht0
  have gt := tV_get hjn
  have hr : Rng n (j : Int) := ⟨by omega, by omega⟩
  have hok := h.val _ hr
  have hta : tAt t (j : Int) = t[j] := by simp [tAt, List.getD_eq_getElem?_getD, List.getElem?_eq_getElem hjn]
  rw [hta] at hok
  have hrem : Int.tmod (k : Int) (t.length : Int) = ((j : Nat) : Int) := by rw [rem_nat, hj]
  refine ac_end c16b mixed rfl ?_
  cases hu : t[j].using_
  · cases hw : t[j].want
    · have hP := Want_pc hok one_le hw hu
      have hI := h.want hr (by rw [hta]; exact hw) (by rw [hta]; exact hu)
      rw [hta] at hI
      have hlP : (wantM t[j] (j : Int)).length ≤ 1 := by unfold wantM; split <;> simp
      generalize wantT t[j] = R at hP hI
      generalize wantM t[j] (j : Int) = P at hP hI hlP
      have b3 : ml.length + P.length ≤ maxLen ∧ (ml.length + P.length) * 208 ≤ maxBytes := by simp [maxLen, maxBytes]; omega
      have b4 : P.length ≤ maxLen ∧ P.length * 208 ≤ maxBytes := by simp [maxLen, maxBytes]; omega
      simp -implicitDefEqProofs [a16b, F16, cV, hq, hm0, e2, hrem, hj0, hjn, gt, Tk.v, Tk.c, hu, hw]
      refine wkd_take ?_
      simp -implicitDefEqProofs
      refine wcd_of hP (by simp [Tk.v, Tk.c, hlen, hu, hw]) (by simp [Tk.v, Tk.c]) ?_
      simp -implicitDefEqProofs [Tk.v, Tk.c, mV_map, mV_app, tV_set', hjn, hj0, gt, b3, b4]
      refine retA_of 1 ?_
      simp -implicitDefEqProofs
      exact ⟨rfl, _, _, G, hI, by first | rfl | (rw [hm0]; rfl)⟩
    · simp -implicitDefEqProofs [a16b, F16, cV, hq, hm0, e2, hrem, hj0, hjn, gt, Tk.v, Tk.c, hu, hw]
      refine retA_of 1 ?_
      simp -implicitDefEqProofs
      exact ⟨rfl, _, _, G, h, by first | rfl | (rw [hm0]; rfl)⟩
  · have hP := Done_pc hok one_le hu
    have hI := h.done (Vis.none n t ml G) hr (by rw [hta]; exact hu)
    rw [hta] at hI
    have hlP : (doneM t[j]).length ≤ 1 := by unfold doneM; split <;> simp
    generalize doneT t[j] = R at hP hI
    generalize doneM t[j] = P at hP hI hlP
    have b3 : ml.length + P.length ≤ maxLen ∧ (ml.length + P.length) * 208 ≤ maxBytes := by simp [maxLen, maxBytes]; omega
    have b4 : P.length ≤ maxLen ∧ P.length * 208 ≤ maxBytes := by simp [maxLen, maxBytes]; omega
    simp -implicitDefEqProofs [a16b, F16, cV, hq, hm0, e2, hrem, hj0, hjn, gt, Tk.v, Tk.c, hu]
    refine wkd_take ?_
    simp -implicitDefEqProofs
    refine wcd_of hP (by simp [Tk.v, Tk.c, hlen, hu]) (by simp [Tk.v, Tk.c]) ?_
    simp -implicitDefEqProofs [Tk.v, Tk.c, mV_map, mV_app, tV_set', hjn, hj0, gt, b3, b4]
    refine retA_of 1 ?_
    simp -implicitDefEqProofs
    exact ⟨rfl, _, _, G, hI.1, by first | rfl | (rw [hm0]; rfl)⟩
theorem step_ac {n : Nat} {t : List Tk} {ml : List Ms} {G : Int → Int} (h : Inv n t ml G) (u : Int) (k : Nat) (hk : k ≤ 100) : AC Try.prog 16 [.ptr 0 0, .s (.int .i64 u), .s (.int .i64 k)] [cV t ml] (StP n) := by
  by_cases hu : u < 4
  · by_cases hm : ml = []
    · exact step_no h u k hu hm hk
    · exact step_dlv h u k hu (by cases ml <;> simp at hm ⊢) hk
  · exact step_hi h u k hu hk
end Go.Proofs.Ytlnmbpaijodpjaa

namespace Go.Proofs.Ytlnmbpaijodpjaa
open Go.RowKit Go.Proofs

theorem tmod_pos {n m : Int} (h : 0 < m) : (n.tmod m < 0 ∧ n.tmod m + m = n % m) ∨ (¬ n.tmod m < 0 ∧ n.tmod m = n % m) := by
  rw [Int.tmod_eq_emod]
  have hb := Int.emod_nonneg n (b := m) (by omega)
  have hc := Int.emod_lt_of_pos n h
  split
  · right; omega
  · left; omega

theorem Mod_pc (n m : Int) (h1 : 1 ≤ m) (h2 : m ≤ 4611686018427387904) : PC Try.prog 22 [.s (.int .i64 n), .s (.int .i64 m)] (fun r => r = .s (.int .i64 (n % m))) := by
  refine pc_end c22 mixed rfl ?_
  have e1 : ¬ m < 1 := by omega
  have e2 : ¬ m = 0 := by omega
  have hb := Int.emod_nonneg n (b := m) (by omega)
  have hc := Int.emod_lt_of_pos n (b := m) (by omega)
  rcases tmod_pos (n := n) (m := m) (by omega) with ⟨h3, h4⟩ | ⟨h3, h4⟩
  · have e3 : IntKind.i64.wrap (n % m) = n % m := wrap64 (by omega)
    simp -implicitDefEqProofs [a22, F22, e1, e2, h3, h4, e3]
  · have h5 : ¬ n % m < 0 := by omega
    simp -implicitDefEqProofs [a22, F22, e1, e2, h4, h5]
/-- a tape in a box -/
def tapeB (xs : List Int) (k : Nat) : List V := [.list 1 (iv xs), .s (.int .i64 k)]
def nxt (xs : List Int) (k : Nat) (m : Int) : Int := if h : k < xs.length then xs[k] % m else 0
def nat1 (xs : List Int) (k : Nat) : Nat := if k < xs.length then k + 1 else k
theorem nxt_bd (xs : List Int) (k : Nat) {m : Int} (h : 0 < m) : 0 ≤ nxt xs k m ∧ nxt xs k m < m := by
  unfold nxt
  split
  · exact ⟨Int.emod_nonneg _ (by omega), Int.emod_lt_of_pos _ h⟩
  · exact ⟨Int.le_refl _, h⟩
theorem nat1_le {xs : List Int} {k : Nat} (h : k ≤ xs.length) : nat1 xs k ≤ xs.length ∧ k ≤ nat1 xs k := by unfold nat1; split <;> omega
theorem Next_ac (xs : List Int) (k : Nat) (m : Int) (h1 : 1 ≤ m) (h2 : m ≤ 4611686018427387904) (hk : k ≤ 1000000) : AC Try.prog 17 [.ptr 0 0, .s (.int .i64 m)] [tapeB xs k] (fun r bs => r = .s (.int .i64 (nxt xs k m)) ∧ bs = [tapeB xs (nat1 xs k)]) := by
  refine ac_end c17 mixed rfl ?_
  by_cases h : k < xs.length
  · have g1 : ¬ (k : Int) ≥ xs.length := by omega
    have w1 : IntKind.i64.wrap ((k : Int) + 1) = (k : Int) + 1 := wrap64 (by omega)
    have w2 : IntKind.i64.wrap ((k : Int) + 1 - 1) = (k : Int) := by rw [wrap64 (by omega)]; omega
    have w3 : IntKind.i64.wrap (k : Int) = (k : Int) := wrap64 (by omega)
    have k0 : ¬ (k : Int) < 0 := by omega
    simp -implicitDefEqProofs [a17, F17, tapeB, g1, w1, w2, w3, k0, iv_get h]
    refine wkd_take ?_
    simp -implicitDefEqProofs
    refine wcd_of (Mod_pc xs[k] m h1 h2) (by simp) (by simp) ?_
    simp -implicitDefEqProofs
    refine retA_of 1 ?_
    simp -implicitDefEqProofs [tapeB, nxt, nat1, h]
  · have g1 : (k : Int) ≥ xs.length := by omega
    simp -implicitDefEqProofs [a17, F17, tapeB, g1]
    refine retA_of 1 ?_
    simp -implicitDefEqProofs [tapeB, nxt, nat1, h]


theorem tapeB_ok (xs : List Int) (k : Nat) : (tapeB xs k).all cellB = true := rfl
theorem Light_pc (xs : List V) : PC Try.prog 5 [.list 1 xs] (fun r => r = .s (.bool (decide (xs.length ≤ 400)))) := by
  refine pc_end c5 mixed rfl ?_
  by_cases h : xs.length ≤ 400
  · have h' : (xs.length : Int) ≤ 400 := by omega
    simp -implicitDefEqProofs [a5, F5, h, h']
  · have h' : ¬ (xs.length : Int) ≤ 400 := by omega
    simp -implicitDefEqProofs [a5, F5, h, h']
theorem More_ac (xs : List Int) (k : Nat) : AC Try.prog 15 [.ptr 0 0] [tapeB xs k] (fun r bs => r = .s (.bool (decide (k < xs.length))) ∧ bs = [tapeB xs k]) := by
  refine ac_end c15 mixed rfl ?_
  simp -implicitDefEqProofs [a15, F15, tapeB]
  refine retA_of 1 ?_
  simp -implicitDefEqProofs [tapeB]
/-- the first sites -/
def st0 (i : Nat) : List Tk := (List.range i).map fun q : Nat => newT q
theorem st0_succ (i : Nat) : st0 (i + 1) = st0 i ++ [newT i] := by simp [st0, List.range_succ]
@[simp] theorem st0_length (i : Nat) : (st0 i).length = i := by simp [st0]
theorem tV_snoc (t : List Tk) (x : Tk) : tV t ++ [.agg [.s (.bool x.has), .s (.bool x.want), .s (.bool x.using_), .s (.int .i64 x.last), .s (.int .i64 x.next)]] = tV (t ++ [x]) := by simp [tV, Tk.v, Tk.c]
def pla (l : List Int) (n : Nat) (m : Nat) (S : St) : Prop := ∃ i, i ≤ n ∧ m = n - i ∧ S = ⟨tmL [], [.list 1 (iv l), .s (.int .i64 n), .s (.pointer none), .s (.bool false), .ptr 0 0, .s (.int .i64 i), .no, .no], [cV (st0 i) []], 0⟩
def plb (l : List Int) (n : Nat) (m : Nat) (S : St) : Prop := ∃ t ml G k, k + m = l.length ∧ Inv n t ml G ∧ S = ⟨tmL [], [.list 1 (iv l), .s (.int .i64 n), .s (.pointer none), .s (.bool false), .ptr 0 0, .no, .no, .ptr 1 0], [cV t ml, tapeB l k], 0⟩
set_option maxHeartbeats 16000000 in
set_option maxRecDepth 10000 in
theorem play_ac (l : List Int) (hl : l.length ≤ 400) (n : Nat) (h1 : 1 ≤ n) (h4 : n ≤ 4) : AC Try.prog 7 [.list 1 (iv l), .s (.int .i64 n)] [] (fun r bs => ∃ t ml G, Inv n t ml G ∧ r = .tup [.ptr 0 0, .s (.bool true)] ∧ bs = [cV t ml]) := by
  refine ac_end c7b mixed rfl ?_
  simp -implicitDefEqProofs [a7b, F7]
  refine w_rounds [] [6] 1 (by simp) (pla l n) n ⟨by simp, 0, by omega, by simp, by simp [cV, st0, tV, mV]⟩ ?_
  rintro m S ⟨i, hi, hm, rfl⟩
  by_cases hin : i < n
  · have i1 : (i : Int) < n := by omega
    simp -implicitDefEqProofs [i1]
    refine wk_take ?_
    simp -implicitDefEqProofs
    refine wc_of (New_pc i n ⟨by omega, by omega, by omega, by omega⟩) (by simp) (by simp) ?_
    rintro _ rfl
    have b1 : i + 1 ≤ maxLen ∧ (i + 1) * 24 ≤ maxBytes := by simp [maxLen, maxBytes]; omega
    simp -implicitDefEqProofs [Tk.v, Tk.c, cV, tV_snoc, b1]
    exact ⟨n - (i + 1), by omega, i + 1, by omega, rfl, by rw [st0_succ, wrap64 (by omega)]; simp [cV]⟩
  · have i1 : ¬ (i : Int) < n := by omega
    obtain rfl : i = n := by omega
    simp -implicitDefEqProofs
    refine w_rounds [] [5, 6] 2 (by simp) (plb l i) l.length ⟨by simp [cV], st0 i, [], _, 0, by omega, Inv.start h1 h4, by simp [cV, tapeB]⟩ ?_
    rintro m S ⟨t, ml, G, k, hkm, hI, rfl⟩
    have hm4 := hI.len4
    simp -implicitDefEqProofs
    refine wk_hand ?_
    simp -implicitDefEqProofs
    refine wa_of (More_ac l k) (hand1 (q := 1) rfl (tapeB_ok _ _)) ?_
    rintro _ _ ⟨rfl, rfl⟩
    refine ⟨rfl, ?_⟩
    by_cases hk : k < l.length
    case neg =>
      simp -implicitDefEqProofs [hk]
      exact retA_of 1 ⟨by simp, by simp -implicitDefEqProofs [cV], t, ml, ⟨G, hI⟩, by simp -implicitDefEqProofs, by simp -implicitDefEqProofs⟩
    simp -implicitDefEqProofs [hk]
    refine wk_hand ?_
    simp -implicitDefEqProofs
    refine wa_of (Next_ac l k 7 (by omega) (by omega) (by omega)) (hand2 (q := 1) rfl (tapeB_ok _ _)) ?_
    rintro _ _ ⟨rfl, rfl⟩
    refine ⟨rfl, ?_⟩
    simp -implicitDefEqProofs
    refine wk_hand ?_
    simp -implicitDefEqProofs
    refine wa_of (Next_ac l (nat1 l k) 60 (by omega) (by omega) (by have := (nat1_le (xs := l) (k := k) (by omega)).1; omega)) (hand2 (q := 1) rfl (tapeB_ok _ _)) ?_
    rintro _ _ ⟨rfl, rfl⟩
    refine ⟨rfl, ?_⟩
    have hb2 := nxt_bd l (nat1 l k) (m := 60) (by omega)
    have hk2 : k + 1 ≤ nat1 l (nat1 l k) ∧ nat1 l (nat1 l k) ≤ l.length := by
      have h0 : nat1 l k = k + 1 := by simp [nat1, hk]
      have h1 := nat1_le (xs := l) (k := k) (by omega)
      have h2 := nat1_le (xs := l) (k := nat1 l k) h1.1
      omega
    revert hb2 hk2
    generalize nxt l k 7 = u
    generalize nxt l (nat1 l k) 60 = q0
    generalize nat1 l (nat1 l k) = k2
    intro hb2 hk2
    obtain ⟨q, rfl⟩ : ∃ q : Nat, q0 = q := ⟨q0.toNat, by omega⟩
    simp -implicitDefEqProofs
    refine wk_hand ?_
    simp -implicitDefEqProofs
    refine wa_of (step_ac hI u q (by omega)) (hand3 (q := 0) rfl (cV_ok _ _)) ?_
    rintro _ _ ⟨rfl, t', ml', G', hI', rfl⟩
    refine ⟨rfl, ?_⟩
    simp -implicitDefEqProofs
    refine wk_hand ?_
    simp -implicitDefEqProofs
    refine wa_of (one_ac hI' (by have := hI'.len4; omega)) (hand1 (q := 0) rfl (cV_ok _ _)) ?_
    rintro _ _ ⟨rfl, rfl⟩
    refine ⟨rfl, ?_⟩
    simp -implicitDefEqProofs
    exact ⟨⟨by simp [cV], by simp [tapeB]⟩, l.length - k2, by omega, t', ml', G', k2, by omega, hI', rfl⟩
end Go.Proofs.Ytlnmbpaijodpjaa

namespace Go.Proofs.Ytlnmbpaijodpjaa
open Go.RowKit Go.Proofs

theorem newT_ok {n : Nat} {i : Int} (h1 : 1 ≤ n) (h4 : n ≤ 4) (hi : Rng n i) : (newT i).ok n i := by
  have := (Inv.start h1 h4).val i hi
  rwa [startT_at hi] at this
set_option maxHeartbeats 16000000 in
set_option maxRecDepth 10000 in
theorem awake_pc : PC Try.prog 6 [] (fun r => r = .s (.bool true)) := by
  refine pc_end c6 mixed rfl ?_
  have hW := Want_pc (t := newT 1) (n := 3) (i := 1) (e := 5) (newT_ok (by omega) (by omega) (by decide)) (by omega) rfl rfl
  have hH := Hear_pc (t := newT 0) (n := 3) (i := 0) (e := 5) (m := ⟨0, false, 1⟩) (newT_ok (by omega) (by omega) (by decide)) (by omega) (by simp) (fun _ => by decide)
  have hV := Valid_pc (t := hearT (newT 0) ⟨0, false, 1⟩) (n := 3) (i := 0) ⟨by decide, by decide, by decide, by decide, by decide, by decide, by decide, by decide, by decide⟩
  simp [newT, wantT, wantM, hearT, hearM, Ms.v, Ms.mv, Ms.k, Ms.s, pc, mc, Tk.v, Tk.c] at hW hH hV
  simp -implicitDefEqProofs [a6, F6]
  refine wk_take ?_
  simp -implicitDefEqProofs
  refine wc_of (New_pc 0 3 (by omega)) (by simp) (by simp) ?_
  rintro _ rfl
  simp -implicitDefEqProofs [Tk.v, Tk.c, newT]
  refine wk_take ?_
  simp -implicitDefEqProofs
  refine wc_of (New_pc 1 3 (by omega)) (by simp) (by simp) ?_
  rintro _ rfl
  simp -implicitDefEqProofs [Tk.v, Tk.c, newT]
  refine wk_take ?_
  simp -implicitDefEqProofs
  refine wc_of hW (by simp) (by simp) ?_
  rintro _ rfl
  simp -implicitDefEqProofs
  refine wkd_take ?_
  simp -implicitDefEqProofs
  refine wcd_of hH (by simp) (by simp) ?_
  simp -implicitDefEqProofs
  refine wk_take ?_
  simp -implicitDefEqProofs
  refine wc_of hV (by simp) (by simp) ?_
  rintro _ rfl
  simp -implicitDefEqProofs
theorem hand01 {bx : List (List V)} {z : Nat} {xs : List V} {v : Value} : handOk bx [.list z xs, .s v] [] [] [.list z xs, .s v] [] :=
  ⟨by simp [ren, renA, renL, fzs], rfl, rfl, rfl, by simp, rfl, by simp⟩
theorem TokenOne_pc (l : List Int) (n : Nat) (hn : n < 256) : PC Try.prog 3 [.list 1 (iv l), .s (.int .u8 n)] (fun r => r = .s (.bool true)) := by
  refine pc_end c3 mixed rfl ?_
  simp -implicitDefEqProofs [a3, F3]
  refine wk_take ?_
  simp -implicitDefEqProofs
  refine wc_of (Light_pc (iv l)) (by simp) (by simp) ?_
  rintro _ rfl
  by_cases hl : l.length ≤ 400
  case neg =>
    simp -implicitDefEqProofs [hl]
    refine wk_take ?_
    simp -implicitDefEqProofs
    refine wc_of awake_pc (by simp) (by simp) ?_
    rintro _ rfl
    simp -implicitDefEqProofs
  have e1 : IntKind.i64.wrap (n : Int) = (n : Int) := wrap64 (by omega)
  have e2 : Int.tmod (n : Int) 4 = ((n % 4 : Nat) : Int) := rem_nat n 4
  have e3 : IntKind.i64.wrap (1 + (n : Int) % 4) = ((n % 4 + 1 : Nat) : Int) := by rw [wrap64 (by omega)]; omega
  simp -implicitDefEqProofs [hl, e1, e2, e3]
  refine wk_hand ?_
  simp -implicitDefEqProofs
  refine wa_of (play_ac l hl (n % 4 + 1) (by omega) (by omega)) hand01 ?_
  rintro _ _ ⟨t, ml, G, hI, rfl, rfl⟩
  refine ⟨rfl, ?_⟩
  simp -implicitDefEqProofs
  refine wk_take ?_
  simp -implicitDefEqProofs
  refine wc_of awake_pc (by simp) (by simp) ?_
  rintro _ rfl
  simp -implicitDefEqProofs
end Go.Proofs.Ytlnmbpaijodpjaa

namespace Go.Proofs.Ytlnmbpaijodpjaa
open Go.RowKit Go.Proofs

def b2n (b : Bool) : Nat := if b then 1 else 0
theorem mu_start {n : Nat} {t : List Tk} {ml : List Ms} {G : Int → Int} (h : Inv n t ml G) : mu t (List.replicate 16 false) ≤ 28 := by
  have h1 := h.len
  have h2 := h.n4
  have h3 := List.countP_le_length (p := fun x : Tk => x.want) (l := t)
  have h4 := List.countP_le_length (p := fun x : Tk => x.using_) (l := t)
  have h5 : (List.replicate 16 false).countP (fun b => !b) = 16 := by decide
  unfold mu
  omega
/-- the rounds, the sites of a round, the last look -/
def s4a (l : List Int) (N : Int) (n : Nat) (m : Nat) (S : St) : Prop := ∃ k t ml G V, m + k = 28 ∧ Inv n t ml G ∧ Vis n t ml G V ∧ mu t V + k ≤ 28 ∧ S = ⟨tmL [], [.list 1 (iv l), .s (.int .u8 N), .s (.bool false), .ptr 0 0, .s (.bool true), .s (.int .i64 (k : Nat)), .no, .no, .no, .no, .no], [cV t ml], 0⟩
def s4b (l : List Int) (N : Int) (n : Nat) (k : Nat) (m : Nat) (S : St) : Prop := ∃ (i : Nat) (t : List Tk) (ml : List Ms) (G : Int → Int) (V : List Bool) (b : Bool), i ≤ n ∧ m = n - i ∧ Inv n t ml G ∧ Vis n t ml G V ∧ mu t V + b2n b + k ≤ 28 ∧ (b = false → ∀ x : Int, 0 ≤ x → x < i → (tAt t x).using_ = false) ∧
  S = ⟨tmL [(37, .s (.int .i64 n)), (38, .s (.int .i64 (i : Nat)))], [.list 1 (iv l), .s (.int .u8 N), .s (.bool false), .ptr 0 0, .s (.bool true), .s (.int .i64 (k : Nat)), .s (.bool b), .no, .no, .no, .no], [cV t ml], 0⟩
def s4c (l : List Int) (N : Int) (n : Nat) (t : List Tk) (m : Nat) (S : St) : Prop := ∃ (i : Nat), i ≤ n ∧ m = n - i ∧
  S = ⟨tmL [(113, .s (.int .i64 n)), (114, .s (.int .i64 (i : Nat)))], [.list 1 (iv l), .s (.int .u8 N), .s (.bool false), .ptr 0 0, .s (.bool true), .no, .no, .no, .no, .no, .no], [cV t []], 0⟩
set_option maxHeartbeats 16000000 in
set_option maxRecDepth 10000 in
theorem TokenServed_pc (l : List Int) (n : Nat) (hn : n < 256) : PC Try.prog 4 [.list 1 (iv l), .s (.int .u8 n)] (fun r => r = .s (.bool true)) := by
  refine pc_end c4b mixed rfl ?_
  simp -implicitDefEqProofs [a4b, F4]
  refine wk_take ?_
  simp -implicitDefEqProofs
  refine wc_of (Light_pc (iv l)) (by simp) (by simp) ?_
  rintro _ rfl
  by_cases hl : l.length ≤ 400
  case neg =>
    simp -implicitDefEqProofs [hl]
    refine wk_take ?_
    simp -implicitDefEqProofs
    refine wc_of awake_pc (by simp) (by simp) ?_
    rintro _ rfl
    simp -implicitDefEqProofs
  have e1 : IntKind.i64.wrap (n : Int) = (n : Int) := wrap64 (by omega)
  have e2 : Int.tmod (n : Int) 4 = ((n % 4 : Nat) : Int) := rem_nat n 4
  have e3 : IntKind.i64.wrap (1 + (n : Int) % 4) = ((n % 4 + 1 : Nat) : Int) := by rw [wrap64 (by omega)]; omega
  simp -implicitDefEqProofs [hl, e1, e2, e3]
  refine wk_hand ?_
  simp -implicitDefEqProofs
  refine wa_of (play_ac l hl (n % 4 + 1) (by omega) (by omega)) hand01 ?_
  have hn4 : n % 4 + 1 ≤ 4 := by omega
  clear e1 e2 e3
  generalize n % 4 + 1 = s at hn4
  generalize (n : Int) = N
  rintro _ _ ⟨t, ml, G, hI, rfl, rfl⟩
  refine ⟨rfl, ?_⟩
  simp -implicitDefEqProofs
  refine w_rounds [] [6, 7, 8, 9] 1 (by simp) (s4a l N s) 28 ⟨by simp [cV], 0, t, ml, G, _, by omega, hI, Vis.none _ _ _ _, mu_start hI, by simp⟩ ?_
  clear hI
  clear t ml G
  rintro m S ⟨k, t, ml, G, V, hm, hI, hV, hmu, rfl⟩
  have hk : (k : Int) < 1000 := by omega
  have hlen := hI.len
  simp -implicitDefEqProofs [hk, cV]
  refine w_rounds [37, 38] [7, 8, 9] 1 (by simp) (s4b l N s k) s ⟨by simp, 0, t, ml, G, V, false, by omega, by omega, hI, hV, by simpa [b2n] using hmu, fun _ x h1 h2 => by omega, by simp [cV, hlen]⟩ ?_
  clear hI hV hmu hlen
  clear t ml G V
  rintro m' S ⟨i, t, ml, G, V, b, hi, hm', hI, hV, hmu, hb, rfl⟩
  have hlen := hI.len
  have hm4 := hI.len4
  by_cases his : i < s
  · have i1 : (i : Int) < s := by omega
    have i0 : ¬ (i : Int) < 0 := by omega
    have hil : i < t.length := by omega
    have gt := tV_get hil
    have hr : Rng s (i : Int) := ⟨by omega, by omega⟩
    have hok := hI.val _ hr
    have hta : tAt t (i : Int) = t[i] := by simp [tAt, List.getD_eq_getElem?_getD, List.getElem?_eq_getElem hil]
    rw [hta] at hok
    have w1 : IntKind.i64.wrap ((i : Int) + 1) = ((i + 1 : Nat) : Int) := by rw [wrap64 (by omega)]; rfl
    cases hu : t[i].using_
    · simp -implicitDefEqProofs [cV, i1, i0, hil, gt, Tk.v, Tk.c, hu, w1]
      exact ⟨s - (i + 1), by omega, i + 1, t, ml, G, V, b, by omega, by omega, hI, hV, hmu, fun q x h1 h2 => by
        by_cases hx : x < i
        · exact hb q x h1 hx
        · have : x = i := by omega
          rw [this, hta, hu], by simp [cV]⟩
    · have hP := Done_pc hok one_le hu
      have hD := hI.done hV hr (by rw [hta]; exact hu)
      rw [hta] at hD
      have hlP : (doneM t[i]).length ≤ 1 := by unfold doneM; split <;> simp
      generalize doneT t[i] = R at hP hD
      generalize doneM t[i] = P at hP hD hlP
      have b3 : ml.length + P.length ≤ maxLen ∧ (ml.length + P.length) * 208 ≤ maxBytes := by simp [maxLen, maxBytes]; omega
      simp -implicitDefEqProofs [cV, i1, i0, hil, gt, Tk.v, Tk.c, hu, w1]
      refine wkd_take ?_
      simp -implicitDefEqProofs
      refine wcd_of hP (by simp [Tk.v, Tk.c, hlen, hu]) (by simp [Tk.v, Tk.c]) ?_
      simp -implicitDefEqProofs [Tk.v, Tk.c, mV_map, mV_app, tV_set', hil, i0, gt, b3, w1]
      exact ⟨s - (i + 1), by omega, i + 1, _, _, G, V, true, by omega, by omega, hD.1, hD.2.1, by have := hD.2.2; simp only [b2n, if_true]; omega, (fun q => Bool.noConfusion q), by simp [cV]⟩
  · have hie : i = s := by omega
    subst hie
    have wk : IntKind.i64.wrap ((k : Int) + 1) = ((k + 1 : Nat) : Int) := by rw [wrap64 (by omega)]; rfl
    by_cases hmm : ml = []
    · subst hmm
      cases b
      · have hus : ∀ x, Rng i x → (tAt t x).using_ = false := fun x hx => hb rfl x hx.1 hx.2
        have hwt := hI.quiet hus
        simp -implicitDefEqProofs [cV]
        refine w_rounds [113, 114] [5, 6, 7, 8, 9, 10] 1 (by simp) (s4c l N i t) i ⟨by simp, 0, by omega, by omega, by simp [cV, hlen]⟩ ?_
        rintro m2 S ⟨j, hj, hm2, rfl⟩
        by_cases hji : j < i
        · have i1 : (j : Int) < i := by omega
          have i0 : ¬ (j : Int) < 0 := by omega
          have hjl : j < t.length := by omega
          have gt := tV_get hjl
          have hta : tAt t (j : Int) = t[j] := by simp [tAt, List.getD_eq_getElem?_getD, List.getElem?_eq_getElem hjl]
          have hu := hus j ⟨by omega, by omega⟩
          have hw := hwt j ⟨by omega, by omega⟩
          rw [hta] at hu hw
          have w1 : IntKind.i64.wrap ((j : Int) + 1) = ((j + 1 : Nat) : Int) := by rw [wrap64 (by omega)]; rfl
          simp -implicitDefEqProofs [cV, i1, i0, hjl, gt, Tk.v, Tk.c, hu, hw, w1]
          exact ⟨i - (j + 1), by omega, j + 1, by omega, rfl, by simp [cV]⟩
        · obtain rfl : j = i := by omega
          simp -implicitDefEqProofs
          refine wk_take ?_
          simp -implicitDefEqProofs
          refine wc_of awake_pc (by simp) (by simp) ?_
          rintro _ rfl
          simp -implicitDefEqProofs [cV, mV]
      · simp -implicitDefEqProofs [cV, wk]
        exact ⟨m - 1, by simp [b2n] at hmu; omega, k + 1, t, [], G, V, by simp [b2n] at hmu; omega, hI, hV, by simp [b2n] at hmu; omega, by simp [cV]⟩
    · have h0 : 0 < ml.length := by cases ml <;> simp at hmm ⊢
      have hpos : (ml.length : Int) > 0 := by omega
      have hkm : k % ml.length < ml.length := Nat.mod_lt _ h0
      simp -implicitDefEqProofs [cV, hmm, h0, hpos, rem_nat]
      refine wk_hand ?_
      simp -implicitDefEqProofs
      refine wa_of (mask := []) (sel := [0]) (deliver_ac hI (by omega) hkm) (hand2 (q := 0) (by simp [cV]) (cV_ok _ _)) ?_
      rintro _ _ ⟨rfl, rfl⟩
      refine ⟨rfl, ?_⟩
      obtain ⟨G', V', hI', hV', hmu'⟩ := hI.deliver hV hkm
      generalize delT t ml (k % ml.length) = t' at hI' hV' hmu'
      generalize delM t ml (k % ml.length) = ml' at hI' hV' hmu'
      simp -implicitDefEqProofs
      refine wk_hand ?_
      simp -implicitDefEqProofs
      refine wa_of (one_ac hI' (by have := hI'.len4; omega)) (hand1 (q := 0) rfl (cV_ok _ _)) ?_
      rintro _ _ ⟨rfl, rfl⟩
      refine ⟨rfl, ?_⟩
      simp -implicitDefEqProofs [wk]
      exact ⟨by simp [cV], m - 1, by omega, k + 1, t', ml', G', V', by omega, hI', hV', by omega, by simp⟩
end Go.Proofs.Ytlnmbpaijodpjaa

namespace Go.Proofs.Ytlnmbpaijodpjaa
open Go.RowKit Go.Proofs

theorem sh_int0 {dep : Nat} {el : List V} (h : Shape Try.prog (dep + 1) 3 el) : ∃ n : Int, el = [.s (.int .i64 n)] := by
  unfold Shape at h
  rw [Try.underlying3] at h
  obtain ⟨n, _, hn⟩ := h
  exact ⟨n, by simpa using hn⟩
/-- the elements of a slice -/
theorem sh_els {α : Type} {dep : Nat} {t : TypeId} {f : α → V} (hf : ∀ el, Shape Try.prog dep t el → ∃ a, elemD Try.prog t el = f a) : ∀ (els : List (List V)), (∀ el ∈ els, Shape Try.prog dep t el) → ∃ m : List α, els.map (elemD Try.prog t) = m.map f
  | [], _ => ⟨[], rfl⟩
  | x :: r, h => by
    obtain ⟨m, hm⟩ := sh_els hf r (fun el hel => h el (by simp [hel]))
    obtain ⟨a, ha⟩ := hf x (h x (by simp))
    exact ⟨a :: m, by rw [List.map_cons, hm, ha]; rfl⟩
theorem sh_ints0 {dep : Nat} {el : List V} (h : Shape Try.prog (dep + 2) 22 el) : ∃ l : List Int, el = [.list 1 (iv l)] := by
  unfold Shape at h
  rw [Try.underlying22] at h
  obtain ⟨els, hx, _, hb⟩ := h
  have e1 : Try.prog.cellsOf 3 = 1 := by kernel_rfl
  have e2 : aggT Try.prog 3 = some false := by kernel_rfl
  rw [e1] at hx
  obtain ⟨m, hm⟩ := sh_els (f := fun n : Int => V.s (.int .i64 n)) (fun el hel => by
    obtain ⟨n, rfl⟩ := sh_int0 hel
    exact ⟨n, by simp [elemD, e2]⟩) els hb
  rw [hm] at hx
  exact ⟨m, hx⟩
theorem sh_byte {dep : Nat} {x : V} (h : ArgShape Try.prog (dep + 1) 5 x) : ∃ n : Nat, n < 256 ∧ x = .s (.int .u8 n) := by
  unfold ArgShape at h
  rw [Try.underlying5] at h
  simp only at h
  unfold Shape at h
  rw [Try.underlying5] at h
  obtain ⟨n, hn, hx⟩ := h
  have hb : 0 ≤ n ∧ n ≤ 255 := by simpa [Lit.wf, IntKind.min, IntKind.max, IntKind.signed, IntKind.bits] using hn
  exact ⟨n.toNat, by omega, by rw [show ((n.toNat : Nat) : Int) = n by omega]; simpa using hx⟩
theorem sh_ints {dep : Nat} {x : V} (h : ArgShape Try.prog (dep + 2) 22 x) : ∃ l : List Int, x = .list 1 (iv l) := by
  unfold ArgShape at h
  rw [Try.underlying22] at h
  simp only at h
  obtain ⟨l, hl⟩ := sh_ints0 h
  exact ⟨l, by simpa using hl⟩
end Go.Proofs.Ytlnmbpaijodpjaa
