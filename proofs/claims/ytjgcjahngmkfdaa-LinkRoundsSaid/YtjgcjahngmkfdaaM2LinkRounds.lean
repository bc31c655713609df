/- Texts put behind one another: U7, U8, U9. -/
import Derived.Test.YtjgcjahngmkfdaaZU
import Derived.Test.YtjgcjahngmkfdaaZK
set_option linter.unusedVariables false
set_option linter.unusedSimpArgs false
namespace Go.Proofs.Ytjgcjahngmkfdaa
open Go.RowKit Go.Proofs

theorem hand0 {bx : List (List V)} {z : Nat} {xs : List V} : handOk bx [.list z xs] [] [] [.list z xs] [] :=
  ⟨by simp [ren, renA, renL, fzs], rfl, rfl, rfl, by simp, by simp, by simp⟩
set_option maxHeartbeats 16000000 in
set_option maxRecDepth 10000 in
theorem LinkOnce_pc (l : List Int) : PC Try.prog 5 [.list 1 (iv l)] (fun r => r = .s (.bool true)) := by
  refine pc_end c5 mixed rfl ?_
  simp -implicitDefEqProofs [a5, F5]
  refine wk_take ?_
  simp -implicitDefEqProofs
  refine wc_of (Light_pc (iv l)) (by simp) (by simp) ?_
  rintro _ rfl
  by_cases hl : l.length ≤ 400
  case neg =>
    simp -implicitDefEqProofs [hl]
    refine wk_take ?_
    simp -implicitDefEqProofs
    refine wc_of awake_pc (by simp) (by simp) ?_
    rintro _ rfl
    simp -implicitDefEqProofs
  simp -implicitDefEqProofs [hl]
  refine wk_hand ?_
  simp -implicitDefEqProofs
  refine wa_of (play_ac l hl) hand0 ?_
  rintro _ _ ⟨E, hE, rfl, rfl⟩
  refine ⟨by simp -implicitDefEqProofs [Es.cells], ?_⟩
  have v0 := E.lk_valid hE (by omega) false
  have v1 := E.lk_valid hE (by omega) true
  simp -implicitDefEqProofs
  refine wk_take ?_
  simp -implicitDefEqProofs
  refine wc_of awake_pc (by simp) (by simp) ?_
  rintro _ rfl
  simp -implicitDefEqProofs [Es.cells]
  refine wk_take ?_
  simp -implicitDefEqProofs
  refine wc_of (Valid_pc (E.lk false)) (by simp [Lnk.v, Es.lk]) (by simp [Lnk.v]) ?_
  rintro _ rfl
  simp -implicitDefEqProofs [v0]
  refine wk_take ?_
  simp -implicitDefEqProofs
  refine wc_of (Valid_pc (E.lk true)) (by simp [Lnk.v, Es.lk]) (by simp [Lnk.v]) ?_
  rintro _ rfl
  simp -implicitDefEqProofs [v1]
end Go.Proofs.Ytjgcjahngmkfdaa

namespace Go.Proofs.Ytjgcjahngmkfdaa
open Go.RowKit Go.Proofs

structure Le (E E' : Es) : Prop where
  o : E'.o = E.o
  f : ∀ i, E.f i ≤ E'.f i
  r : ∀ i, E.r i ≤ E'.r i
theorem Le.dlv (E : Es) (i : Bool) (k : Nat) : Le E (E.dlv i k) := by
  refine ⟨rfl, fun j => ?_, fun j => (E.los i k).hr_r i _ j⟩
  rcases bool_cases i j with rfl | rfl
  · simp [Es.dlv, Es.hr, Es.los]
  · simp only [Es.dlv, Es.hr, Es.los, upB_same]; omega
theorem Le.snd (E : Es) (i : Bool) : Le E (E.snd i) := ⟨rfl, fun _ => Nat.le_refl _, fun _ => Nat.le_refl _⟩
theorem dlv_len {E : Es} {i : Bool} (h : 0 < (E.c i).length) : ((E.dlv i 0).c i).length + 1 = (E.c i).length := by
  simp [Es.dlv, Es.hr, Es.los]; omega
theorem snd_c {E : Es} {i : Bool} (h : E.c i = []) : (E.snd i).c i = E.pks i := by
  have := E.pks_len i
  simp only [Es.snd, upB_same, h, List.nil_append]
  exact List.take_of_length_le (by omega)
theorem pks_pos {E : Es} {M : Nat} (hE : E.ok M) (i : Bool) : 0 < (E.pks i).length := by
  have h1 := hE.fr i
  have h2 := hE.ro i
  unfold Es.pks
  split
  · simp
  · simp; omega
/-- what the packets of i bring about -/
structure Hv (i : Bool) (E E' : Es) : Prop where
  r : min (E.o i).length (E.f i + 1) ≤ E'.r i
  f : E.r (!i) ≤ E'.f (!i)
theorem Hv.le {i : Bool} {E E1 E2 : Es} (h : Hv i E E1) (hl : Le E1 E2) : Hv i E E2 := ⟨Nat.le_trans h.r (hl.r i), Nat.le_trans h.f (hl.f _)⟩
theorem Hv.first {E : Es} {M : Nat} (hE : E.ok M) {i : Bool} (hc : E.c i = []) : Hv i E ((E.snd i).dlv i 0) := by
  have h1 := hE.fr i
  have h2 := hE.ro i
  have hs := snd_c hc
  have hp : (E.snd i).pkt i 0 = (E.pks i).getD 0 ⟨0, 0, []⟩ := by rw [Es.pkt, hs]
  have key : ((E.snd i).pkt i 0).ack = E.r (!i) ∧ ((E.o i).length = E.f i ∨ ((E.snd i).pkt i 0).seq = E.f i + 1) := by
    rw [hp]
    unfold Es.pks
    split
    · next e => exact ⟨rfl, .inl e⟩
    · next e =>
      have : 0 < min ((E.o i).length - E.f i) 4 := by omega
      obtain ⟨n, hn⟩ : ∃ n, min ((E.o i).length - E.f i) 4 = n + 1 := ⟨min ((E.o i).length - E.f i) 4 - 1, by omega⟩
      rw [hn, List.range_succ_eq_map]
      simp
  refine ⟨?_, ?_⟩
  · show min (E.o i).length (E.f i + 1) ≤ upB E.r i (if ((E.snd i).pkt i 0).seq = (E.r i : Nat) + 1 then E.r i + 1 else E.r i) i
    rw [upB_same]
    rcases key.2 with e | e
    · split <;> omega
    · split
      · omega
      · omega
  · show E.r (!i) ≤ upB E.f (!i) (max (E.f (!i)) ((E.snd i).pkt i 0).ack.toNat) (!i)
    rw [upB_same, key.1]
    omega
/-- when t rounds are over -/
structure Pr (t : Nat) (E : Es) : Prop where
  f0 : min (E.o false).length t ≤ E.f false
  r1 : min (E.o true).length t ≤ E.r true
  f1 : min (E.o true).length (t - 1) ≤ E.f true
/-- in the middle of a round -/
structure Pm (t : Nat) (E : Es) : Prop where
  r0 : min (E.o false).length (t + 1) ≤ E.r false
  f1 : min (E.o true).length t ≤ E.f true
theorem Pr.le {t : Nat} {E E' : Es} (h : Pr t E) (hl : Le E E') : Pr t E' := by
  have a := hl.f false
  have b := hl.r true
  have c := hl.f true
  have h1 := h.f0
  have h2 := h.r1
  have h3 := h.f1
  exact ⟨by rw [hl.o]; omega, by rw [hl.o]; omega, by rw [hl.o]; omega⟩
theorem Pm.le {t : Nat} {E E' : Es} (h : Pm t E) (hl : Le E E') : Pm t E' := by
  have a := hl.r false
  have b := hl.f true
  have h1 := h.r0
  have h2 := h.f1
  exact ⟨by rw [hl.o]; omega, by rw [hl.o]; omega⟩
theorem Pr.mid {t : Nat} {E E' : Es} (h : Pr t E) (hv : Hv false E E') (ho : E'.o = E.o) : Pm t E' := by
  have h1 := h.f0
  have h2 := h.r1
  have h3 := hv.r
  have h4 : E.r true ≤ E'.f true := hv.f
  exact ⟨by rw [ho]; omega, by rw [ho]; omega⟩
theorem Pm.done {t : Nat} {E E' : Es} (h : Pm t E) (hv : Hv true E E') (hl : Pm t E') (ho : E'.o = E.o) : Pr (t + 1) E' := by
  have h1 := h.r0
  have h2 := h.f1
  have h3 := hv.r
  have h4 : E.r false ≤ E'.f false := hv.f
  have h5 := hl.f1
  rw [ho] at h5
  exact ⟨by rw [ho]; omega, by rw [ho]; omega, by rw [ho]; omega⟩
theorem Pr.zero (E : Es) : Pr 0 E := ⟨by omega, by omega, by omega⟩
theorem Pr.all {t : Nat} {E : Es} {M : Nat} (hE : E.ok M) (h : Pr t E) (ht : (E.o false).length + (E.o true).length + 1 ≤ t) (i : Bool) : E.f i = (E.o i).length ∧ E.r i = (E.o i).length := by
  have a0 := hE.fr false
  have b0 := hE.ro false
  have a1 := hE.fr true
  have b1 := hE.ro true
  have h1 := h.f0
  have h2 := h.r1
  have h3 := h.f1
  cases i
  · omega
  · omega
end Go.Proofs.Ytjgcjahngmkfdaa

namespace Go.Proofs.Ytjgcjahngmkfdaa
open Go.RowKit Go.Proofs

def rSt (l : List Int) (mk : Nat) (i x : V) (E : Es) : St := ⟨tmL [], [.list 1 (iv l), .s (.bool false), .ptr 0 0, .s (.bool true), .s (.int .i64 (mk : Nat)), i, x], [E.cells], 0⟩
def oInv (l : List Int) (E0 : Es) (K : Nat) (m : Nat) (S : St) : Prop := ∃ E t, E.ok 400 ∧ E.o = E0.o ∧ Pr t E ∧ t + m = K ∧ S = rSt l m .no .no E
def iInv (l : List Int) (E0 : Es) (mk t : Nat) (m : Nat) (S : St) : Prop := ∃ (j : Nat) (E : Es), j + m = 2 ∧ E.ok 400 ∧ E.o = E0.o ∧ ((j = 0 ∧ Pr t E) ∨ (j = 1 ∧ Pm t E) ∨ (j = 2 ∧ Pr (t + 1) E)) ∧ S = rSt l mk (.s (.int .i64 j)) .no E
def dInv (l : List Int) (i : Bool) (mk : Nat) (A : Es → Prop) (m : Nat) (S : St) : Prop := ∃ E : Es, E.ok 400 ∧ A E ∧ m = (E.c i).length ∧ S = rSt l mk (.s (.int .i64 (i2n i))) .no E
def gInv (l : List Int) (E : Es) (m : Nat) (S : St) : Prop := ∃ j : Nat, j + m = 2 ∧ S = rSt l 0 .no (.s (.int .i64 j)) E
set_option maxHeartbeats 32000000 in
set_option maxRecDepth 10000 in
theorem LinkRounds_pc (l : List Int) : PC Try.prog 6 [.list 1 (iv l)] (fun r => r = .s (.bool true)) := by
  refine pc_end c6 mixed rfl ?_
  simp -implicitDefEqProofs [a6, F6]
  refine wk_take ?_
  simp -implicitDefEqProofs
  refine wc_of (Light_pc (iv l)) (by simp) (by simp) ?_
  rintro _ rfl
  by_cases hl : l.length ≤ 400
  case neg =>
    simp -implicitDefEqProofs [hl]
    refine wk_take ?_
    simp -implicitDefEqProofs
    refine wc_of awake_pc (by simp) (by simp) ?_
    rintro _ rfl
    simp -implicitDefEqProofs
  simp -implicitDefEqProofs [hl]
  refine wk_hand ?_
  simp -implicitDefEqProofs
  refine wa_of (play_ac l hl) hand0 ?_
  rintro _ _ ⟨E0, hE0, rfl, rfl⟩
  refine ⟨by simp -implicitDefEqProofs [Es.cells], ?_⟩
  have w0 : IntKind.i64.wrap 0 = 0 := by decide
  have w1 : IntKind.i64.wrap 1 = 1 := by decide
  have w2 : IntKind.i64.wrap 2 = 2 := by decide
  have o0 := hE0.ol false
  have o1 := hE0.ol true
  have wA : IntKind.i64.wrap (((E0.o false).length : Int) + (E0.o true).length) = ((E0.o false).length : Int) + (E0.o true).length := wrap64 (by omega)
  have wB : IntKind.i64.wrap (((E0.o false).length : Int) + (E0.o true).length + 1) = ((E0.o false).length : Int) + (E0.o true).length + 1 := wrap64 (by omega)
  simp -implicitDefEqProofs [Es.cells, wA, wB]
  refine w_rounds [] [5] 1 (by simp) (oInv l E0 ((E0.o false).length + (E0.o true).length + 1)) ((E0.o false).length + (E0.o true).length + 1) ⟨by simp, E0, 0, hE0, rfl, Pr.zero E0, by omega, by simp [rSt, Es.cells]⟩ ?_
  rintro m S ⟨E, t, hE, hEo, hP, htm, rfl⟩
  by_cases hm : 0 < m
  · simp -implicitDefEqProofs [rSt, hm]
    refine w_rounds [] [] 1 (by simp) (iInv l E0 m t) 2 ⟨by simp [Es.cells], 0, E, by omega, hE, hEo, .inl ⟨rfl, hP⟩, by simp [rSt]⟩ ?_
    clear hE hEo hP
    rintro m2 S ⟨j, E, hjm, hE, hEo, hP, rfl⟩
    rcases hP with ⟨rfl, hP⟩ | ⟨rfl, hP⟩ | ⟨rfl, hP⟩
    · simp -implicitDefEqProofs [rSt]
      refine w_rounds [] [] 1 (by simp) (dInv l false m fun X => X.o = E0.o ∧ Pr t X) (E.c false).length ⟨by simp [Es.cells], E, hE, ⟨hEo, hP⟩, rfl, by simp [rSt, i2n]⟩ ?_
      clear hE hEo hP
      rintro m3 S ⟨E1, hE1, ⟨hE1o, hP1⟩, rfl, rfl⟩
      by_cases hc : 0 < (E1.c false).length
      · have hd := deliver0 E1 0 400 hE1 (by omega) hc
        have hl1 := Le.dlv E1 false 0
        have hl2 := dlv_len hc
        simp -implicitDefEqProofs [rSt, i2n, Es.cells, hc]
        refine wk_hand ?_
        simp -implicitDefEqProofs
        refine wa_of hd (hand3 (q := 0) (by simp -implicitDefEqProofs [Es.cells]) (Es.cells_ok _)) ?_
        rintro _ _ ⟨rfl, rfl⟩
        refine ⟨rfl, ?_⟩
        simp -implicitDefEqProofs
        exact ⟨by simp -implicitDefEqProofs [Es.cells], _, by omega, E1.dlv false 0, E1.dlv_ok hE1 hc, ⟨hl1.o.trans hE1o, hP1.le hl1⟩, rfl, by simp [rSt, i2n]⟩
      have hc0 : E1.c false = [] := List.length_eq_zero_iff.1 (by omega)
      have hsok := E1.snd_ok hE1 false
      have hsc := snd_c hc0
      have hpp := pks_pos hE1 false
      simp -implicitDefEqProofs [rSt, i2n, Es.cells, hc]
      refine wk_hand ?_
      simp -implicitDefEqProofs
      refine wa_of (send0 E1 400 hE1 (by omega)) (hand2 (q := 0) (by simp -implicitDefEqProofs [Es.cells]) (Es.cells_ok _)) ?_
      rintro _ _ ⟨rfl, rfl⟩
      refine ⟨rfl, ?_⟩
      simp -implicitDefEqProofs
      refine w_rounds [] [] 1 (by simp) (dInv l false m fun X => X.o = E0.o ∧ Pr t X ∧ (X = E1.snd false ∨ Hv false E1 X)) ((E1.snd false).c false).length ⟨by simp [Es.cells], E1.snd false, hsok, ⟨hE1o, hP1.le (Le.snd E1 false), .inl rfl⟩, rfl, by simp [rSt, i2n]⟩ ?_
      rintro m4 S ⟨E3, hE3, ⟨hE3o, hP3, hH⟩, rfl, rfl⟩
      by_cases hc3 : 0 < (E3.c false).length
      · have hd := deliver0 E3 0 400 hE3 (by omega) hc3
        have hl1 := Le.dlv E3 false 0
        have hl2 := dlv_len hc3
        have hH2 : Hv false E1 (E3.dlv false 0) := by
          rcases hH with rfl | hH
          · exact Hv.first hE1 hc0
          · exact hH.le hl1
        simp -implicitDefEqProofs [rSt, i2n, Es.cells, hc3]
        refine wk_hand ?_
        simp -implicitDefEqProofs
        refine wa_of hd (hand3 (q := 0) (by simp -implicitDefEqProofs [Es.cells]) (Es.cells_ok _)) ?_
        rintro _ _ ⟨rfl, rfl⟩
        refine ⟨rfl, ?_⟩
        simp -implicitDefEqProofs
        exact ⟨by simp -implicitDefEqProofs [Es.cells], _, by omega, E3.dlv false 0, E3.dlv_ok hE3 hc3, ⟨hl1.o.trans hE3o, hP3.le hl1, .inr hH2⟩, rfl, by simp [rSt, i2n]⟩
      have hv : Hv false E1 E3 := by
        rcases hH with rfl | hH
        · rw [hsc] at hc3; exact absurd hpp hc3
        · exact hH
      have hQ : Pm t E3 := hP1.mid hv (hE3o.trans hE1o.symm)
      simp -implicitDefEqProofs [rSt, i2n, Es.cells, hc3, w1, w2]
      exact ⟨m2 - 1, by omega, 1, E3, by omega, hE3, hE3o, .inr (.inl ⟨rfl, hQ⟩), by simp [rSt, Es.cells]⟩
    · simp -implicitDefEqProofs [rSt]
      refine w_rounds [] [] 1 (by simp) (dInv l true m fun X => X.o = E0.o ∧ Pm t X) (E.c true).length ⟨by simp [Es.cells], E, hE, ⟨hEo, hP⟩, rfl, by simp [rSt, i2n]⟩ ?_
      clear hE hEo hP
      rintro m3 S ⟨E1, hE1, ⟨hE1o, hP1⟩, rfl, rfl⟩
      by_cases hc : 0 < (E1.c true).length
      · have hd := deliver1 E1 0 400 hE1 (by omega) hc
        have hl1 := Le.dlv E1 true 0
        have hl2 := dlv_len hc
        simp -implicitDefEqProofs [rSt, i2n, Es.cells, hc]
        refine wk_hand ?_
        simp -implicitDefEqProofs
        refine wa_of hd (hand3 (q := 0) (by simp -implicitDefEqProofs [Es.cells]) (Es.cells_ok _)) ?_
        rintro _ _ ⟨rfl, rfl⟩
        refine ⟨rfl, ?_⟩
        simp -implicitDefEqProofs
        exact ⟨by simp -implicitDefEqProofs [Es.cells], _, by omega, E1.dlv true 0, E1.dlv_ok hE1 hc, ⟨hl1.o.trans hE1o, hP1.le hl1⟩, rfl, by simp [rSt, i2n]⟩
      have hc0 : E1.c true = [] := List.length_eq_zero_iff.1 (by omega)
      have hsok := E1.snd_ok hE1 true
      have hsc := snd_c hc0
      have hpp := pks_pos hE1 true
      simp -implicitDefEqProofs [rSt, i2n, Es.cells, hc]
      refine wk_hand ?_
      simp -implicitDefEqProofs
      refine wa_of (send1 E1 400 hE1 (by omega)) (hand2 (q := 0) (by simp -implicitDefEqProofs [Es.cells]) (Es.cells_ok _)) ?_
      rintro _ _ ⟨rfl, rfl⟩
      refine ⟨rfl, ?_⟩
      simp -implicitDefEqProofs
      refine w_rounds [] [] 1 (by simp) (dInv l true m fun X => X.o = E0.o ∧ Pm t X ∧ (X = E1.snd true ∨ Hv true E1 X)) ((E1.snd true).c true).length ⟨by simp [Es.cells], E1.snd true, hsok, ⟨hE1o, hP1.le (Le.snd E1 true), .inl rfl⟩, rfl, by simp [rSt, i2n]⟩ ?_
      rintro m4 S ⟨E3, hE3, ⟨hE3o, hP3, hH⟩, rfl, rfl⟩
      by_cases hc3 : 0 < (E3.c true).length
      · have hd := deliver1 E3 0 400 hE3 (by omega) hc3
        have hl1 := Le.dlv E3 true 0
        have hl2 := dlv_len hc3
        have hH2 : Hv true E1 (E3.dlv true 0) := by
          rcases hH with rfl | hH
          · exact Hv.first hE1 hc0
          · exact hH.le hl1
        simp -implicitDefEqProofs [rSt, i2n, Es.cells, hc3]
        refine wk_hand ?_
        simp -implicitDefEqProofs
        refine wa_of hd (hand3 (q := 0) (by simp -implicitDefEqProofs [Es.cells]) (Es.cells_ok _)) ?_
        rintro _ _ ⟨rfl, rfl⟩
        refine ⟨rfl, ?_⟩
        simp -implicitDefEqProofs
        exact ⟨by simp -implicitDefEqProofs [Es.cells], _, by omega, E3.dlv true 0, E3.dlv_ok hE3 hc3, ⟨hl1.o.trans hE3o, hP3.le hl1, .inr hH2⟩, rfl, by simp [rSt, i2n]⟩
      have hv : Hv true E1 E3 := by
        rcases hH with rfl | hH
        · rw [hsc] at hc3; exact absurd hpp hc3
        · exact hH
      have hQ : Pr (t + 1) E3 := hP1.done hv hP3 (hE3o.trans hE1o.symm)
      simp -implicitDefEqProofs [rSt, i2n, Es.cells, hc3, w1, w2]
      exact ⟨m2 - 1, by omega, 2, E3, by omega, hE3, hE3o, .inr (.inr ⟨rfl, hQ⟩), by simp [rSt, Es.cells]⟩
    · have wm : IntKind.i64.wrap ((m : Int) - 1) = ((m - 1 : Nat) : Int) := by rw [wrap64 (by omega)]; omega
      simp -implicitDefEqProofs [rSt, wm]
      exact ⟨by simp -implicitDefEqProofs [Es.cells], m - 1, by omega, E, t + 1, hE, hEo, hP, by omega, rfl⟩
  have hm0 : m = 0 := by omega
  subst hm0
  have e0 := hP.all hE (by rw [hEo]; omega) false
  have e1 := hP.all hE (by rw [hEo]; omega) true
  have g0 : E.got false = E.o false := by rw [Es.got, e0.2]; exact List.take_length
  have g1 : E.got true = E.o true := by rw [Es.got, e1.2]; exact List.take_length
  have u0 : E.out false = [] := by rw [Es.out, e0.1, List.drop_length]; rfl
  have u1 : E.out true = [] := by rw [Es.out, e1.1, List.drop_length]; rfl
  have f0 : (E.lk false).first = (E.o false).length + 1 := by simp [Es.lk, e0.1]
  have f1 : (E.lk true).first = (E.o true).length + 1 := by simp [Es.lk, e1.1]
  have p0 := hE.ol false
  have p1 := hE.ol true
  have wf0 : IntKind.i64.wrap (((E.o false).length : Int) + 1) = ((E.o false).length : Int) + 1 := wrap64 (by omega)
  have wf1 : IntKind.i64.wrap (((E.o true).length : Int) + 1) = ((E.o true).length : Int) + 1 := wrap64 (by omega)
  simp -implicitDefEqProofs [rSt]
  refine w_rounds [] [] 1 (by simp) (gInv l E) 2 ⟨by simp [Es.cells], 0, by omega, by simp [rSt]⟩ ?_
  rintro m2 S ⟨j, hj, rfl⟩
  rcases (show j = 0 ∨ j = 1 ∨ j = 2 by omega) with rfl | rfl | rfl
  · simp -implicitDefEqProofs [rSt, Es.cells, g0, u0, f0, w1, wf0, cl]
    exact ⟨m2 - 1, by omega, 1, by omega, by simp [rSt, Es.cells, g0, u0, f0, cl]⟩
  · simp -implicitDefEqProofs [rSt, Es.cells, g1, u1, f1, w2, wf1, cl]
    exact ⟨m2 - 1, by omega, 2, by omega, by simp [rSt, Es.cells, g1, u1, f1, cl]⟩
  · simp -implicitDefEqProofs [rSt]
    refine wk_take ?_
    simp -implicitDefEqProofs
    refine wc_of awake_pc (by simp) (by simp) ?_
    rintro _ rfl
    simp -implicitDefEqProofs
    refine wk_hand ?_
    simp -implicitDefEqProofs
    refine wa_of (begin_ac E 400 hE (by omega)) (hand1 (q := 0) rfl (Es.cells_ok _)) ?_
    rintro _ _ ⟨rfl, rfl⟩
    refine ⟨rfl, ?_⟩
    simp -implicitDefEqProofs
end Go.Proofs.Ytjgcjahngmkfdaa
