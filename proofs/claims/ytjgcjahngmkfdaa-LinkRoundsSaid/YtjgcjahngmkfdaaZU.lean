/- Texts put behind one another: U1, U2, U3, U4, U5, U6. -/
import Derived.Test.YtjgcjahngmkfdaaZK
import Derived.Test.YtjgcjahngmkfdaaZC
import Derived.Test.YtjgcjahngmkfdaaZL
set_option linter.unusedVariables false
set_option linter.unusedSimpArgs false
namespace Go.Proofs.Ytjgcjahngmkfdaa
open Go.RowKit Go.Proofs

def upB {α : Type} (f : Bool → α) (i : Bool) (x : α) : Bool → α := fun j => if j = i then x else f j
@[simp] theorem upB_same {α : Type} (f : Bool → α) (i : Bool) (x : α) : upB f i x i = x := by simp [upB]
@[simp] theorem upB_not {α : Type} (f : Bool → α) (i : Bool) (x : α) : upB f i x (!i) = f (!i) := by simp [upB]
@[simp] theorem upB_not2 {α : Type} (f : Bool → α) (i : Bool) (x : α) : upB f (!i) x i = f i := by simp [upB]
theorem bool_cases (i j : Bool) : j = i ∨ j = !i := by cases i <;> cases j <;> simp
/-- two ends: what each offered, how much of it is acknowledged, how much was received, and its channel -/
structure Es where
  o : Bool → List UInt8
  f : Bool → Nat
  r : Bool → Nat
  c : Bool → List Pkt
def fr (p : Pkt) : List UInt8 := frame (pay p)
def Es.out (E : Es) (i : Bool) : List (List UInt8) := ((E.o i).drop (E.f i)).map fun b => [b]
def Es.lk (E : Es) (i : Bool) : Lnk := ⟨E.f i + 1, E.out i, E.r (!i)⟩
def Es.got (E : Es) (i : Bool) : List UInt8 := (E.o i).take (E.r i)
structure pOk (E : Es) (i : Bool) (p : Pkt) : Prop where
  a0 : 0 ≤ p.ack
  a1 : p.ack ≤ E.r (!i)
  b : (p.seq = 0 ∧ p.body = []) ∨ ∃ n, ∃ h : n < (E.o i).length, p.seq = n + 1 ∧ p.body = [(E.o i)[n]]
structure Es.ok (E : Es) (M : Nat) : Prop where
  fr : ∀ i, E.f i ≤ E.r i
  ro : ∀ i, E.r i ≤ (E.o i).length
  ol : ∀ i, (E.o i).length ≤ M
  pk : ∀ i, ∀ p ∈ E.c i, pOk E i p
  cl : ∀ i, (E.c i).length ≤ 8
theorem pOk.mono {E E' : Es} {i : Bool} {p : Pkt} (h : pOk E i p) (hr : ∀ j, E.r j ≤ E'.r j) (ho : ∀ j, ∃ t, E'.o j = E.o j ++ t) : pOk E' i p := by
  refine ⟨h.a0, ?_, ?_⟩
  · have := h.a1
    have := hr (!i)
    omega
  · rcases h.b with q | ⟨n, hn, q1, q2⟩
    · exact .inl q
    · obtain ⟨t, ht⟩ := ho i
      refine .inr ⟨n, by rw [ht]; simp; omega, q1, ?_⟩
      rw [q2]
      simp only [ht, List.getElem_append_left hn]
theorem pOk.valid {E : Es} {i : Bool} {p : Pkt} {M : Nat} (h : pOk E i p) (hE : E.ok M) (hM : M ≤ 100000) : p.valid = true := by
  have h1 := hE.ro (!i)
  have h2 := hE.ol (!i)
  have h3 := hE.ol i
  have a0 := h.a0
  have a1 := h.a1
  simp only [Pkt.valid, Bool.and_eq_true, decide_eq_true_eq]
  rcases h.b with ⟨q1, q2⟩ | ⟨n, hn, q1, q2⟩
  · refine ⟨by omega, ?_⟩
    rw [if_pos q1, q2]; rfl
  · refine ⟨by omega, ?_⟩
    rw [if_neg (by omega), q2]; rfl
theorem pOk.bl {E : Es} {i : Bool} {p : Pkt} (h : pOk E i p) : p.body.length ≤ 1 := by
  rcases h.b with ⟨_, q2⟩ | ⟨n, hn, _, q2⟩ <;> rw [q2] <;> simp
theorem Es.out_len (E : Es) (i : Bool) : (E.out i).length = (E.o i).length - E.f i := by simp [Es.out]
theorem Es.lk_valid {E : Es} {M : Nat} (h : E.ok M) (hM : M ≤ 100000) (i : Bool) : (E.lk i).valid = true := by
  have h1 := h.fr i
  have h2 := h.ro i
  have h3 := h.ol i
  have h4 := h.ro (!i)
  have h5 := h.ol (!i)
  simp only [Lnk.valid, Es.lk, Bool.and_eq_true, decide_eq_true_eq, List.all_eq_true, E.out_len]
  refine ⟨by omega, fun x hx => ?_, decide_eq_true (by omega)⟩
  simp only [Es.out, List.mem_map] at hx
  obtain ⟨b, _, rfl⟩ := hx
  rfl
theorem Es.lk_ok {E : Es} {M : Nat} (h : E.ok M) (hM : M ≤ 100000) (i : Bool) : okLnk (E.lk i) := by
  have h3 := h.ol i
  refine ⟨by simp only [Es.lk, E.out_len]; omega, fun x hx => ?_⟩
  simp only [Es.lk, Es.out, List.mem_map] at hx
  obtain ⟨b, _, rfl⟩ := hx
  simp
/-- a packet of i is heard by the other end -/
def Es.hr (E : Es) (i : Bool) (p : Pkt) : Es := ⟨E.o, upB E.f (!i) (max (E.f (!i)) p.ack.toNat), upB E.r i (if p.seq = E.r i + 1 then E.r i + 1 else E.r i), E.c⟩
def Es.mB (E : Es) (i : Bool) (p : Pkt) : List UInt8 := if p.seq = E.r i + 1 then p.body else []
theorem Es.hr_r (E : Es) (i : Bool) (p : Pkt) (j : Bool) : E.r j ≤ (E.hr i p).r j := by
  rcases bool_cases i j with rfl | rfl
  · simp only [Es.hr, upB_same]; split <;> omega
  · simp [Es.hr]
theorem Es.hr_ok {E : Es} {M : Nat} (h : E.ok M) {i : Bool} {p : Pkt} (hp : pOk E i p) : (E.hr i p).ok M := by
  have hi := h.fr i
  have ho := h.ro i
  have hni := h.fr (!i)
  refine ⟨fun j => ?_, fun j => ?_, h.ol, fun j q hq => (h.pk j q hq).mono (E.hr_r i p) fun j => ⟨[], by simp [Es.hr]⟩, h.cl⟩
  · rcases bool_cases i j with rfl | rfl
    · have := E.hr_r j p j
      simp only [Es.hr, upB_not2] at this ⊢
      omega
    · have := hp.a1
      have := hp.a0
      simp only [Es.hr, upB_same, upB_not]
      omega
  · rcases bool_cases i j with rfl | rfl
    · simp only [Es.hr, upB_same]
      split
      · next e =>
        rcases hp.b with ⟨q, _⟩ | ⟨n, hn, q, _⟩ <;> omega
      · omega
    · simpa [Es.hr] using h.ro (!i)
theorem Es.hr_got {E : Es} {M : Nat} (h : E.ok M) {i : Bool} {p : Pkt} (hp : pOk E i p) : (E.hr i p).got i = E.got i ++ E.mB i p := by
  simp only [Es.got, Es.hr, upB_same, Es.mB]
  split
  · next e =>
    rcases hp.b with ⟨q, _⟩ | ⟨n, hn, q1, q2⟩
    · omega
    · have : n = E.r i := by omega
      subst this
      rw [q2, List.take_succ_eq_append_getElem hn]
  · simp
theorem Es.hr_gotn {E : Es} {i : Bool} {p : Pkt} : (E.hr i p).got (!i) = E.got (!i) := by simp [Es.got, Es.hr]
theorem Es.mB_len {E : Es} {i : Bool} {p : Pkt} (hp : pOk E i p) : (E.mB i p).length = if p.seq = E.r i + 1 then 1 else 0 := by
  unfold Es.mB
  split
  · next e =>
    rcases hp.b with ⟨q, _⟩ | ⟨n, hn, q1, q2⟩
    · omega
    · rw [q2]; rfl
  · rfl
theorem hear_es {E : Es} {M : Nat} (h : E.ok M) (hM : M ≤ 100000) {i : Bool} {p : Pkt} (hp : pOk E i p) : hearV (E.lk (!i)) p = .tup [.agg [.s (.int .i64 ((E.hr i p).lk (!i)).first), .own true 25 1 (cl ((E.hr i p).out (!i))), .s (.int .i64 ((E.hr i p).lk (!i)).got)],
    if p.seq = E.r i + 1 then .list 1 (bv p.body) else .s (.slice none 0 0), .s (.bool (decide (p.seq = E.r i + 1))), .s (.int .i64 0)] := by
  have h1 := h.fr (!i)
  have h2 := h.ro (!i)
  have a0 := hp.a0
  have a1 := hp.a1
  have hcut : cut (E.lk (!i)) p = max (E.f (!i)) p.ack.toNat - E.f (!i) := by
    simp only [cut, Es.lk]; omega
  have hfi : (E.lk (!i)).first + (cut (E.lk (!i)) p : Nat) = ((E.hr i p).lk (!i)).first := by
    rw [hcut]; simp only [Es.lk, Es.hr, upB_same]; omega
  have hou : (E.lk (!i)).out.drop (cut (E.lk (!i)) p) = (E.hr i p).out (!i) := by
    rw [hcut]
    simp only [Es.lk, Es.hr, Es.out, upB_same, ← List.map_drop, List.drop_drop]
    congr 2
    omega
  unfold hearV
  rw [if_neg (by simp [E.lk_valid h hM]), if_neg (by simp [hp.valid h hM]), if_neg (by simp only [Es.lk, E.out_len]; omega), hou, hfi]
  have hg : (E.lk (!i)).got = E.r i := by simp [Es.lk]
  rw [hg]
  by_cases e : p.seq = E.r i + 1
  · simp [e, Es.lk, Es.hr]
  · simp [e, Es.lk, Es.hr]
/-- a packet is taken off the channel and heard -/
def Es.pkt (E : Es) (i : Bool) (k : Nat) : Pkt := (E.c i).getD k ⟨0, 0, []⟩
def Es.los (E : Es) (i : Bool) (k : Nat) : Es := { E with c := upB E.c i ((E.c i).take k ++ (E.c i).drop (k + 1)) }
def Es.dlv (E : Es) (i : Bool) (k : Nat) : Es := (E.los i k).hr i (E.pkt i k)
theorem Es.pkt_mem {E : Es} {i : Bool} {k : Nat} (hk : k < (E.c i).length) : E.pkt i k ∈ E.c i := by
  rw [Es.pkt, List.getD_eq_getElem?_getD, List.getElem?_eq_getElem hk]; exact List.getElem_mem hk
theorem Es.chan_ok {E : Es} {M : Nat} (h : E.ok M) {i : Bool} {l : List Pkt} (hl : l.length ≤ 8) (hp : ∀ p ∈ l, pOk E i p) : ({ E with c := upB E.c i l } : Es).ok M := by
  refine ⟨h.fr, h.ro, h.ol, fun j p hq => ?_, fun j => ?_⟩
  · rcases bool_cases i j with rfl | rfl
    · simp only [upB_same] at hq
      exact (hp p hq).mono (fun _ => Nat.le_refl _) fun _ => ⟨[], by simp⟩
    · simp only [upB_not] at hq
      exact (h.pk _ p hq).mono (fun _ => Nat.le_refl _) fun _ => ⟨[], by simp⟩
  · rcases bool_cases i j with rfl | rfl
    · simpa using hl
    · simpa using h.cl (!i)
theorem Es.los_ok {E : Es} {M : Nat} (h : E.ok M) (i : Bool) (k : Nat) : (E.los i k).ok M := by
  refine E.chan_ok h ?_ fun p hp => ?_
  · have := h.cl i
    simp
    omega
  · rw [List.mem_append] at hp
    rcases hp with hp | hp
    · exact h.pk i p (List.mem_of_mem_take hp)
    · exact h.pk i p (List.mem_of_mem_drop hp)
theorem Es.los_pOk {E : Es} {i j : Bool} {k : Nat} {p : Pkt} (h : pOk E j p) : pOk (E.los i k) j p := h.mono (fun _ => Nat.le_refl _) fun _ => ⟨[], by simp [Es.los]⟩
theorem Es.dlv_ok {E : Es} {M : Nat} (h : E.ok M) {i : Bool} {k : Nat} (hk : k < (E.c i).length) : (E.dlv i k).ok M :=
  (E.los i k).hr_ok (E.los_ok h i k) (Es.los_pOk (h.pk i _ (E.pkt_mem hk)))
/-- a message is offered -/
def Es.off (E : Es) (i : Bool) (m : UInt8) : Es := { E with o := upB E.o i (E.o i ++ [m]) }
theorem Es.off_o (E : Es) (i : Bool) (m : UInt8) (j : Bool) : ∃ t, (E.off i m).o j = E.o j ++ t := by
  rcases bool_cases i j with rfl | rfl
  · exact ⟨[m], by simp [Es.off]⟩
  · exact ⟨[], by simp [Es.off]⟩
theorem Es.off_ok {E : Es} {M : Nat} (h : E.ok M) (i : Bool) (m : UInt8) : (E.off i m).ok (M + 1) := by
  refine ⟨h.fr, fun j => ?_, fun j => ?_, fun j p hp => (h.pk j p hp).mono (fun _ => Nat.le_refl _) (E.off_o i m), h.cl⟩
  · obtain ⟨t, ht⟩ := E.off_o i m j
    have := h.ro j
    rw [ht]
    simp only [Es.off, List.length_append]
    omega
  · have := h.ol j
    rcases bool_cases i j with rfl | rfl
    · simp [Es.off]; omega
    · simp [Es.off]; omega
theorem Es.off_out {E : Es} {M : Nat} (h : E.ok M) (i : Bool) (m : UInt8) : (E.off i m).out i = E.out i ++ [[m]] := by
  have h1 := h.fr i
  have h2 := h.ro i
  simp only [Es.out, Es.off, upB_same]
  rw [List.drop_append_of_le_length (by omega)]
  simp
theorem Es.off_got {E : Es} {M : Nat} (h : E.ok M) (i : Bool) (m : UInt8) (j : Bool) : (E.off i m).got j = E.got j := by
  obtain ⟨t, ht⟩ := E.off_o i m j
  simp only [Es.got]
  rw [ht]
  have := h.ro j
  show List.take (E.r j) _ = _
  rw [List.take_append_of_le_length this]
/-- what an end sends -/
def Es.pks (E : Es) (i : Bool) : List Pkt := if (E.o i).length = E.f i then [⟨0, E.r (!i), []⟩] else (List.range (min ((E.o i).length - E.f i) 4)).map fun j => ⟨((E.f i + 1 + j : Nat) : Int), E.r (!i), [(E.o i).getD (E.f i + j) 0]⟩
theorem Es.pks_ok {E : Es} {M : Nat} (h : E.ok M) {i : Bool} {p : Pkt} (hp : p ∈ E.pks i) : pOk E i p := by
  unfold Es.pks at hp
  split at hp
  · simp at hp; subst hp
    exact ⟨by simp, by simp, .inl ⟨rfl, rfl⟩⟩
  · simp only [List.mem_map, List.mem_range] at hp
    obtain ⟨j, hj, rfl⟩ := hp
    refine ⟨by simp, by simp, .inr ⟨E.f i + j, by omega, by simp; omega, ?_⟩⟩
    rw [List.getD_eq_getElem?_getD, List.getElem?_eq_getElem (by omega)]; rfl
def Es.snd (E : Es) (i : Bool) : Es := { E with c := upB E.c i ((E.c i ++ E.pks i).take 8) }
theorem Es.snd_ok {E : Es} {M : Nat} (h : E.ok M) (i : Bool) : (E.snd i).ok M := by
  refine E.chan_ok h (by simp; omega) fun p hp => ?_
  have hp := List.mem_of_mem_take hp
  rw [List.mem_append] at hp
  rcases hp with hp | hp
  · exact h.pk i p hp
  · exact E.pks_ok h hp
def Es.dbl (E : Es) (i : Bool) (k : Nat) : Es := { E with c := upB E.c i (E.c i ++ [E.pkt i k]) }
theorem Es.dbl_ok {E : Es} {M : Nat} (h : E.ok M) {i : Bool} {k : Nat} (hk : k < (E.c i).length) (hl : (E.c i).length < 8) : (E.dbl i k).ok M := by
  refine E.chan_ok h (by simp; omega) fun p hp => ?_
  rw [List.mem_append, List.mem_singleton] at hp
  rcases hp with hp | rfl
  · exact h.pk i p hp
  · exact h.pk i _ (E.pkt_mem hk)
def es0 : Es := ⟨fun _ => [], fun _ => 0, fun _ => 0, fun _ => []⟩
theorem es0_ok : es0.ok 0 := ⟨by simp [es0], by simp [es0], by simp [es0], by simp [es0], by simp [es0]⟩
end Go.Proofs.Ytjgcjahngmkfdaa

namespace Go.Proofs.Ytjgcjahngmkfdaa
open Go.RowKit Go.Proofs

theorem Offer_es {E : Es} {M : Nat} (h : E.ok M) (hM : M ≤ 100000) (i : Bool) (m : UInt8) : PC Try.prog 9 [(E.lk i).v, .list 1 (bv [m])] (fun r => r = .tup [((E.off i m).lk i).v, .s (.int .i64 0)]) :=
  pc_list (Offer_pc (E.lk i) [m] (E.lk_ok h hM i) (by simp)) fun x hx _ => by
    subst hx
    have h1 := h.fr i
    have h2 := h.ro i
    have h3 := h.ol i
    have e : offerV (E.lk i) [m] = .tup [.agg [.s (.int .i64 (E.lk i).first), .own true 25 1 (cl ((E.lk i).out ++ [[m]])), .s (.int .i64 (E.lk i).got)], .s (.int .i64 0)] := by
      unfold offerV
      rw [if_neg (by simp [E.lk_valid h hM]), if_neg (by simp [isBody]), if_neg (by simp only [Es.lk, E.out_len]; omega)]
    have e2 : ((E.off i m).lk i).v = .agg [.s (.int .i64 (E.lk i).first), .list 1 (cl ((E.lk i).out ++ [[m]])), .s (.int .i64 (E.lk i).got)] := by
      simp only [Lnk.v, Es.lk]
      rw [E.off_out h i m]
      rfl
    rw [e, e2]
    exact ⟨_, by simp [frT, frAs, frA, frLs, frL, immC], rfl, rfl⟩
theorem Hear_es {E : Es} {M : Nat} (h : E.ok M) (hM : M ≤ 100000) {i : Bool} {p : Pkt} (hp : pOk E i p) : PC Try.prog 11 [(E.lk (!i)).v, p.v] (fun r => r = .tup [((E.hr i p).lk (!i)).v, .list 1 (bv (E.mB i p)), .s (.bool (decide (p.seq = E.r i + 1))), .s (.int .i64 0)]) :=
  pc_list (Hear_pc (E.lk (!i)) p (E.lk_ok h hM _) (by have := hp.bl; omega)) fun x hx _ => by
    subst hx
    rw [hear_es h hM hp]
    refine ⟨_, ?_, ?_, rfl⟩
    · by_cases e : p.seq = E.r i + 1
      · simp [e, Es.mB, Lnk.v, Es.lk, frT, frAs, frA, frLs, frL, immC]
      · simp [e, Es.mB, Lnk.v, Es.lk, frT, frAs, frA, frLs, frL, immC, bv]
    · rfl
theorem fr_len {p : Pkt} (h : p.valid = true) : (fr p).length ≤ 100000 := by
  obtain ⟨s, a, h1, h2, e, h3⟩ := valid_nat h
  have h4 := pay_len (s := s) (a := a) h3
  rw [← e] at h4
  have h5 := putUint_len (pay p).length
  have h6 : (sumB (crc (pay p))).length = 4 := rfl
  simp only [fr, frame, List.length_append]
  omega
theorem Decode_es {p : Pkt} (h : p.valid = true) : PC Try.prog 24 [.list 1 (bv (fr p))] (fun r => r = .tup [p.v, .s (.int .i64 0)]) :=
  pc_list (Decode_pc (fr p) (by have := fr_len h; omega)) fun x hx _ => by
    subst hx
    rw [fr, decR_enc h]
    exact ⟨_, by simp [decV, Pkt.v, frT, frAs, frA, frLs, frL, immC], rfl, rfl⟩
theorem Encode_es {p : Pkt} (h : p.valid = true) (hb : p.body.length ≤ 100000) : PC Try.prog 22 [p.v] (fun r => r = .tup [.list 1 (bv (fr p)), .s (.int .i64 0)]) :=
  pc_list (Encode_pc p hb) fun x hx _ => by
    subst hx
    rw [encV, if_pos h]
    exact ⟨_, by simp [fr, frT, frAs, frA, frLs, frL, immC], rfl, rfl⟩
/-- a packet as Packets makes it -/
def pv (p : Pkt) : V := .agg [.s (.int .i64 p.seq), .s (.int .i64 p.ack), if p.body = [] then .s (.slice none 0 0) else .list 1 (bv p.body)]
theorem Encode_pv {p : Pkt} (h : p.valid = true) (hb : p.body.length ≤ 100000) : PC Try.prog 22 [pv p] (fun r => r = .tup [.list 1 (bv (fr p)), .s (.int .i64 0)]) := by
  by_cases e : p.body = []
  · rw [pv, if_pos e]
    refine pc_nil (ys := [p.v]) (Encode_es h hb) (by simp [Pkt.v, bv, e]) (by simp [Pkt.v])
  · rw [pv, if_neg e]
    exact Encode_es h hb
theorem pks_es {E : Es} (i : Bool) : ∀ n, n ≤ (E.o i).length - E.f i → pks (E.lk i) n = ((List.range n).map fun j => (⟨((E.f i + 1 + j : Nat) : Int), E.r (!i), [(E.o i).getD (E.f i + j) 0]⟩ : Pkt)).map pv := by
  intro n
  induction n with
  | zero => intro _; rfl
  | succ n ih =>
    intro hn
    have hl : n < (E.lk i).out.length := by simp only [Es.lk, E.out_len]; omega
    rw [pks_succ hl, ih (by omega), List.range_succ, List.map_append, List.map_append]
    congr 1
    simp only [List.map_cons, List.map_nil, pv, Es.lk, Es.out, List.getElem_map, List.getElem_drop]
    rw [List.getD_eq_getElem?_getD, List.getElem?_eq_getElem (by omega)]
    simp
theorem Packets_es {E : Es} {M : Nat} (h : E.ok M) (hM : M ≤ 100000) (i : Bool) : PC Try.prog 13 [(E.lk i).v] (fun r => r = .list 3 ((E.pks i).map pv)) :=
  pc_list (Packets_pc (E.lk i) (E.lk_ok h hM i)) fun x hx _ => by
    subst hx
    have h1 := h.fr i
    have h2 := h.ro i
    unfold packetsV
    rw [if_neg (by simp [E.lk_valid h hM])]
    by_cases e : (E.o i).length = E.f i
    · rw [if_pos (by simp only [Es.lk, E.out_len]; omega)]
      refine ⟨_, ?_, rfl, rfl⟩
      simp [Es.pks, e, frT, frA, frL, pv, Es.lk]
    · rw [if_neg (by simp only [Es.lk, E.out_len]; omega)]
      have hl : (E.lk i).out.length = (E.o i).length - E.f i := by simp only [Es.lk, E.out_len]
      rw [hl, pks_es i _ (by omega), Es.pks, if_neg e]
      exact ⟨_, by simp [frT, frA, frL], rfl, rfl⟩
end Go.Proofs.Ytjgcjahngmkfdaa

namespace Go.Proofs.Ytjgcjahngmkfdaa
open Go.RowKit Go.Proofs

def i2n (i : Bool) : Nat := if i then 1 else 0
/-- a channel -/
def ccl (c : List Pkt) : List V := cl (c.map fr)
@[simp] theorem ccl_length (c : List Pkt) : (ccl c).length = c.length := by simp [ccl, cl]
theorem ccl_get {c : List Pkt} {k : Nat} (h : k < c.length) : (ccl c)[k]'(by simpa using h) = .list 1 (bv (fr c[k])) := by simp [ccl, cl]
theorem ccl_take (c : List Pkt) (k : Nat) : (ccl c).take k = ccl (c.take k) := by simp [ccl, cl, List.map_take]
theorem ccl_drop (c : List Pkt) (k : Nat) : (ccl c).drop k = ccl (c.drop k) := by simp [ccl, cl, List.map_drop]
theorem ccl_app (c d : List Pkt) : ccl c ++ ccl d = ccl (c ++ d) := by simp [ccl, cl]
def Es.cells (E : Es) : List V := [.s (.int .i64 (E.lk false).first), .list 1 (cl (E.out false)), .s (.int .i64 (E.r true)), .s (.int .i64 (E.lk true).first), .list 1 (cl (E.out true)), .s (.int .i64 (E.r false)),
  .own false 25 1 (ccl (E.c false)), .own false 25 1 (ccl (E.c true)), .own true 5 1 (bv (E.o false)), .own true 5 1 (bv (E.o true)), .own true 5 1 (bv (E.got false)), .own true 5 1 (bv (E.got true))]
theorem Es.cells_ok (E : Es) : E.cells.all cellB = true := rfl
set_option maxHeartbeats 16000000 in
set_option maxRecDepth 10000 in
theorem deliver0 (E : Es) (k : Nat) (M : Nat) (h : E.ok M) (hM : M ≤ 90000) (hk : k < (E.c false).length) : AC Try.prog 28 [.ptr 0 0, .s (.int .i64 0), .s (.int .i64 k)] [E.cells] (fun r bs => r = .s (.bool true) ∧ bs = [(E.dlv false k).cells]) := by
  refine ac_end c28 mixed rfl ?_
  have hcl := h.cl false
  have hkp : (E.c false)[k] = E.pkt false k := by rw [Es.pkt, List.getD_eq_getElem?_getD, List.getElem?_eq_getElem hk]; rfl
  have hp0 := h.pk false _ (E.pkt_mem hk)
  have hp : pOk (E.los false k) false (E.pkt false k) := Es.los_pOk hp0
  have hv := hp0.valid h (by omega)
  have k0 : ¬ (k : Int) < 0 := by omega
  have gk := ccl_get hk
  rw [hkp] at gk
  have wk : IntKind.i64.wrap ((k : Int) + 1) = ((k + 1 : Nat) : Int) := by rw [wrap64 (by omega)]; rfl
  have hmin : min k (E.c false).length = k := by omega
  have b1 : k ≤ maxLen ∧ k * 24 ≤ maxBytes := by simp [maxLen, maxBytes]; omega
  have b2 : k + ((E.c false).length - (k + 1)) ≤ maxLen ∧ (k + ((E.c false).length - (k + 1))) * 24 ≤ maxBytes := by simp [maxLen, maxBytes]; omega
  have hk' : k ≤ (E.c false).length := by omega
  have hk1 : k + 1 ≤ (E.c false).length := by omega
  have w1 : IntKind.i64.wrap 1 = 1 := by decide
  have w0 : IntKind.i64.wrap 0 = 0 := by decide
  have k1 : ¬ (k : Int) + 1 < 0 := by omega
  have htd : List.take ((E.c false).length - (k + 1)) (List.drop (k + 1) (E.c false)) = List.drop (k + 1) (E.c false) := List.take_of_length_le (by simp)
  simp -implicitDefEqProofs [a28, F28, Es.cells, hk, hk', hk1, k0, k1, htd, gk, wk, hmin, b1, b2, ccl_take, ccl_drop, ccl_app]
  refine wk_take ?_
  simp -implicitDefEqProofs
  refine wc_of (Decode_es hv) (by simp) (by simp) ?_
  rintro _ rfl
  simp -implicitDefEqProofs [Pkt.v, w1]
  refine wkd_take ?_
  simp -implicitDefEqProofs
  refine wcd_of (Hear_es ((E.los_ok h false k)) (by omega) hp) (by simp [Lnk.v, Es.lk, Es.los, Es.out, Pkt.v]) (by simp [Lnk.v, Pkt.v]) ?_
  have hml := Es.mB_len hp
  have hgot := Es.hr_got (E.los_ok h false k) hp
  have hgotn := Es.hr_gotn (E := E.los false k) (i := false) (p := E.pkt false k)
  have hgl : ((E.los false k).got false).length ≤ M := by
    have h1 := (E.los_ok h false k).ol false
    simp only [Es.got, List.length_take]; omega
  have hmb : ((E.los false k).mB false (E.pkt false k)).length ≤ 1 := by rw [hml]; split <;> omega
  have b3 : ((E.los false k).got false).length + ((E.los false k).mB false (E.pkt false k)).length ≤ maxLen ∧ ((E.los false k).got false).length + ((E.los false k).mB false (E.pkt false k)).length ≤ maxBytes := by simp [maxLen, maxBytes]; omega
  rw [show (E.los false k).hr false (E.pkt false k) = E.dlv false k from rfl] at hgot hgotn ⊢
  have hr : (E.los false k).r false = E.r false := rfl
  have hgf : (E.los false k).got = E.got := rfl
  rw [hr] at hml
  rw [hgf] at hgot hgotn b3
  have hx1 : ((E.dlv false k).lk false).first = (E.lk false).first := by simp [Es.dlv, Es.hr, Es.los, Es.lk, upB]
  have hx2 : (E.dlv false k).out false = E.out false := by simp [Es.dlv, Es.hr, Es.los, Es.out, upB]
  have hx3 : (E.dlv false k).r true = E.r true := by simp [Es.dlv, Es.hr, Es.los, upB]
  have hx4 : (E.dlv false k).c false = List.take k (E.c false) ++ List.drop (k + 1) (E.c false) := by simp [Es.dlv, Es.hr, Es.los, upB]
  have hx5 : (E.dlv false k).c true = E.c true := by simp [Es.dlv, Es.hr, Es.los, upB]
  have hx6 : (E.dlv false k).o = E.o := rfl
  have hx7 : ((E.dlv false k).lk true).out = (E.dlv false k).out true := rfl
  have hx8 : ((E.dlv false k).lk true).got = (E.dlv false k).r false := rfl
  rw [hgf] at hgl
  have b4 : (E.got false).length ≤ maxLen ∧ (E.got false).length ≤ maxBytes := by simp [maxLen, maxBytes]; omega
  have hgt : (E.dlv false k).got true = E.got true := hgotn
  by_cases hn : (E.pkt false k).seq = (E.r false : Nat) + 1
  · rw [if_pos hn] at hml
    rw [hml] at b3
    simp -implicitDefEqProofs [Lnk.v, hr, hn, w1, hml, b3]
    refine retA_of 1 ?_
    simp -implicitDefEqProofs [Es.cells, hx1, hx2, hx3, hx4, hx5, hx6, hx7, hx8, hgot, hgt, bv]
  · rw [if_neg hn] at hml
    simp -implicitDefEqProofs [Lnk.v, hr, hn, w1, hml, b4]
    refine retA_of 1 ?_
    simp -implicitDefEqProofs [Es.cells, hx1, hx2, hx3, hx4, hx5, hx6, hx7, hx8, hgot, hgt, bv]
set_option maxHeartbeats 16000000 in
set_option maxRecDepth 10000 in
theorem deliver1 (E : Es) (k : Nat) (M : Nat) (h : E.ok M) (hM : M ≤ 90000) (hk : k < (E.c true).length) : AC Try.prog 28 [.ptr 0 0, .s (.int .i64 1), .s (.int .i64 k)] [E.cells] (fun r bs => r = .s (.bool true) ∧ bs = [(E.dlv true k).cells]) := by
  refine ac_end c28 mixed rfl ?_
  have hcl := h.cl true
  have hkp : (E.c true)[k] = E.pkt true k := by rw [Es.pkt, List.getD_eq_getElem?_getD, List.getElem?_eq_getElem hk]; rfl
  have hp0 := h.pk true _ (E.pkt_mem hk)
  have hp : pOk (E.los true k) true (E.pkt true k) := Es.los_pOk hp0
  have hv := hp0.valid h (by omega)
  have k0 : ¬ (k : Int) < 0 := by omega
  have gk := ccl_get hk
  rw [hkp] at gk
  have wk : IntKind.i64.wrap ((k : Int) + 1) = ((k + 1 : Nat) : Int) := by rw [wrap64 (by omega)]; rfl
  have hmin : min k (E.c true).length = k := by omega
  have b1 : k ≤ maxLen ∧ k * 24 ≤ maxBytes := by simp [maxLen, maxBytes]; omega
  have b2 : k + ((E.c true).length - (k + 1)) ≤ maxLen ∧ (k + ((E.c true).length - (k + 1))) * 24 ≤ maxBytes := by simp [maxLen, maxBytes]; omega
  have hk' : k ≤ (E.c true).length := by omega
  have hk1 : k + 1 ≤ (E.c true).length := by omega
  have w1 : IntKind.i64.wrap 1 = 1 := by decide
  have w0 : IntKind.i64.wrap 0 = 0 := by decide
  have k1 : ¬ (k : Int) + 1 < 0 := by omega
  have htd : List.take ((E.c true).length - (k + 1)) (List.drop (k + 1) (E.c true)) = List.drop (k + 1) (E.c true) := List.take_of_length_le (by simp)
  simp -implicitDefEqProofs [a28, F28, Es.cells, hk, hk', hk1, k0, k1, htd, gk, wk, hmin, b1, b2, ccl_take, ccl_drop, ccl_app]
  refine wk_take ?_
  simp -implicitDefEqProofs
  refine wc_of (Decode_es hv) (by simp) (by simp) ?_
  rintro _ rfl
  simp -implicitDefEqProofs [Pkt.v, w0]
  refine wkd_take ?_
  simp -implicitDefEqProofs
  refine wcd_of (Hear_es ((E.los_ok h true k)) (by omega) hp) (by simp [Lnk.v, Es.lk, Es.los, Es.out, Pkt.v]) (by simp [Lnk.v, Pkt.v]) ?_
  have hml := Es.mB_len hp
  have hgot := Es.hr_got (E.los_ok h true k) hp
  have hgotn := Es.hr_gotn (E := E.los true k) (i := true) (p := E.pkt true k)
  have hgl : ((E.los true k).got true).length ≤ M := by
    have h1 := (E.los_ok h true k).ol true
    simp only [Es.got, List.length_take]; omega
  have hmb : ((E.los true k).mB true (E.pkt true k)).length ≤ 1 := by rw [hml]; split <;> omega
  have b3 : ((E.los true k).got true).length + ((E.los true k).mB true (E.pkt true k)).length ≤ maxLen ∧ ((E.los true k).got true).length + ((E.los true k).mB true (E.pkt true k)).length ≤ maxBytes := by simp [maxLen, maxBytes]; omega
  rw [show (E.los true k).hr true (E.pkt true k) = E.dlv true k from rfl] at hgot hgotn ⊢
  have hr : (E.los true k).r true = E.r true := rfl
  have hgf : (E.los true k).got = E.got := rfl
  rw [hr] at hml
  rw [hgf] at hgot hgotn b3
  have hx1 : ((E.dlv true k).lk true).first = (E.lk true).first := by simp [Es.dlv, Es.hr, Es.los, Es.lk, upB]
  have hx2 : (E.dlv true k).out true = E.out true := by simp [Es.dlv, Es.hr, Es.los, Es.out, upB]
  have hx3 : (E.dlv true k).r false = E.r false := by simp [Es.dlv, Es.hr, Es.los, upB]
  have hx4 : (E.dlv true k).c true = List.take k (E.c true) ++ List.drop (k + 1) (E.c true) := by simp [Es.dlv, Es.hr, Es.los, upB]
  have hx5 : (E.dlv true k).c false = E.c false := by simp [Es.dlv, Es.hr, Es.los, upB]
  have hx6 : (E.dlv true k).o = E.o := rfl
  have hx7 : ((E.dlv true k).lk false).out = (E.dlv true k).out false := rfl
  have hx8 : ((E.dlv true k).lk false).got = (E.dlv true k).r true := rfl
  rw [hgf] at hgl
  have b4 : (E.got true).length ≤ maxLen ∧ (E.got true).length ≤ maxBytes := by simp [maxLen, maxBytes]; omega
  have hgt : (E.dlv true k).got false = E.got false := hgotn
  by_cases hn : (E.pkt true k).seq = (E.r true : Nat) + 1
  · rw [if_pos hn] at hml
    rw [hml] at b3
    simp -implicitDefEqProofs [Lnk.v, hr, hn, w0, hml, b3]
    refine retA_of 1 ?_
    simp -implicitDefEqProofs [Es.cells, hx1, hx2, hx3, hx4, hx5, hx6, hx7, hx8, hgot, hgt, bv]
  · rw [if_neg hn] at hml
    simp -implicitDefEqProofs [Lnk.v, hr, hn, w0, hml, b4]
    refine retA_of 1 ?_
    simp -implicitDefEqProofs [Es.cells, hx1, hx2, hx3, hx4, hx5, hx6, hx7, hx8, hgot, hgt, bv]
theorem deliver_ac (E : Es) (i : Bool) (k : Nat) (M : Nat) (h : E.ok M) (hM : M ≤ 90000) (hk : k < (E.c i).length) : AC Try.prog 28 [.ptr 0 0, .s (.int .i64 (i2n i)), .s (.int .i64 k)] [E.cells] (fun r bs => r = .s (.bool true) ∧ bs = [(E.dlv i k).cells]) := by
  cases i
  · exact deliver0 E k M h hM hk
  · exact deliver1 E k M h hM hk
end Go.Proofs.Ytjgcjahngmkfdaa

namespace Go.Proofs.Ytjgcjahngmkfdaa
open Go.RowKit Go.Proofs

def bgInv (E : Es) (m : Nat) (S : St) : Prop := ∃ j : Nat, j + m = 2 ∧ S = ⟨tmL [], [.ptr 0 0, .s (.bool false), .s (.int .i64 j)], [E.cells], 0⟩
theorem Es.got_len {E : Es} {M : Nat} (h : E.ok M) (i : Bool) : (E.got i).length = E.r i := by
  have := h.ro i
  simp [Es.got]; omega
theorem Es.got_bv (E : Es) (i : Bool) : (bv (E.o i)).take (E.r i) = bv (E.got i) := by simp [Es.got, bv, List.map_take]
set_option maxHeartbeats 16000000 in
set_option maxRecDepth 10000 in
theorem begin_ac (E : Es) (M : Nat) (h : E.ok M) (hM : M ≤ 90000) : AC Try.prog 30 [.ptr 0 0] [E.cells] (fun r bs => r = .s (.bool true) ∧ bs = [E.cells]) := by
  refine ac_end c30 mixed rfl ?_
  simp -implicitDefEqProofs [a30, F30]
  refine w_rounds [] [] 1 (by simp) (bgInv E) 2 ⟨by simp [Es.cells], 0, by omega, by simp⟩ ?_
  rintro m S ⟨j, hj, rfl⟩
  have l0 := E.got_len h false
  have l1 := E.got_len h true
  have t0 := E.got_bv false
  have t1 := E.got_bv true
  have r0 := h.ro false
  have r1 := h.ro true
  have z0 : ¬ ((E.r false : Nat) : Int) < 0 := by omega
  have z1 : ¬ ((E.r true : Nat) : Int) < 0 := by omega
  have n0 : ¬ (E.o false).length < E.r false := by omega
  have n1 : ¬ (E.o true).length < E.r true := by omega
  have w1 : IntKind.i64.wrap 1 = 1 := by decide
  have w2 : IntKind.i64.wrap 2 = 2 := by decide
  rcases (show j = 0 ∨ j = 1 ∨ j = 2 by omega) with rfl | rfl | rfl
  · simp -implicitDefEqProofs [Es.cells, l0, t0, r0, n0, w1, z0]
    exact ⟨m - 1, by omega, 1, by omega, rfl⟩
  · simp -implicitDefEqProofs [Es.cells, l1, t1, r1, n1, w2, z1]
    exact ⟨m - 1, by omega, 2, by omega, rfl⟩
  · simp -implicitDefEqProofs [Es.cells]
    refine retA_of 1 ?_
    simp -implicitDefEqProofs [Es.cells]
end Go.Proofs.Ytjgcjahngmkfdaa

namespace Go.Proofs.Ytjgcjahngmkfdaa
open Go.RowKit Go.Proofs

/-- the channel, with the first of the packets that are sent -/
def Es.sn (E : Es) (i : Bool) (j : Nat) : Es := { E with c := upB E.c i ((E.c i ++ (E.pks i).take j).take 8) }
theorem Es.sn_zero {E : Es} {M : Nat} (h : E.ok M) (i : Bool) : E.sn i 0 = E := by
  have := h.cl i
  have e : upB E.c i ((E.c i ++ (E.pks i).take 0).take 8) = E.c := by
    funext j
    rcases bool_cases i j with rfl | rfl
    · simp only [upB_same, List.take_zero, List.append_nil]
      exact List.take_of_length_le this
    · simp
  simp only [Es.sn, e]
theorem Es.sn_last (E : Es) (i : Bool) : E.sn i (E.pks i).length = E.snd i := by simp [Es.sn, Es.snd]
theorem Es.pks_len (E : Es) (i : Bool) : (E.pks i).length ≤ 4 := by
  unfold Es.pks
  split
  · simp
  · simp; omega
theorem take8_lt {c d : List Pkt} {p : Pkt} (h : ((c ++ d).take 8).length < 8) : (c ++ d).take 8 ++ [p] = (c ++ (d ++ [p])).take 8 := by
  have h1 : (c ++ d).length < 8 := by simp at h ⊢; omega
  rw [List.take_of_length_le (by omega), List.take_of_length_le (by simp at h1 ⊢; omega), List.append_assoc]
theorem take8_ge {c d : List Pkt} {p : Pkt} (h : ¬ ((c ++ d).take 8).length < 8) : (c ++ d).take 8 = (c ++ (d ++ [p])).take 8 := by
  have h1 : 8 ≤ (c ++ d).length := by
    rw [List.length_take] at h; omega
  rw [← List.append_assoc, List.take_append_of_le_length h1]
theorem Es.sn_succ (E : Es) (i : Bool) {j : Nat} (hj : j < (E.pks i).length) : E.sn i (j + 1) = if ((E.sn i j).c i).length < 8 then { E.sn i j with c := upB (E.sn i j).c i ((E.sn i j).c i ++ [(E.pks i)[j]]) } else E.sn i j := by
  have ht : (E.pks i).take (j + 1) = (E.pks i).take j ++ [(E.pks i)[j]] := List.take_succ_eq_append_getElem hj
  have hc : (E.sn i j).c i = (E.c i ++ (E.pks i).take j).take 8 := by simp [Es.sn]
  have key : ∀ l l' : List Pkt, upB (upB E.c i l) i l' = upB E.c i l' := fun l l' => by
    funext k
    rcases bool_cases i k with rfl | rfl <;> simp
  split
  · next h =>
    rw [hc] at h ⊢
    simp only [Es.sn, ht, key, take8_lt h]
  · next h =>
    rw [hc] at h
    simp only [Es.sn, ht, ← take8_ge h]
def sdInv (E : Es) (i : Bool) (m : Nat) (S : St) : Prop := ∃ j, j + m = (E.pks i).length ∧
  S = ⟨tmL [(15, .list 3 ((E.pks i).map pv)), (16, .s (.int .i64 (E.pks i).length)), (17, .s (.int .i64 (j : Nat)))], [.ptr 0 0, .s (.int .i64 (i2n i)), .s (.bool false), .no, .no], [(E.sn i j).cells], 0⟩
theorem ccl_snoc (c : List Pkt) (p : Pkt) : ccl c ++ [.list 1 (bv (fr p))] = ccl (c ++ [p]) := by simp [ccl, cl]
theorem pv_get {l : List Pkt} {j : Nat} (h : j < l.length) : (l.map pv)[j]'(by simpa using h) = pv l[j] := by simp
set_option maxHeartbeats 16000000 in
set_option maxRecDepth 10000 in
theorem send0 (E : Es) (M : Nat) (h : E.ok M) (hM : M ≤ 90000) : AC Try.prog 29 [.ptr 0 0, .s (.int .i64 0)] [E.cells] (fun r bs => r = .s (.bool true) ∧ bs = [(E.snd false).cells]) := by
  refine ac_end c29 mixed rfl ?_
  have w1 : IntKind.i64.wrap 1 = 1 := by decide
  have w0 : IntKind.i64.wrap 0 = 0 := by decide
  have hpl := E.pks_len false
  simp -implicitDefEqProofs [a29, F29, Es.cells]
  refine wk_take ?_
  simp -implicitDefEqProofs
  refine wc_of (Packets_es h (by omega) false) (by simp [Lnk.v, Es.lk]) (by simp [Lnk.v]) ?_
  rintro _ rfl
  simp -implicitDefEqProofs
  refine w_rounds [15, 16, 17] [3, 4] 1 (by simp) (sdInv E false) (E.pks false).length ⟨by simp, 0, by omega, by rw [E.sn_zero h]; simp [i2n, Es.cells]⟩ ?_
  rintro m S ⟨j, hj, rfl⟩
  by_cases hjl : j < (E.pks false).length
  · have j0 : ¬ (j : Int) < 0 := by omega
    have wj : IntKind.i64.wrap ((j : Int) + 1) = ((j + 1 : Nat) : Int) := by rw [wrap64 (by omega)]; rfl
    have gj := pv_get hjl
    have hp := E.pks_ok h (List.getElem_mem hjl)
    have hv := hp.valid h (by omega)
    have hen := Encode_pv hv (by have := hp.bl; omega)
    have hs := E.sn_succ false hjl
    have hcl : ((E.sn false j).c false).length ≤ 8 := by simp [Es.sn]; omega
    revert gj hv hen hs
    generalize (E.pks false)[j] = p
    intro gj hv hen hs
    rw [pv] at gj hen
    have b2 : ((E.sn false j).c false).length ≤ maxLen ∧ ((E.sn false j).c false).length * 24 ≤ maxBytes := by simp [maxLen, maxBytes]; omega
    have b3 : ((E.sn false j).c false).length + 1 ≤ maxLen ∧ (((E.sn false j).c false).length + 1) * 24 ≤ maxBytes := by simp [maxLen, maxBytes]; omega
    have next : ∀ E' : Es, E' = E.sn false (j + 1) → ∃ m' : Nat, m' < m ∧ sdInv E false m' ⟨tmL [(15, .list 3 ((E.pks false).map pv)), (16, .s (.int .i64 (E.pks false).length)), (17, .s (.int .i64 ((j + 1 : Nat) : Int)))], [.ptr 0 0, .s (.int .i64 (i2n false)), .s (.bool false), .no, .no], [E'.cells], 0⟩ := fun E' e => ⟨m - 1, by omega, j + 1, by omega, by rw [e]⟩
    by_cases hb : p.body = []
    · rw [if_pos hb] at gj hen
      simp -implicitDefEqProofs [i2n, Es.cells, hjl, j0, gj]
      refine wk_take ?_
      simp -implicitDefEqProofs
      refine wc_of hen (by simp) (by simp) ?_
      rintro _ rfl
      by_cases h8 : ((E.sn false j).c false).length < 8
      · have h8' : (((E.sn false j).c false).length : Int) < 8 := by omega
        rw [if_pos h8] at hs
        simp -implicitDefEqProofs [h8', b2, b3, wj, ccl_snoc]
        have := next _ hs.symm
        simp -implicitDefEqProofs [i2n, Es.cells, Es.lk, Es.out, Es.got, upB] at this ⊢
        exact this
      · have h8' : ¬ (((E.sn false j).c false).length : Int) < 8 := by omega
        rw [if_neg h8] at hs
        simp -implicitDefEqProofs [h8', wj]
        have := next _ hs.symm
        simp -implicitDefEqProofs [i2n, Es.cells] at this ⊢
        exact this
    · rw [if_neg hb] at gj hen
      simp -implicitDefEqProofs [i2n, Es.cells, hjl, j0, gj]
      refine wk_take ?_
      simp -implicitDefEqProofs
      refine wc_of hen (by simp) (by simp) ?_
      rintro _ rfl
      by_cases h8 : ((E.sn false j).c false).length < 8
      · have h8' : (((E.sn false j).c false).length : Int) < 8 := by omega
        rw [if_pos h8] at hs
        simp -implicitDefEqProofs [h8', b2, b3, wj, ccl_snoc]
        have := next _ hs.symm
        simp -implicitDefEqProofs [i2n, Es.cells, Es.lk, Es.out, Es.got, upB] at this ⊢
        exact this
      · have h8' : ¬ (((E.sn false j).c false).length : Int) < 8 := by omega
        rw [if_neg h8] at hs
        simp -implicitDefEqProofs [h8', wj]
        have := next _ hs.symm
        simp -implicitDefEqProofs [i2n, Es.cells] at this ⊢
        exact this
  · have hje : j = (E.pks false).length := by omega
    rw [hje, E.sn_last]
    simp -implicitDefEqProofs [i2n, Es.cells]
    refine retA_of 1 ?_
    simp -implicitDefEqProofs
set_option maxHeartbeats 16000000 in
set_option maxRecDepth 10000 in
theorem send1 (E : Es) (M : Nat) (h : E.ok M) (hM : M ≤ 90000) : AC Try.prog 29 [.ptr 0 0, .s (.int .i64 1)] [E.cells] (fun r bs => r = .s (.bool true) ∧ bs = [(E.snd true).cells]) := by
  refine ac_end c29 mixed rfl ?_
  have w1 : IntKind.i64.wrap 1 = 1 := by decide
  have w0 : IntKind.i64.wrap 0 = 0 := by decide
  have hpl := E.pks_len true
  simp -implicitDefEqProofs [a29, F29, Es.cells]
  refine wk_take ?_
  simp -implicitDefEqProofs
  refine wc_of (Packets_es h (by omega) true) (by simp [Lnk.v, Es.lk]) (by simp [Lnk.v]) ?_
  rintro _ rfl
  simp -implicitDefEqProofs
  refine w_rounds [15, 16, 17] [3, 4] 1 (by simp) (sdInv E true) (E.pks true).length ⟨by simp, 0, by omega, by rw [E.sn_zero h]; simp [i2n, Es.cells]⟩ ?_
  rintro m S ⟨j, hj, rfl⟩
  by_cases hjl : j < (E.pks true).length
  · have j0 : ¬ (j : Int) < 0 := by omega
    have wj : IntKind.i64.wrap ((j : Int) + 1) = ((j + 1 : Nat) : Int) := by rw [wrap64 (by omega)]; rfl
    have gj := pv_get hjl
    have hp := E.pks_ok h (List.getElem_mem hjl)
    have hv := hp.valid h (by omega)
    have hen := Encode_pv hv (by have := hp.bl; omega)
    have hs := E.sn_succ true hjl
    have hcl : ((E.sn true j).c true).length ≤ 8 := by simp [Es.sn]; omega
    revert gj hv hen hs
    generalize (E.pks true)[j] = p
    intro gj hv hen hs
    rw [pv] at gj hen
    have b2 : ((E.sn true j).c true).length ≤ maxLen ∧ ((E.sn true j).c true).length * 24 ≤ maxBytes := by simp [maxLen, maxBytes]; omega
    have b3 : ((E.sn true j).c true).length + 1 ≤ maxLen ∧ (((E.sn true j).c true).length + 1) * 24 ≤ maxBytes := by simp [maxLen, maxBytes]; omega
    have next : ∀ E' : Es, E' = E.sn true (j + 1) → ∃ m' : Nat, m' < m ∧ sdInv E true m' ⟨tmL [(15, .list 3 ((E.pks true).map pv)), (16, .s (.int .i64 (E.pks true).length)), (17, .s (.int .i64 ((j + 1 : Nat) : Int)))], [.ptr 0 0, .s (.int .i64 (i2n true)), .s (.bool false), .no, .no], [E'.cells], 0⟩ := fun E' e => ⟨m - 1, by omega, j + 1, by omega, by rw [e]⟩
    by_cases hb : p.body = []
    · rw [if_pos hb] at gj hen
      simp -implicitDefEqProofs [i2n, Es.cells, hjl, j0, gj]
      refine wk_take ?_
      simp -implicitDefEqProofs
      refine wc_of hen (by simp) (by simp) ?_
      rintro _ rfl
      by_cases h8 : ((E.sn true j).c true).length < 8
      · have h8' : (((E.sn true j).c true).length : Int) < 8 := by omega
        rw [if_pos h8] at hs
        simp -implicitDefEqProofs [h8', b2, b3, wj, ccl_snoc]
        have := next _ hs.symm
        simp -implicitDefEqProofs [i2n, Es.cells, Es.lk, Es.out, Es.got, upB] at this ⊢
        exact this
      · have h8' : ¬ (((E.sn true j).c true).length : Int) < 8 := by omega
        rw [if_neg h8] at hs
        simp -implicitDefEqProofs [h8', wj]
        have := next _ hs.symm
        simp -implicitDefEqProofs [i2n, Es.cells] at this ⊢
        exact this
    · rw [if_neg hb] at gj hen
      simp -implicitDefEqProofs [i2n, Es.cells, hjl, j0, gj]
      refine wk_take ?_
      simp -implicitDefEqProofs
      refine wc_of hen (by simp) (by simp) ?_
      rintro _ rfl
      by_cases h8 : ((E.sn true j).c true).length < 8
      · have h8' : (((E.sn true j).c true).length : Int) < 8 := by omega
        rw [if_pos h8] at hs
        simp -implicitDefEqProofs [h8', b2, b3, wj, ccl_snoc]
        have := next _ hs.symm
        simp -implicitDefEqProofs [i2n, Es.cells, Es.lk, Es.out, Es.got, upB] at this ⊢
        exact this
      · have h8' : ¬ (((E.sn true j).c true).length : Int) < 8 := by omega
        rw [if_neg h8] at hs
        simp -implicitDefEqProofs [h8', wj]
        have := next _ hs.symm
        simp -implicitDefEqProofs [i2n, Es.cells] at this ⊢
        exact this
  · have hje : j = (E.pks true).length := by omega
    rw [hje, E.sn_last]
    simp -implicitDefEqProofs [i2n, Es.cells]
    refine retA_of 1 ?_
    simp -implicitDefEqProofs
theorem send_ac (E : Es) (i : Bool) (M : Nat) (h : E.ok M) (hM : M ≤ 90000) : AC Try.prog 29 [.ptr 0 0, .s (.int .i64 (i2n i))] [E.cells] (fun r bs => r = .s (.bool true) ∧ bs = [(E.snd i).cells]) := by
  cases i
  · exact send0 E M h hM
  · exact send1 E M h hM
end Go.Proofs.Ytjgcjahngmkfdaa

namespace Go.Proofs.Ytjgcjahngmkfdaa
open Go.RowKit Go.Proofs

def iv (xs : List Int) : List V := xs.map fun n => .s (.int .i64 n)
@[simp] theorem iv_length (xs : List Int) : (iv xs).length = xs.length := by simp [iv]
theorem iv_get {xs : List Int} {i : Nat} (h : i < xs.length) : (iv xs)[i]? = some (.s (.int .i64 xs[i])) := by simp [iv, h]
/-- a tape in a box -/
def tapeB (xs : List Int) (k : Nat) : List V := [.list 1 (iv xs), .s (.int .i64 k)]
/-- what Next returns, and where the tape is then -/
def nx (xs : List Int) (k : Nat) (m : Int) : Int := if h : k < xs.length then xs[k] % m else 0
def nat1 (xs : List Int) (k : Nat) : Nat := if k < xs.length then k + 1 else k
theorem nx_bd (xs : List Int) (k : Nat) {m : Int} (h : 0 < m) : 0 ≤ nx xs k m ∧ nx xs k m < m := by
  unfold nx
  split
  · exact ⟨Int.emod_nonneg _ (by omega), Int.emod_lt_of_pos _ h⟩
  · exact ⟨Int.le_refl _, h⟩
theorem nat1_le {xs : List Int} {k : Nat} (h : k ≤ xs.length) : nat1 xs k ≤ xs.length ∧ k ≤ nat1 xs k := by unfold nat1; split <;> omega
theorem Light_pc (xs : List V) : PC Try.prog 26 [.list 1 xs] (fun r => r = .s (.bool (decide (xs.length ≤ 400)))) := by
  refine pc_end c26 mixed rfl ?_
  by_cases h : xs.length ≤ 400
  · have h' : (xs.length : Int) ≤ 400 := by omega
    simp -implicitDefEqProofs [a26, F26, h, h']
  · have h' : ¬ (xs.length : Int) ≤ 400 := by omega
    simp -implicitDefEqProofs [a26, F26, h, h']
theorem More_ac (xs : List Int) (k : Nat) : AC Try.prog 47 [.ptr 0 0] [tapeB xs k] (fun r bs => r = .s (.bool (decide (k < xs.length))) ∧ bs = [tapeB xs k]) := by
  refine ac_end c47 mixed rfl ?_
  simp -implicitDefEqProofs [a47, F47, tapeB]
  refine retA_of 1 ?_
  simp -implicitDefEqProofs [tapeB]
theorem Next_ac (xs : List Int) (k : Nat) (m : Int) (h1 : 1 ≤ m) (h2 : m ≤ 4611686018427387904) (hk : k ≤ 1000000) : AC Try.prog 48 [.ptr 0 0, .s (.int .i64 m)] [tapeB xs k] (fun r bs => r = .s (.int .i64 (nx xs k m)) ∧ bs = [tapeB xs (nat1 xs k)]) := by
  refine ac_end c48 mixed rfl ?_
  by_cases h : k < xs.length
  · have g1 : ¬ (k : Int) ≥ xs.length := by omega
    have w1 : IntKind.i64.wrap ((k : Int) + 1) = (k : Int) + 1 := wrap64 (by omega)
    have w2 : IntKind.i64.wrap ((k : Int) + 1 - 1) = (k : Int) := by rw [wrap64 (by omega)]; omega
    have w3 : IntKind.i64.wrap (k : Int) = (k : Int) := wrap64 (by omega)
    have k0 : ¬ (k : Int) < 0 := by omega
    simp -implicitDefEqProofs [a48, F48, tapeB, g1, w1, w2, w3, k0, iv_get h]
    refine wkd_take ?_
    simp -implicitDefEqProofs
    refine wcd_of (Mod_pc xs[k] m h1 h2) (by simp) (by simp) ?_
    simp -implicitDefEqProofs
    refine retA_of 1 ?_
    simp -implicitDefEqProofs [tapeB, nx, nat1, h]
  · have g1 : (k : Int) ≥ xs.length := by omega
    simp -implicitDefEqProofs [a48, F48, tapeB, g1]
    refine retA_of 1 ?_
    simp -implicitDefEqProofs [tapeB, nx, nat1, h]
theorem u8wrap (n : Nat) : IntKind.u8.wrap ((n : Nat) : Int) = ((UInt8.ofNat n).toNat : Int) := by
  rw [IntKind.wrap_u8', UInt8.toNat_ofNat']
  omega
theorem hand1 {bx : List (List V)} {B : List V} {q : Nat} (h : bx[q]? = some B) (hc : B.all cellB = true) : handOk bx [.ptr q 0] [] [q] [.ptr 0 0] [B] :=
  ⟨by simp [ren, renA, renL, fzs], rfl, rfl, rfl, by simp [(List.getElem?_eq_some_iff.1 h).1], by simp [h], by simpa using hc⟩
theorem hand2 {bx : List (List V)} {B : List V} {q : Nat} {v : Value} (h : bx[q]? = some B) (hc : B.all cellB = true) : handOk bx [.ptr q 0, .s v] [] [q] [.ptr 0 0, .s v] [B] :=
  ⟨by simp [ren, renA, renL, fzs], rfl, rfl, rfl, by simp [(List.getElem?_eq_some_iff.1 h).1], by simp [h], by simpa using hc⟩
theorem hand3 {bx : List (List V)} {B : List V} {q : Nat} {v u : Value} (h : bx[q]? = some B) (hc : B.all cellB = true) : handOk bx [.ptr q 0, .s v, .s u] [] [q] [.ptr 0 0, .s v, .s u] [B] :=
  ⟨by simp [ren, renA, renL, fzs], rfl, rfl, rfl, by simp [(List.getElem?_eq_some_iff.1 h).1], by simp [h], by simpa using hc⟩
theorem tapeB_ok (xs : List Int) (k : Nat) : (tapeB xs k).all cellB = true := rfl
theorem New_pl : PC Try.prog 19 [] (fun r => r = .agg [.s (.int .i64 1), .list 1 [], .s (.int .i64 0)]) :=
  pc_list New_pc fun x hx _ => by
    subst hx
    exact ⟨_, by simp [frT, frA, frLs, frL, immC], rfl, rfl⟩
theorem Es.ok.up {E : Es} {M M' : Nat} (h : E.ok M) (hM : M ≤ M') : E.ok M' := ⟨h.fr, h.ro, fun i => Nat.le_trans (h.ol i) hM, h.pk, h.cl⟩
def lpInv (l : List Int) (m : Nat) (S : St) : Prop := ∃ (E : Es) (k : Nat), k + m = l.length ∧ E.ok k ∧
  S = ⟨tmL [], [.list 1 (iv l), .s (.pointer none), .s (.bool false), .ptr 0 0, .ptr 1 0, .no, .no, .no, .no, .no, .no, .no, .no, .no, .no, .no, .no, .no], [E.cells, tapeB l k], 0⟩
set_option maxHeartbeats 16000000 in
set_option maxRecDepth 10000 in
theorem play_ac (l : List Int) (hl : l.length ≤ 400) : AC Try.prog 27 [.list 1 (iv l)] [] (fun r bs => ∃ E : Es, E.ok 400 ∧ r = .tup [.ptr 0 0, .s (.bool true)] ∧ bs = [E.cells]) := by
  refine ac_end c27b mixed rfl ?_
  simp -implicitDefEqProofs [a27b, F27]
  refine wk_take ?_
  simp -implicitDefEqProofs
  refine wc_of New_pl (by simp) (by simp) ?_
  rintro _ rfl
  simp -implicitDefEqProofs
  refine wk_take ?_
  simp -implicitDefEqProofs
  refine wc_of New_pl (by simp) (by simp) ?_
  rintro _ rfl
  simp -implicitDefEqProofs
  refine w_rounds [] [5, 6, 7, 8, 9, 10, 11, 12, 13, 14, 15, 16, 17] 2 (by simp) (lpInv l) l.length ⟨by simp, es0, 0, by omega, es0_ok, by simp [Es.cells, es0, Es.lk, Es.out, Es.got, ccl, cl, bv, tapeB]⟩ ?_
  rintro m S ⟨E, k, hkm, hE, rfl⟩
  simp -implicitDefEqProofs
  refine wk_hand ?_
  simp -implicitDefEqProofs
  refine wa_of (More_ac l k) (hand1 (q := 1) rfl (tapeB_ok _ _)) ?_
  rintro _ _ ⟨rfl, rfl⟩
  refine ⟨rfl, ?_⟩
  by_cases hk : k < l.length
  case neg =>
    simp -implicitDefEqProofs [hk]
    exact retA_of 1 ⟨by simp, by simp -implicitDefEqProofs [Es.cells], E, hE.up (by omega), by simp -implicitDefEqProofs, by simp -implicitDefEqProofs⟩
  simp -implicitDefEqProofs [hk]
  refine wk_hand ?_
  simp -implicitDefEqProofs
  refine wa_of (Next_ac l k 2 (by omega) (by omega) (by omega)) (hand2 (q := 1) rfl (tapeB_ok _ _)) ?_
  rintro _ _ ⟨rfl, rfl⟩
  refine ⟨rfl, ?_⟩
  simp -implicitDefEqProofs
  refine wk_hand ?_
  simp -implicitDefEqProofs
  refine wa_of (Next_ac l (nat1 l k) 10 (by omega) (by omega) (by have := (nat1_le (xs := l) (k := k) (by omega)).1; omega)) (hand2 (q := 1) rfl (tapeB_ok _ _)) ?_
  rintro _ _ ⟨rfl, rfl⟩
  refine ⟨rfl, ?_⟩
  simp -implicitDefEqProofs
  refine wk_hand ?_
  simp -implicitDefEqProofs
  refine wa_of (Next_ac l (nat1 l (nat1 l k)) 3 (by omega) (by omega) (by have h1 := nat1_le (xs := l) (k := k) (by omega); have h2 := (nat1_le (xs := l) (k := nat1 l k) h1.1).1; omega)) (hand2 (q := 1) rfl (tapeB_ok _ _)) ?_
  rintro _ _ ⟨rfl, rfl⟩
  refine ⟨rfl, ?_⟩
  have hb1 := nx_bd l k (m := 2) (by omega)
  have hb2 := nx_bd l (nat1 l k) (m := 10) (by omega)
  have hb3 := nx_bd l (nat1 l (nat1 l k)) (m := 3) (by omega)
  have hk3 : k + 1 ≤ nat1 l (nat1 l (nat1 l k)) ∧ nat1 l (nat1 l (nat1 l k)) ≤ l.length := by
    have h0 : nat1 l k = k + 1 := by simp [nat1, hk]
    have h1 := nat1_le (xs := l) (k := k) (by omega)
    have h2 := nat1_le (xs := l) (k := nat1 l k) h1.1
    have h3 := nat1_le (xs := l) (k := nat1 l (nat1 l k)) h2.1
    omega
  revert hb1 hb2 hb3 hk3
  generalize nx l k 2 = i
  generalize nx l (nat1 l k) 10 = n
  generalize nx l (nat1 l (nat1 l k)) 3 = q0
  generalize nat1 l (nat1 l (nat1 l k)) = k3
  intro hb1 hb2 hb3 hk3
  obtain ⟨q, rfl⟩ : ∃ q : Nat, q0 = q := ⟨q0.toNat, by omega⟩
  have w1 : IntKind.i64.wrap 1 = 1 := by decide
  have w0 : IntKind.i64.wrap 0 = 0 := by decide
  have next : ∀ E' : Es, E'.ok (k + 1) → ∃ m' : Nat, m' < m ∧ lpInv l m' ⟨tmL [], [.list 1 (iv l), .s (.pointer none), .s (.bool false), .ptr 0 0, .ptr 1 0, .no, .no, .no, .no, .no, .no, .no, .no, .no, .no, .no, .no, .no], [E'.cells, tapeB l k3], 0⟩ := fun E' h => ⟨l.length - k3, by omega, E', k3, by omega, h.up (by omega), rfl⟩
  rcases (show i = 0 ∨ i = 1 by omega) with rfl | rfl
  · have hcl := hE.cl false
    have hol := hE.ol false
    have wl : IntKind.i64.wrap (((E.o false).length : Int) + 1) = (((E.o false).length + 1 : Nat) : Int) := by rw [wrap64 (by omega)]; rfl
    by_cases n3 : n < 3
    · have hu8 : IntKind.u8.wrap (((E.o false).length : Int) + 1) = ((UInt8.ofNat ((E.o false).length + 1)).toNat : Int) := u8wrap ((E.o false).length + 1)
      have hof := Offer_es hE (by omega) false (UInt8.ofNat ((E.o false).length + 1))
      have hE2 := E.off_ok hE false (UInt8.ofNat ((E.o false).length + 1))
      have ho2 : (E.off false (UInt8.ofNat ((E.o false).length + 1))).o false = E.o false ++ [UInt8.ofNat ((E.o false).length + 1)] := by simp [Es.off]
      have ho3 : (E.off false (UInt8.ofNat ((E.o false).length + 1))).o true = E.o true := by simp [Es.off, upB]
      have hg0 := E.off_got hE false (UInt8.ofNat ((E.o false).length + 1)) false
      have hg1 := E.off_got hE false (UInt8.ofNat ((E.o false).length + 1)) true
      have hl1 : ((E.off false (UInt8.ofNat ((E.o false).length + 1))).lk true).first = (E.lk true).first := rfl
      have hl2 : (E.off false (UInt8.ofNat ((E.o false).length + 1))).out true = E.out true := by simp [Es.out, Es.off, upB]
      have hc : (E.off false (UInt8.ofNat ((E.o false).length + 1))).c = E.c := rfl
      have hr : (E.off false (UInt8.ofNat ((E.o false).length + 1))).r = E.r := rfl
      have hl3 : ((E.off false (UInt8.ofNat ((E.o false).length + 1))).lk false).out = (E.off false (UInt8.ofNat ((E.o false).length + 1))).out false := rfl
      have hl4 : ((E.off false (UInt8.ofNat ((E.o false).length + 1))).lk false).got = (E.r true : Nat) := rfl
      have b1 : (E.o false).length + 1 ≤ maxLen ∧ (E.o false).length + 1 ≤ maxBytes := by simp [maxLen, maxBytes]; omega
      revert hu8 hof hE2 ho2 ho3 hg0 hg1 hl1 hl2 hc hr hl3 hl4
      generalize UInt8.ofNat ((E.o false).length + 1) = mm
      intro hu8 hof hE2 ho2 ho3 hg0 hg1 hl1 hl2 hc hr hl3 hl4
      simp -implicitDefEqProofs [n3, Es.cells, wl, hu8]
      refine wk_take ?_
      simp -implicitDefEqProofs
      refine wc_of hof (by simp [Lnk.v, Es.lk, bv]) (by simp [Lnk.v, bv]) ?_
      rintro _ rfl
      simp -implicitDefEqProofs [Lnk.v, b1, w1, w0]
      refine wk_hand ?_
      simp -implicitDefEqProofs
      refine wa_of (begin_ac (E.off false mm) 400 (hE2.up (by omega)) (by omega)) (hand1 (q := 0) (by simp -implicitDefEqProofs [Es.cells, ho2, ho3, hg0, hg1, hl1, hl2, hl3, hl4, hc, hr, bv]) (Es.cells_ok _)) ?_
      rintro _ _ ⟨rfl, rfl⟩
      refine ⟨rfl, ?_⟩
      simp -implicitDefEqProofs
      exact ⟨⟨by simp -implicitDefEqProofs [Es.cells], by simp -implicitDefEqProofs [tapeB]⟩, next _ hE2⟩
    by_cases n5 : n < 5
    · have hE2 := E.snd_ok hE false
      simp -implicitDefEqProofs [n3, n5, Es.cells]
      refine wk_hand ?_
      simp -implicitDefEqProofs
      refine wa_of (send0 E 400 (hE.up (by omega)) (by omega)) (hand2 (q := 0) (by simp -implicitDefEqProofs [Es.cells]) (Es.cells_ok _)) ?_
      rintro _ _ ⟨rfl, rfl⟩
      refine ⟨rfl, ?_⟩
      simp -implicitDefEqProofs [Es.cells]
      refine wk_hand ?_
      simp -implicitDefEqProofs
      refine wa_of (begin_ac (E.snd false) 400 (hE2.up (by omega)) (by omega)) (hand1 (q := 0) (by simp -implicitDefEqProofs [Es.cells]) (Es.cells_ok _)) ?_
      rintro _ _ ⟨rfl, rfl⟩
      refine ⟨rfl, ?_⟩
      simp -implicitDefEqProofs
      exact ⟨⟨by simp -implicitDefEqProofs [Es.cells], by simp -implicitDefEqProofs [tapeB]⟩, next _ (hE2.up (by omega))⟩
    by_cases hq : q < (E.c false).length
    case neg =>
      have hq' : ¬ (q : Int) < (E.c false).length := by omega
      have hq2 : (E.c false).length ≤ q := by omega
      simp -implicitDefEqProofs [n3, n5, Es.cells, hq, hq', hq2]
      refine wk_hand ?_
      simp -implicitDefEqProofs
      refine wa_of (begin_ac E 400 (hE.up (by omega)) (by omega)) (hand1 (q := 0) (by simp -implicitDefEqProofs [Es.cells]) (Es.cells_ok _)) ?_
      rintro _ _ ⟨rfl, rfl⟩
      refine ⟨rfl, ?_⟩
      simp -implicitDefEqProofs
      exact ⟨⟨by simp -implicitDefEqProofs [Es.cells], by simp -implicitDefEqProofs [tapeB]⟩, next _ (hE.up (by omega))⟩
    have hq2 : ¬ (E.c false).length ≤ q := by omega
    by_cases n8 : n < 8
    · have hE2 := E.dlv_ok hE hq
      simp -implicitDefEqProofs [n3, n5, n8, Es.cells, hq2]
      refine wk_hand ?_
      simp -implicitDefEqProofs
      refine wa_of (deliver0 E q 400 (hE.up (by omega)) (by omega) hq) (hand3 (q := 0) (by simp -implicitDefEqProofs [Es.cells]) (Es.cells_ok _)) ?_
      rintro _ _ ⟨rfl, rfl⟩
      refine ⟨rfl, ?_⟩
      simp -implicitDefEqProofs [Es.cells]
      refine wk_hand ?_
      simp -implicitDefEqProofs
      refine wa_of (begin_ac (E.dlv false q) 400 (hE2.up (by omega)) (by omega)) (hand1 (q := 0) (by simp -implicitDefEqProofs [Es.cells]) (Es.cells_ok _)) ?_
      rintro _ _ ⟨rfl, rfl⟩
      refine ⟨rfl, ?_⟩
      simp -implicitDefEqProofs
      exact ⟨⟨by simp -implicitDefEqProofs [Es.cells], by simp -implicitDefEqProofs [tapeB]⟩, next _ (hE2.up (by omega))⟩
    have hkp : (E.c false)[q] = E.pkt false q := by rw [Es.pkt, List.getD_eq_getElem?_getD, List.getElem?_eq_getElem hq]; rfl
    have k0 : ¬ (q : Int) < 0 := by omega
    have k1 : ¬ (q : Int) + 1 < 0 := by omega
    have gk := ccl_get hq
    rw [hkp] at gk
    have wk : IntKind.i64.wrap ((q : Int) + 1) = ((q + 1 : Nat) : Int) := by rw [wrap64 (by omega)]; rfl
    have hmin : min q (E.c false).length = q := by omega
    have hk' : q ≤ (E.c false).length := by omega
    have hk1 : q + 1 ≤ (E.c false).length := by omega
    have htd : List.take ((E.c false).length - (q + 1)) (List.drop (q + 1) (E.c false)) = List.drop (q + 1) (E.c false) := List.take_of_length_le (by simp)
    by_cases n9 : n = 8
    · subst n9
      have hE2 := E.los_ok hE false q
      have hc1 : (E.los false q).c false = List.take q (E.c false) ++ List.drop (q + 1) (E.c false) := by simp [Es.los]
      have hc2 : (E.los false q).c true = E.c true := by simp [Es.los, upB]
      have hc3 : (E.los false q).lk = E.lk := rfl
      have hc4 : (E.los false q).out = E.out := rfl
      have hc5 : (E.los false q).got = E.got := rfl
      have hc6 : (E.los false q).o = E.o := rfl
      have hc7 : (E.los false q).r = E.r := rfl
      have b1 : q ≤ maxLen ∧ q * 24 ≤ maxBytes := by simp [maxLen, maxBytes]; omega
      have b2 : q + ((E.c false).length - (q + 1)) ≤ maxLen ∧ (q + ((E.c false).length - (q + 1))) * 24 ≤ maxBytes := by simp [maxLen, maxBytes]; omega
      simp -implicitDefEqProofs [Es.cells, hq2, hk', hk1, k0, k1, htd, wk, hmin, b1, b2, ccl_take, ccl_drop, ccl_app]
      refine wk_hand ?_
      simp -implicitDefEqProofs
      refine wa_of (begin_ac (E.los false q) 400 (hE2.up (by omega)) (by omega)) (hand1 (q := 0) (by simp -implicitDefEqProofs [Es.cells, hc1, hc2, hc3, hc4, hc5, hc6, hc7]) (Es.cells_ok _)) ?_
      rintro _ _ ⟨rfl, rfl⟩
      refine ⟨rfl, ?_⟩
      simp -implicitDefEqProofs
      exact ⟨⟨by simp -implicitDefEqProofs [Es.cells], by simp -implicitDefEqProofs [tapeB]⟩, next _ (hE2.up (by omega))⟩
    have n9' : (n == 8) = false := by simpa using n9
    by_cases h8 : (E.c false).length < 8
    · have h8' : ((E.c false).length : Int) < 8 := by omega
      have hE2 := E.dbl_ok hE hq h8
      have hc1 : (E.dbl false q).c false = E.c false ++ [E.pkt false q] := by simp [Es.dbl]
      have hc2 : (E.dbl false q).c true = E.c true := by simp [Es.dbl, upB]
      have hc3 : (E.dbl false q).lk = E.lk := rfl
      have hc4 : (E.dbl false q).out = E.out := rfl
      have hc5 : (E.dbl false q).got = E.got := rfl
      have hc6 : (E.dbl false q).o = E.o := rfl
      have hc7 : (E.dbl false q).r = E.r := rfl
      have b1 : (E.c false).length ≤ maxLen ∧ (E.c false).length * 24 ≤ maxBytes := by simp [maxLen, maxBytes]; omega
      have b2 : (E.c false).length + 1 ≤ maxLen ∧ ((E.c false).length + 1) * 24 ≤ maxBytes := by simp [maxLen, maxBytes]; omega
      simp -implicitDefEqProofs [n3, n5, n8, n9, n9', h8', Es.cells, hq2, hq, k0, gk, b1, b2, ccl_snoc]
      refine wk_hand ?_
      simp -implicitDefEqProofs
      refine wa_of (begin_ac (E.dbl false q) 400 (hE2.up (by omega)) (by omega)) (hand1 (q := 0) (by simp -implicitDefEqProofs [Es.cells, hc1, hc2, hc3, hc4, hc5, hc6, hc7]) (Es.cells_ok _)) ?_
      rintro _ _ ⟨rfl, rfl⟩
      refine ⟨rfl, ?_⟩
      simp -implicitDefEqProofs
      exact ⟨⟨by simp -implicitDefEqProofs [Es.cells], by simp -implicitDefEqProofs [tapeB]⟩, next _ (hE2.up (by omega))⟩
    · have h8' : ¬ ((E.c false).length : Int) < 8 := by omega
      simp -implicitDefEqProofs [n3, n5, n8, n9, n9', h8', Es.cells, hq2]
      refine wk_hand ?_
      simp -implicitDefEqProofs
      refine wa_of (begin_ac E 400 (hE.up (by omega)) (by omega)) (hand1 (q := 0) (by simp -implicitDefEqProofs [Es.cells]) (Es.cells_ok _)) ?_
      rintro _ _ ⟨rfl, rfl⟩
      refine ⟨rfl, ?_⟩
      simp -implicitDefEqProofs
      exact ⟨⟨by simp -implicitDefEqProofs [Es.cells], by simp -implicitDefEqProofs [tapeB]⟩, next _ (hE.up (by omega))⟩
  · have hcl := hE.cl true
    have hol := hE.ol true
    have wl : IntKind.i64.wrap (((E.o true).length : Int) + 1) = (((E.o true).length + 1 : Nat) : Int) := by rw [wrap64 (by omega)]; rfl
    by_cases n3 : n < 3
    · have hu8 : IntKind.u8.wrap (((E.o true).length : Int) + 1) = ((UInt8.ofNat ((E.o true).length + 1)).toNat : Int) := u8wrap ((E.o true).length + 1)
      have hof := Offer_es hE (by omega) true (UInt8.ofNat ((E.o true).length + 1))
      have hE2 := E.off_ok hE true (UInt8.ofNat ((E.o true).length + 1))
      have ho2 : (E.off true (UInt8.ofNat ((E.o true).length + 1))).o true = E.o true ++ [UInt8.ofNat ((E.o true).length + 1)] := by simp [Es.off]
      have ho3 : (E.off true (UInt8.ofNat ((E.o true).length + 1))).o false = E.o false := by simp [Es.off, upB]
      have hg0 := E.off_got hE true (UInt8.ofNat ((E.o true).length + 1)) false
      have hg1 := E.off_got hE true (UInt8.ofNat ((E.o true).length + 1)) true
      have hl1 : ((E.off true (UInt8.ofNat ((E.o true).length + 1))).lk false).first = (E.lk false).first := rfl
      have hl2 : (E.off true (UInt8.ofNat ((E.o true).length + 1))).out false = E.out false := by simp [Es.out, Es.off, upB]
      have hc : (E.off true (UInt8.ofNat ((E.o true).length + 1))).c = E.c := rfl
      have hr : (E.off true (UInt8.ofNat ((E.o true).length + 1))).r = E.r := rfl
      have hl3 : ((E.off true (UInt8.ofNat ((E.o true).length + 1))).lk true).out = (E.off true (UInt8.ofNat ((E.o true).length + 1))).out true := rfl
      have hl4 : ((E.off true (UInt8.ofNat ((E.o true).length + 1))).lk true).got = (E.r false : Nat) := rfl
      have b1 : (E.o true).length + 1 ≤ maxLen ∧ (E.o true).length + 1 ≤ maxBytes := by simp [maxLen, maxBytes]; omega
      revert hu8 hof hE2 ho2 ho3 hg0 hg1 hl1 hl2 hc hr hl3 hl4
      generalize UInt8.ofNat ((E.o true).length + 1) = mm
      intro hu8 hof hE2 ho2 ho3 hg0 hg1 hl1 hl2 hc hr hl3 hl4
      simp -implicitDefEqProofs [n3, Es.cells, wl, hu8]
      refine wk_take ?_
      simp -implicitDefEqProofs
      refine wc_of hof (by simp [Lnk.v, Es.lk, bv]) (by simp [Lnk.v, bv]) ?_
      rintro _ rfl
      simp -implicitDefEqProofs [Lnk.v, b1, w1, w0]
      refine wk_hand ?_
      simp -implicitDefEqProofs
      refine wa_of (begin_ac (E.off true mm) 400 (hE2.up (by omega)) (by omega)) (hand1 (q := 0) (by simp -implicitDefEqProofs [Es.cells, ho2, ho3, hg0, hg1, hl1, hl2, hl3, hl4, hc, hr, bv]) (Es.cells_ok _)) ?_
      rintro _ _ ⟨rfl, rfl⟩
      refine ⟨rfl, ?_⟩
      simp -implicitDefEqProofs
      exact ⟨⟨by simp -implicitDefEqProofs [Es.cells], by simp -implicitDefEqProofs [tapeB]⟩, next _ hE2⟩
    by_cases n5 : n < 5
    · have hE2 := E.snd_ok hE true
      simp -implicitDefEqProofs [n3, n5, Es.cells]
      refine wk_hand ?_
      simp -implicitDefEqProofs
      refine wa_of (send1 E 400 (hE.up (by omega)) (by omega)) (hand2 (q := 0) (by simp -implicitDefEqProofs [Es.cells]) (Es.cells_ok _)) ?_
      rintro _ _ ⟨rfl, rfl⟩
      refine ⟨rfl, ?_⟩
      simp -implicitDefEqProofs [Es.cells]
      refine wk_hand ?_
      simp -implicitDefEqProofs
      refine wa_of (begin_ac (E.snd true) 400 (hE2.up (by omega)) (by omega)) (hand1 (q := 0) (by simp -implicitDefEqProofs [Es.cells]) (Es.cells_ok _)) ?_
      rintro _ _ ⟨rfl, rfl⟩
      refine ⟨rfl, ?_⟩
      simp -implicitDefEqProofs
      exact ⟨⟨by simp -implicitDefEqProofs [Es.cells], by simp -implicitDefEqProofs [tapeB]⟩, next _ (hE2.up (by omega))⟩
    by_cases hq : q < (E.c true).length
    case neg =>
      have hq' : ¬ (q : Int) < (E.c true).length := by omega
      have hq2 : (E.c true).length ≤ q := by omega
      simp -implicitDefEqProofs [n3, n5, Es.cells, hq, hq', hq2]
      refine wk_hand ?_
      simp -implicitDefEqProofs
      refine wa_of (begin_ac E 400 (hE.up (by omega)) (by omega)) (hand1 (q := 0) (by simp -implicitDefEqProofs [Es.cells]) (Es.cells_ok _)) ?_
      rintro _ _ ⟨rfl, rfl⟩
      refine ⟨rfl, ?_⟩
      simp -implicitDefEqProofs
      exact ⟨⟨by simp -implicitDefEqProofs [Es.cells], by simp -implicitDefEqProofs [tapeB]⟩, next _ (hE.up (by omega))⟩
    have hq2 : ¬ (E.c true).length ≤ q := by omega
    by_cases n8 : n < 8
    · have hE2 := E.dlv_ok hE hq
      simp -implicitDefEqProofs [n3, n5, n8, Es.cells, hq2]
      refine wk_hand ?_
      simp -implicitDefEqProofs
      refine wa_of (deliver1 E q 400 (hE.up (by omega)) (by omega) hq) (hand3 (q := 0) (by simp -implicitDefEqProofs [Es.cells]) (Es.cells_ok _)) ?_
      rintro _ _ ⟨rfl, rfl⟩
      refine ⟨rfl, ?_⟩
      simp -implicitDefEqProofs [Es.cells]
      refine wk_hand ?_
      simp -implicitDefEqProofs
      refine wa_of (begin_ac (E.dlv true q) 400 (hE2.up (by omega)) (by omega)) (hand1 (q := 0) (by simp -implicitDefEqProofs [Es.cells]) (Es.cells_ok _)) ?_
      rintro _ _ ⟨rfl, rfl⟩
      refine ⟨rfl, ?_⟩
      simp -implicitDefEqProofs
      exact ⟨⟨by simp -implicitDefEqProofs [Es.cells], by simp -implicitDefEqProofs [tapeB]⟩, next _ (hE2.up (by omega))⟩
    have hkp : (E.c true)[q] = E.pkt true q := by rw [Es.pkt, List.getD_eq_getElem?_getD, List.getElem?_eq_getElem hq]; rfl
    have k0 : ¬ (q : Int) < 0 := by omega
    have k1 : ¬ (q : Int) + 1 < 0 := by omega
    have gk := ccl_get hq
    rw [hkp] at gk
    have wk : IntKind.i64.wrap ((q : Int) + 1) = ((q + 1 : Nat) : Int) := by rw [wrap64 (by omega)]; rfl
    have hmin : min q (E.c true).length = q := by omega
    have hk' : q ≤ (E.c true).length := by omega
    have hk1 : q + 1 ≤ (E.c true).length := by omega
    have htd : List.take ((E.c true).length - (q + 1)) (List.drop (q + 1) (E.c true)) = List.drop (q + 1) (E.c true) := List.take_of_length_le (by simp)
    by_cases n9 : n = 8
    · subst n9
      have hE2 := E.los_ok hE true q
      have hc1 : (E.los true q).c true = List.take q (E.c true) ++ List.drop (q + 1) (E.c true) := by simp [Es.los]
      have hc2 : (E.los true q).c false = E.c false := by simp [Es.los, upB]
      have hc3 : (E.los true q).lk = E.lk := rfl
      have hc4 : (E.los true q).out = E.out := rfl
      have hc5 : (E.los true q).got = E.got := rfl
      have hc6 : (E.los true q).o = E.o := rfl
      have hc7 : (E.los true q).r = E.r := rfl
      have b1 : q ≤ maxLen ∧ q * 24 ≤ maxBytes := by simp [maxLen, maxBytes]; omega
      have b2 : q + ((E.c true).length - (q + 1)) ≤ maxLen ∧ (q + ((E.c true).length - (q + 1))) * 24 ≤ maxBytes := by simp [maxLen, maxBytes]; omega
      simp -implicitDefEqProofs [Es.cells, hq2, hk', hk1, k0, k1, htd, wk, hmin, b1, b2, ccl_take, ccl_drop, ccl_app]
      refine wk_hand ?_
      simp -implicitDefEqProofs
      refine wa_of (begin_ac (E.los true q) 400 (hE2.up (by omega)) (by omega)) (hand1 (q := 0) (by simp -implicitDefEqProofs [Es.cells, hc1, hc2, hc3, hc4, hc5, hc6, hc7]) (Es.cells_ok _)) ?_
      rintro _ _ ⟨rfl, rfl⟩
      refine ⟨rfl, ?_⟩
      simp -implicitDefEqProofs
      exact ⟨⟨by simp -implicitDefEqProofs [Es.cells], by simp -implicitDefEqProofs [tapeB]⟩, next _ (hE2.up (by omega))⟩
    have n9' : (n == 8) = false := by simpa using n9
    by_cases h8 : (E.c true).length < 8
    · have h8' : ((E.c true).length : Int) < 8 := by omega
      have hE2 := E.dbl_ok hE hq h8
      have hc1 : (E.dbl true q).c true = E.c true ++ [E.pkt true q] := by simp [Es.dbl]
      have hc2 : (E.dbl true q).c false = E.c false := by simp [Es.dbl, upB]
      have hc3 : (E.dbl true q).lk = E.lk := rfl
      have hc4 : (E.dbl true q).out = E.out := rfl
      have hc5 : (E.dbl true q).got = E.got := rfl
      have hc6 : (E.dbl true q).o = E.o := rfl
      have hc7 : (E.dbl true q).r = E.r := rfl
      have b1 : (E.c true).length ≤ maxLen ∧ (E.c true).length * 24 ≤ maxBytes := by simp [maxLen, maxBytes]; omega
      have b2 : (E.c true).length + 1 ≤ maxLen ∧ ((E.c true).length + 1) * 24 ≤ maxBytes := by simp [maxLen, maxBytes]; omega
      simp -implicitDefEqProofs [n3, n5, n8, n9, n9', h8', Es.cells, hq2, hq, k0, gk, b1, b2, ccl_snoc]
      refine wk_hand ?_
      simp -implicitDefEqProofs
      refine wa_of (begin_ac (E.dbl true q) 400 (hE2.up (by omega)) (by omega)) (hand1 (q := 0) (by simp -implicitDefEqProofs [Es.cells, hc1, hc2, hc3, hc4, hc5, hc6, hc7]) (Es.cells_ok _)) ?_
      rintro _ _ ⟨rfl, rfl⟩
      refine ⟨rfl, ?_⟩
      simp -implicitDefEqProofs
      exact ⟨⟨by simp -implicitDefEqProofs [Es.cells], by simp -implicitDefEqProofs [tapeB]⟩, next _ (hE2.up (by omega))⟩
    · have h8' : ¬ ((E.c true).length : Int) < 8 := by omega
      simp -implicitDefEqProofs [n3, n5, n8, n9, n9', h8', Es.cells, hq2]
      refine wk_hand ?_
      simp -implicitDefEqProofs
      refine wa_of (begin_ac E 400 (hE.up (by omega)) (by omega)) (hand1 (q := 0) (by simp -implicitDefEqProofs [Es.cells]) (Es.cells_ok _)) ?_
      rintro _ _ ⟨rfl, rfl⟩
      refine ⟨rfl, ?_⟩
      simp -implicitDefEqProofs
      exact ⟨⟨by simp -implicitDefEqProofs [Es.cells], by simp -implicitDefEqProofs [tapeB]⟩, next _ (hE.up (by omega))⟩
end Go.Proofs.Ytjgcjahngmkfdaa
