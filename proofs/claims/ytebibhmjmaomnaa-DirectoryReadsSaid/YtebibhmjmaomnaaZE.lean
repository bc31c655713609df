/- Texts put behind one another: A35, A36, A37, A38, A39, A40, A41, A42, A43, A44, R1, R2. -/
import Derived.Test.YtebibhmjmaomnaaZC
import Derived.ProofKit
import Derived.ChangeArms
import Derived.WideShapes
import Derived.Below
set_option linter.unusedVariables false
set_option linter.unusedSimpArgs false
namespace Go.Proofs.Ytebibhmjmaomnaa
open Go.RowKit
def dupN : List Nat → Bool
  | [] => true
  | l :: r => !r.contains l && dupN r
def okF (F : Fr) : Bool := dupN F.sv && F.sv.all (fun t => decide (t < F.N))
def compFn (P : Program) (f : Nat) (F : Fr) : Option (Nat × ACode × List RV) :=
  match P.funcs[f]? with
  | some fn => match fn.body with
    | some c => if okF F && Nat.beq fn.ntmps F.N && decide (fn.params.size + fn.nfree ≤ F.N) && (F.sv.take (fn.params.size + fn.nfree) == List.range (fn.params.size + fn.nfree)) && decide (fn.results.size ≤ 6) then
        (comp P F c).bind fun a => (resOfs P F fn.results.toList).bind fun r => some ((fn.params.size + fn.nfree), a, r) else none
    | none => none
  | none => none
def RetP (rvs : List RV) (q : V → Prop) (S : St) : Prop :=
  match rvVs S rvs with
  | some (ys, ls) => exitOk 0 S ys ls = true ∧ q (pack ys)
  | none => False
def tmL : List (Nat × V) → Nat → V
  | [], _ => .no
  | (t, x) :: r, u => if u = t then x else tmL r u
def cellV (n : Nat) : V → Bool
  | .agg cs => cs.all immC
  | x => cellK n x
def simpleV (n : Nat) : V → Bool
  | .s _ | .list _ _ => true
  | .ptr b _ => decide (b < n)
  | .agg cs => cs.all immC
  | _ => false
def forgetV : List Nat → List V → List V
  | [], vs => vs
  | i :: r, vs => forgetV r (vs.set i .no)
def wkn (keep drop : List Nat) (nb : Nat) (S : St) : St := ⟨tmL (keep.map fun t => (t, S.tm t)), forgetV drop S.vs, S.bx.take nb, 0⟩
def wknOk (keep drop : List Nat) (nb : Nat) (S : St) : Bool := keep.all (fun t => simpleV nb (S.tm t)) && (forgetV drop S.vs).all (cellV nb) && (S.bx.take nb).all (·.all (cellK nb)) && decide (nb ≤ S.bx.length)
section
variable {P : Program} {F : Fr}
set_option linter.unusedVariables false
theorem dupN_nodup : ∀ {ls : List Nat}, dupN ls = true → ls.Nodup
  | [], _ => List.nodup_nil
  | l :: r, h => by
    simp only [dupN, Bool.and_eq_true, Bool.not_eq_true', List.contains_eq_mem, decide_eq_false_iff_not] at h
    exact List.nodup_cons.2 ⟨h.1, dupN_nodup h.2⟩
theorem okF_ok (h : okF F = true) : F.ok := by
  simp only [okF, Bool.and_eq_true, List.all_eq_true, decide_eq_true_eq] at h
  obtain ⟨h1, h2⟩ := h
  refine ⟨fun i j t hi hj => ?_, h2⟩
  obtain ⟨a1, a2⟩ := List.getElem?_eq_some_iff.1 hi
  obtain ⟨b1, b2⟩ := List.getElem?_eq_some_iff.1 hj
  exact (List.getElem_inj (dupN_nodup h1)).1 (a2.trans b2.symm)
theorem ac_fn {f np : Nat} {ac : ACode} {rvs : List RV} (h : compFn P f F = some (np, strip ac, rvs) ∧ lexAll ac = true) (hm : P.follows .mixedOrders = true) {args : List V} (hl : args.length = np) {bs : List (List V)} {Q : V → List (List V) → Prop}
    (hw : W P F bs.length ac (St0 F args bs) fun x S => x.isEnd = true ∧ RetOk bs.length rvs Q S) : AC P f args bs Q := by
  obtain ⟨h, hla⟩ := h
  unfold compFn at h
  split at h
  · next fn hf =>
    split at h
    · next c hb =>
      split at h
      · next hcond =>
        simp only [Bool.and_eq_true, decide_eq_true_eq, beq_iff_eq] at hcond
        obtain ⟨⟨⟨⟨h1, h2⟩, h3⟩, h4⟩, h5⟩ := hcond
        have h2' : fn.ntmps = F.N := Nat.eq_of_beq_eq_true h2
        simp only [Option.bind_eq_some_iff] at h
        obtain ⟨a, hc, r, hr, h⟩ := h
        simp only [Option.some.injEq, Prod.mk.injEq] at h
        obtain ⟨rfl, rfl, rfl⟩ := h
        exact ac_of hf hb hm (okF_ok h1) h2'.symm hc hla hr h5 (by omega) (by rw [hl]; exact h4) hw
      · cases h
    · cases h
  · cases h
theorem wo_mono {o : AOper} {S : St} {K K' : St → Prop} (hk : ∀ S, K S → K' S) (h : WO P o S K) : WO P o S K' := by
  unfold WO at h ⊢
  cases hop : o.op with
  | call f args =>
    simp only [hop] at h ⊢
    unfold WCall at h ⊢
    obtain ⟨d', e, h⟩ := h
    refine ⟨d', e, ?_⟩
    rcases h with ⟨ys, tm1, h0, h1, q, h2, h3⟩ | ⟨ys, h0, q, h2, h3⟩ | ⟨ys, tm1, h0, mask, sel, args', bs, Q, h1, h2, h3⟩
    · exact .inl ⟨ys, tm1, h0, h1, q, h2, fun r hr => hk _ (h3 r hr)⟩
    · exact .inr (.inl ⟨ys, h0, q, h2, fun r hr => ⟨(h3 r hr).1, hk _ (h3 r hr).2⟩⟩)
    · exact .inr (.inr ⟨ys, tm1, h0, mask, sel, args', bs, Q, h1, h2, fun r bs' hr => ⟨(h3 r bs' hr).1, hk _ (h3 r bs' hr).2⟩⟩)
  | callv t args =>
    simp only [hop] at h ⊢
    obtain ⟨d', b, f, e, h0, h1, ys, tm1, h2, mask, sel, args', bs, Q, h3, h4, h5⟩ := h
    exact ⟨d', b, f, e, h0, h1, ys, tm1, h2, mask, sel, args', bs, Q, h3, h4, fun r bs' hr => ⟨(h5 r bs' hr).1, hk _ (h5 r bs' hr).2⟩⟩
  | isn ne x =>
    simp only [hop] at h ⊢
    split
    · next d r h1 h2 => rw [h1, h2] at h; exact fun b hb => hk _ (h b hb)
    · next q =>
      split at h
      · next d r h1 h2 => exact q d r h1 h2
      · exact h
  | _ =>
    simp only [hop] at h ⊢
    split
    · next S' hs => rw [hs] at h; exact hk _ h
    · next hs => rw [hs] at h; exact h
theorem wg_mono {o : AOper} {S : St} {K K' : St → Prop} (hk : ∀ S, K S → K' S) (h : WG P o S K) : WG P o S K' := by
  unfold WG at h ⊢
  split
  · next hg => simp only [hg] at h; exact wo_mono hk h
  · next t want hg =>
    simp only [hg] at h
    split
    · next hb =>
      simp only [hb] at h
      exact wo_mono hk h
    · next hb =>
      simp only [hb] at h
      split
      · next S' hs => rw [hs] at h; exact hk _ h
      · next hs => rw [hs] at h; exact h
    · next hb =>
      simp only [hb] at h
theorem wr_mono : ∀ (l : List AOper) {S : St} {K K' : St → Prop}, (∀ S, K S → K' S) → WR P l S K → WR P l S K'
  | [], S, K, K', hk, h => hk _ h
  | o :: r, S, K, K', hk, h => wg_mono (fun S' h' => wr_mono r hk h') h
theorem wn_mono {ops : List AOper} {es : List (List Nat)} : ∀ (f : Nat) {L : List Nat} {S : St} {K K' : St → Prop}, (∀ S, K S → K' S) → WN P ops es f L S K → WN P ops es f L S K'
  | 0, L, S, K, K', hk, h => ⟨h.1, hk _ h.2⟩
  | f + 1, L, S, K, K', hk, h => ⟨fun h0 => hk _ (h.1 h0), fun i hi o ho => wg_mono (fun S' h' => wn_mono f hk h') (h.2 i hi o ho)⟩
theorem wdr_mono {A : Ann} : ∀ (l : List AOper) {k : Nat} {S : St} {K K' : St → Prop}, (∀ S, K S → K' S) → WDR P A K k l S → WDR P A K' k l S
  | [], k, S, K, K', hk, h => hk _ h
  | o :: r, k, S, K, K', hk, ⟨S', h1, h2⟩ => ⟨S', h1, wdr_mono r hk h2⟩
theorem w_mono {n : Nat} : ∀ (c : ACode) {S : St} {Q Q' : AX → St → Prop}, (∀ x S, Q x S → Q' x S) → W P F n c S Q → W P F n c S Q' := by
  intro c
  induction c with
  | skip => intro S Q Q' hq h; exact hq _ _ h
  | exit id => intro S Q Q' hq h; exact hq _ _ h
  | ret => intro S Q Q' hq h; exact hq _ _ h
  | label l => intro S Q Q' hq h; exact hq _ _ h
  | goto l => intro S Q Q' hq h; exact hq _ _ h
  | scope l x y ihx ihy =>
    intro S Q Q' hq h
    refine ihx (fun e S' h' => ?_) h
    cases e with
    | normal => exact hq _ _ h'
    | exit id => exact hq _ _ h'
    | ret => exact hq _ _ h'
    | goto l =>
      refine ⟨h'.1, ihy (fun e S' h'' => ?_) h'.2⟩
      cases e with
      | goto l => exact h''
      | normal => exact hq _ _ h''
      | exit id => exact hq _ _ h''
      | ret => exact hq _ _ h''
  | reg id pre ops es an =>
    intro S Q Q' hq h
    simp only [W] at h ⊢
    refine ⟨h.1, ?_⟩
    have h := h.2
    split
    · next S1 hs =>
      simp only [hs] at h
      cases es with
      | none => exact wr_mono _ (hq .normal) h
      | some es =>
        simp only at h ⊢
        split at h
        · next he => rw [if_pos he]; exact wn_mono _ (hq .normal) h
        · next he => rw [if_neg he]; exact wdr_mono _ (hq .normal) h
    · next hs => simp only [hs] at h
  | seq x y ihx ihy =>
    intro S Q Q' hq h
    refine ihx (fun e S' h' => ?_) h
    cases e with
    | normal => exact ihy hq h'
    | exit id => exact hq _ _ h'
    | ret => exact hq _ _ h'
    | goto l => exact hq _ _ h'
  | cond c x y ihx ihy =>
    intro S Q Q' hq h
    simp only [W] at h ⊢
    split
    · next b hb =>
      simp only [hb] at h
      cases b with
      | true => simp only [if_true] at h ⊢; exact ihx hq h
      | false => simp only [Bool.false_eq_true, if_false] at h ⊢; exact ihy hq h
    · next hno =>
      split at h
      · next b hb => exact absurd hb (hno b)
      · exact h
  | block id c ih =>
    intro S Q Q' hq h
    refine ih (fun e S' h' => ?_) h
    cases e with
    | normal => exact hq _ _ h'
    | exit id' =>
      simp only at h' ⊢
      split
      · next e => rw [if_pos e] at h'; exact hq _ _ h'
      · next e => rw [if_neg e] at h'; exact hq _ _ h'
    | ret => exact hq _ _ h'
    | goto l => exact hq _ _ h'
  | loop c ih =>
    intro S Q Q' hq h
    simp only [W] at h ⊢
    obtain ⟨Inv, h1, h2⟩ := h
    refine ⟨Inv, h1, fun m S hl hI => ih (fun e S' h' => ?_) (h2 m S hl hI)⟩
    cases e with
    | normal => exact h'
    | exit id => exact hq _ _ h'
    | ret => exact hq _ _ h'
    | goto l => exact hq _ _ h'
theorem pc_fn {f np : Nat} {ac : ACode} {rvs : List RV} (h : compFn P f F = some (np, strip ac, rvs) ∧ lexAll ac = true) (hm : P.follows .mixedOrders = true) {args : List V} (hl : args.length = np) {q : V → Prop}
    (hw : W P F 0 ac (St0 F args []) fun x S => x.isEnd = true ∧ RetP rvs q S) : PC P f args q := by
  refine ac_fn h hm hl (bs := []) (w_mono ac (fun x S hq => ⟨hq.1, ?_⟩) hw)
  have hq := hq.2
  unfold RetP at hq
  unfold RetOk
  split
  · next ys ls hs => simp only [hs] at hq; exact ⟨0, Nat.le_refl _, hq.1, rfl, hq.2⟩
  · next hs => simp only [hs] at hq
theorem tmL_map {f : Nat → V} {keep : List Nat} (t : Nat) : tmL (keep.map fun t => (t, f t)) t = if keep.contains t then f t else .no := by
  induction keep with
  | nil => rfl
  | cons k r ih =>
    simp only [List.map_cons, tmL, ih]
    by_cases e : t = k
    · subst e; simp
    · simp [e]
theorem forgetV_ok : ∀ (ds : List Nat) (vs : List V), (forgetV ds vs).length = vs.length ∧ ∀ (i : Nat) (x : V), (forgetV ds vs)[i]? = some x → vs[i]? = some x ∨ x = .no
  | [], vs => ⟨rfl, fun i x h => .inl h⟩
  | d :: r, vs => by
    obtain ⟨h1, h2⟩ := forgetV_ok r (vs.set d .no)
    refine ⟨by simpa [forgetV] using h1, fun i x h => ?_⟩
    rcases h2 i x h with q | q
    · rw [List.getElem?_set] at q
      split at q
      · split at q
        · cases q; exact .inr rfl
        · cases q
      · exact .inl q
    · exact .inr q
theorem wkn_ok {keep drop : List Nat} {nb : Nat} {S : St} (h : wknOk keep drop nb S = true) : Wk S (wkn keep drop nb S) ∧ (wkn keep drop nb S).bx.length = nb := by
  simp only [wknOk, Bool.and_eq_true, List.all_eq_true, decide_eq_true_eq] at h
  obtain ⟨⟨⟨h1, h2⟩, h3⟩, h4⟩ := h
  have hlen : (wkn keep drop nb S).bx.length = nb := by simp [wkn]; omega
  have htm : ∀ t, (wkn keep drop nb S).tm t = .no ∨ ((wkn keep drop nb S).tm t = S.tm t ∧ simpleV nb (S.tm t) = true) := by
    intro t
    simp only [wkn, tmL_map]
    by_cases e : keep.contains t = true
    · rw [if_pos e]; exact .inr ⟨rfl, h1 t (by simpa using e)⟩
    · rw [if_neg e]; exact .inl rfl
  have hsub : ∀ t p x, ((wkn keep drop nb S).tm t).sub p = some x → x = .no ∨ simpleV nb x = true := by
    intro t p x hs
    rcases htm t with q | ⟨q1, q2⟩
    · rw [q] at hs; cases p <;> simp [V.sub] at hs; exact .inl hs.symm
    · rw [q1] at hs
      cases p with
      | nil => simp [V.sub] at hs; rw [hs] at q2; exact .inr q2
      | cons i p =>
        cases hx : S.tm t <;> rw [hx] at hs q2 <;> simp only [V.sub] at hs <;> first | (cases hs; done) | skip
        · simp only [Option.bind_eq_some_iff] at hs
          obtain ⟨c, k1, k2⟩ := hs
          have hi := List.all_eq_true.1 q2 c (List.mem_of_getElem? k1)
          cases p with
          | nil => simp [V.sub] at k2; subst k2; cases c <;> simp [immC] at hi <;> exact .inr rfl
          | cons j p => cases c <;> simp [V.sub] at k2 <;> simp [immC] at hi
        · simp [simpleV] at q2
  have hat : ∀ l x, (wkn keep drop nb S).at l = some x → cellV nb x = true := by
    intro l x hx
    cases l with
    | var i => exact h2 x (List.mem_of_getElem? (show (forgetV drop S.vs)[i]? = some x from hx))
    | cell b o =>
      simp only [wkn, St.at, Option.bind_eq_some_iff] at hx
      obtain ⟨cs, k1, k2⟩ := hx
      have := h3 cs (List.mem_of_getElem? k1) x (List.mem_of_getElem? k2)
      cases x <;> first | exact this | (simp [cellK] at this; done)
  refine ⟨⟨fun t => ?_, forgetV_ok drop S.vs, ⟨nb, rfl⟩, fun t p b o hs => ?_, fun l x p b o hx hs => ?_, fun l x hx d e0 e z xs he => ?_, .inr (.inl fun t p x hs => ?_)⟩, hlen⟩
  · rcases htm t with q | ⟨q, _⟩
    · exact .inr q
    · exact .inl q
  · rw [hlen]
    rcases hsub t p _ hs with q | q
    · cases q
    · simpa [simpleV] using q
  · rw [hlen]
    have hc := hat l x hx
    cases p with
    | nil => simp [V.sub] at hs; subst hs; simpa [cellV, cellK] using hc
    | cons i p =>
      cases x <;> simp only [V.sub] at hs <;> first | cases hs; done | skip
      · simp only [Option.bind_eq_some_iff] at hs
        obtain ⟨c, k1, k2⟩ := hs
        simp only [cellV, List.all_eq_true] at hc
        have := hc c (List.mem_of_getElem? k1)
        cases p with
        | nil => simp [V.sub] at k2; subst k2; simp [immC] at this
        | cons j p => cases c <;> simp [V.sub] at k2 <;> simp [immC] at this
      · simp [cellV, cellK] at hc
  · subst he; simpa [cellV, cellK] using hat l _ hx
  · rcases hsub t p x hs with rfl | q
    · exact ⟨rfl, fun _ _ e => (by cases e), fun _ _ _ _ e => (by cases e), fun _ _ _ _ e => (by cases e)⟩
    · cases x <;> simp [simpleV] at q <;> exact ⟨rfl, fun _ _ e => (by cases e), fun _ _ _ _ e => (by cases e), fun _ _ _ _ e => (by cases e)⟩
theorem w_loop {n : Nat} {c : ACode} {S : St} {Q : AX → St → Prop} (keep drop : List Nat) (nb : Nat) (hnb : n ≤ nb) (Inv : Nat → St → Prop) (m0 : Nat) (h0 : wknOk keep drop nb S = true ∧ Inv m0 (wkn keep drop nb S))
    (hr : ∀ m S, Inv m S → W P F n c S fun e S' => match e with | .normal => wknOk keep drop nb S' = true ∧ ∃ m', m' < m ∧ Inv m' (wkn keep drop nb S') | e => Q e S') : W P F n (.loop c) S Q := by
  obtain ⟨k1, k2⟩ := wkn_ok h0.1
  refine ⟨Inv, ⟨m0, _, k1, by omega, h0.2⟩, fun m S hl hI => w_mono c (fun e S' h' => ?_) (hr m S hI)⟩
  cases e with
  | normal =>
    obtain ⟨q1, m', q2, q3⟩ := h'
    obtain ⟨k3, k4⟩ := wkn_ok q1
    exact ⟨m', _, q2, k3, by omega, q3⟩
  | exit id => exact h'
  | ret => exact h'
  | goto l => exact h'
end
end Go.Proofs.Ytebibhmjmaomnaa
namespace Go.Proofs.Ytebibhmjmaomnaa
open Go.RowKit
def ob {α : Type} (o : Option α) (K : α → Prop) : Prop := match o with
  | some x => K x
  | none => False
@[simp] theorem ob_some {α : Type} (x : α) (K : α → Prop) : ob (some x) K = K x := rfl
@[simp] theorem ob_none {α : Type} (K : α → Prop) : ob none K = False := rfl
section
variable {P : Program} {F : Fr} {n : Nat}
@[simp] theorem upd_at (f : Nat → V) (d : Nat) (x : V) (t : Nat) : upd f d x t = if t = d then x else f t := rfl
@[simp] theorem W_skip (S : St) (Q : AX → St → Prop) : W P F n .skip S Q = Q .normal S := rfl
@[simp] theorem W_exit (id : Nat) (S : St) (Q : AX → St → Prop) : W P F n (.exit id) S Q = Q (.exit id) S := rfl
@[simp] theorem W_ret (S : St) (Q : AX → St → Prop) : W P F n .ret S Q = Q .ret S := rfl
def sq (P : Program) (F : Fr) (n : Nat) (y : ACode) (Q : AX → St → Prop) : AX → St → Prop := fun e S => match e with
  | .normal => W P F n y S Q
  | e => Q e S
def bq (id : Nat) (Q : AX → St → Prop) : AX → St → Prop := fun e S => match e with
  | .exit id' => if id' = id then Q .normal S else Q (.exit id') S
  | e => Q e S
@[simp] theorem sq_normal (y : ACode) (Q : AX → St → Prop) (S : St) : sq P F n y Q .normal S = W P F n y S Q := rfl
@[simp] theorem sq_exit (y : ACode) (Q : AX → St → Prop) (S : St) (id : Nat) : sq P F n y Q (.exit id) S = Q (.exit id) S := rfl
@[simp] theorem sq_ret (y : ACode) (Q : AX → St → Prop) (S : St) : sq P F n y Q .ret S = Q .ret S := rfl
@[simp] theorem sq_goto (y : ACode) (Q : AX → St → Prop) (S : St) (l : Nat) : sq P F n y Q (.goto l) S = Q (.goto l) S := rfl
@[simp] theorem bq_goto (id : Nat) (Q : AX → St → Prop) (S : St) (l : Nat) : bq id Q (.goto l) S = Q (.goto l) S := rfl
@[simp] theorem W_label (l : Nat) (S : St) (Q : AX → St → Prop) : W P F n (.label l) S Q = Q .normal S := rfl
@[simp] theorem W_goto (l : Nat) (S : St) (Q : AX → St → Prop) : W P F n (.goto l) S Q = Q (.goto l) S := rfl
def ng (Q : AX → St → Prop) : AX → St → Prop := fun e S => match e with
  | .goto _ => False
  | e => Q e S
@[simp] theorem ng_normal (Q : AX → St → Prop) (S : St) : ng Q .normal S = Q .normal S := rfl
@[simp] theorem ng_exit (Q : AX → St → Prop) (S : St) (id : Nat) : ng Q (.exit id) S = Q (.exit id) S := rfl
@[simp] theorem ng_ret (Q : AX → St → Prop) (S : St) : ng Q .ret S = Q .ret S := rfl
def jq (P : Program) (F : Fr) (n : Nat) (l : Nat) (r : ACode) (Q : AX → St → Prop) : AX → St → Prop := fun e S => match e with
  | .goto l' => l' = l ∧ W P F n r S (ng Q)
  | e => Q e S
@[simp] theorem jq_normal (l : Nat) (r : ACode) (Q : AX → St → Prop) (S : St) : jq P F n l r Q .normal S = Q .normal S := rfl
@[simp] theorem jq_exit (l : Nat) (r : ACode) (Q : AX → St → Prop) (S : St) (id : Nat) : jq P F n l r Q (.exit id) S = Q (.exit id) S := rfl
@[simp] theorem jq_ret (l : Nat) (r : ACode) (Q : AX → St → Prop) (S : St) : jq P F n l r Q .ret S = Q .ret S := rfl
@[simp] theorem jq_goto (l l' : Nat) (r : ACode) (Q : AX → St → Prop) (S : St) : jq P F n l r Q (.goto l') S = (l' = l ∧ W P F n r S (ng Q)) := rfl
@[simp] theorem W_scope (l : Nat) (c r : ACode) (S : St) (Q : AX → St → Prop) : W P F n (.scope l c r) S Q = W P F n c S (jq P F n l r Q) := rfl
@[simp] theorem bq_normal (id : Nat) (Q : AX → St → Prop) (S : St) : bq id Q .normal S = Q .normal S := rfl
@[simp] theorem bq_exit (id : Nat) (Q : AX → St → Prop) (S : St) (id' : Nat) : bq id Q (.exit id') S = if id' = id then Q .normal S else Q (.exit id') S := rfl
@[simp] theorem bq_ret (id : Nat) (Q : AX → St → Prop) (S : St) : bq id Q .ret S = Q .ret S := rfl
@[simp] theorem W_seq (x y : ACode) (S : St) (Q : AX → St → Prop) : W P F n (.seq x y) S Q = W P F n x S (sq P F n y Q) := by
  simp only [W]
  congr 1
def cd (P : Program) (F : Fr) (n : Nat) (c : V) (x y : ACode) (S : St) (Q : AX → St → Prop) : Prop := match c with
  | .s (.bool b) => if b then W P F n x S Q else W P F n y S Q
  | _ => False
@[simp] theorem W_cond (c : Opd) (x y : ACode) (S : St) (Q : AX → St → Prop) : W P F n (.cond c x y) S Q = cd P F n (look0 S c) x y S Q := rfl
@[simp] theorem cd_true (x y : ACode) (S : St) (Q : AX → St → Prop) : cd P F n (.s (.bool true)) x y S Q = W P F n x S Q := rfl
@[simp] theorem cd_false (x y : ACode) (S : St) (Q : AX → St → Prop) : cd P F n (.s (.bool false)) x y S Q = W P F n y S Q := rfl
@[simp] theorem W_block (id : Nat) (c : ACode) (S : St) (Q : AX → St → Prop) : W P F n (.block id c) S Q = W P F n c S (bq id Q) := by
  simp only [W]
  congr 1
def wrk (P : Program) (ops : List AOper) (K : St → Prop) : St → Prop := fun S => WR P ops S K
@[simp] theorem wrk_at (ops : List AOper) (K : St → Prop) (S : St) : wrk P ops K S = WR P ops S K := rfl
@[simp] theorem W_reg (id : Nat) (pre : List Ghost) (ops : List AOper) (an : Ann) (S : St) (Q : AX → St → Prop) : W P F n (.reg id pre ops none an) S Q = (pre.all (ghostOk F) = true ∧ ob (ghosts pre S) (wrk P ops (Q .normal))) := by
  simp only [W]
  cases ghosts pre S <;> rfl
def WGD (P : Program) (ac : Bool) (o : AOper) (S : St) (K : St → Prop) : Prop := ∃ S', DG P ac o S S' ∧ K S'
def wdk (P : Program) (A : Ann) (k : Nat) (ops : List AOper) (K : St → Prop) : St → Prop := fun S => WDR P A K k ops S
@[simp] theorem wdk_at (A : Ann) (k : Nat) (ops : List AOper) (K : St → Prop) (S : St) : wdk P A k ops K S = WDR P A K k ops S := rfl
def WNM (P : Program) (ops : List AOper) (es : List (List Nat)) (S : St) (K : St → Prop) : Prop := WN P ops es ops.length [] S K
def wdm (P : Program) (A : Ann) (es : List (List Nat)) (ops : List AOper) (K : St → Prop) : St → Prop := fun S => if A.acs = [1000000] then WNM P ops es S K else WDR P A K 0 ops S
@[simp] theorem wdm_at (sh lf acs : List Nat) (ap : List (Nat × Nat × Nat)) (es : List (List Nat)) (ops : List AOper) (K : St → Prop) (S : St) : wdm P ⟨sh, lf, acs, ap⟩ es ops K S = if acs = [1000000] then WNM P ops es S K else WDR P ⟨sh, lf, acs, ap⟩ K 0 ops S := rfl
@[simp] theorem W_regd (id : Nat) (pre : List Ghost) (ops : List AOper) (es : List (List Nat)) (an : Ann) (S : St) (Q : AX → St → Prop) : W P F n (.reg id pre ops (some es) an) S Q = (pre.all (ghostOk F) = true ∧ ob (ghosts pre S) (wdm P an es ops (Q .normal))) := by
  simp only [W]
  cases ghosts pre S <;> rfl
@[simp] theorem WR_nil (S : St) (K : St → Prop) : WR P [] S K = K S := rfl
@[simp] theorem WR_cons (o : AOper) (r : List AOper) (S : St) (K : St → Prop) : WR P (o :: r) S K = WG P o S (wrk P r K) := rfl
@[simp] theorem WG_none (d : Dst) (op : AOp) (S : St) (K : St → Prop) : WG P ⟨d, op, none⟩ S K = WO P ⟨d, op, none⟩ S K := rfl
def gd (P : Program) (x : V) (want : Bool) (d : Nat) (op : AOp) (S : St) (K : St → Prop) : Prop := match gB x want with
  | some true => WO P ⟨.t d, op, none⟩ S K
  | some false => K { S with tm := upd S.tm d (.tup []) }
  | none => False
@[simp] theorem WG_some (d : Nat) (op : AOp) (t : Nat) (want : Bool) (S : St) (K : St → Prop) : WG P ⟨.t d, op, some (t, want)⟩ S K = gd P (S.tm t) want d op S K := rfl
@[simp] theorem gd_tt (d : Nat) (op : AOp) (S : St) (K : St → Prop) : gd P (.s (.bool true)) true d op S K = WO P ⟨.t d, op, none⟩ S K := rfl
@[simp] theorem gd_ff (d : Nat) (op : AOp) (S : St) (K : St → Prop) : gd P (.s (.bool false)) false d op S K = WO P ⟨.t d, op, none⟩ S K := rfl
@[simp] theorem gd_tf (d : Nat) (op : AOp) (S : St) (K : St → Prop) : gd P (.s (.bool true)) false d op S K = K { S with tm := upd S.tm d (.tup []) } := rfl
@[simp] theorem gd_ft (d : Nat) (op : AOp) (S : St) (K : St → Prop) : gd P (.s (.bool false)) true d op S K = K { S with tm := upd S.tm d (.tup []) } := rfl
@[simp] theorem gd_no (want : Bool) (d : Nat) (op : AOp) (S : St) (K : St → Prop) : gd P (.tup []) want d op S K = K { S with tm := upd S.tm d (.tup []) } := rfl
def obc (o : Option (Nat × List V)) (K : Nat × List V → Prop) : Prop := match o with
  | some r => K r
  | none => False
def isCall : AOp → Bool
  | .call _ _ | .isn _ _ | .callv _ _ => true
  | _ => false
theorem WO_step (d : Dst) (op : AOp) (gu : Option (Nat × Bool)) (S : St) (K : St → Prop) (h : isCall op = false) : WO P ⟨d, op, gu⟩ S K = ob (step S d op) K := by
  cases op <;> first | (simp [isCall] at h; done) | (simp only [WO]; cases step S d _ <;> rfl)
@[simp] theorem WO_isn (d : Nat) (ne : Bool) (x : Opd) (gu : Option (Nat × Bool)) (S : St) (K : St → Prop) : WO P ⟨.t d, .isn ne x, gu⟩ S K = obc (cont S (look0 S x)) fun r => (r.2 ≠ [] → K { S with tm := upd S.tm d (.s (.bool ne)) }) ∧ (r.2 = [] → K { S with tm := upd S.tm d (.s (.bool true)) } ∧ K { S with tm := upd S.tm d (.s (.bool false)) }) := by
  simp only [WO]
  cases cont S (look0 S x) with
  | none => rfl
  | some r =>
    simp only [obc]
    refine propext ⟨fun h => ⟨fun hr => h ne (fun _ => rfl), fun hr => ⟨h true (fun q => absurd hr q), h false (fun q => absurd hr q)⟩⟩, fun h b hb => ?_⟩
    by_cases hr : r.2 = []
    · cases b
      · exact (h.2 hr).2
      · exact (h.2 hr).1
    · rw [hb hr]; exact h.1 hr
@[simp] theorem WO_ex (d : Dst) (k : Ex) (x y : Opd) (gu : Option (Nat × Bool)) (S : St) (K : St → Prop) : WO P ⟨d, .ex k x y, gu⟩ S K = ob (step S d (.ex k x y)) K := WO_step d _ gu S K rfl
@[simp] theorem WO_mv (d : Dst) (x : Opd) (gu : Option (Nat × Bool)) (S : St) (K : St → Prop) : WO P ⟨d, .mv x, gu⟩ S K = ob (step S d (.mv x)) K := WO_step d _ gu S K rfl
@[simp] theorem WO_asg (d : Dst) (x : Opd) (gu : Option (Nat × Bool)) (S : St) (K : St → Prop) : WO P ⟨d, .asg x, gu⟩ S K = ob (step S d (.asg x)) K := WO_step d _ gu S K rfl
@[simp] theorem WO_pick (d : Dst) (c : Opd) (a : Opd) (b : Opd) (gu : Option (Nat × Bool)) (S : St) (K : St → Prop) : WO P ⟨d, .pick c a b, gu⟩ S K = ob (step S d (.pick c a b)) K := WO_step d _ gu S K rfl
@[simp] theorem WO_bin (d : Dst) (o : BinOp) (x : Opd) (y : Opd) (gu : Option (Nat × Bool)) (S : St) (K : St → Prop) : WO P ⟨d, .bin o x y, gu⟩ S K = ob (step S d (.bin o x y)) K := WO_step d _ gu S K rfl
@[simp] theorem WO_bib (d : Dst) (o : BinOp) (x : Opd) (y : Opd) (gu : Option (Nat × Bool)) (S : St) (K : St → Prop) : WO P ⟨d, .bib o x y, gu⟩ S K = ob (step S d (.bib o x y)) K := WO_step d _ gu S K rfl
@[simp] theorem WO_un (d : Dst) (o : UnOp) (x : Opd) (gu : Option (Nat × Bool)) (S : St) (K : St → Prop) : WO P ⟨d, .un o x, gu⟩ S K = ob (step S d (.un o x)) K := WO_step d _ gu S K rfl
@[simp] theorem WO_conv (d : Dst) (k : IntKind) (x : Opd) (gu : Option (Nat × Bool)) (S : St) (K : St → Prop) : WO P ⟨d, .conv k x, gu⟩ S K = ob (step S d (.conv k x)) K := WO_step d _ gu S K rfl
@[simp] theorem WO_b2s (d : Dst) (x : Opd) (gu : Option (Nat × Bool)) (S : St) (K : St → Prop) : WO P ⟨d, .b2s x, gu⟩ S K = ob (step S d (.b2s x)) K := WO_step d _ gu S K rfl
@[simp] theorem WO_cvb (d : Dst) (x : Opd) (gu : Option (Nat × Bool)) (S : St) (K : St → Prop) : WO P ⟨d, .cvb x, gu⟩ S K = ob (step S d (.cvb x)) K := WO_step d _ gu S K rfl
@[simp] theorem WO_mkf (d : Dst) (f : Nat) (x : Opd) (gu : Option (Nat × Bool)) (S : St) (K : St → Prop) : WO P ⟨d, .mkf f x, gu⟩ S K = ob (step S d (.mkf f x)) K := WO_step d _ gu S K rfl
@[simp] theorem WO_nilck (d : Dst) (x : Opd) (gu : Option (Nat × Bool)) (S : St) (K : St → Prop) : WO P ⟨d, .nilck x, gu⟩ S K = ob (step S d (.nilck x)) K := WO_step d _ gu S K rfl
@[simp] theorem WO_ext (d : Dst) (t : Nat) (i : Nat) (gu : Option (Nat × Bool)) (S : St) (K : St → Prop) : WO P ⟨d, .ext t i, gu⟩ S K = ob (step S d (.ext t i)) K := WO_step d _ gu S K rfl
@[simp] theorem WO_bld (d : Dst) (zs : List Value) (ps : List (Nat × Nat × Opd)) (gu : Option (Nat × Bool)) (S : St) (K : St → Prop) : WO P ⟨d, .bld zs ps, gu⟩ S K = ob (step S d (.bld zs ps)) K := WO_step d _ gu S K rfl
@[simp] theorem WO_bls (d : Dst) (e : Nat) (z : Nat) (zero : Value) (m : Nat) (ps : List (Nat × Opd)) (gu : Option (Nat × Bool)) (S : St) (K : St → Prop) : WO P ⟨d, .bls e z zero m ps, gu⟩ S K = ob (step S d (.bls e z zero m ps)) K := WO_step d _ gu S K rfl
@[simp] theorem WO_allo (d : Dst) (zs : List Value) (gu : Option (Nat × Bool)) (S : St) (K : St → Prop) : WO P ⟨d, .allo zs, gu⟩ S K = ob (step S d (.allo zs)) K := WO_step d _ gu S K rfl
@[simp] theorem WO_box (d : Dst) (m : Nat) (x : Opd) (gu : Option (Nat × Bool)) (S : St) (K : St → Prop) : WO P ⟨d, .box m x, gu⟩ S K = ob (step S d (.box m x)) K := WO_step d _ gu S K rfl
@[simp] theorem WO_ld (d : Dst) (m : Nat) (ag : Bool) (p : Opd) (gu : Option (Nat × Bool)) (S : St) (K : St → Prop) : WO P ⟨d, .ld m ag p, gu⟩ S K = ob (step S d (.ld m ag p)) K := WO_step d _ gu S K rfl
@[simp] theorem WO_st (d : Dst) (m : Nat) (p : Opd) (x : Opd) (gu : Option (Nat × Bool)) (S : St) (K : St → Prop) : WO P ⟨d, .st m p x, gu⟩ S K = ob (step S d (.st m p x)) K := WO_step d _ gu S K rfl
@[simp] theorem WO_fa (d : Dst) (off : Nat) (p : Opd) (gu : Option (Nat × Bool)) (S : St) (K : St → Prop) : WO P ⟨d, .fa off p, gu⟩ S K = ob (step S d (.fa off p)) K := WO_step d _ gu S K rfl
@[simp] theorem WO_ia (d : Dst) (z : Nat) (x : Opd) (i : Opd) (gu : Option (Nat × Bool)) (S : St) (K : St → Prop) : WO P ⟨d, .ia z x i, gu⟩ S K = ob (step S d (.ia z x i)) K := WO_step d _ gu S K rfl
@[simp] theorem WO_iaa (d : Dst) (z : Nat) (len : Nat) (x : Opd) (i : Opd) (gu : Option (Nat × Bool)) (S : St) (K : St → Prop) : WO P ⟨d, .iaa z len x i, gu⟩ S K = ob (step S d (.iaa z len x i)) K := WO_step d _ gu S K rfl
@[simp] theorem WO_sl (d : Dst) (e : Nat) (z : Nat) (x : Opd) (lo : Option Opd) (hi : Option Opd) (mx : Option Opd) (gu : Option (Nat × Bool)) (S : St) (K : St → Prop) : WO P ⟨d, .sl e z x lo hi mx, gu⟩ S K = ob (step S d (.sl e z x lo hi mx)) K := WO_step d _ gu S K rfl
@[simp] theorem WO_ssl (d : Dst) (x : Opd) (lo : Option Opd) (hi : Option Opd) (gu : Option (Nat × Bool)) (S : St) (K : St → Prop) : WO P ⟨d, .ssl x lo hi, gu⟩ S K = ob (step S d (.ssl x lo hi)) K := WO_step d _ gu S K rfl
@[simp] theorem WO_app (d : Dst) (e : Nat) (z : Nat) (b : Nat) (x : Opd) (y : Opd) (gu : Option (Nat × Bool)) (S : St) (K : St → Prop) : WO P ⟨d, .app e z b x y, gu⟩ S K = ob (step S d (.app e z b x y)) K := WO_step d _ gu S K rfl
@[simp] theorem WO_len (d : Dst) (x : Opd) (gu : Option (Nat × Bool)) (S : St) (K : St → Prop) : WO P ⟨d, .len x, gu⟩ S K = ob (step S d (.len x)) K := WO_step d _ gu S K rfl
@[simp] theorem WO_slen (d : Dst) (x : Opd) (gu : Option (Nat × Bool)) (S : St) (K : St → Prop) : WO P ⟨d, .slen x, gu⟩ S K = ob (step S d (.slen x)) K := WO_step d _ gu S K rfl
@[simp] theorem WO_mk (d : Dst) (e : Nat) (z : Nat) (b : Nat) (zero : Value) (m : Opd) (c : Opd) (gu : Option (Nat × Bool)) (S : St) (K : St → Prop) : WO P ⟨d, .mk e z b zero m c, gu⟩ S K = ob (step S d (.mk e z b zero m c)) K := WO_step d _ gu S K rfl
@[simp] theorem WO_mnx (d : Dst) (mx : Bool) (x : Opd) (y : Opd) (gu : Option (Nat × Bool)) (S : St) (K : St → Prop) : WO P ⟨d, .mnx mx x y, gu⟩ S K = ob (step S d (.mnx mx x y)) K := WO_step d _ gu S K rfl
def WK (P : Program) (S : St) (d f : Nat) (args : List Opd) (K : St → Prop) : Prop := WCall P S (.t d) f args K
@[simp] theorem WO_call (d f : Nat) (args : List Opd) (gu : Option (Nat × Bool)) (S : St) (K : St → Prop) : WO P ⟨.t d, .call f args, gu⟩ S K = WK P S d f args K := rfl
def WKV (P : Program) (S : St) (d t : Nat) (args : List Opd) (K : St → Prop) : Prop := WCallV P S (.t d) t args K
@[simp] theorem WO_callv (d t : Nat) (args : List Opd) (gu : Option (Nat × Bool)) (S : St) (K : St → Prop) : WO P ⟨.t d, .callv t args, gu⟩ S K = WKV P S d t args K := rfl
def WC (P : Program) (S : St) (d f : Nat) (K : St → Prop) (r : List V × (Nat → V)) : Prop := (r.1.map toImm).all immA = true ∧ ∃ q, PC P f (r.1.map toImm) q ∧ ∀ y, q y → K { S with tm := upd r.2 d y }
def WA (P : Program) (S : St) (d f : Nat) (K : St → Prop) (r : List V × (Nat → V)) : Prop := ∃ mask sel args bs Q, handOk S.bx r.1 mask sel args bs ∧ AC P f args bs Q ∧ ∀ y bs', Q y bs' → backOk sel bs' = true ∧ K (aftS { S with tm := r.2 } d y sel bs')
theorem wk_take {S : St} {d f : Nat} {args : List Opd} {K : St → Prop} (h : ob (takes S S.tm args) (WC P S d f K)) : WK P S d f args K := by
  cases hk : takes S S.tm args with
  | none => rw [hk] at h; exact h.elim
  | some r => rw [hk] at h; exact ⟨d, rfl, .inl ⟨r.1, r.2, hk, h⟩⟩
theorem wk_hand {S : St} {d f : Nat} {args : List Opd} {K : St → Prop} (h : ob (takes S S.tm args) (WA P S d f K)) : WK P S d f args K := by
  cases hk : takes S S.tm args with
  | none => rw [hk] at h; exact h.elim
  | some r => rw [hk] at h; exact ⟨d, rfl, .inr (.inr ⟨r.1, r.2, hk, h⟩)⟩
theorem wc_of {S : St} {d f : Nat} {K : St → Prop} {ys : List V} {tm1 : Nat → V} {args : List V} {q : V → Prop} (hc : PC P f args q) (ha : ys.map toImm = args) (hi : args.all immA = true) (hk : ∀ y, q y → K { S with tm := upd tm1 d y }) : WC P S d f K (ys, tm1) := by
  subst ha
  exact ⟨hi, q, hc, hk⟩
theorem wa_of {S : St} {d f : Nat} {K : St → Prop} {ys : List V} {tm1 : Nat → V} {mask : List Bool} {sel : List Nat} {args : List V} {bs : List (List V)} {Q : V → List (List V) → Prop} (hc : AC P f args bs Q) (ho : handOk S.bx ys mask sel args bs)
    (hk : ∀ y bs', Q y bs' → backOk sel bs' = true ∧ K (aftS { S with tm := tm1 } d y sel bs')) : WA P S d f K (ys, tm1) := ⟨mask, sel, args, bs, Q, ho, hc, hk⟩
theorem wdr_cons (A : Ann) (k : Nat) (o : AOper) (r : List AOper) (K : St → Prop) (S : St) : WDR P A K k (o :: r) S = (dynOk A k o S = true ∧ WGD P (A.acs.contains k) o S (wdk P A (k + 1) r K)) := by
  simp only [WDR, WGD, DGd, wdk, eq_iff_iff]
  constructor
  · rintro ⟨S', ⟨h1, h2⟩, h3⟩; exact ⟨h2, S', h1, h3⟩
  · rintro ⟨h2, S', h1, h3⟩; exact ⟨S', ⟨h1, h2⟩, h3⟩
@[simp] theorem WDR_nil (A : Ann) (k : Nat) (K : St → Prop) (S : St) : WDR P A K k [] S = K S := rfl
@[simp] theorem WDR_cons (A : Ann) (k : Nat) (o : AOper) (r : List AOper) (K : St → Prop) (S : St) : WDR P A K k (o :: r) S = (dynOk A k o S = true ∧ WGD P (A.acs.contains k) o S (wdk P A (k + 1) r K)) := wdr_cons A k o r K S
theorem WGD_step (ac : Bool) (d : Dst) (op : AOp) (S : St) (K : St → Prop) (h : isCall op = false) : WGD P ac ⟨d, op, none⟩ S K = ob (step S d op) K := by
  unfold WGD DG DO
  cases op <;> first
    | (simp [isCall] at h; done)
    | (simp only
       cases hs : step S d _ with
       | none => simp
       | some S' => simp)
def gdd (P : Program) (ac : Bool) (x : V) (want : Bool) (d : Nat) (op : AOp) (S : St) (K : St → Prop) : Prop := match gB x want with
  | some true => WGD P ac ⟨.t d, op, none⟩ S K
  | some false => K { S with tm := upd S.tm d (.tup []) }
  | none => False
@[simp] theorem WGD_some (ac : Bool) (d : Nat) (op : AOp) (t : Nat) (want : Bool) (S : St) (K : St → Prop) : WGD P ac ⟨.t d, op, some (t, want)⟩ S K = gdd P ac (S.tm t) want d op S K := by
  unfold WGD DG gdd
  simp only
  cases hx : gB (S.tm t) want with
  | none => simp
  | some go =>
    cases go
    · simp only [Option.some.injEq, exists_eq_left', Bool.false_eq_true, if_false, skipS]
    · simp only [Option.some.injEq, exists_eq_left', if_true]
      rfl
@[simp] theorem gdd_tt (ac : Bool) (d : Nat) (op : AOp) (S : St) (K : St → Prop) : gdd P ac (.s (.bool true)) true d op S K = WGD P ac ⟨.t d, op, none⟩ S K := rfl
@[simp] theorem gdd_ff (ac : Bool) (d : Nat) (op : AOp) (S : St) (K : St → Prop) : gdd P ac (.s (.bool false)) false d op S K = WGD P ac ⟨.t d, op, none⟩ S K := rfl
@[simp] theorem gdd_tf (ac : Bool) (d : Nat) (op : AOp) (S : St) (K : St → Prop) : gdd P ac (.s (.bool true)) false d op S K = K { S with tm := upd S.tm d (.tup []) } := rfl
@[simp] theorem gdd_ft (ac : Bool) (d : Nat) (op : AOp) (S : St) (K : St → Prop) : gdd P ac (.s (.bool false)) true d op S K = K { S with tm := upd S.tm d (.tup []) } := rfl
@[simp] theorem gdd_no (ac : Bool) (want : Bool) (d : Nat) (op : AOp) (S : St) (K : St → Prop) : gdd P ac (.tup []) want d op S K = K { S with tm := upd S.tm d (.tup []) } := rfl
@[simp] theorem WGD_mv (ac : Bool) (d : Dst) (x : Opd) (S : St) (K : St → Prop) : WGD P ac ⟨d, .mv x, none⟩ S K = ob (step S d (.mv x)) K := WGD_step ac d _ S K rfl
@[simp] theorem WGD_asg (ac : Bool) (d : Dst) (x : Opd) (S : St) (K : St → Prop) : WGD P ac ⟨d, .asg x, none⟩ S K = ob (step S d (.asg x)) K := WGD_step ac d _ S K rfl
@[simp] theorem WGD_pick (ac : Bool) (d : Dst) (c a b : Opd) (S : St) (K : St → Prop) : WGD P ac ⟨d, .pick c a b, none⟩ S K = ob (step S d (.pick c a b)) K := WGD_step ac d _ S K rfl
@[simp] theorem WGD_bin (ac : Bool) (d : Dst) (o : BinOp) (x y : Opd) (S : St) (K : St → Prop) : WGD P ac ⟨d, .bin o x y, none⟩ S K = ob (step S d (.bin o x y)) K := WGD_step ac d _ S K rfl
@[simp] theorem WGD_bib (ac : Bool) (d : Dst) (o : BinOp) (x y : Opd) (S : St) (K : St → Prop) : WGD P ac ⟨d, .bib o x y, none⟩ S K = ob (step S d (.bib o x y)) K := WGD_step ac d _ S K rfl
@[simp] theorem WGD_un (ac : Bool) (d : Dst) (o : UnOp) (x : Opd) (S : St) (K : St → Prop) : WGD P ac ⟨d, .un o x, none⟩ S K = ob (step S d (.un o x)) K := WGD_step ac d _ S K rfl
@[simp] theorem WGD_conv (ac : Bool) (d : Dst) (k : IntKind) (x : Opd) (S : St) (K : St → Prop) : WGD P ac ⟨d, .conv k x, none⟩ S K = ob (step S d (.conv k x)) K := WGD_step ac d _ S K rfl
@[simp] theorem WGD_b2s (ac : Bool) (d : Dst) (x : Opd) (S : St) (K : St → Prop) : WGD P ac ⟨d, .b2s x, none⟩ S K = ob (step S d (.b2s x)) K := WGD_step ac d _ S K rfl
@[simp] theorem WGD_ex (ac : Bool) (d : Dst) (k : Ex) (x y : Opd) (S : St) (K : St → Prop) : WGD P ac ⟨d, .ex k x y, none⟩ S K = ob (step S d (.ex k x y)) K := WGD_step ac d _ S K rfl
@[simp] theorem WGD_cvb (ac : Bool) (d : Dst) (x : Opd) (S : St) (K : St → Prop) : WGD P ac ⟨d, .cvb x, none⟩ S K = ob (step S d (.cvb x)) K := WGD_step ac d _ S K rfl
@[simp] theorem WGD_mkf (ac : Bool) (d : Dst) (f : Nat) (x : Opd) (S : St) (K : St → Prop) : WGD P ac ⟨d, .mkf f x, none⟩ S K = ob (step S d (.mkf f x)) K := WGD_step ac d _ S K rfl
@[simp] theorem WGD_nilck (ac : Bool) (d : Dst) (x : Opd) (S : St) (K : St → Prop) : WGD P ac ⟨d, .nilck x, none⟩ S K = ob (step S d (.nilck x)) K := WGD_step ac d _ S K rfl
@[simp] theorem WGD_ext (ac : Bool) (d : Dst) (t i : Nat) (S : St) (K : St → Prop) : WGD P ac ⟨d, .ext t i, none⟩ S K = ob (step S d (.ext t i)) K := WGD_step ac d _ S K rfl
@[simp] theorem WGD_bld (ac : Bool) (d : Dst) (zs : List Value) (ps : List (Nat × Nat × Opd)) (S : St) (K : St → Prop) : WGD P ac ⟨d, .bld zs ps, none⟩ S K = ob (step S d (.bld zs ps)) K := WGD_step ac d _ S K rfl
@[simp] theorem WGD_bls (ac : Bool) (d : Dst) (e z : Nat) (zero : Value) (m : Nat) (ps : List (Nat × Opd)) (S : St) (K : St → Prop) : WGD P ac ⟨d, .bls e z zero m ps, none⟩ S K = ob (step S d (.bls e z zero m ps)) K := WGD_step ac d _ S K rfl
@[simp] theorem WGD_allo (ac : Bool) (d : Dst) (zs : List Value) (S : St) (K : St → Prop) : WGD P ac ⟨d, .allo zs, none⟩ S K = ob (step S d (.allo zs)) K := WGD_step ac d _ S K rfl
@[simp] theorem WGD_box (ac : Bool) (d : Dst) (m : Nat) (x : Opd) (S : St) (K : St → Prop) : WGD P ac ⟨d, .box m x, none⟩ S K = ob (step S d (.box m x)) K := WGD_step ac d _ S K rfl
@[simp] theorem WGD_ld (ac : Bool) (d : Dst) (m : Nat) (ag : Bool) (p : Opd) (S : St) (K : St → Prop) : WGD P ac ⟨d, .ld m ag p, none⟩ S K = ob (step S d (.ld m ag p)) K := WGD_step ac d _ S K rfl
@[simp] theorem WGD_st (ac : Bool) (d : Dst) (m : Nat) (p x : Opd) (S : St) (K : St → Prop) : WGD P ac ⟨d, .st m p x, none⟩ S K = ob (step S d (.st m p x)) K := WGD_step ac d _ S K rfl
@[simp] theorem WGD_fa (ac : Bool) (d : Dst) (off : Nat) (p : Opd) (S : St) (K : St → Prop) : WGD P ac ⟨d, .fa off p, none⟩ S K = ob (step S d (.fa off p)) K := WGD_step ac d _ S K rfl
@[simp] theorem WGD_ia (ac : Bool) (d : Dst) (z : Nat) (x i : Opd) (S : St) (K : St → Prop) : WGD P ac ⟨d, .ia z x i, none⟩ S K = ob (step S d (.ia z x i)) K := WGD_step ac d _ S K rfl
@[simp] theorem WGD_iaa (ac : Bool) (d : Dst) (z len : Nat) (x i : Opd) (S : St) (K : St → Prop) : WGD P ac ⟨d, .iaa z len x i, none⟩ S K = ob (step S d (.iaa z len x i)) K := WGD_step ac d _ S K rfl
@[simp] theorem WGD_sl (ac : Bool) (d : Dst) (e z : Nat) (x : Opd) (lo hi mx : Option Opd) (S : St) (K : St → Prop) : WGD P ac ⟨d, .sl e z x lo hi mx, none⟩ S K = ob (step S d (.sl e z x lo hi mx)) K := WGD_step ac d _ S K rfl
@[simp] theorem WGD_ssl (ac : Bool) (d : Dst) (x : Opd) (lo hi : Option Opd) (S : St) (K : St → Prop) : WGD P ac ⟨d, .ssl x lo hi, none⟩ S K = ob (step S d (.ssl x lo hi)) K := WGD_step ac d _ S K rfl
@[simp] theorem WGD_app (ac : Bool) (d : Dst) (e z b : Nat) (x y : Opd) (S : St) (K : St → Prop) : WGD P ac ⟨d, .app e z b x y, none⟩ S K = ob (step S d (.app e z b x y)) K := WGD_step ac d _ S K rfl
@[simp] theorem WGD_len (ac : Bool) (d : Dst) (x : Opd) (S : St) (K : St → Prop) : WGD P ac ⟨d, .len x, none⟩ S K = ob (step S d (.len x)) K := WGD_step ac d _ S K rfl
@[simp] theorem WGD_slen (ac : Bool) (d : Dst) (x : Opd) (S : St) (K : St → Prop) : WGD P ac ⟨d, .slen x, none⟩ S K = ob (step S d (.slen x)) K := WGD_step ac d _ S K rfl
@[simp] theorem WGD_mk (ac : Bool) (d : Dst) (e z b : Nat) (zero : Value) (m c : Opd) (S : St) (K : St → Prop) : WGD P ac ⟨d, .mk e z b zero m c, none⟩ S K = ob (step S d (.mk e z b zero m c)) K := WGD_step ac d _ S K rfl
@[simp] theorem WGD_mnx (ac : Bool) (d : Dst) (mx : Bool) (x y : Opd) (S : St) (K : St → Prop) : WGD P ac ⟨d, .mnx mx x y, none⟩ S K = ob (step S d (.mnx mx x y)) K := WGD_step ac d _ S K rfl
def WKD (P : Program) (ac : Bool) (S : St) (d f : Nat) (args : List Opd) (K : St → Prop) : Prop := WGD P ac ⟨.t d, .call f args, none⟩ S K
@[simp] theorem WGD_call (ac : Bool) (d f : Nat) (args : List Opd) (S : St) (K : St → Prop) : WGD P ac ⟨.t d, .call f args, none⟩ S K = WKD P ac S d f args K := rfl
def WCD (P : Program) (S : St) (d f : Nat) (K : St → Prop) (r : List V × (Nat → V)) : Prop := (r.1.map toImm).all immA = true ∧ ∃ R, PC P f (r.1.map toImm) (fun r => r = R) ∧ K { S with tm := upd r.2 d R }
def WAD (P : Program) (S : St) (d f : Nat) (K : St → Prop) (r : List V × (Nat → V)) : Prop := ∃ mask sel args bs R bs', handOk S.bx r.1 mask sel args bs ∧ AC P f args bs (fun r b => r = R ∧ b = bs') ∧ (backOk sel bs' = true ∧ selIn r.1 sel = true) ∧ K (aftS { S with tm := r.2 } d R sel bs')
theorem wkd_take {S : St} {d f : Nat} {args : List Opd} {K : St → Prop} (h : ob (takes S S.tm args) (WCD P S d f K)) : WKD P false S d f args K := by
  cases hk : takes S S.tm args with
  | none => rw [hk] at h; exact h.elim
  | some r =>
    rw [hk] at h
    obtain ⟨h1, R, h2, h3⟩ := h
    exact ⟨_, ⟨d, rfl, .inl ⟨r.1, r.2, hk, h1, R, h2, rfl⟩⟩, h3⟩
theorem wkd_hand {S : St} {d f : Nat} {args : List Opd} {K : St → Prop} (h : ob (takes S S.tm args) (WAD P S d f K)) : WKD P true S d f args K := by
  cases hk : takes S S.tm args with
  | none => rw [hk] at h; exact h.elim
  | some r =>
    rw [hk] at h
    obtain ⟨mask, sel, args', bs, R, bs', h1, h2, h3, h4⟩ := h
    exact ⟨_, ⟨d, rfl, r.1, r.2, hk, mask, sel, args', bs, R, bs', h1, h2, h3, rfl⟩, h4⟩
theorem wcd_of {S : St} {d f : Nat} {K : St → Prop} {ys : List V} {tm1 : Nat → V} {args : List V} {R : V} (hc : PC P f args (fun r => r = R)) (ha : ys.map toImm = args) (hi : args.all immA = true) (hk : K { S with tm := upd tm1 d R }) : WCD P S d f K (ys, tm1) := by
  subst ha
  exact ⟨hi, R, hc, hk⟩
theorem wad_of {S : St} {d f : Nat} {K : St → Prop} {ys : List V} {tm1 : Nat → V} {mask : List Bool} {sel : List Nat} {args : List V} {bs : List (List V)} {R : V} {bs' : List (List V)} (hc : AC P f args bs (fun r b => r = R ∧ b = bs')) (ho : handOk S.bx ys mask sel args bs) (hb : backOk sel bs' = true)
    (hk : K (aftS { S with tm := tm1 } d R sel bs')) (hs : selIn ys sel = true := by rfl) : WAD P S d f K (ys, tm1) := ⟨mask, sel, args, bs, R, bs', ho, hc, ⟨hb, hs⟩, hk⟩
end
attribute [simp] cps isCst inBox offBox lenT appR St.frzTo FULL FRZ ldC sepC vpOk ldV BIG reep strong strongs flatV immA St.lendN lendNs lends apOk sepOk sepO sepV ldOk skips gB exV eqC eqCs partV obc ldA isLent unlend unlends cvbV noLent notLent dynOk slots opdS opdOS lightOk noVO plain0 borL borLs bor bors isS scalA scalV aftS ren renA renL fwd putBx backOk cellB step qstep stV mvV mvD ldD iaV iaaV slV sslV optInt baseV appV mkV ghosts ghost ghostOk St.adopt St.lend St.freeze St.setAt St.at St.row takes take1 lookG give giveL giveLs spendTm spentL spent isOwnL look0 ofC cont binS binB unS intOfV loadC seens seenL aggOr cellsOf fills fillV sets pokeV St.place St.places fieldV isTup hasOwn immL toImm flat zeroV rvVs rvV rvAt resLs resL exitOk dupF locK ptrA ptrK forgetV wkn wknOk pack AX.isEnd St0 immA ownFree
@[simp] theorem locky_s (v : Value) : locky (.s v) = false := rfl
@[simp] theorem locky_list (z : Nat) (xs : List V) : locky (.list z xs) = false := rfl
@[simp] theorem locky_ownT (e z : Nat) (xs : List V) : locky (.own true e z xs) = true := rfl
@[simp] theorem locky_ownF (e z : Nat) (xs : List V) : locky (.own false e z xs) = true := rfl
@[simp] theorem locky_lent (d e0 e z : Nat) (xs : List V) : locky (.lent d e0 e z xs) = true := rfl
@[simp] theorem locky_agg (cs : List V) : locky (.agg cs) = false := rfl
@[simp] theorem locky_tup (cs : List V) : locky (.tup cs) = false := rfl
@[simp] theorem locky_ptr (b o : Nat) : locky (.ptr b o) = false := rfl
@[simp] theorem locky_ip (cs : List V) : locky (.ip cs) = false := rfl
@[simp] theorem locky_view (l : Loc) (e : Nat) : locky (.view l e) = false := rfl
@[simp] theorem locky_sview (l : Loc) (e lo m : Nat) : locky (.sview l e lo m) = false := rfl
@[simp] theorem locky_vp (l : Loc) (e i q : Nat) : locky (.vp l e i q) = false := rfl
@[simp] theorem locky_no  : locky (.no ) = false := rfl
@[simp] theorem locky_gone  : locky (.gone ) = true := rfl
@[simp] theorem storable_s (v : Value) : storable (.s v) = true := rfl
@[simp] theorem storable_list (z : Nat) (xs : List V) : storable (.list z xs) = true := rfl
@[simp] theorem storable_ownT (e z : Nat) (xs : List V) : storable (.own true e z xs) = true := rfl
@[simp] theorem storable_ownF (e z : Nat) (xs : List V) : storable (.own false e z xs) = decide (e = FULL) := rfl
@[simp] theorem storable_lent (d e0 e z : Nat) (xs : List V) : storable (.lent d e0 e z xs) = false := rfl
@[simp] theorem storable_agg (cs : List V) : storable (.agg cs) = false := rfl
@[simp] theorem storable_tup (cs : List V) : storable (.tup cs) = false := rfl
@[simp] theorem storable_ptr (b o : Nat) : storable (.ptr b o) = true := rfl
@[simp] theorem storable_ip (cs : List V) : storable (.ip cs) = false := rfl
@[simp] theorem storable_view (l : Loc) (e : Nat) : storable (.view l e) = false := rfl
@[simp] theorem storable_sview (l : Loc) (e lo m : Nat) : storable (.sview l e lo m) = false := rfl
@[simp] theorem storable_vp (l : Loc) (e i q : Nat) : storable (.vp l e i q) = false := rfl
@[simp] theorem storable_no  : storable (.no ) = false := rfl
@[simp] theorem storable_gone  : storable (.gone ) = false := rfl
@[simp] theorem known_s (v : Value) : known (.s v) = true := rfl
@[simp] theorem known_list (z : Nat) (xs : List V) : known (.list z xs) = true := rfl
@[simp] theorem known_ownT (e z : Nat) (xs : List V) : known (.own true e z xs) = true := rfl
@[simp] theorem known_ownF (e z : Nat) (xs : List V) : known (.own false e z xs) = true := rfl
@[simp] theorem known_lent (d e0 e z : Nat) (xs : List V) : known (.lent d e0 e z xs) = true := rfl
@[simp] theorem known_agg (cs : List V) : known (.agg cs) = true := rfl
@[simp] theorem known_tup (cs : List V) : known (.tup cs) = true := rfl
@[simp] theorem known_ptr (b o : Nat) : known (.ptr b o) = true := rfl
@[simp] theorem known_ip (cs : List V) : known (.ip cs) = true := rfl
@[simp] theorem known_view (l : Loc) (e : Nat) : known (.view l e) = true := rfl
@[simp] theorem known_sview (l : Loc) (e lo m : Nat) : known (.sview l e lo m) = true := rfl
@[simp] theorem known_vp (l : Loc) (e i q : Nat) : known (.vp l e i q) = true := rfl
@[simp] theorem known_no  : known (.no ) = false := rfl
@[simp] theorem known_gone  : known (.gone ) = false := rfl
@[simp] theorem immC_s (v : Value) : immC (.s v) = true := rfl
@[simp] theorem immC_list (z : Nat) (xs : List V) : immC (.list z xs) = true := rfl
@[simp] theorem immC_ownT (e z : Nat) (xs : List V) : immC (.own true e z xs) = false := rfl
@[simp] theorem immC_ownF (e z : Nat) (xs : List V) : immC (.own false e z xs) = false := rfl
@[simp] theorem immC_lent (d e0 e z : Nat) (xs : List V) : immC (.lent d e0 e z xs) = false := rfl
@[simp] theorem immC_agg (cs : List V) : immC (.agg cs) = false := rfl
@[simp] theorem immC_tup (cs : List V) : immC (.tup cs) = false := rfl
@[simp] theorem immC_ptr (b o : Nat) : immC (.ptr b o) = false := rfl
@[simp] theorem immC_ip (cs : List V) : immC (.ip cs) = false := rfl
@[simp] theorem immC_view (l : Loc) (e : Nat) : immC (.view l e) = false := rfl
@[simp] theorem immC_sview (l : Loc) (e lo m : Nat) : immC (.sview l e lo m) = false := rfl
@[simp] theorem immC_vp (l : Loc) (e i q : Nat) : immC (.vp l e i q) = false := rfl
@[simp] theorem immC_no  : immC (.no ) = false := rfl
@[simp] theorem immC_gone  : immC (.gone ) = false := rfl
@[simp] theorem cellK_s (n : Nat) (v : Value) : cellK n (.s v) = true := rfl
@[simp] theorem cellK_list (n : Nat) (z : Nat) (xs : List V) : cellK n (.list z xs) = true := rfl
@[simp] theorem cellK_ownT (n : Nat) (e z : Nat) (xs : List V) : cellK n (.own true e z xs) = true := rfl
@[simp] theorem cellK_ownF (n : Nat) (e z : Nat) (xs : List V) : cellK n (.own false e z xs) = true := rfl
@[simp] theorem cellK_lent (n : Nat) (d e0 e z : Nat) (xs : List V) : cellK n (.lent d e0 e z xs) = false := rfl
@[simp] theorem cellK_agg (n : Nat) (cs : List V) : cellK n (.agg cs) = false := rfl
@[simp] theorem cellK_tup (n : Nat) (cs : List V) : cellK n (.tup cs) = false := rfl
@[simp] theorem cellK_ptr (n : Nat) (b o : Nat) : cellK n (.ptr b o) = decide (b < n) := rfl
@[simp] theorem cellK_ip (n : Nat) (cs : List V) : cellK n (.ip cs) = true := rfl
@[simp] theorem cellK_view (n : Nat) (l : Loc) (e : Nat) : cellK n (.view l e) = true := rfl
@[simp] theorem cellK_sview (n : Nat) (l : Loc) (e lo m : Nat) : cellK n (.sview l e lo m) = true := rfl
@[simp] theorem cellK_vp (n : Nat) (l : Loc) (e i q : Nat) : cellK n (.vp l e i q) = true := rfl
@[simp] theorem cellK_no (n : Nat)  : cellK n (.no ) = true := rfl
@[simp] theorem cellK_gone (n : Nat)  : cellK n (.gone ) = true := rfl
@[simp] theorem cellV_s (n : Nat) (v : Value) : cellV n (.s v) = true := rfl
@[simp] theorem cellV_list (n : Nat) (z : Nat) (xs : List V) : cellV n (.list z xs) = true := rfl
@[simp] theorem cellV_ownT (n : Nat) (e z : Nat) (xs : List V) : cellV n (.own true e z xs) = true := rfl
@[simp] theorem cellV_ownF (n : Nat) (e z : Nat) (xs : List V) : cellV n (.own false e z xs) = true := rfl
@[simp] theorem cellV_lent (n : Nat) (d e0 e z : Nat) (xs : List V) : cellV n (.lent d e0 e z xs) = false := rfl
@[simp] theorem cellV_agg (n : Nat) (cs : List V) : cellV n (.agg cs) = cs.all immC := rfl
@[simp] theorem cellV_tup (n : Nat) (cs : List V) : cellV n (.tup cs) = false := rfl
@[simp] theorem cellV_ptr (n : Nat) (b o : Nat) : cellV n (.ptr b o) = decide (b < n) := rfl
@[simp] theorem cellV_ip (n : Nat) (cs : List V) : cellV n (.ip cs) = true := rfl
@[simp] theorem cellV_view (n : Nat) (l : Loc) (e : Nat) : cellV n (.view l e) = true := rfl
@[simp] theorem cellV_sview (n : Nat) (l : Loc) (e lo m : Nat) : cellV n (.sview l e lo m) = true := rfl
@[simp] theorem cellV_vp (n : Nat) (l : Loc) (e i q : Nat) : cellV n (.vp l e i q) = true := rfl
@[simp] theorem cellV_no (n : Nat)  : cellV n (.no ) = true := rfl
@[simp] theorem cellV_gone (n : Nat)  : cellV n (.gone ) = true := rfl
@[simp] theorem simpleV_s (n : Nat) (v : Value) : simpleV n (.s v) = true := rfl
@[simp] theorem simpleV_list (n : Nat) (z : Nat) (xs : List V) : simpleV n (.list z xs) = true := rfl
@[simp] theorem simpleV_ownT (n : Nat) (e z : Nat) (xs : List V) : simpleV n (.own true e z xs) = false := rfl
@[simp] theorem simpleV_ownF (n : Nat) (e z : Nat) (xs : List V) : simpleV n (.own false e z xs) = false := rfl
@[simp] theorem simpleV_lent (n : Nat) (d e0 e z : Nat) (xs : List V) : simpleV n (.lent d e0 e z xs) = false := rfl
@[simp] theorem simpleV_agg (n : Nat) (cs : List V) : simpleV n (.agg cs) = cs.all immC := rfl
@[simp] theorem simpleV_tup (n : Nat) (cs : List V) : simpleV n (.tup cs) = false := rfl
@[simp] theorem simpleV_ptr (n : Nat) (b o : Nat) : simpleV n (.ptr b o) = decide (b < n) := rfl
@[simp] theorem simpleV_ip (n : Nat) (cs : List V) : simpleV n (.ip cs) = false := rfl
@[simp] theorem simpleV_view (n : Nat) (l : Loc) (e : Nat) : simpleV n (.view l e) = false := rfl
@[simp] theorem simpleV_sview (n : Nat) (l : Loc) (e lo m : Nat) : simpleV n (.sview l e lo m) = false := rfl
@[simp] theorem simpleV_vp (n : Nat) (l : Loc) (e i q : Nat) : simpleV n (.vp l e i q) = false := rfl
@[simp] theorem simpleV_no (n : Nat)  : simpleV n (.no ) = false := rfl
@[simp] theorem simpleV_gone (n : Nat)  : simpleV n (.gone ) = false := rfl
@[simp] theorem tmL_nil (u : Nat) : tmL [] u = .no := rfl
@[simp] theorem tmL_cons (t : Nat) (x : V) (r : List (Nat × V)) (u : Nat) : tmL ((t, x) :: r) u = if u = t then x else tmL r u := rfl
def lq (keep drop : List Nat) (nb : Nat) (Inv : Nat → St → Prop) (m : Nat) (Q : AX → St → Prop) : AX → St → Prop := fun e S => match e with
  | .normal => wknOk keep drop nb S = true ∧ ∃ m', m' < m ∧ Inv m' (wkn keep drop nb S)
  | e => Q e S
@[simp] theorem lq_normal (keep drop : List Nat) (nb : Nat) (Inv : Nat → St → Prop) (m : Nat) (Q : AX → St → Prop) (S : St) : lq keep drop nb Inv m Q .normal S = (wknOk keep drop nb S = true ∧ ∃ m', m' < m ∧ Inv m' (wkn keep drop nb S)) := rfl
@[simp] theorem lq_exit (keep drop : List Nat) (nb : Nat) (Inv : Nat → St → Prop) (m : Nat) (Q : AX → St → Prop) (S : St) (id : Nat) : lq keep drop nb Inv m Q (.exit id) S = Q (.exit id) S := rfl
@[simp] theorem lq_ret (keep drop : List Nat) (nb : Nat) (Inv : Nat → St → Prop) (m : Nat) (Q : AX → St → Prop) (S : St) : lq keep drop nb Inv m Q .ret S = Q .ret S := rfl
@[simp] theorem lq_goto (keep drop : List Nat) (nb : Nat) (Inv : Nat → St → Prop) (m : Nat) (Q : AX → St → Prop) (S : St) (l : Nat) : lq keep drop nb Inv m Q (.goto l) S = Q (.goto l) S := rfl
theorem w_rounds {P : Program} {F : Fr} {n : Nat} {c : ACode} {S : St} {Q : AX → St → Prop} (keep drop : List Nat) (nb : Nat) (hnb : n ≤ nb) (Inv : Nat → St → Prop) (m0 : Nat) (h0 : wknOk keep drop nb S = true ∧ Inv m0 (wkn keep drop nb S))
    (hr : ∀ m S, Inv m S → W P F n c S (lq keep drop nb Inv m Q)) : W P F n (.loop c) S Q := w_loop keep drop nb hnb Inv m0 h0 hr
def endP (rvs : List RV) (q : V → Prop) (x : AX) (S : St) : Prop := x.isEnd = true ∧ RetP rvs q S
def retQ (S : St) (q : V → Prop) (r : List V × List Loc) : Prop := exitOk 0 S r.1 r.2 = true ∧ q (pack r.1)
theorem RetP_eq (rvs : List RV) (q : V → Prop) (S : St) : RetP rvs q S = ob (rvVs S rvs) (retQ S q) := by
  unfold RetP
  cases rvVs S rvs <;> rfl
@[simp] theorem endP_ret (rvs : List RV) (q : V → Prop) (S : St) : endP rvs q .ret S = ob (rvVs S rvs) (retQ S q) := by simp [endP, RetP_eq]
@[simp] theorem endP_normal (rvs : List RV) (q : V → Prop) (S : St) : endP rvs q .normal S = ob (rvVs S rvs) (retQ S q) := by simp [endP, RetP_eq]
@[simp] theorem retQ_at (S : St) (q : V → Prop) (ys : List V) (ls : List Loc) : retQ S q (ys, ls) = (exitOk 0 S ys ls = true ∧ q (pack ys)) := rfl
def endA (n : Nat) (rvs : List RV) (q : V → List (List V) → Prop) (x : AX) (S : St) : Prop := x.isEnd = true ∧ RetOk n rvs q S
def retA (n : Nat) (S : St) (q : V → List (List V) → Prop) (r : List V × List Loc) : Prop := ∃ m, n ≤ m ∧ exitOk m S r.1 r.2 = true ∧ q (pack r.1) (S.bx.take m)
theorem RetOk_eq (n : Nat) (rvs : List RV) (q : V → List (List V) → Prop) (S : St) : RetOk n rvs q S = ob (rvVs S rvs) (retA n S q) := by
  unfold RetOk
  cases rvVs S rvs <;> rfl
@[simp] theorem endA_ret (n : Nat) (rvs : List RV) (q : V → List (List V) → Prop) (S : St) : endA n rvs q .ret S = ob (rvVs S rvs) (retA n S q) := by simp [endA, RetOk_eq]
@[simp] theorem endA_normal (n : Nat) (rvs : List RV) (q : V → List (List V) → Prop) (S : St) : endA n rvs q .normal S = ob (rvVs S rvs) (retA n S q) := by simp [endA, RetOk_eq]
theorem retA_of {n : Nat} {S : St} {q : V → List (List V) → Prop} {ys : List V} {ls : List Loc} (m : Nat) (h : n ≤ m ∧ exitOk m S ys ls = true ∧ q (pack ys) (S.bx.take m)) : retA n S q (ys, ls) := ⟨m, h⟩
theorem ac_end {P : Program} {F : Fr} {f np : Nat} {ac : ACode} {rvs : List RV} (h : compFn P f F = some (np, strip ac, rvs) ∧ lexAll ac = true) (hm : P.follows .mixedOrders = true) {args : List V} (hl : args.length = np) {bs : List (List V)} {Q : V → List (List V) → Prop}
    (hw : W P F bs.length ac (St0 F args bs) (endA bs.length rvs Q)) : AC P f args bs Q := ac_fn h hm hl hw
theorem pc_end {P : Program} {F : Fr} {f np : Nat} {ac : ACode} {rvs : List RV} (h : compFn P f F = some (np, strip ac, rvs) ∧ lexAll ac = true) (hm : P.follows .mixedOrders = true) {args : List V} (hl : args.length = np) {q : V → Prop}
    (hw : W P F 0 ac (St0 F args []) (endP rvs q)) : PC P f args q := pc_fn h hm hl hw
end Go.Proofs.Ytebibhmjmaomnaa
namespace Go.Proofs.Ytebibhmjmaomnaa
open Go.RowKit
def nilL (x y : V) : Prop := x = y ∨ (x = .s (.slice none 0 0) ∧ ∃ z, y = .list z [])
def nilLs : List V → List V → Prop
  | [], [] => True
  | x :: r, y :: s => nilL x y ∧ nilLs r s
  | _, _ => False
def nilA (x y : V) : Prop :=
  match x, y with
  | .agg cs, .agg ds => nilLs cs ds
  | x, y => nilL x y
def nilAs : List V → List V → Prop
  | [], [] => True
  | x :: r, y :: s => nilA x y ∧ nilAs r s
  | _, _ => False
theorem nilL_rep {g : Gh} {w : World} {x y : V} {v : Value} (h : nilL x y) (hr : Rep g w x v) : Rep g w y v := by
  rcases h with rfl | ⟨rfl, z, rfl⟩
  · exact hr
  · cases hr
    exact .list (fun _ => undef) (Nat.le_refl _) (Nat.zero_le _) (fun _ => rfl) (by simp) (by simp [flat]) (fun j hj => by simp [flat] at hj) (fun j u hu => by simp [flat] at hu)
theorem nilLs_get : ∀ {xs ys : List V}, nilLs xs ys → xs.length = ys.length ∧ ∀ (i : Nat) (y : V), ys[i]? = some y → ∃ x, xs[i]? = some x ∧ nilL x y
  | [], [], _ => by simp
  | x :: r, y :: s, h => by
    obtain ⟨h1, h2⟩ := h
    obtain ⟨k1, k2⟩ := nilLs_get h2
    refine ⟨by simp [k1], fun i z hz => ?_⟩
    cases i with
    | zero => simp at hz; subst hz; exact ⟨x, rfl, h1⟩
    | succ i => simp at hz ⊢; exact k2 i z hz
  | [], _ :: _, h => h.elim
  | _ :: _, [], h => h.elim
theorem nilA_rep {g : Gh} {w : World} {x y : V} {v : Value} (h : nilA x y) (hr : Rep g w x v) : Rep g w y v := by
  unfold nilA at h
  split at h
  · next cs ds =>
    obtain ⟨k1, k2⟩ := nilLs_get h
    cases hr with
    | agg e1 e2 e3 =>
      refine .agg (by omega) e2 (fun j u c hu hc => ?_)
      obtain ⟨x, q1, q2⟩ := k2 j u hu
      exact nilL_rep q2 (e3 j x c q1 hc)
  · exact nilL_rep h hr
theorem nilAs_get : ∀ {xs ys : List V}, nilAs xs ys → xs.length = ys.length ∧ ∀ (i : Nat) (y : V), ys[i]? = some y → ∃ x, xs[i]? = some x ∧ nilA x y
  | [], [], _ => by simp
  | x :: r, y :: s, h => by
    obtain ⟨h1, h2⟩ := h
    obtain ⟨k1, k2⟩ := nilAs_get h2
    refine ⟨by simp [k1], fun i z hz => ?_⟩
    cases i with
    | zero => simp at hz; subst hz; exact ⟨x, rfl, h1⟩
    | succ i => simp at hz ⊢; exact k2 i z hz
  | [], _ :: _, h => h.elim
  | _ :: _, [], h => h.elim
theorem pc_nil {P : Program} {f : Nat} {xs ys : List V} {q : V → Prop} (h : PC P f ys q) (hn : nilAs xs ys) (hi : ys.all immA = true) : PC P f xs q := by
  intro g w vals hb
  obtain ⟨k1, k2⟩ := nilAs_get hn
  have hsz : vals.size = xs.length := hb.sz
  obtain ⟨hbd, hno⟩ := bd_imm (g := g) (w := w) (args := ys) (vals := vals) (by omega) (fun x hx => List.all_eq_true.1 hi x hx) (fun i y v hy hv => by
    obtain ⟨x, q1, q2⟩ := k2 i y hy
    refine nilA_rep q2 (hb.rep (.l (.var i)) x v ⟨q1, ?_⟩)
    have hi := (List.getElem?_eq_some_iff.1 q1).1
    have hi2 : i < vals.size := by omega
    have hv' : v = vals[i] := by simpa [hi2] using hv.symm
    simp [valAt, Frn, Act.tv, hi, hi2, hv']) hb.Ilt
  refine (h g w vals hbd).mono ?_
  rintro e w' ⟨v, r, bs', g', h1, h2, h3, h4, h5⟩
  exact ⟨v, r, bs', g', h1, h2, h3, h4, h5.os, h5.tape, h5.output, h5.size, fun k hk _ => h5.same k hk (hno k), fun k hk => (h5.owned k hk).elim (fun q => absurd q (hno k)) .inr, h5.phi⟩
section
variable {P : Program}
theorem wc_nil {S : St} {d f : Nat} {K : St → Prop} {ys : List V} {tm1 : Nat → V} {args : List V} {q : V → Prop} (hc : PC P f args q) (ha : nilAs (ys.map toImm) args) (hi : args.all immA = true) (hi' : (ys.map toImm).all immA = true) (hk : ∀ y, q y → K { S with tm := upd tm1 d y }) : WC P S d f K (ys, tm1) :=
  ⟨hi', q, pc_nil hc ha hi, hk⟩
theorem wcd_nil {S : St} {d f : Nat} {K : St → Prop} {ys : List V} {tm1 : Nat → V} {args : List V} {R : V} (hc : PC P f args (fun r => r = R)) (ha : nilAs (ys.map toImm) args) (hi : args.all immA = true) (hi' : (ys.map toImm).all immA = true) (hk : K { S with tm := upd tm1 d R }) : WCD P S d f K (ys, tm1) :=
  ⟨hi', R, pc_nil hc ha hi, hk⟩
end
@[simp] theorem rg1 : List.range 1 = [0] := by decide
@[simp] theorem rg2 : List.range 2 = [0, 1] := by decide
@[simp] theorem rg3 : List.range 3 = [0, 1, 2] := by decide
@[simp] theorem rg4 : List.range 4 = [0, 1, 2, 3] := by decide
@[simp] theorem rg5 : List.range 5 = [0, 1, 2, 3, 4] := by decide
@[simp] theorem rg6 : List.range 6 = [0, 1, 2, 3, 4, 5] := by decide
@[simp] theorem rg7 : List.range 7 = [0, 1, 2, 3, 4, 5, 6] := by decide
@[simp] theorem rg8 : List.range 8 = [0, 1, 2, 3, 4, 5, 6, 7] := by decide
@[simp] theorem rg9 : List.range 9 = [0, 1, 2, 3, 4, 5, 6, 7, 8] := by decide
@[simp] theorem rg10 : List.range 10 = [0, 1, 2, 3, 4, 5, 6, 7, 8, 9] := by decide
@[simp] theorem rg11 : List.range 11 = [0, 1, 2, 3, 4, 5, 6, 7, 8, 9, 10] := by decide
@[simp] theorem rg12 : List.range 12 = [0, 1, 2, 3, 4, 5, 6, 7, 8, 9, 10, 11] := by decide
@[simp] theorem rg13 : List.range 13 = [0, 1, 2, 3, 4, 5, 6, 7, 8, 9, 10, 11, 12] := by decide
@[simp] theorem rg14 : List.range 14 = [0, 1, 2, 3, 4, 5, 6, 7, 8, 9, 10, 11, 12, 13] := by decide
@[simp] theorem rg15 : List.range 15 = [0, 1, 2, 3, 4, 5, 6, 7, 8, 9, 10, 11, 12, 13, 14] := by decide
@[simp] theorem rg16 : List.range 16 = [0, 1, 2, 3, 4, 5, 6, 7, 8, 9, 10, 11, 12, 13, 14, 15] := by decide
attribute [simp] nilL nilLs nilA nilAs
end Go.Proofs.Ytebibhmjmaomnaa
namespace Go.Proofs.Ytebibhmjmaomnaa
open Go.RowKit
theorem pc_frz {P : Program} {f : Nat} {args : List V} {z : Nat} {xs : List V} (h : PC P f args fun r => (∃ e, r = .own true e z xs) ∨ (xs = [] ∧ r = .s (.slice none 0 0))) : PC P f args fun r => r = .list z xs := by
  intro g w vals hb
  refine (h g w vals hb).mono ?_
  rintro e w' ⟨v, r, bs', g', h1, ⟨rfl, hq⟩, hok, hbd, hx⟩
  rcases hq with ⟨e, rfl⟩ | ⟨rfl, rfl⟩
  · obtain ⟨g2, k1, k2, k3, k4⟩ := frzTo_ok (e' := 0) (l := .var 0) hbd (by decide) (S' := Stn [.own false 0 z xs] []) rfl
    have hv : valAt (Frn 1) g2 w' ⟨#[v], []⟩ (.var 0) = some v := by simp [valAt, Frn, Act.tv]
    have hr := k1.rep (.l (.var 0)) (.own false 0 z xs) v ⟨rfl, hv⟩
    obtain ⟨q1, q2⟩ := bd_imm (g := g2) (w := w') (args := [.list z xs]) (vals := #[v]) rfl (by simp [immA, immC]) (fun i y u hy hu => by
      cases i with
      | zero => simp at hy hu; subst hy; subst hu; cases hr with | ownf h h0 => exact h
      | succ i => simp at hy) k1.Ilt
    refine ⟨v, .list z xs, [], g2, h1, ⟨rfl, rfl⟩, rfl, q1, hx.os, hx.tape, hx.output, hx.size, fun k hk hn => ?_, fun k hk => absurd hk (q2 k), fun b hb => by simp at hb⟩
    obtain ⟨p1, p2⟩ := hx.same k hk hn
    refine ⟨p1, ((k2.same k (Nat.lt_of_lt_of_le hk hx.size) (fun ho => ?_)).2).trans p2⟩
    rcases hx.owned k ho with p | p
    · exact hn p
    · omega
  · have hv : valAt (Frn 1) g' w' ⟨#[v], []⟩ (.var 0) = some v := by simp [valAt, Frn, Act.tv]
    have hr := hbd.rep (.l (.var 0)) (.s (.slice none 0 0)) v ⟨rfl, hv⟩
    obtain ⟨q1, q2⟩ := bd_imm (g := g') (w := w') (args := [.list z []]) (vals := #[v]) rfl (by simp [immA, immC]) (fun i y u hy hu => by
      cases i with
      | zero => simp at hy hu; subst hy; subst hu; exact nilL_rep (.inr ⟨rfl, z, rfl⟩) hr
      | succ i => simp at hy) hbd.Ilt
    exact ⟨v, .list z [], [], g', h1, ⟨rfl, rfl⟩, rfl, q1, hx.os, hx.tape, hx.output, hx.size, fun k hk hn => hx.same k hk hn, fun k hk => absurd hk (q2 k), fun b hb => by simp at hb⟩
end Go.Proofs.Ytebibhmjmaomnaa
namespace Go.Proofs.Ytebibhmjmaomnaa
open Go.RowKit
def immT : V → Bool
  | .tup vs => vs.all immA
  | x => immA x
theorem immT_sub {y x : V} {p : List Nat} (h : immT y = true) (hs : y.sub p = some x) : (∃ vs, x = .tup vs) ∨ (∃ cs, x = .agg cs) ∨ immC x = true := by
  have main : ∀ {y x : V} {p : List Nat}, immA y = true → y.sub p = some x → (∃ cs, x = .agg cs) ∨ immC x = true := by
    intro y x p h hs
    cases p with
    | nil =>
      simp [V.sub] at hs
      subst hs
      cases y with
      | agg cs => exact .inl ⟨cs, rfl⟩
      | _ => exact .inr h
    | cons i p =>
      cases y with
      | agg cs =>
        simp only [V.sub, Option.bind_eq_some_iff] at hs
        obtain ⟨c, hc, hp⟩ := hs
        simp only [immA, List.all_eq_true] at h
        obtain ⟨_, rfl⟩ := immC_sub (h c (List.mem_of_getElem? hc)) hp
        exact .inr (h _ (List.mem_of_getElem? hc))
      | tup vs => simp [immA, immC] at h
      | _ => simp [V.sub] at hs
  cases y with
  | tup vs =>
    cases p with
    | nil => simp [V.sub] at hs; exact .inl ⟨vs, hs.symm⟩
    | cons i p =>
      simp only [V.sub, Option.bind_eq_some_iff] at hs
      obtain ⟨c, hc, hp⟩ := hs
      simp only [immT, List.all_eq_true] at h
      exact .inr (main (h c (List.mem_of_getElem? hc)) hp)
  | _ => refine .inr (main ?_ hs); exact h
section
variable {P : Program} {g : Gh} {w : World}
theorem bd_immT {y : V} {v : Value} (hi : immT y = true) (hr : Rep g w y v) (hlt : ∀ k, 0 < g.I k → k < w.heap.size) : Bd g w [y] #[v] [] ∧ ∀ k, ¬ OwnB g w [y] #[v] [] k := by
  have hat : ∀ l x, (Stn [y] []).at l = some x → l = .var 0 ∧ x = y := by
    intro l x hx
    cases l with
    | var i =>
      cases i with
      | zero => simp [Stn, St.at] at hx; exact ⟨rfl, hx.symm⟩
      | succ i => simp [Stn, St.at] at hx
    | cell b o => simp [Stn, St.at] at hx
  have hval : valAt (Frn 1) g w ⟨#[v], []⟩ (.var 0) = some v := by simp [valAt, Frn, Act.tv]
  have hno : ∀ {t p x}, ((Stn [y] []).tm t).sub p = some x → x = .no := by
    intro t p x hs
    cases p <;> simp [Stn, V.sub] at hs
    exact hs.symm
  have hnl : ∀ {d e0 e z : Nat} {xs : List V}, y ≠ .lent d e0 e z xs := by
    intro d e0 e z xs q
    subst q
    simp [immT, immA, immC] at hi
  have hown : ∀ r p k, ¬ Own (Frn 1) g w (Stn [y] []) ⟨#[v], []⟩ r p k := by
    intro r p k ⟨x, u, hh, ho⟩
    cases r with
    | t t =>
      obtain ⟨rfl, rfl⟩ := hh
      rcases ho with ⟨_, _, _, _, q, _⟩ | ⟨_, q, _⟩
      · cases hno q
      · simp [Stn, lentNow] at q
    | l l =>
      obtain ⟨rfl, rfl⟩ := hat l x hh.1
      rcases ho with ⟨e, z, xs, _, q, _⟩ | ⟨_, q, _⟩
      · rcases immT_sub hi q with ⟨_, q⟩ | ⟨_, q⟩ | q
        · cases q
        · cases q
        · simp [immC] at q
      · obtain ⟨d, e, z, xs, q1, _⟩ := lentNow_lent q
        exact hnl q1
  refine ⟨⟨rfl, rfl, ?_, ?_, ?_, ?_, ?_, ?_, ?_, ?_, ?_, ?_, ?_, hlt, ?_, ?_, ?_, ?_⟩, fun k ho => ?_⟩
  · intro r x u hh
    cases r with
    | t t => obtain ⟨rfl, rfl⟩ := hh; exact .no
    | l l =>
      obtain ⟨rfl, rfl⟩ := hat l x hh.1
      have hu := hh.2
      have e : u = v := by
        have h2 : valAt (Frn 1) g w ⟨#[v], []⟩ (.var 0) = some u := hu
        rw [hval] at h2
        exact (Option.some.inj h2).symm
      subst e
      exact hr
  · intro l x hx
    obtain ⟨rfl, rfl⟩ := hat l x hx
    exact ⟨v, hval, fun ⟨b, o, q⟩ => by cases q⟩
  · intro l d e z xs u hx _
    obtain ⟨_, q⟩ := hat l _ hx
    exact absurd q.symm hnl
  · intro b cs hb; simp [Stn] at hb
  · intro b b' hb; simp [Stn] at hb
  · intro r x u p b o hh hs
    cases r with
    | t t => obtain ⟨rfl, rfl⟩ := hh; cases hno hs
    | l l =>
      obtain ⟨rfl, rfl⟩ := hat l x hh.1
      rcases immT_sub hi hs with ⟨_, q⟩ | ⟨_, q⟩ | q
      · cases q
      · cases q
      · simp [immC] at q
  · intro r p k ho; exact absurd ho (hown r p k)
  · intro r p r' p' k ho; exact absurd ho (hown r p k)
  · intro t p x u hx hu
    cases hno hx
    trivial
  · intro l x hx p
    obtain ⟨rfl, rfl⟩ := hat l x hx
    refine ⟨?_, ?_, ?_, ?_⟩ <;> intros <;> intro hs <;> rcases immT_sub hi hs with ⟨_, q⟩ | ⟨_, q⟩ | q <;> first | cases q | simp [immC] at q
  · intro t p d e0 e z xs hs
    cases hno hs
  · intro t _; rfl
  · intro t p x hx
    cases hno hx
    exact Nat.zero_le _
  · intro l x hx
    obtain ⟨rfl, rfl⟩ := hat l x hx
    cases x <;> first | exact Nat.zero_le _ | (simp [immT, immA, immC] at hi)
  · intro l d e z xs u k hx
    obtain ⟨_, q⟩ := hat l _ hx
    exact absurd q.symm hnl
  · rcases ho with ⟨r, p, ho⟩ | ⟨b, hb, _⟩
    · exact hown r p k ho
    · simp [Stn] at hb
def frL (x y : V) : Prop := (x = y ∧ immC x = true) ∨ (∃ m e z xs, x = .own m e z xs ∧ y = .list z xs) ∨ (x = .s (.slice none 0 0) ∧ ∃ z, y = .list z [])
def frLs : List V → List V → Prop
  | [], [] => True
  | x :: r, y :: s => frL x y ∧ frLs r s
  | _, _ => False
def frA (x y : V) : Prop :=
  match x, y with
  | .agg cs, .agg ds => frLs cs ds
  | x, y => frL x y
def frAs : List V → List V → Prop
  | [], [] => True
  | x :: r, y :: s => frA x y ∧ frAs r s
  | _, _ => False
def frT (x y : V) : Prop :=
  match x, y with
  | .tup cs, .tup ds => frAs cs ds
  | x, y => frA x y
theorem frLs_get : ∀ {xs ys : List V}, frLs xs ys → xs.length = ys.length ∧ ∀ (i : Nat) (y : V), ys[i]? = some y → ∃ x, xs[i]? = some x ∧ frL x y
  | [], [], _ => ⟨rfl, fun i y h => by simp at h⟩
  | x :: r, y :: s, h => by
    obtain ⟨h1, h2⟩ := frLs_get h.2
    refine ⟨by simp [h1], fun i u hu => ?_⟩
    cases i with
    | zero => simp at hu; subst hu; exact ⟨x, rfl, h.1⟩
    | succ i => simp at hu; exact h2 i u hu
theorem frAs_get : ∀ {xs ys : List V}, frAs xs ys → xs.length = ys.length ∧ ∀ (i : Nat) (y : V), ys[i]? = some y → ∃ x, xs[i]? = some x ∧ frA x y
  | [], [], _ => ⟨rfl, fun i y h => by simp at h⟩
  | x :: r, y :: s, h => by
    obtain ⟨h1, h2⟩ := frAs_get h.2
    refine ⟨by simp [h1], fun i u hu => ?_⟩
    cases i with
    | zero => simp at hu; subst hu; exact ⟨x, rfl, h.1⟩
    | succ i => simp at hu; exact h2 i u hu
theorem frL_imm {x y : V} (h : frL x y) : immC y = true := by
  rcases h with ⟨rfl, h⟩ | ⟨m, e, z, xs, rfl, rfl⟩ | ⟨rfl, z, rfl⟩
  · exact h
  · rfl
  · rfl
theorem frA_imm {x y : V} (h : frA x y) : immA y = true := by
  unfold frA at h
  split at h
  · next cs ds =>
    simp only [immA, List.all_eq_true]
    intro u hu
    obtain ⟨i, hi, rfl⟩ := List.getElem_of_mem hu
    obtain ⟨x, _, hx⟩ := (frLs_get h).2 i _ (List.getElem?_eq_getElem hi)
    exact frL_imm hx
  · have := frL_imm h
    unfold immA
    split
    · simp [immC] at this
    · exact this
theorem frT_imm {x y : V} (h : frT x y) : immT y = true := by
  unfold frT at h
  split at h
  · next cs ds =>
    simp only [immT, List.all_eq_true]
    intro u hu
    obtain ⟨i, hi, rfl⟩ := List.getElem_of_mem hu
    obtain ⟨x, _, hx⟩ := (frAs_get h).2 i _ (List.getElem?_eq_getElem hi)
    exact frA_imm hx
  · next hn =>
    have := frA_imm h
    unfold immT
    split
    · simp [immA, immC] at this
    · exact this
def bkSize (w : World) (b : Nat) : Nat := match w.heap[b]? with | some (.cells cs _ _) => cs.size | _ => 0
theorem bk_lt {w : World} {b : Nat} (h : 0 < bkSize w b) : b < w.heap.size := by
  unfold bkSize at h
  split at h
  · next cs ty fz hh => exact (Array.getElem?_eq_some_iff.1 hh).1
  · omega
theorem frL_rep {g2 : Gh} (hI : ∀ b o, o < g.I b → o < g2.I b) {x y : V} {v : Value} (h : frL x y) (hr : Rep g w x v) (ho : ∀ k, ownIn x v [] k → g2.I k = bkSize w k) : Rep g2 w y v := by
  have keep : ∀ {u : V} {c : Value}, immC u = true → Rep g w u c → Rep g2 w u c := by
    intro u c hu hc
    refine hc.keep (fun b o q => ⟨hI b o q, rfl⟩) (fun _ _ _ => rfl) (fun p b o q => ?_)
    obtain ⟨_, q2⟩ := immC_sub hu q
    subst q2
    simp [immC] at hu
  rcases h with ⟨rfl, h⟩ | ⟨m, e, z, xs, rfl, rfl⟩ | ⟨rfl, z, rfl⟩
  · exact keep h hr
  · cases m with
    | false => cases hr with
      | ownf h _ _ => exact keep rfl h
    | true =>
    have ho' := fun k hk => ho k ⟨e, z, xs, v, rfl, rfl, hk⟩
    cases hr with
    | own vals h0 hc hm hh hs hz hi hcell hrep =>
      rename_i k cap cur
      have hI2 := ho' k (by simp [rb]; omega)
      refine .list vals hc hm (fun q => by cases q) hz hi (fun j hj => ⟨k, 0, rfl, ?_, ?_⟩) (fun j u hu => keep (hi u (List.mem_of_getElem? hu)) (hrep j u hu))
      · rw [hI2]
        simp only [bkSize, hh]
        have := (Array.getElem?_eq_some_iff.1 (hcell j hj)).1
        omega
      · rw [cell_of_row w k (0 + j) cur e (0, 0) hh, Nat.zero_add]
        exact hcell j hj
    | own0 => exact .list (fun _ => undef) (Nat.le_refl _) (Nat.zero_le _) (fun _ => rfl) (fun x hx => by simp at hx) (fun u hu => by simp [flat] at hu) (fun j hj => by simp [flat] at hj) (fun j u hu => by simp [flat] at hu)
  · exact nilL_rep (.inr ⟨rfl, z, rfl⟩) (keep rfl hr)
theorem frA_rep {g2 : Gh} (hI : ∀ b o, o < g.I b → o < g2.I b) {x y : V} {v : Value} (h : frA x y) (hr : Rep g w x v) (ho : ∀ p k, ownIn x v p k → g2.I k = bkSize w k) : Rep g2 w y v := by
  unfold frA at h
  split at h
  · next cs ds =>
    obtain ⟨k1, k2⟩ := frLs_get h
    cases hr with
    | agg hl h1 hh =>
      refine .agg (by omega) h1 (fun j u c hu hc => ?_)
      obtain ⟨x, q1, q2⟩ := k2 j u hu
      refine frL_rep hI q2 (hh j x c q1 hc) (fun k ⟨e, z, xs, u', p1, p2, p3⟩ => ho [j] k ⟨e, z, xs, u', ?_, ?_, p3⟩)
      · simp only [V.sub, q1]; exact p1
      · simp only [vsub, hc]; exact p2
  · exact frL_rep hI h hr (ho [])
theorem frT_rep {g2 : Gh} (hI : ∀ b o, o < g.I b → o < g2.I b) {x y : V} {v : Value} (h : frT x y) (hr : Rep g w x v) (ho : ∀ p k, ownIn x v p k → g2.I k = bkSize w k) : Rep g2 w y v := by
  unfold frT at h
  split at h
  · next cs ds =>
    obtain ⟨k1, k2⟩ := frAs_get h
    cases hr with
    | tup hl hh =>
      refine .tup (by omega) (fun j u c hu hc => ?_)
      obtain ⟨x, q1, q2⟩ := k2 j u hu
      refine frA_rep hI q2 (hh j x c q1 hc) (fun p k ⟨e, z, xs, u', p1, p2, p3⟩ => ho (j :: p) k ⟨e, z, xs, u', ?_, ?_, p3⟩)
      · simp only [V.sub, q1]; exact p1
      · simp only [vsub, hc]; exact p2
  · exact frA_rep hI h hr ho
open Classical in
theorem pc_list {f : Nat} {args : List V} {q : V → Prop} {q' : V → Prop} (h : PC P f args q) (hf : ∀ x, q x → okV x = true → ∃ y, frT x y ∧ okV y = true ∧ q' y) : PC P f args q' := by
  intro g w vals hb
  refine (h g w vals hb).mono ?_
  rintro e w' ⟨v, x, bs', g', h1, ⟨rfl, hq⟩, hok, hbd, hx⟩
  obtain ⟨y, hfr, hoky, hy⟩ := hf x hq hok
  have hval : valAt (Frn 1) g' w' ⟨#[v], []⟩ (.var 0) = some v := by simp [valAt, Frn, Act.tv]
  have hr : Rep g' w' x v := hbd.rep (.l (.var 0)) x v ⟨rfl, hval⟩
  have hO : ∀ p k, ownIn x v p k → OwnB g' w' [x] #[v] [] k := fun p k ho => .inl ⟨.l (.var 0), p, x, v, ⟨rfl, hval⟩, .inl ho⟩
  have hO0 : ∀ k, OwnB g' w' [x] #[v] [] k → g'.I k = 0 ∧ k < w'.heap.size := fun k ho => by
    rcases ho with ⟨r, p, ho⟩ | ⟨b, hb', _⟩
    · have := hbd.ownI r p k ho
      exact ⟨this.1, this.2.1⟩
    · simp [Stn] at hb'
  let g2 : Gh := ⟨fun b => if OwnB g' w' [x] #[v] [] b then bkSize w' b else g'.I b, g'.φ⟩
  have hI : ∀ b o, o < g'.I b → o < g2.I b := fun b o q => by
    show o < if OwnB g' w' [x] #[v] [] b then bkSize w' b else g'.I b
    split
    · next hb' => have := (hO0 b hb').1; omega
    · exact q
  have hr2 : Rep g2 w' y v := frT_rep hI hfr hr (fun p k ho => if_pos (hO p k ho))
  have hlt : ∀ k, 0 < g2.I k → k < w'.heap.size := fun k hk => by
    have hk : 0 < if OwnB g' w' [x] #[v] [] k then bkSize w' k else g'.I k := hk
    split at hk
    · exact bk_lt hk
    · exact hbd.Ilt k hk
  obtain ⟨q1, q2⟩ := bd_immT (frT_imm hfr) hr2 hlt
  refine ⟨v, y, [], g2, h1, ⟨rfl, hy⟩, hoky, q1, hx.os, hx.tape, hx.output, hx.size, fun k hk hn => ?_, fun k hk => absurd hk (q2 k), fun b hb' => by simp at hb'⟩
  obtain ⟨p1, p2⟩ := hx.same k hk hn
  refine ⟨p1, ?_⟩
  show (if OwnB g' w' [x] #[v] [] k then bkSize w' k else g'.I k) = g.I k
  split
  · next ho =>
    rcases hx.owned k ho with q | q
    · exact absurd q hn
    · omega
  · exact p2
end
end Go.Proofs.Ytebibhmjmaomnaa
namespace Go.Proofs.Ytebibhmjmaomnaa
open Go.RowKit
def StL (F : Fr) (D e z : Nat) (xs rest : List V) : St := { St0 F (.lent D 0 e z xs :: rest) [] with tm := upd (fun _ => .no) D (.tup []) }
section
variable {P : Program} {F : Fr} {g : Gh} {w : World}
end
attribute [simp] StL
end Go.Proofs.Ytebibhmjmaomnaa
namespace Go.Proofs.Ytebibhmjmaomnaa
open Go.RowKit
end Go.Proofs.Ytebibhmjmaomnaa
namespace Go.Proofs.Ytebibhmjmaomnaa
open Go.RowKit Go.Proofs
def simpleW (n : Nat) : V → Bool
  | .view (.cell b _) _ => decide (b < n)
  | x => simpleV n x
def wkv (keep drop : List Nat) (nb : Nat) (S : St) : St := ⟨tmL (keep.map fun t => (t, S.tm t)), forgetV drop S.vs, S.bx.take nb, S.ep⟩
def wkvOk (keep drop : List Nat) (nb : Nat) (S : St) : Bool := keep.all (fun t => simpleW nb (S.tm t)) && (forgetV drop S.vs).all (cellV nb) && (S.bx.take nb).all (·.all (cellK nb)) && decide (nb ≤ S.bx.length)
section
variable {P : Program} {F : Fr}
end
def lqv (keep drop : List Nat) (nb : Nat) (Inv : Nat → St → Prop) (m : Nat) (Q : AX → St → Prop) : AX → St → Prop := fun e S => match e with
  | .normal => wkvOk keep drop nb S = true ∧ ∃ m', m' < m ∧ Inv m' (wkv keep drop nb S)
  | e => Q e S
@[simp] theorem lqv_normal (keep drop : List Nat) (nb : Nat) (Inv : Nat → St → Prop) (m : Nat) (Q : AX → St → Prop) (S : St) : lqv keep drop nb Inv m Q .normal S = (wkvOk keep drop nb S = true ∧ ∃ m', m' < m ∧ Inv m' (wkv keep drop nb S)) := rfl
@[simp] theorem lqv_exit (keep drop : List Nat) (nb : Nat) (Inv : Nat → St → Prop) (m : Nat) (Q : AX → St → Prop) (S : St) (id : Nat) : lqv keep drop nb Inv m Q (.exit id) S = Q (.exit id) S := rfl
@[simp] theorem lqv_ret (keep drop : List Nat) (nb : Nat) (Inv : Nat → St → Prop) (m : Nat) (Q : AX → St → Prop) (S : St) : lqv keep drop nb Inv m Q .ret S = Q .ret S := rfl
@[simp] theorem lqv_goto (keep drop : List Nat) (nb : Nat) (Inv : Nat → St → Prop) (m : Nat) (Q : AX → St → Prop) (S : St) (l : Nat) : lqv keep drop nb Inv m Q (.goto l) S = Q (.goto l) S := rfl
@[simp] theorem simpleW_view (n b o e : Nat) : simpleW n (.view (.cell b o) e) = decide (b < n) := rfl
@[simp] theorem simpleW_s (n : Nat) (v : Value) : simpleW n (.s v) = true := rfl
@[simp] theorem simpleW_list (n : Nat) (z : Nat) (xs : List V) : simpleW n (.list z xs) = true := rfl
@[simp] theorem simpleW_ptr (n : Nat) (b o : Nat) : simpleW n (.ptr b o) = decide (b < n) := rfl
attribute [simp] wkv wkvOk
end Go.Proofs.Ytebibhmjmaomnaa
namespace Go.Proofs.Ytebibhmjmaomnaa
open Go.RowKit Go.Proofs
def simpleX (drop : List Nat) (n : Nat) : V → Bool
  | .view (.var i) _ => !drop.contains i
  | x => simpleW n x
def wkxOk (keep drop : List Nat) (nb : Nat) (S : St) : Bool := keep.all (fun t => simpleX drop nb (S.tm t)) && (forgetV drop S.vs).all (cellV nb) && (S.bx.take nb).all (·.all (cellK nb)) && decide (nb ≤ S.bx.length)
section
variable {P : Program} {F : Fr}
end
def lqx (keep drop : List Nat) (nb : Nat) (Inv : Nat → St → Prop) (m : Nat) (Q : AX → St → Prop) : AX → St → Prop := fun e S => match e with
  | .normal => wkxOk keep drop nb S = true ∧ ∃ m', m' < m ∧ Inv m' (wkv keep drop nb S)
  | e => Q e S
@[simp] theorem lqx_normal (keep drop : List Nat) (nb : Nat) (Inv : Nat → St → Prop) (m : Nat) (Q : AX → St → Prop) (S : St) : lqx keep drop nb Inv m Q .normal S = (wkxOk keep drop nb S = true ∧ ∃ m', m' < m ∧ Inv m' (wkv keep drop nb S)) := rfl
@[simp] theorem lqx_exit (keep drop : List Nat) (nb : Nat) (Inv : Nat → St → Prop) (m : Nat) (Q : AX → St → Prop) (S : St) (id : Nat) : lqx keep drop nb Inv m Q (.exit id) S = Q (.exit id) S := rfl
@[simp] theorem lqx_ret (keep drop : List Nat) (nb : Nat) (Inv : Nat → St → Prop) (m : Nat) (Q : AX → St → Prop) (S : St) : lqx keep drop nb Inv m Q .ret S = Q .ret S := rfl
@[simp] theorem lqx_goto (keep drop : List Nat) (nb : Nat) (Inv : Nat → St → Prop) (m : Nat) (Q : AX → St → Prop) (S : St) (l : Nat) : lqx keep drop nb Inv m Q (.goto l) S = Q (.goto l) S := rfl
@[simp] theorem simpleX_view (drop : List Nat) (n i e : Nat) : simpleX drop n (.view (.var i) e) = !drop.contains i := rfl
@[simp] theorem simpleX_viewc (drop : List Nat) (n b o e : Nat) : simpleX drop n (.view (.cell b o) e) = decide (b < n) := rfl
@[simp] theorem simpleX_s (drop : List Nat) (n : Nat) (v : Value) : simpleX drop n (.s v) = true := rfl
@[simp] theorem simpleX_list (drop : List Nat) (n : Nat) (z : Nat) (xs : List V) : simpleX drop n (.list z xs) = true := rfl
@[simp] theorem simpleX_ptr (drop : List Nat) (n : Nat) (b o : Nat) : simpleX drop n (.ptr b o) = decide (b < n) := rfl
attribute [simp] wkxOk
end Go.Proofs.Ytebibhmjmaomnaa
namespace Go.Proofs.Ytebibhmjmaomnaa
open Go.RowKit
section
variable {P : Program}
def permL (pm : List Nat) (ops : List AOper) : List AOper := pm.map fun i => ops.getD i ⟨.none, .mv (.c undef), none⟩
def permE (pm : List Nat) (es : List (List Nat)) : List (List Nat) := pm.map fun i => ((es[i]?).getD []).map pm.idxOf
def permOk (pm : List Nat) (n : Nat) (es : List (List Nat)) : Bool :=
  decide (pm.length = n) && decide (es.length = n) && (List.range n).all (fun i => pm.contains i) && (List.range n).all (fun i => decide (pm.getD i 0 < n) && decide (pm.idxOf (pm.getD i 0) = i)) && es.all fun e => e.all fun x => decide (x < n)
structure PO (pm : List Nat) (n : Nat) (es : List (List Nat)) : Prop where
  len : pm.length = n
  elen : es.length = n
  mem : ∀ i, i < n → i ∈ pm
  inv : ∀ i, i < n → pm.getD i 0 < n ∧ pm.idxOf (pm.getD i 0) = i
  dep : ∀ (i e : Nat), e ∈ (es[i]?).getD [] → e < n
theorem po_of {pm : List Nat} {n : Nat} {es : List (List Nat)} (h : permOk pm n es = true) : PO pm n es := by
  simp only [permOk, Bool.and_eq_true, decide_eq_true_eq, List.all_eq_true, List.mem_range, List.contains_iff_mem] at h
  obtain ⟨⟨⟨⟨h1, h2⟩, h3⟩, h4⟩, h5⟩ := h
  refine ⟨h1, h2, h3, h4, fun i e he => ?_⟩
  cases hi : es[i]? with
  | none => rw [hi] at he; simp at he
  | some x => rw [hi] at he; exact h5 x (List.mem_of_getElem? hi) e he
theorem PO.pos {pm : List Nat} {n : Nat} {es : List (List Nat)} (h : PO pm n es) {i : Nat} (hi : i < n) : pm.idxOf i < n ∧ pm[pm.idxOf i]? = some i := by
  have hm := h.mem i hi
  have h1 := List.idxOf_lt_length_of_mem hm
  exact ⟨by rw [← h.len]; exact h1, by rw [List.getElem?_eq_getElem h1, List.getElem_idxOf h1]⟩
theorem PO.inj {pm : List Nat} {n : Nat} {es : List (List Nat)} (h : PO pm n es) {i j : Nat} (hi : i < n) (hj : j < n) (e : pm.idxOf i = pm.idxOf j) : i = j := by
  have h1 := (h.pos hi).2
  rw [e, (h.pos hj).2] at h1
  exact (Option.some.inj h1).symm
theorem wn_perm {pm : List Nat} {ops : List AOper} {es : List (List Nat)} {K : St → Prop} (h : PO pm ops.length es) : ∀ (f : Nat) (L : List Nat) (S : St), (∀ x ∈ L, x < ops.length) → WN P (permL pm ops) (permE pm es) f (L.map pm.idxOf) S K → WN P ops es f L S K := by
  have fwd : ∀ (L : List Nat) (i : Nat), (∀ x ∈ L, x < ops.length) → i ∈ rdy es L → pm.idxOf i ∈ rdy (permE pm es) (L.map pm.idxOf) := by
    intro L i hL hi
    obtain ⟨h1, h2, h3⟩ := mem_rdy.1 hi
    rw [h.elen] at h1
    obtain ⟨p1, p2⟩ := h.pos h1
    refine mem_rdy.2 ⟨by rw [permE, List.length_map, h.len]; exact p1, fun hc => ?_, fun e he => ?_⟩
    · obtain ⟨x, hx, hxe⟩ := List.mem_map.1 hc
      exact h2 (h.inj (hL x hx) h1 hxe ▸ hx)
    · have e1 : (permE pm es)[pm.idxOf i]? = some (((es[i]?).getD []).map pm.idxOf) := by rw [permE, List.getElem?_map, p2]; rfl
      rw [e1] at he
      obtain ⟨x, hx, rfl⟩ := List.mem_map.1 he
      exact List.mem_map.2 ⟨x, h3 x hx, rfl⟩
  have bwd : ∀ (L : List Nat), (∀ x ∈ L, x < ops.length) → rdy es L = [] → rdy (permE pm es) (L.map pm.idxOf) = [] := by
    intro L hL h0
    rw [List.eq_nil_iff_forall_not_mem]
    intro i' hi'
    obtain ⟨h1, h2, h3⟩ := mem_rdy.1 hi'
    have h1 : i' < ops.length := by rw [permE, List.length_map, h.len] at h1; exact h1
    obtain ⟨q1, q2⟩ := h.inv i' h1
    have hpi : pm[i']? = some (pm.getD i' 0) := by
      have : i' < pm.length := by rw [h.len]; exact h1
      simp [List.getD, this]
    have e1 : (permE pm es)[i']? = some (((es[pm.getD i' 0]?).getD []).map pm.idxOf) := by rw [permE, List.getElem?_map, hpi]; rfl
    rw [e1] at h3
    have : pm.getD i' 0 ∈ rdy es L := mem_rdy.2 ⟨by rw [h.elen]; exact q1, fun hc => h2 (List.mem_map.2 ⟨_, hc, q2⟩), fun e he => by
      obtain ⟨x, hx, hxe⟩ := List.mem_map.1 (h3 _ (List.mem_map.2 ⟨e, he, rfl⟩))
      exact h.inj (hL x hx) (h.dep _ e he) hxe ▸ hx⟩
    rw [h0] at this
    simp at this
  intro f
  induction f with
  | zero =>
    intro L S hL hw
    refine ⟨?_, hw.2⟩
    rw [List.eq_nil_iff_forall_not_mem]
    intro i hi
    have := fwd L i hL hi
    rw [hw.1] at this
    simp at this
  | succ f ih =>
    intro L S hL hw
    refine ⟨fun h0 => hw.1 (bwd L hL h0), fun i hi o ho => ?_⟩
    have hlt : i < ops.length := by have := (mem_rdy.1 hi).1; rwa [h.elen] at this
    have h1 := hw.2 _ (fwd L i hL hi) o (by
      simp only [permL, List.getElem?_map, (h.pos hlt).2, Option.map_some, List.getD, ho, Option.getD_some])
    exact wg_mono (fun S' h' => ih (i :: L) S' (fun x hx => by
      rcases List.mem_cons.1 hx with rfl | hx
      · exact hlt
      · exact hL x hx) h') h1
theorem wnm_perm {ops : List AOper} {es : List (List Nat)} {K : St → Prop} {S : St} (pm : List Nat) (A : Ann) (h1 : permOk pm ops.length es = true) (h2 : lexOk A (permL pm ops) (permE pm es) = true) (h : WDR P A K 0 (permL pm ops) S) : WNM P ops es S K := by
  have hp := po_of h1
  have h3 := wn_of A h2 h
  have e : (permL pm ops).length = ops.length := by simp [permL, hp.len]
  rw [e] at h3
  exact wn_perm hp ops.length [] S (by simp) h3
end
end Go.Proofs.Ytebibhmjmaomnaa
namespace Go.Proofs.Ytebibhmjmaomnaa
open Go.RowKit
structure Rd (w : World) (g : Gh) (cs : List Value) (xs : List V) : Prop where
  len : xs.length = cs.length
  rep : ∀ (j : Nat) (x : V) (c : Value), xs[j]? = some x → cs[j]? = some c → Rep (allG w g) w x c ∧ immC x = true ∧ c.oneCell' = true
def elemD (P : Program) (e : TypeId) (xs : List V) : V := if aggT P e = some true then .agg xs else xs.headD .no
def Shape (P : Program) : Nat → TypeId → List V → Prop
  | 0, _, _ => False
  | f + 1, t, xs =>
    match P.underlying t with
    | some .bool => ∃ b, xs = [.s (.bool b)]
    | some (.int k) => ∃ n, (Lit.int k n).wf = true ∧ xs = [.s (.int k n)]
    | some .string => ∃ s : ByteArray, s.size ≤ maxLen ∧ xs = [.s (.string s)]
    | some (.slice e) => ∃ els : List (List V), xs = [.list (P.cellsOf e) (els.map (elemD P e))] ∧ els.length ≤ maxLen ∧ ∀ el ∈ els, Shape P f e el
    | some (.struct fs) => ∃ parts : List (List V), xs = parts.flatten ∧ parts.length = fs.size ∧ ∀ (i : Nat) (fl : Field) (p : List V), fs[i]? = some fl → parts[i]? = some p → Shape P f fl.type p
    | _ => False
def contig (P : Program) : List Field → Nat → Bool
  | [], _ => true
  | f :: r, off => decide (f.offset = off) && contig P r (off + P.cellsOf f.type)
def sumCells (P : Program) : List Field → Nat
  | [] => 0
  | f :: r => P.cellsOf f.type + sumCells P r
def okTy (P : Program) : Nat → TypeId → Bool
  | 0, _ => false
  | f + 1, t =>
    match P.underlying t with
    | some .bool | some (.int _) | some .string => Nat.beq (P.cellsOf t) 1
    | some (.slice e) => Nat.beq (P.cellsOf t) 1 && okTy P f e && ((match aggT P e with | some true => true | some false => Nat.beq (P.cellsOf e) 1 | none => false))
    | some (.struct fs) => contig P fs.toList 0 && Nat.beq (sumCells P fs.toList) (P.cellsOf t) && fs.all fun fl => okTy P f fl.type
    | _ => false
section
variable {H : Type} {enc : TypeId × Value → H} {P : Program} {w : World} {g : Gh} {base : Nat} {sp : Nat → Bool} {held : Bool}
theorem cut_parts : ∀ (fs : List Field) (off : Nat) (cs : List Value) (parts : List (List V)), contig P fs off = true → off + sumCells P fs = cs.length → parts.length = fs.length →
    (∀ (i : Nat) (fl : Field) (p : List V), fs[i]? = some fl → parts[i]? = some p → Rd w g ((cs.drop fl.offset).take (P.cellsOf fl.type)) p) → Rd w g (cs.drop off) parts.flatten
  | [], off, cs, parts, hc, hl, hp, h => by
    have : parts = [] := List.length_eq_zero_iff.1 hp
    subst this
    simp only [sumCells, Nat.add_zero] at hl
    rw [List.drop_of_length_le (by omega)]
    exact ⟨rfl, fun j x c hx => by simp at hx⟩
  | f :: r, off, cs, [], hc, hl, hp, h => by simp at hp
  | f :: r, off, cs, p :: ps, hc, hl, hp, h => by
    simp only [contig, Bool.and_eq_true, decide_eq_true_eq] at hc
    simp only [sumCells] at hl
    have h0 := h 0 f p rfl rfl
    have ih := cut_parts r (off + P.cellsOf f.type) cs ps hc.2 (by omega) (by simpa using hp) (fun i fl q hi hq => h (i + 1) fl q (by simpa using hi) (by simpa using hq))
    rw [hc.1] at h0
    have hp0 : p.length = P.cellsOf f.type := by rw [h0.len]; simp; omega
    refine ⟨?_, fun j x c hx hcj => ?_⟩
    · have := ih.len
      simp only [List.flatten_cons, List.length_append, List.length_drop] at this ⊢
      omega
    · simp only [List.flatten_cons, List.getElem?_append] at hx
      split at hx
      · next hj =>
        refine h0.rep j x c hx ?_
        rw [List.getElem?_take, if_pos (by omega)]
        exact hcj
      · next hj =>
        refine ih.rep (j - p.length) x c hx ?_
        rw [List.getElem?_drop] at hcj ⊢
        rw [← hcj]
        congr 1
        omega
theorem rd_one {c : Value} (h : c.oneCell' = true) : Rd w g [c] [.s c] := ⟨rfl, fun j x c' hx hc => by
  cases j with
  | zero => simp at hx hc; subst hx hc; exact ⟨.s h, rfl, h⟩
  | succ j => simp at hx⟩
theorem choose_list {α : Type} {Q : Nat → α → Prop} : ∀ (n : Nat), (∀ i, i < n → ∃ a, Q i a) → ∃ l : List α, l.length = n ∧ ∀ (i : Nat) (a : α), l[i]? = some a → Q i a
  | 0, _ => ⟨[], rfl, by simp⟩
  | n + 1, h => by
    obtain ⟨l, h1, h2⟩ := choose_list n (fun i hi => h i (by omega))
    obtain ⟨a, ha⟩ := h n (by omega)
    refine ⟨l ++ [a], by simp [h1], fun i b hi => ?_⟩
    rw [List.getElem?_append] at hi
    split at hi
    · exact h2 i b hi
    · have : i = n := by
        have := (List.getElem?_eq_some_iff.1 hi).1
        simp at this
        omega
      subst this
      rw [h1] at hi
      simp at hi
      subst hi
      exact ha
theorem shape_of : ∀ (dep : Nat) (t : TypeId), okTy P dep t = true → ∀ (fuel : Nat) (cs : List Value) (x : DataW H × List MemPlace), DataW.trod enc P w base sp held fuel t cs = some x → ∃ xs, Rd w g cs xs ∧ Shape P dep t xs ∧ cs.length = P.cellsOf t
  | 0, t, h => by simp [okTy] at h
  | dep + 1, t, hok => fun fuel cs x h => by
    unfold okTy at hok
    unfold Shape
    cases hu : P.underlying t with
    | none => rw [hu] at hok; simp at hok
    | some td =>
      rw [hu] at hok
      cases td with
      | bool =>
        have h1 := Nat.eq_of_beq_eq_true hok
        obtain ⟨b, rfl⟩ : ∃ b, cs = [.bool b] := by
          cases fuel with
          | zero => simp [DataW.trod] at h
          | succ n =>
            unfold DataW.trod at h
            rw [hu] at h
            split at h <;> simp_all
        exact ⟨[.s (.bool b)], rd_one rfl, ⟨b, rfl⟩, by simp [h1]⟩
      | int k =>
        have h1 := Nat.eq_of_beq_eq_true hok
        obtain ⟨n, hn, rfl⟩ : ∃ n, (Lit.int k n).wf = true ∧ cs = [.int k n] := by
          cases fuel with
          | zero => simp [DataW.trod] at h
          | succ n =>
            unfold DataW.trod at h
            rw [hu] at h
            split at h <;> simp_all
        exact ⟨[.s (.int k n)], rd_one rfl, ⟨n, hn, rfl⟩, by simp [h1]⟩
      | string =>
        have h1 := Nat.eq_of_beq_eq_true hok
        obtain ⟨s, hs, rfl⟩ : ∃ s : ByteArray, s.size ≤ maxLen ∧ cs = [.string s] := by
          cases fuel with
          | zero => simp [DataW.trod] at h
          | succ n =>
            unfold DataW.trod at h
            rw [hu] at h
            split at h <;> simp_all
        exact ⟨[.s (.string s)], rd_one rfl, ⟨s, hs, rfl⟩, by simp [h1]⟩
      | slice e =>
        simp only [Bool.and_eq_true] at hok
        obtain ⟨⟨h1, h2⟩, h3⟩ := hok
        have h1 := Nat.eq_of_beq_eq_true h1
        simp only
        rcases DataW.trod_slice hu h with ⟨rfl, _⟩ | ⟨a, len, cap, elems, rest, n, rfl, rfl, rfl, hb, hl, hm, hel, hget, _, _⟩
        · exact ⟨[.list (P.cellsOf e) []], ⟨rfl, fun j x c hx hc => by
            cases j with
            | zero =>
              simp at hx hc
              subst hx hc
              exact ⟨.list (fun _ => undef) (Nat.le_refl _) (Nat.zero_le _) (fun _ => rfl) (by simp) (by simp [flat]) (fun j hj => by simp [flat] at hj) (fun j u hu => by simp [flat] at hu), rfl, rfl⟩
            | succ j => simp at hx⟩, ⟨[], rfl, Nat.zero_le _, by simp⟩, by simp [h1]⟩
        · -- the elements
          have hone : ∀ i, i < len → ∃ (cs' : List Value) (xs : List V), w.cells? base (a.add (i * P.cellsOf e)) (P.cellsOf e) = some cs' ∧ Rd w g cs' xs ∧ Shape P dep e xs ∧ cs'.length = P.cellsOf e := by
            intro i hi
            have := hget i hi
            rw [List.getElem?_eq_getElem (by omega)] at this
            obtain ⟨cs', k1, k2⟩ := Option.bind_eq_some_iff.1 this
            obtain ⟨xs, k3, k4, k5⟩ := shape_of dep e h2 _ _ _ k2
            exact ⟨cs', xs, k1, k3, k4, k5⟩
          obtain ⟨els, e1, e2⟩ := choose_list (Q := fun i xs => ∃ cs' : List Value, w.cells? base (a.add (i * P.cellsOf e)) (P.cellsOf e) = some cs' ∧ Rd w g cs' xs ∧ Shape P dep e xs ∧ cs'.length = P.cellsOf e) len (fun i hi => by
            obtain ⟨cs', xs, q⟩ := hone i hi
            exact ⟨xs, cs', q⟩)
          have hlen : ∀ el ∈ els, el.length = P.cellsOf e := fun el hel' => by
            obtain ⟨i, hi⟩ := List.mem_iff_getElem?.1 hel'
            obtain ⟨cs', q1, q2, q3, q4⟩ := e2 i el hi
            rw [q2.len, q4]
          have hcells : ∀ el ∈ els, cellsOf (elemD P e el) = el := fun el hel' => by
            have hl' := hlen el hel'
            unfold elemD
            cases hag : aggT P e with
            | none => rw [hag] at h3; cases h3
            | some b =>
              cases b with
              | true => simp [cellsOf]
              | false =>
                rw [hag] at h3
                have h3 := Nat.eq_of_beq_eq_true h3
                rw [h3] at hl'
                obtain ⟨y, rfl⟩ := List.length_eq_one_iff.1 hl'
                obtain ⟨i, hi⟩ := List.mem_iff_getElem?.1 hel'
                obtain ⟨cs', q1, q2, q3, q4⟩ := e2 i [y] hi
                have hc0 : ∃ c, cs'[0]? = some c := ⟨cs'[0]'(by omega), by simp [(by omega : 0 < cs'.length)]⟩
                obtain ⟨c, hc⟩ := hc0
                have hi' := (q2.rep 0 y c rfl hc).2.1
                simp only [Option.some.injEq, Bool.false_eq_true, if_false, List.headD_cons]
                cases y <;> simp [immC] at hi' <;> rfl
          have hz : ∀ y ∈ els.map (elemD P e), (cellsOf y).length = P.cellsOf e := fun y hy => by
            obtain ⟨el, q1, rfl⟩ := List.mem_map.1 hy
            rw [hcells el q1, hlen el q1]
          have hfl := flat_length hz
          rw [List.length_map, e1] at hfl
          -- one cell among all
          have hat : ∀ j, j < len * P.cellsOf e → ∃ (i o : Nat) (el : List V) (u : V) (c : Value), j = i * P.cellsOf e + o ∧ els[i]? = some el ∧ el[o]? = some u ∧ (flat (els.map (elemD P e)))[j]? = some u ∧ w.cell? (a.add j) = some c ∧ Rep (allG w g) w u c ∧ immC u = true := by
            intro j hj
            have hz0 : 0 < P.cellsOf e := by
              rcases Nat.eq_zero_or_pos (P.cellsOf e) with q | q
              · rw [q] at hj; omega
              · exact q
            have hi : j / P.cellsOf e < len := (Nat.div_lt_iff_lt_mul hz0).2 hj
            have ho : j % P.cellsOf e < P.cellsOf e := Nat.mod_lt _ hz0
            have hje : j = j / P.cellsOf e * P.cellsOf e + j % P.cellsOf e := by rw [Nat.mul_comm]; exact (Nat.div_add_mod _ _).symm
            have hel' : els[j / P.cellsOf e]? = some (els[j / P.cellsOf e]'(by omega)) := List.getElem?_eq_getElem (by omega)
            generalize els[j / P.cellsOf e]'(by omega) = el at hel'
            obtain ⟨cs', q1, q2, q3, q4⟩ := e2 _ el hel'
            have hm := List.mem_of_getElem? hel'
            have hu : el[j % P.cellsOf e]? = some (el[j % P.cellsOf e]'(by rw [hlen el hm]; exact ho)) := by simp
            generalize el[j % P.cellsOf e]'(by rw [hlen el hm]; exact ho) = u at hu
            have hc : cs'[j % P.cellsOf e]? = some (cs'[j % P.cellsOf e]'(by rw [q4]; exact ho)) := by simp
            generalize cs'[j % P.cellsOf e]'(by rw [q4]; exact ho) = c at hc
            obtain ⟨_, _, q5⟩ := World.cells?_some q1
            have q6 := q5 _ ho
            rw [Addr.add_add, ← hje, hc] at q6
            obtain ⟨r1, r2, _⟩ := q2.rep _ u c hu hc
            refine ⟨_, _, el, u, c, hje, hel', hu, ?_, q6, r1, r2⟩
            have hx : (els.map (elemD P e))[j / P.cellsOf e]? = some (elemD P e el) := by rw [List.getElem?_map, hel']; rfl
            have := flat_get hz hx ho
            rw [hcells el hm, ← hje] at this
            rw [this, hu]
          have hrd : Rep (allG w g) w (.list (P.cellsOf e) (els.map (elemD P e))) (.slice (some a) (els.map (elemD P e)).length cap) := by
            refine .list (fun j => (w.cell? (a.add j)).getD undef) (by simp; omega) hm (fun q => by cases q) hz (fun u hu => ?_) (fun j hj => ?_) (fun j u hu => ?_)
            · obtain ⟨j, hj⟩ := List.mem_iff_getElem?.1 hu
              have hjl := (List.getElem?_eq_some_iff.1 hj).1
              obtain ⟨_, _, _, u', c, _, _, _, q4, _, _, q7⟩ := hat j (by omega)
              rw [hj] at q4
              cases q4
              exact q7
            · obtain ⟨_, _, _, u', c, _, _, _, _, q5, _, _⟩ := hat j (by omega)
              have h0 : ∃ c0, w.cell? (a.add 0) = some c0 := by
                obtain ⟨_, _, _, _, c0, _, _, _, _, q, _, _⟩ := hat 0 (by omega)
                exact ⟨c0, q⟩
              obtain ⟨c0, h0⟩ := h0
              have ha : a = ⟨a.block, a.off, none⟩ := by
                have e0 : a.add 0 = a := by simp [Addr.add]
                rw [e0] at h0
                obtain ⟨b, o, s⟩ := a
                cases s with
                | none => rfl
                | some q =>
                  unfold World.cell? at h0
                  split at h0
                  · simp at h0
                  · cases h0
              have hadd : a.add j = ⟨a.block, a.off + j, none⟩ := by rw [ha, addr_add]
              rw [hadd] at q5
              refine ⟨a.block, a.off, congrArg some ha, allG_lt q5, ?_⟩
              rw [hadd, q5]
              rfl
            · have hjl := (List.getElem?_eq_some_iff.1 hu).1
              obtain ⟨_, _, _, u', c, _, _, _, q4, q5, q6, _⟩ := hat j (by omega)
              rw [hu] at q4
              cases q4
              rw [q5]
              exact q6
          refine ⟨[.list (P.cellsOf e) (els.map (elemD P e))], ⟨rfl, fun j x c hx hc => ?_⟩, ⟨els, rfl, by omega, fun el hel' => ?_⟩, by simp [h1]⟩
          · cases j with
            | zero =>
              simp only [List.getElem?_cons_zero, Option.some.injEq] at hx hc
              subst hx hc
              rw [List.length_map, e1] at hrd
              exact ⟨hrd, rfl, rfl⟩
            | succ j => simp at hx
          · obtain ⟨i, hi⟩ := List.mem_iff_getElem?.1 hel'
            obtain ⟨_, _, _, q, _⟩ := e2 i el hi
            exact q
      | struct fs =>
        simp only [Bool.and_eq_true] at hok
        obtain ⟨⟨h1, h2⟩, h3⟩ := hok
        have h2 := Nat.eq_of_beq_eq_true h2
        obtain ⟨xs, n, rfl, rfl, k1, k2, k3⟩ := DataW.trod_struct hu h
        have hone : ∀ (i : Nat) (fl : Field), fs[i]? = some fl → ∃ p, Rd w g ((cs.drop fl.offset).take (P.cellsOf fl.type)) p ∧ Shape P dep fl.type p := by
          intro i fl hi
          have hi' := (Array.getElem?_eq_some_iff.1 hi).1
          have := k3 i fl hi
          rw [List.getElem?_eq_getElem (by omega)] at this
          obtain ⟨p, q1, q2, _⟩ := shape_of dep fl.type (by
            rw [Array.all_eq_true] at h3
            have := h3 i hi'
            have e : fs[i] = fl := by simpa [hi'] using hi
            rw [e] at this
            exact this) _ _ _ this
          exact ⟨p, q1, q2⟩
        have hex : ∃ parts : List (List V), parts.length = fs.size ∧ ∀ (i : Nat) (fl : Field) (p : List V), fs[i]? = some fl → parts[i]? = some p → Rd w g ((cs.drop fl.offset).take (P.cellsOf fl.type)) p ∧ Shape P dep fl.type p := by
          obtain ⟨parts, e1, e2⟩ := choose_list (Q := fun i p => ∀ fl, fs[i]? = some fl → Rd w g ((cs.drop fl.offset).take (P.cellsOf fl.type)) p ∧ Shape P dep fl.type p) fs.size (fun i hi => by
            obtain ⟨p, hp⟩ := hone i fs[i] (by simp [hi])
            refine ⟨p, fun fl hfl => ?_⟩
            have : fs[i] = fl := by simpa [hi] using hfl
            rw [← this]
            exact hp)
          exact ⟨parts, e1, fun i fl p hi hp => e2 i p hp fl hi⟩
        obtain ⟨parts, m1, m2⟩ := hex
        refine ⟨parts.flatten, ?_, ⟨parts, rfl, m1, fun i fl p hi hp => (m2 i fl p hi hp).2⟩, k1⟩
        have := cut_parts (w := w) (g := g) fs.toList 0 cs parts h1 (by omega) (by simpa using m1) (fun i fl p hi hp => (m2 i fl p (by simpa using hi) hp).1)
        simpa using this
      | _ => simp at hok
end
end Go.Proofs.Ytebibhmjmaomnaa
namespace Go.Proofs.Ytebibhmjmaomnaa
open Go.RowKit Go.WideShapes
def g00 : Gh := ⟨fun _ => 0, fun _ => 0⟩
def ArgShape (P : Program) (dep : Nat) (t : TypeId) (x : V) : Prop :=
  match P.underlying t with
  | some (.struct _) => ∃ xs, x = .agg xs ∧ Shape P dep t xs
  | _ => Shape P dep t [x]
section
variable {H : Type} {enc : TypeId × Value → H} {P : Program} {w : World} {base : Nat} {sp : Nat → Bool} {held : Bool}
theorem arg_tree {dep b2 : Nat} {t : TypeId} {v : Value} {d : DataW H} {ps : List MemPlace} (hok : okTy P dep t = true) (hval : Value.okWide P w .any b2 t v) (htr : DataW.Trod enc P w base sp held t v d ps) :
    ∃ x, Rep (allG w g00) w x v ∧ immA x = true ∧ ArgShape P dep t x := by
  obtain ⟨fuel, h⟩ := htr
  obtain ⟨xs, h1, h2, h3⟩ := shape_of (g := g00) dep t hok _ _ _ h
  cases dep with
  | zero => simp [okTy] at hok
  | succ dep =>
    have hone : (∀ cs, v ≠ .agg cs) → v.cells.toList.length = 1 → ∃ x, xs = [x] ∧ Rep (allG w g00) w x v ∧ immC x = true := by
      intro hna hl
      have hlx : xs.length = 1 := by rw [h1.len, hl]
      obtain ⟨x, rfl⟩ := List.length_eq_one_iff.1 hlx
      have hc : v.cells.toList[0]? = some v := by cases v <;> first | rfl | exact absurd rfl (hna _)
      obtain ⟨k1, k2, _⟩ := h1.rep 0 x v rfl hc
      exact ⟨x, rfl, k1, k2⟩
    have hsc : ∀ td, P.underlying t = some td → (∀ fs, td ≠ .struct fs) → (∀ cs, v ≠ .agg cs) → ∃ x, Rep (allG w g00) w x v ∧ immA x = true ∧ ArgShape P (dep + 1) t x := by
      intro td hu hns hna
      obtain ⟨x, rfl, k1, k2⟩ := hone hna (by cases v <;> first | rfl | exact absurd rfl (hna _))
      refine ⟨x, k1, by cases x <;> first | exact k2 | (simp [immC] at k2), ?_⟩
      unfold ArgShape
      rw [hu]
      cases td <;> first | exact absurd rfl (hns _) | exact h2
    cases hu : P.underlying t with
    | none => unfold okTy at hok; rw [hu] at hok; simp at hok
    | some td =>
      cases td with
      | bool => obtain ⟨b, rfl⟩ := okWide_bool hu hval; exact hsc _ hu (by simp) (by simp)
      | int k => obtain ⟨n, rfl⟩ := okWide_int hu hval; exact hsc _ hu (by simp) (by simp)
      | string => obtain ⟨s, rfl⟩ := okWide_string hu hval; exact hsc _ hu (by simp) (by simp)
      | slice e => obtain ⟨a, l, c, rfl⟩ := okWide_slice hu hval; exact hsc _ hu (by simp) (by simp)
      | struct fs =>
        obtain ⟨cs, rfl, hsz⟩ := okWide_struct hu hval
        have hcells : (Value.agg cs).cells.toList = cs.toList := rfl
        rw [hcells] at h1
        refine ⟨.agg xs, .agg (by simpa using h1.len) (fun c hc => ?_) (fun j u c hu' hc => (h1.rep j u c hu' (by simpa using hc)).1), ?_, ?_⟩
        · obtain ⟨j, hj⟩ := List.mem_iff_getElem?.1 hc
          have hjl : j < xs.length := by rw [h1.len]; exact (List.getElem?_eq_some_iff.1 hj).1
          exact (h1.rep j _ c (List.getElem?_eq_getElem hjl) hj).2.2
        · simp only [immA, List.all_eq_true]
          intro u hu'
          obtain ⟨j, hj⟩ := List.mem_iff_getElem?.1 hu'
          have hjl : j < cs.toList.length := by rw [← h1.len]; exact (List.getElem?_eq_some_iff.1 hj).1
          exact (h1.rep j u _ hj (List.getElem?_eq_getElem hjl)).2.1
        · unfold ArgShape
          rw [hu]
          exact ⟨xs, rfl, h2⟩
      | _ => unfold okTy at hok; rw [hu] at hok; simp at hok
theorem law_calls {f : FuncId} {args : List V} {vals : Array Value} (hpc : PC P f args (fun r => r = .s (.bool true))) (hl : args.length = vals.size) (hr : ∀ (i : Nat) (x : V) (v : Value), args[i]? = some x → vals[i]? = some v → Rep (allG w g00) w x v ∧ immA x = true) :
    Calls P f vals w fun e w' => e = .returned (.bool true) ∧ Below w.heap.size w w' := by
  have himm : ∀ x ∈ args, immA x = true := by
    intro x hx
    obtain ⟨i, hi⟩ := List.mem_iff_getElem?.1 hx
    have hil : i < vals.size := by rw [← hl]; exact (List.getElem?_eq_some_iff.1 hi).1
    exact (hr i x vals[i] hi (by simp [hil])).2
  obtain ⟨hbd, hno⟩ := bd_imm (g := allG w g00) (w := w) hl himm (fun i x v h1 h2 => (hr i x v h1 h2).1) (fun k hk => by
    simp only [allG, g00] at hk
    split at hk
    · next hk' => exact (Array.getElem?_eq_some_iff.1 hk').1
    · simp at hk)
  refine (hpc _ w _ hbd).mono ?_
  rintro e w' ⟨v, r, bs', g', rfl, ⟨rfl, rfl⟩, _, hb, hex⟩
  have hrep := hb.rep (.l (.var 0)) _ v ⟨rfl, by simp [valAt, Frn, Act.tv]⟩
  cases hrep
  exact ⟨rfl, hex.os, hex.tape, hex.output, hex.size, fun k hk => (hex.same k hk (hno k)).1⟩
end
end Go.Proofs.Ytebibhmjmaomnaa
