/- Texts put behind one another: V1, V2, V3, K8, K9, K10, K11. -/
import Derived.Test.YtcjmbkbbhlmkfaaZK
import Derived.ProofKit
import Derived.Maps.OwnOps
import Derived.Maps.Views
import Derived.Test.YtcjmbkbbhlmkfaaZG
set_option linter.unusedVariables false
set_option linter.unusedSimpArgs false
namespace Go.Proofs.Ytcjmbkbbhlmkfaa
open Go.RowKit Go.Proofs Go.Maps

theorem law59 : Keyed Try.prog 59 := Keyed.of_law (deep_law_laid (m := 3) (by kernel_rfl) (by omega) (by decide +kernel) (by kernel_rfl) (by kernel_rfl))
theorem zero4 (w : World) : (zeroValue 4).run Try.prog w = .ok (.bool false) w := by kernel_rfl
theorem under63 : Try.prog.underlying 63 = some (.map 59 4) := by kernel_rfl
/-- the machine's mail -/
def Ml.u (m : Ml) : Value := .agg #[.int .i64 m.frm, .int .i64 m.to, .bool m.rep]
theorem mail_key (m : Ml) (h : wf64 m.frm ∧ wf64 m.to) : ∃ l, keyOf Try.prog 59 m.u = some l := by
  have h1 : (Lit.int .i64 m.frm).wf = true := WalkArith.wf_i64 (by have := h.1; unfold wf64 at this; omega)
  have h2 : (Lit.int .i64 m.to).wf = true := WalkArith.wf_i64 (by have := h.2; unfold wf64 at this; omega)
  have e3 : Try.prog.underlying 3 = some (.int .i64) := by kernel_rfl
  have e4 : Try.prog.underlying 4 = some .bool := by kernel_rfl
  have e8 : Try.prog.keyType 59 = true := by kernel_rfl
  have e9 : Try.prog.cellsOf 59 = 3 := by kernel_rfl
  have c3 : Try.prog.cellsOf 3 = 1 := by kernel_rfl
  have c4 : Try.prog.cellsOf 4 = 1 := by kernel_rfl
  obtain ⟨n, hn⟩ : ∃ n, Try.prog.types.size = n + 1 := by
    have : Try.prog.types.size ≠ 0 := by decide +kernel
    exact ⟨Try.prog.types.size - 1, by omega⟩
  unfold keyOf
  simp only [Try.underlying59, e8, hn, Ml.u, Value.formed, e9]
  simp [Program.keyLits, Try.underlying59, e9, e3, e4, c3, c4, h1, h2, Value.cells]
theorem mail_inj {a b : Ml} {l : Lit} (h1 : keyOf Try.prog 59 a.u = some l) (h2 : keyOf Try.prog 59 b.u = some l) : a = b := by
  have := law59.inj h1 h2
  cases a; cases b
  simp [Ml.u] at this
  simp [this]
/-- the key of a mail -/
noncomputable def kl (m : Ml) : Lit := (keyOf Try.prog 59 m.u).getD (.bool false)
theorem kl_of (m : Ml) (h : wf64 m.frm ∧ wf64 m.to) : keyOf Try.prog 59 m.u = some (kl m) := by
  obtain ⟨l, hl⟩ := mail_key m h
  simp [kl, hl]
/-- the map behind some mails -/
noncomputable def seenD (l : List Ml) : DataW Unit := l.foldl (fun D m => D.put (kl m) (.lit (.bool true))) (.map [])
theorem seenD_snoc (l : List Ml) (m : Ml) : seenD (l ++ [m]) = (seenD l).put (kl m) (.lit (.bool true)) := by simp [seenD, List.foldl_append]
theorem seenD_map (l : List Ml) : IsMap (seenD l) := by
  unfold seenD
  suffices ∀ (l : List Ml) (D : DataW Unit), IsMap D → IsMap (l.foldl (fun D m => D.put (kl m) (.lit (.bool true))) D) from this l _ isMap_empty
  intro l
  induction l with
  | nil => intro D h; exact h
  | cons x r ih => intro D h; exact ih _ (h.put _ _)
theorem fold_at (m : Ml) (hm : wf64 m.frm ∧ wf64 m.to) (z : DataW Unit) : ∀ (l : List Ml) (D : DataW Unit), IsMap D → (∀ x ∈ l, wf64 x.frm ∧ wf64 x.to) → (l.foldl (fun D m => D.put (kl m) (.lit (.bool true))) D).atKey (kl m) z = if m ∈ l then .lit (.bool true) else D.atKey (kl m) z
  | [], D, _, _ => by simp
  | x :: r, D, hD, h => by
    rw [List.foldl_cons, fold_at m hm z r _ (hD.put _ _) (fun y hy => h y (by simp [hy]))]
    by_cases h1 : m ∈ r
    · simp [h1]
    · rw [if_neg h1]
      by_cases e : m = x
      · subst e
        rw [atKey_put_same hD (law59.key (kl_of m hm))]
        simp
      · rw [atKey_put_other (fun q => e (mail_inj (kl_of m hm) (by rw [q]; exact kl_of x (h x (by simp)))))]
        simp [h1, e]
theorem seenD_at (m : Ml) (hm : wf64 m.frm ∧ wf64 m.to) (l : List Ml) (h : ∀ x ∈ l, wf64 x.frm ∧ wf64 x.to) : (seenD l).atKey (kl m) (.lit (.bool false)) = .lit (.bool (decide (m ∈ l))) := by
  rw [seenD, fold_at m hm _ l _ isMap_empty h]
  by_cases h1 : m ∈ l
  · simp [h1]
  · simp [h1, DataW.atKey]
/-- looking up a bool in a map of the call's own -/
theorem wpList_lookup_own_bool {P : Program} (w : World) {ops : Array Oper} {rest : List Oper} {o : Oper} {a : Act} {Q : Exit → Act → World → Prop}
    (hg : o.guard = none) (m x : Operand) (t : TypeId) (hop : o.op = Op.lookup t m x false)
    (k e : TypeId) (K : Keyed P k) (ht : P.underlying t = some (.map k e)) (he : P.underlying e = some .bool) (hz : (zeroValue e).run P w = .ok (.bool false) w) (b n : Nat) (D : DataW Unit)
    (hm : a.eval m = .map (some b)) (hown : w.ownsMap P k (plainElem P e) b n D) (key : Value) (kl : Lit) (hx : a.eval x = key) (hkey : keyOf P k key = some kl) (r : Bool) (hr : D.atKey kl (.lit (.bool false)) = .lit (.bool r))
    (hK : wpList P ops Q rest (a.put o.dst (.bool r)) w) :
    wpList P ops Q (o :: rest) a w := by
  refine wpList_plain hg fun K' hK' => ?_
  obtain ⟨v, ps, hrun, hv⟩ := hown.lookup K ht hz (plainElem_bool he false) hkey
  rw [hr] at hv
  have hvr : v = .bool r := by
    unfold plainElem at hv
    rw [he] at hv
    cases v <;> simp at hv
    rw [hv.1]
  subst hvr
  unfold Oper.wp
  simp [execOp, hop, hm, hx, hrun, Result.andThen]
  exact hK' _ _ hK
end Go.Proofs.Ytcjmbkbbhlmkfaa

namespace Go.Proofs.Ytcjmbkbbhlmkfaa
open Go.RowKit Go.Proofs

def boolsV (s : List Bool) : List Value := s.map Value.bool
theorem boolsV_at {s : List Bool} {i : Int} (h0 : 0 ≤ i) (h1 : i < s.length) : (boolsV s)[i.toNat]? = some (.bool (bAt s i)) := by
  have h : i.toNat < s.length := by omega
  rw [boolsV, bAt, List.getD_eq_getElem?_getD, List.getElem?_map, List.getElem?_eq_getElem h]; rfl
/-- mails in memory -/
def MAt (w : World) (A : Option Addr) (l : List Ml) : Prop := ∀ j (h : j < l.length), ∃ b o, A = some ⟨b, o, none⟩ ∧ b < w.heap.size ∧ w.cell? ⟨b, o + j * 3, none⟩ = some (.int .i64 l[j].frm) ∧ w.cell? ⟨b, o + j * 3 + 1, none⟩ = some (.int .i64 l[j].to) ∧ w.cell? ⟨b, o + j * 3 + 2, none⟩ = some (.bool l[j].rep)
theorem MAt.below {w w' : World} {A : Option Addr} {l : List Ml} (h : MAt w A l) (hb : Below w.heap.size w w') : MAt w' A l := fun j hj => by
  obtain ⟨b, o, e, h1, h2, h3, h4⟩ := h j hj
  exact ⟨b, o, e, Nat.lt_of_lt_of_le h1 hb.size, (hb.cell (p := ⟨b, _, none⟩) h1).trans h2, (hb.cell (p := ⟨b, _, none⟩) h1).trans h3, (hb.cell (p := ⟨b, _, none⟩) h1).trans h4⟩
theorem block_below {w w' : World} {k b : Nat} {o : Obj} (h : w.heap[b]? = some o) (hb : Below k w w') (hk : b < k) : w'.heap[b]? = some o := by
  rw [hb.block b hk]; exact h
theorem frame1 {w w1 : World} {cs : Array Value} {t : TypeId} (hb : Below (w.alloc (.cells cs t)).heap.size (w.alloc (.cells cs t)) w1) : w1.heap[w.heap.size]? = some (.cells cs t (0, 0)) :=
  block_below (block_new w cs t) hb (by simp)
/-- the call's box and what was there -/
structure VI (BX : Array Value) (w0 w : World) : Prop where
  bel : Below w0.heap.size w0 w
  blk : w.heap[w0.heap.size]? = some (.cells BX 27 (0, 0))
theorem VI.lt {BX : Array Value} {w0 w : World} (h : VI BX w0 w) : w0.heap.size < w.heap.size := (Array.getElem?_eq_some_iff.1 h.blk).1
theorem VI.call {BX : Array Value} {w0 w w' : World} (h : VI BX w0 w) (hb : Below w.heap.size w w') : VI BX w0 w' :=
  ⟨h.bel.trans (hb.mono h.bel.size), block_below h.blk hb h.lt⟩
theorem grown_of_below {w w' : World} (h : Below w.heap.size w w') : w.grownBy w' none := ⟨h.os, h.tape, h.output, h.size, fun b hb _ => h.block b hb⟩
theorem VI.map {BX : Array Value} {w0 w w' : World} {b : Nat} (h : VI BX w0 w) (hb : w.grownBy w' (some b)) (hlt : w0.heap.size < b) : VI BX w0 w' :=
  ⟨h.bel.trans ⟨hb.os, hb.tape, hb.output, hb.size, fun i hi => hb.block i (Nat.lt_of_lt_of_le hi h.bel.size) (by simp; omega)⟩, (hb.block _ h.lt (by simp; omega)).trans h.blk⟩
theorem under4 : Try.prog.underlying 4 = some .bool := by kernel_rfl
theorem VI.new (BX : Array Value) (w : World) : VI BX w (w.alloc (.cells BX 27)) := ⟨below_new w _, block_new w _ 27⟩
section
variable (d : Df) (Ag Am Ae Ap Ao : Option Addr) (cg cm ce cp co : Nat)
def bxV (n m : Nat) : Array Value := #[.slice Ag n cg, .int .i64 d.start, .slice Am m cm, .slice Ae n ce, .slice Ap n cp, .slice Ao n co, .bool d.dec]
end
set_option maxRecDepth 100000 in
set_option maxHeartbeats 1000000 in
theorem valid_any (d : Df) (Ag Am Ae Ap Ao : Option Addr) (cg cm ce cp co n m ne np no : Nat) (w : World) (hs : d.sm) (hn : d.g.length = n) (hm : d.ml.length = m) (hne : d.eng.length = ne) (hnp : d.par.length = np) (hno : d.opn.length = no)
    (he : At w Ae (boolsV d.eng)) (hmm : MAt w Am d.ml)
    (h25 : ∀ w', Below w.heap.size w w' → Calls Try.prog 25 #[.slice Ag n cg] w' fun e w'' => e = .returned (.bool (gOk d.g)) ∧ Below w'.heap.size w' w'')
    (h35 : gOk d.g = true → ne = n → np = n → no = n → ∀ (i : Nat), i < n → ∀ w', Below w.heap.size w w' → Calls Try.prog 35 #[.agg #[.slice Ag n cg, .int .i64 d.start, .slice Am m cm, .slice Ae ne ce, .slice Ap np cp, .slice Ao no co, .bool d.dec], .int .i64 i] w' fun e w'' => e = .returned (.bool (decide (nOk d i))) ∧ Below w'.heap.size w' w'')
    (h36 : gOk d.g = true → ne = n → ∀ (p : Ml), p ∈ d.ml → ∀ w', Below w.heap.size w w' → Calls Try.prog 36 #[.agg #[.slice Ag n cg, .int .i64 d.start, .slice Am m cm, .slice Ae ne ce, .slice Ap np cp, .slice Ao no co, .bool d.dec], p.u] w' fun e w'' => e = .returned (.bool (decide (mOk d p))) ∧ Below w'.heap.size w' w'') :
    Calls Try.prog 18 #[.agg #[.slice Ag n cg, .int .i64 d.start, .slice Am m cm, .slice Ae ne ce, .slice Ap np cp, .slice Ao no co, .bool d.dec]] w fun e w' => e = .returned (.bool (decide d.ok)) ∧ Below w.heap.size w w' := by
  have H25 := Lib.hid h25
  have HD : Hid (∀ b, decide d.ok = b → (Ending.returned (.bool b) : Ending) = .returned (.bool (decide d.ok))) := Lib.hid (fun b hb => by rw [hb])
  have HN : Hid (d.g.length = n) := Lib.hid hn
  have HMM := Lib.hid hmm
  have HS := Lib.hid hs
  have HM := Lib.hid hm
  have HNE := Lib.hid hne
  have HNP := Lib.hid hnp
  have HNO := Lib.hid hno
  have HE := Lib.hid he
  clear hm hs hmm h25
  cases g1 : gOk d.g with
  | false =>
    have HF := Lib.hid (HD.out false (decide_eq_false (fun (h : d.ok) => by have := h.g; rw [g1] at this; cases this)))
    clear hn hne hnp hno he h35 h36
    go_enter Try.func18, Try.ntmps18
    go_wp2_with (go_at_call 25; go_must (refine (H25.out _ (below_new _ _)).mono ?_); rw [g1]; rintro e w1 ⟨rfl, h1⟩; have f1 := frame1 h1; have C1 := block_cells f1; have HB := Lib.hid ((VI.new _ w).call h1); clear f1 h1)
    go_ret
    exact ⟨HF.out, HB.out.bel⟩
  | true =>
  by_cases g2 : d.start < 0
  · have HF := Lib.hid (HD.out false (decide_eq_false (fun (h : d.ok) => by have := h.s0; omega)))
    clear hn hne hnp hno he h35 h36
    go_enter Try.func18, Try.ntmps18
    go_wp2_with (go_at_call 25; go_must (refine (H25.out _ (below_new _ _)).mono ?_); rw [g1]; rintro e w1 ⟨rfl, h1⟩; have f1 := frame1 h1; have C1 := block_cells f1; have HB := Lib.hid ((VI.new _ w).call h1); clear f1 h1)
    go_ret
    exact ⟨HF.out, HB.out.bel⟩
  by_cases g3 : d.start ≥ n
  · have HF := Lib.hid (HD.out false (decide_eq_false (fun (h : d.ok) => by have := h.s1; omega)))
    clear hn hne hnp hno he h35 h36
    go_enter Try.func18, Try.ntmps18
    go_wp2_with (go_at_call 25; go_must (refine (H25.out _ (below_new _ _)).mono ?_); rw [g1]; rintro e w1 ⟨rfl, h1⟩; have f1 := frame1 h1; have C1 := block_cells f1; have HB := Lib.hid ((VI.new _ w).call h1); clear f1 h1)
    go_ret
    exact ⟨HF.out, HB.out.bel⟩
  obtain ⟨st, hst⟩ : ∃ st : Nat, d.start = st := ⟨d.start.toNat, by omega⟩
  have g2 : ¬ (st : Int) < 0 := by omega
  have g3 : ¬ (st : Int) ≥ n := by omega
  cases g4 : ((ne : Int) != n) with
  | true =>
    rw [hst]
    have HF := Lib.hid (HD.out false (decide_eq_false (fun (h : d.ok) => by have := h.el; rw [hne, hn] at this; simp [this] at g4)))
    clear hn hne hnp hno he h35 h36
    go_enter Try.func18, Try.ntmps18
    go_wp2_with (go_at_call 25; go_must (refine (H25.out _ (below_new _ _)).mono ?_); rw [g1]; rintro e w1 ⟨rfl, h1⟩; have f1 := frame1 h1; have C1 := block_cells f1; have HB := Lib.hid ((VI.new _ w).call h1); clear f1 h1)
    go_ret
    exact ⟨HF.out, HB.out.bel⟩
  | false =>
  cases g5 : ((np : Int) != n) with
  | true =>
    rw [hst]
    have HF := Lib.hid (HD.out false (decide_eq_false (fun (h : d.ok) => by have := h.pl; rw [hnp, hn] at this; simp [this] at g5)))
    clear hn hne hnp hno he h35 h36
    go_enter Try.func18, Try.ntmps18
    go_wp2_with (go_at_call 25; go_must (refine (H25.out _ (below_new _ _)).mono ?_); rw [g1]; rintro e w1 ⟨rfl, h1⟩; have f1 := frame1 h1; have C1 := block_cells f1; have HB := Lib.hid ((VI.new _ w).call h1); clear f1 h1)
    go_ret
    exact ⟨HF.out, HB.out.bel⟩
  | false =>
  cases g6 : ((no : Int) != n) with
  | true =>
    rw [hst]
    have HF := Lib.hid (HD.out false (decide_eq_false (fun (h : d.ok) => by have := h.ol; rw [hno, hn] at this; simp [this] at g6)))
    clear hn hne hnp hno he h35 h36
    go_enter Try.func18, Try.ntmps18
    go_wp2_with (go_at_call 25; go_must (refine (H25.out _ (below_new _ _)).mono ?_); rw [g1]; rintro e w1 ⟨rfl, h1⟩; have f1 := frame1 h1; have C1 := block_cells f1; have HB := Lib.hid ((VI.new _ w).call h1); clear f1 h1)
    go_ret
    exact ⟨HF.out, HB.out.bel⟩
  | false =>
  have e1 : ne = n := by simp at g4; omega
  have e2 : np = n := by simp at g5; omega
  have e3 : no = n := by simp at g6; omega
  have hsb := boolsV_at (s := d.eng) (i := d.start) (by omega) (by omega)
  rw [hst] at hsb
  simp only [Int.toNat_natCast] at hsb
  obtain ⟨be, oe, rfl, hbe, hce⟩ := he _ _ hsb
  have hst1 : st < n := by omega
  have hst2 : st < ne := by omega
  have HCE : Hid (∀ w', Below w.heap.size w w' → w'.cell? ⟨be, oe + st, none⟩ = some (.bool (bAt d.eng st))) := Lib.hid (fun w' hb => (hb.cell (p := ⟨be, _, none⟩) hbe).trans hce)
  cases g7 : bAt d.eng (st : Int) with
  | false =>
    have HF := Lib.hid (HD.out false (decide_eq_false (fun (h : d.ok) => by have := h.es; rw [hst, g7] at this; cases this)))
    rw [hst]
    rw [g7] at HCE
    clear hn hne hnp hno he h35 h36 hce hbe hsb e1 e2 e3 g7 hst
    go_enter Try.func18, Try.ntmps18
    go_wp2_with (go_at_call 25; go_must (refine (H25.out _ (below_new _ _)).mono ?_); rw [g1]; rintro e w1 ⟨rfl, h1⟩; have f1 := frame1 h1; have C1 := block_cells f1; have HB := Lib.hid ((VI.new _ w).call h1); have CE := HCE.out _ HB.out.bel; clear f1 h1)
    go_ret
    exact ⟨HF.out, HB.out.bel⟩
  | true =>
    have HOK : Hid ((∀ j, j < n → nOk d (j : Nat)) → (∀ p ∈ d.ml, mOk d p) → d.ml.Nodup → d.ok) := Lib.hid (fun h1 h2 h3 => ⟨g1, by omega, by omega, by omega, by omega, by omega, by rw [hst]; exact g7, by rw [hn]; exact h1, h2, h3⟩)
    have g3n : decide (n ≤ st) = false := decide_eq_false (by omega)
    have g2n : decide ((st : Int) < 0) = false := decide_eq_false (by omega)
    have hmk := @run_makeMap Try.prog
    have hn6 : n ≤ 1000000 := by have := HS.out.g; omega
    have hm6 : m ≤ 1000000 := by have := HS.out.ml; have := HM.out; omega
    have HV35 := Lib.hid (h35 g1 e1 e2 e3)
    have HV36 := Lib.hid (h36 g1 e1)
    rw [hst] at HV35 HV36
    rw [hst]
    rw [g7] at HCE
    clear hn hne hnp hno he h35 h36 hce hbe hsb e1 e2 e3 g7 hst
    go_enter Try.func18, Try.ntmps18
    go_wp2_with (go_at_call 25; go_must (refine (H25.out _ (below_new _ _)).mono ?_); rw [g1]; rintro e w1 ⟨rfl, h1⟩; have f1 := frame1 h1; have C1 := block_cells f1; have HB := Lib.hid ((VI.new _ w).call h1); have CE := HCE.out _ HB.out.bel; clear f1 h1)
    go_loopw [55] (fun t wr => ∃ i : Nat, t = .int .i64 i ∧ i ≤ n ∧ (∀ j, j < i → nOk d (j : Nat)) ∧ VI #[.slice Ag n cg, .int .i64 st, .slice Am m cm, .slice (some ⟨be, oe, none⟩) ne ce, .slice Ap np cp, .slice Ao no co, .bool d.dec] w wr) (fun t _ => n - (intOf t).toNat)
    case atStart => exact ⟨0, rfl, by omega, fun j hj => by omega, HB.out⟩
    case round =>
      clear HB CE C1
      obtain ⟨i, rfl, him, hall, hVI⟩ := hrel
      have HI := Lib.hid hVI
      have C1 := block_cells hVI.blk
      have HALL := Lib.hid hall
      clear hVI hall
      by_cases hlt : i < n
      · have hlt' : (i : Int) < n := by omega
        by_cases hk : nOk d (i : Nat)
        · have HK := Lib.hid hk
          have hk' : decide (nOk d (i : Nat)) = true := decide_eq_true hk
          clear hk
          go_wp2_with (go_at_call 35; go_must (refine (HV35.out i hlt _ HI.out.bel).mono ?_); rw [hk']; rintro e w2 ⟨rfl, h2⟩; have HJ := Lib.hid (HI.out.call h2); clear h2)
          go_roundw
          case rel => exact ⟨i + 1, by go_num, by omega, fun j hj => (by
            by_cases q : j = i
            · subst q; exact HK.out
            · exact HALL.out j (by omega)), HJ.out⟩
          case measure => simp [intOf]; omega
        · have hk' : decide (nOk d (i : Nat)) = false := decide_eq_false hk
          have HF := Lib.hid (HD.out false (decide_eq_false (fun (h : d.ok) => hk (h.nd i (by have := HN.out; omega)))))
          clear hk
          go_wp2_with (go_at_call 35; go_must (refine (HV35.out i hlt _ HI.out.bel).mono ?_); rw [hk']; rintro e w2 ⟨rfl, h2⟩; have HJ := Lib.hid (HI.out.call h2); clear h2)
          go_ret
          exact ⟨HF.out, HJ.out.bel⟩
      · have hlt' : ¬ (i : Int) < n := by omega
        have hie : i = n := by omega
        subst hie
        have C2 := block_cells (block_old HI.out.blk (.map #[] 0))
        have HO0 : Hid ((wr.alloc (.map #[] 0)).ownsMap Try.prog 59 (plainElem Try.prog 4) wr.heap.size 0 (seenD [])) := Lib.hid (World.ownsMap_made wr Try.prog 59 _)
        have HI0 := Lib.hid (HI.out.call (below_new wr (.map #[] 0)))
        have HBW := Lib.hid HI.out.lt
        clear C1
        go_wp2_with fail
        go_loopw [67] (fun t w2 => ∃ k : Nat, t = .int .i64 k ∧ k ≤ m ∧ (∀ j (h : j < d.ml.length), j < k → mOk d d.ml[j]) ∧ (d.ml.take k).Nodup ∧ VI #[.slice Ag i cg, .int .i64 st, .slice Am m cm, .slice (some ⟨be, oe, none⟩) ne ce, .slice Ap np cp, .slice Ao no co, .bool d.dec] w w2 ∧ w2.ownsMap Try.prog 59 (plainElem Try.prog 4) wr.heap.size k (seenD (d.ml.take k))) (fun t _ => m - (intOf t).toNat)
        case atStart => exact ⟨0, rfl, by omega, fun j h hj => by omega, by simp, HI0.out, HO0.out⟩
        case round =>
          clear HI0 HO0 C2 HI
          obtain ⟨k, rfl, hkm, hok, hnd, hVI, hown⟩ := hrel
          have C1 := fun o => block_cells (block_old hVI.blk o)
          have HI := Lib.hid hVI
          have HOW := Lib.hid hown
          have HND := Lib.hid hnd
          have HKO := Lib.hid hok
          clear hVI hown hnd hok
          by_cases hlt : k < m
          · have hkl : k < d.ml.length := by have := HM.out; omega
            have hlt' : (k : Int) < m := by omega
            obtain ⟨bm, om, rfl, hbm, q1, q2, q3⟩ := (HMM.out.below HI.out.bel) k hkl
            have HPM : Hid (d.ml[k] ∈ d.ml) := Lib.hid (List.getElem_mem hkl)
            have HTK : Hid (d.ml.take (k + 1) = d.ml.take k ++ [d.ml[k]]) := Lib.hid (by rw [List.take_add_one, List.getElem?_eq_getElem hkl]; rfl)
            have hkl' := Lib.hid hkl
            have HWF : Hid (∀ x ∈ d.ml.take k, wf64 x.frm ∧ wf64 x.to) := Lib.hid (fun x hx => HS.out.wf x (List.mem_of_mem_take hx))
            have HWP : Hid (wf64 d.ml[k].frm ∧ wf64 d.ml[k].to) := Lib.hid (HS.out.wf _ HPM.out)
            have HKJ : Hid (mOk d d.ml[k] → ∀ j (h : j < d.ml.length), j < k + 1 → mOk d d.ml[j]) := Lib.hid (fun q j h hj => by
              by_cases e : j = k
              · subst e; exact q
              · exact HKO.out j h (by omega))
            clear HKO
            generalize hpp : d.ml[k] = p at *
            have HKEY := Lib.hid (kl_of p HWP.out)
            have HSD := Lib.hid (seenD_at p HWP.out _ HWF.out)
            have hk6 : k ≤ 1000000 := by omega
            clear hpp HWF
            by_cases hin : p ∈ d.ml.take k
            · have HR : Hid ((seenD (d.ml.take k)).atKey (kl p) (.lit (.bool false)) = .lit (.bool true)) := Lib.hid (by rw [HSD.out, decide_eq_true hin])
              have HF := Lib.hid (HD.out false (decide_eq_false (fun (h : d.ok) => by
                have h1 := h.nu.sublist (List.take_sublist (k + 1) d.ml)
                rw [HTK.out, List.nodup_append] at h1
                exact h1.2.2 p hin p (by simp) rfl)))
              clear hin HSD
              go_wp2_with (at_lookup; refine wpList_lookup_own_bool _ rfl _ _ 63 rfl 59 4 law59 under63 under4 (zero4 _) _ k _ rfl (HOW.out.alloc _) p.u (kl p) rfl HKEY.out true HR.out ?_)
              go_ret
              exact ⟨HF.out, (HI.out.call (below_new _ _)).bel⟩
            · have HR : Hid ((seenD (d.ml.take k)).atKey (kl p) (.lit (.bool false)) = .lit (.bool false)) := Lib.hid (by rw [HSD.out, decide_eq_false hin])
              have HNI : Hid ((d.ml.take (k + 1)).Nodup) := Lib.hid (by
                rw [HTK.out, List.nodup_append]
                exact ⟨HND.out, by simp, fun x hx y hy e => by simp at hy; subst hy; subst e; exact hin hx⟩)
              clear hin HSD
              by_cases hmk2 : mOk d p
              · have hmk3 : decide (mOk d p) = true := decide_eq_true hmk2
                have HMK := Lib.hid (HKJ.out hmk2)
                clear hmk2
                go_wp2_with (first
                  | (at_lookup; refine wpList_lookup_own_bool _ rfl _ _ 63 rfl 59 4 law59 under63 under4 (zero4 _) _ k _ rfl (HOW.out.alloc _) p.u (kl p) rfl HKEY.out false HR.out ?_)
                  | (go_at_call 36; go_must (refine (HV36.out p HPM.out _ (HI.out.call (below_new _ _)).bel).mono ?_); rw [hmk3]; rintro e w3 ⟨rfl, h3⟩; have C4 := block_cells (frame1 h3); have HI3 := Lib.hid ((HI.out.call (below_new _ _)).call h3); have HOW3 := Lib.hid ((HOW.out.alloc _).kept (grown_of_below h3) (by simp)); clear h3)
                  | (at_mapUpdate; refine wpList_mapUpdate_own _ rfl _ _ _ 63 rfl 59 4 law59 under63 _ _ k _ rfl HOW3.out (by unfold maxLen; omega) _ _ (kl p) rfl rfl HKEY.out _ [] (plainElem_bool under4 true) ?_; intro w4 hown4 hgrow4; have HI4 := Lib.hid (HI3.out.map hgrow4 HBW.out); have HOW4 := Lib.hid hown4; clear hown4 hgrow4))
                go_roundw
                case rel => exact ⟨k + 1, by go_num, by omega, HMK.out, HNI.out, HI4.out, by rw [HTK.out, seenD_snoc]; exact HOW4.out⟩
                case measure => simp [intOf]; omega
              · have hmk3 : decide (mOk d p) = false := decide_eq_false hmk2
                have HF := Lib.hid (HD.out false (decide_eq_false (fun (h : d.ok) => hmk2 (h.ml _ HPM.out))))
                clear hmk2
                go_wp2_with (first
                  | (at_lookup; refine wpList_lookup_own_bool _ rfl _ _ 63 rfl 59 4 law59 under63 under4 (zero4 _) _ k _ rfl (HOW.out.alloc _) p.u (kl p) rfl HKEY.out false HR.out ?_)
                  | (go_at_call 36; go_must (refine (HV36.out p HPM.out _ (HI.out.call (below_new _ _)).bel).mono ?_); rw [hmk3]; rintro e w3 ⟨rfl, h3⟩; have HI3 := Lib.hid ((HI.out.call (below_new _ _)).call h3); clear h3))
                go_ret
                exact ⟨HF.out, HI3.out.bel⟩
          · have hke : k = m := by omega
            subst hke
            have HF := Lib.hid (HD.out true (decide_eq_true (HOK.out (fun j hj => HALL.out j (by omega)) (fun p hp => by
              obtain ⟨j, hj, rfl⟩ := List.getElem_of_mem hp
              exact HKO.out j hj (by have := HM.out; omega)) (by have := HND.out; rwa [List.take_of_length_le (by have := HM.out; omega)] at this))))
            have hlt' : ¬ (k : Int) < k := by omega
            go_wp2_with fail
            go_ret
            exact ⟨HF.out, HI.out.bel⟩
end Go.Proofs.Ytcjmbkbbhlmkfaa

namespace Go.Proofs.Ytcjmbkbbhlmkfaa
open Go.RowKit Go.Proofs

theorem calls_bool {P : Program} {f : FuncId} {args : List V} {vals : Array Value} {b : Bool} {g : Gh} {w : World} (hpc : PC P f args (fun r => r = .s (.bool b))) (hl : args.length = vals.size) (hi : ∀ x ∈ args, immA x = true) (hr : ∀ (i : Nat) (x : V) (v : Value), args[i]? = some x → vals[i]? = some v → Rep g w x v) (hlt : ∀ k, 0 < g.I k → k < w.heap.size) :
    Calls P f vals w fun e w' => e = .returned (.bool b) ∧ Below w.heap.size w w' := by
  obtain ⟨hbd, hno⟩ := bd_imm hl hi hr hlt
  refine (hpc _ w _ hbd).mono ?_
  rintro e w' ⟨v, r, bs', g', rfl, ⟨rfl, rfl⟩, _, hb, hex⟩
  have hrep := hb.rep (.l (.var 0)) _ v ⟨rfl, by simp [valAt, Frn, Act.tv]⟩
  have := hrep.of_s rfl
  subst this
  exact ⟨rfl, hex.os, hex.tape, hex.output, hex.size, fun k hk => (hex.same k hk (hno k)).1⟩
theorem rep_below {g : Gh} {w w' : World} {x : V} {v : Value} (h : Rep g w x v) (hlt : ∀ k, 0 < g.I k → k < w.heap.size) (hi : immA x = true) (hb : Below w.heap.size w w') : Rep g w' x v := by
  refine h.keep (fun b o ho => ⟨ho, hb.cell (p := ⟨b, o, none⟩) (hlt b (by omega))⟩) ?_ (fun _ _ _ _ => rfl)
  rintro p k ⟨e, z, xs, u, h1, _⟩
  have := immA_sub hi h1 rfl
  simp [immC] at this
theorem rep_any {g : Gh} {w : World} {z : Nat} {xs : List V} {v : Value} (h : Rep g w (.list z xs) v) : ∃ A c, v = .slice A xs.length c := by
  cases h with
  | list vals hc hm hA hz hi hcell hrep => exact ⟨_, _, rfl⟩
theorem lv_flat (xs : List Bool) : flat (lv xs) = lv xs := by
  induction xs with
  | nil => rfl
  | cons x r ih => simp only [lv, List.map_cons, flat, cellsOf] at ih ⊢; rw [ih]; rfl
theorem rep_bools {g : Gh} {w : World} {l : List Bool} {v : Value} (h : Rep g w (.list 1 (lv l)) v) (hlt : ∀ k, 0 < g.I k → k < w.heap.size) : ∃ A c, v = .slice A l.length c ∧ At w A (boolsV l) := by
  cases h with
  | list vals hc hm hA hz hi hcell hrep =>
    rename_i A c
    refine ⟨A, c, by simp, fun j u hj => ?_⟩
    have hjl : j < l.length := by have := (List.getElem?_eq_some_iff.1 hj).1; simpa [boolsV] using this
    have hu : u = .bool l[j] := by simp [boolsV, hjl] at hj; exact hj.symm
    subst hu
    obtain ⟨b, q, e, h1, h2⟩ := hcell j (by rw [lv_flat]; simpa using hjl)
    have hr := hrep j _ (by rw [lv_flat]; exact lv_get hjl)
    refine ⟨b, q, e, hlt b (by omega), ?_⟩
    rw [h2, hr.of_s rfl]
theorem rep_mails {g : Gh} {w : World} {l : List Ml} {v : Value} (h : Rep g w (.list 3 (mv l)) v) (hlt : ∀ k, 0 < g.I k → k < w.heap.size) : ∃ A c, v = .slice A l.length c ∧ MAt w A l := by
  cases h with
  | list vals hc hm hA hz hi hcell hrep =>
    rename_i A c
    refine ⟨A, c, by simp, fun j hj => ?_⟩
    have hfl : (flat (mv l)).length = l.length * 3 := by rw [flat_length hz]; simp
    obtain ⟨b, o, rfl, h1, h2⟩ := hcell (j * 3) (by omega)
    refine ⟨b, o, rfl, hlt b (by omega), ?_⟩
    have hx := mv_get hj
    have cell : ∀ q, q < 3 → ∃ u, (flat (mv l))[j * 3 + q]? = some u ∧ (cellsOf (.agg [.s (.int .i64 l[j].frm), .s (.int .i64 l[j].to), .s (.bool l[j].rep)]))[q]? = some u ∧ ∃ v, w.cell? ⟨b, o + (j * 3 + q), none⟩ = some v ∧ Rep g w u v := by
      intro q hq
      have hf := flat_get (o := q) hz hx hq
      obtain ⟨b', o', e, h3, h4⟩ := hcell (j * 3 + q) (by omega)
      cases e
      have hlt' : j * 3 + q < (flat (mv l)).length := by omega
      refine ⟨_, List.getElem?_eq_getElem hlt', by rw [← hf]; exact List.getElem?_eq_getElem hlt', _, h4, hrep _ _ (List.getElem?_eq_getElem hlt')⟩
    obtain ⟨u0, _, p0, v0, c0, r0⟩ := cell 0 (by omega)
    obtain ⟨u1, _, p1, v1, c1, r1⟩ := cell 1 (by omega)
    obtain ⟨u2, _, p2, v2, c2, r2⟩ := cell 2 (by omega)
    simp [cellsOf] at p0 p1 p2
    have e0 := r0.of_s p0.symm
    have e1 := r1.of_s p1.symm
    have e2 := r2.of_s p2.symm
    subst e0; subst e1; subst e2
    exact ⟨by simpa using c0, by simpa [Nat.add_assoc] using c1, by simpa [Nat.add_assoc] using c2⟩
theorem Valid_pc (d : Df) (hs : d.sm) : PC Try.prog 18 [d.v] (fun r => r = .s (.bool (decide d.ok))) := by
  refine pc_imm (by intro x hx; simp at hx; subst hx; rfl) fun g w vs hsz hrep hlt => ?_
  have hs1 : vs.size = 1 := by simpa using hsz.symm
  have e0 : vs[0]? = some vs[0] := Array.getElem?_eq_getElem (by omega)
  have r0 := hrep 0 _ _ rfl e0
  obtain ⟨cs, hv, hcl, hc⟩ := rep_agg (cs := d.cells) r0
  have hcz : cs.size = 7 := by simpa [Df.cells] using hcl.symm
  have hc' : ∀ j (hj : j < 7), ∀ u, d.cells[j]? = some u → Rep g w u (cs[j]'(by omega)) := fun j hj u hu => hc j u _ hu (Array.getElem?_eq_getElem (by omega))
  obtain ⟨Ag, cg, v0⟩ := rep_any (hc' 0 (by omega) _ rfl)
  have v1 := (hc' 1 (by omega) _ rfl).of_s rfl
  obtain ⟨Am, cm, v2, hmm⟩ := rep_mails (hc' 2 (by omega) _ rfl) hlt
  obtain ⟨Ae, ce, v3, he⟩ := rep_bools (hc' 3 (by omega) _ rfl) hlt
  obtain ⟨Ap, cp, v4⟩ := rep_any (hc' 4 (by omega) _ rfl)
  obtain ⟨Ao, co, v5⟩ := rep_any (hc' 5 (by omega) _ rfl)
  have v6 := (hc' 6 (by omega) _ rfl).of_s rfl
  have hcs : cs = #[.slice Ag d.g.length cg, .int .i64 d.start, .slice Am d.ml.length cm, .slice Ae d.eng.length ce, .slice Ap d.par.length cp, .slice Ao d.opn.length co, .bool d.dec] := by
    apply Array.ext
    · simpa using hcz
    · intro i h1 h2
      have : i = 0 ∨ i = 1 ∨ i = 2 ∨ i = 3 ∨ i = 4 ∨ i = 5 ∨ i = 6 := by omega
      rcases this with rfl | rfl | rfl | rfl | rfl | rfl | rfl
      · simpa using v0
      · simpa using v1
      · simpa using v2
      · simpa using v3
      · simpa using v4
      · simpa using v5
      · simpa using v6
  have hvs : vs = #[.agg #[.slice Ag d.g.length cg, .int .i64 d.start, .slice Am d.ml.length cm, .slice Ae d.eng.length ce, .slice Ap d.par.length cp, .slice Ao d.opn.length co, .bool d.dec]] := by
    apply Array.ext
    · simpa using hs1
    · intro i h1 h2
      have : i = 0 := by omega
      subst this
      rw [hv, hcs]; rfl
  have rg : Rep g w (.list 2 (gv d.g)) (.slice Ag d.g.length cg) := by have := hc' 0 (by omega) _ rfl; rw [v0] at this; simpa using this
  have rv : Rep g w d.v (.agg #[.slice Ag d.g.length cg, .int .i64 d.start, .slice Am d.ml.length cm, .slice Ae d.eng.length ce, .slice Ap d.par.length cp, .slice Ao d.opn.length co, .bool d.dec]) := by rw [← hcs, ← hv]; exact r0
  have hlt' : ∀ {w'}, Below w.heap.size w w' → ∀ k, 0 < g.I k → k < w'.heap.size := fun hb k hk => Nat.lt_of_lt_of_le (hlt k hk) hb.size
  rw [hvs]
  refine (valid_any d Ag Am Ae Ap Ao cg cm ce cp co _ _ _ _ _ w hs rfl rfl rfl rfl rfl he hmm ?_ ?_ ?_).mono ?_
  · intro w' hb
    refine calls_bool (g := g) (wValid_pc d.g hs.nx) rfl (by intro x hx; simp at hx; subst hx; rfl) (fun i x v hx hv' => ?_) (hlt' hb)
    cases i with
    | zero => simp at hx hv'; subst hx; subst hv'; exact rep_below rg hlt rfl hb
    | succ i => simp at hx
  · intro g1 q1 q2 q3 i hi w' hb
    refine calls_bool (g := g) (validNode_pc d hs q1 q2 q3 i hi) rfl (by intro x hx; simp at hx; rcases hx with rfl | rfl <;> rfl) (fun i x v hx hv' => ?_) (hlt' hb)
    match i with
    | 0 => simp at hx hv'; subst hx; subst hv'; exact rep_below rv hlt rfl hb
    | 1 => simp at hx hv'; subst hx; subst hv'; exact .s rfl
    | i + 2 => simp at hx
  · intro g1 q1 p hp w' hb
    refine calls_bool (g := g) (validMail_pc d hs g1 q1 p) rfl (by intro x hx; simp at hx; rcases hx with rfl | rfl <;> rfl) (fun i x v hx hv' => ?_) (hlt' hb)
    match i with
    | 0 => simp at hx hv'; subst hx; subst hv'; exact rep_below rv hlt rfl hb
    | 1 =>
      simp at hx hv'; subst hx; subst hv'
      refine .agg rfl (by intro c hc; simp at hc; rcases hc with rfl | rfl | rfl <;> rfl) (fun j u c hu hc => ?_)
      match j with
      | 0 => simp at hu hc; subst hu; subst hc; exact .s rfl
      | 1 => simp at hu hc; subst hu; subst hc; exact .s rfl
      | 2 => simp at hu hc; subst hu; subst hc; exact .s rfl
      | j + 3 => simp at hu
    | i + 2 => simp at hx
  · rintro e' w' ⟨rfl, hbel⟩
    refine ⟨_, .s (.bool (decide d.ok)), newI g w w', rfl, rfl, rfl, rfl, fun b hb => by simp [newI, hb], fun b hb => ?_, .s rfl, hbel⟩
    simp only [newI] at hb
    split at hb
    · have := hlt b hb
      have := hbel.size
      omega
    · exact blk_lt hb
end Go.Proofs.Ytcjmbkbbhlmkfaa

namespace Go.Proofs.Ytcjmbkbbhlmkfaa
open Go.RowKit Go.Proofs

def Df.over (d : Df) : Bool := decide (d.ml = [] ∧ d.ok)
theorem Over_pc (d : Df) (hs : d.sm) : PC Try.prog 16 [d.v] (fun r => r = .s (.bool d.over)) := by
  refine pc_end c16 mixed rfl ?_
  cases h : d.ml with
  | nil =>
    simp -implicitDefEqProofs [a16, F16, Df.v, Df.cells, h, mv]
    refine wk_take ?_
    simp -implicitDefEqProofs
    have hv := Valid_pc d hs
    simp only [Df.v, Df.cells, h, mv, List.map_nil] at hv
    refine wc_of hv (by simp) (by simp) ?_
    rintro _ rfl
    simp -implicitDefEqProofs [Df.over, h]
  | cons p l =>
    have h1 : ((l.length : Int) + 1 == 0) = false := by simp; omega
    simp -implicitDefEqProofs [a16, F16, Df.v, Df.cells, h, h1, Df.over]
theorem rOver_pc (d : Df) (hs : d.sm) : PC Try.prog 17 [d.v] (fun r => r = .s (.bool d.over)) := by
  refine pc_end c17 mixed rfl ?_
  simp -implicitDefEqProofs [a17, F17, Df.v, Df.cells]
  refine wk_take ?_
  simp -implicitDefEqProofs
  have hv := rValid_pc d hs
  simp only [Df.v, Df.cells] at hv
  refine wc_of hv (by simp) (by simp) ?_
  rintro _ rfl
  by_cases ho : d.ok
  · cases h : d.ml with
    | nil => simp -implicitDefEqProofs [ho, Df.over, h, mv]
    | cons p l =>
      have h1 : ¬ ((l.length : Int) + 1 = 0) := by omega
      simp -implicitDefEqProofs [ho, Df.over, h, h1]
  · simp -implicitDefEqProofs [ho, Df.over]

theorem Df.ext' {a b : Df} (h1 : a.g = b.g) (h2 : a.start = b.start) (h3 : a.ml = b.ml) (h4 : a.eng = b.eng) (h5 : a.par = b.par) (h6 : a.opn = b.opn) (h7 : a.dec = b.dec) : a = b := by cases a; cases b; simp_all
def sm12 (a b : Df) (m : Nat) (S : St) : Prop := ∃ i, i + m = a.ml.length ∧ a.ml.take i = b.ml.take i ∧ S = ⟨tmL [(2, .ptr 0 0), (3, .ptr 1 0)], [a.v, b.v, .s (.bool false), .s (.int .i64 i)], [a.cells, b.cells], 0⟩
set_option maxHeartbeats 8000000 in
set_option maxRecDepth 10000 in
theorem Same_pc (a b : Df) (ha : a.sm) : PC Try.prog 12 [a.v, b.v] (fun r => r = .s (.bool (decide (a = b)))) := by
  refine pc_end c12 mixed rfl ?_
  simp -implicitDefEqProofs [a12, F12, Df.v, Df.cells]
  refine wk_take ?_
  simp -implicitDefEqProofs
  refine wc_of (SameG_pc a.g b.g ha.g ha.nx) (by simp) (by simp) ?_
  rintro _ rfl
  by_cases h1 : a.g = b.g
  case neg =>
    have : ¬ a = b := fun q => h1 (by rw [q])
    simp -implicitDefEqProofs [h1, this]
  cases h2 : (a.start != b.start)
  case' true =>
    have : ¬ a = b := fun q => by subst q; simp at h2
    simp -implicitDefEqProofs [h1, h2, this]
  have h2' : a.start = b.start := by simpa using h2
  by_cases h3 : a.dec = b.dec
  case neg =>
    have : ¬ a = b := fun q => h3 (by rw [q])
    have h3' : (a.dec == b.dec) = false := by simpa using h3
    simp -implicitDefEqProofs [h1, h2, h3', this]
  have h3' : (a.dec == b.dec) = true := by simpa using h3
  simp -implicitDefEqProofs [h1, h2, h3']
  refine wk_take ?_
  simp -implicitDefEqProofs
  refine wc_of (SameBools_pc a.eng b.eng ha.eng) (by simp) (by simp) ?_
  rintro _ rfl
  by_cases h4 : a.eng = b.eng
  case neg =>
    have : ¬ a = b := fun q => h4 (by rw [q])
    simp -implicitDefEqProofs [h4, this]
  simp -implicitDefEqProofs [h4]
  refine wk_take ?_
  simp -implicitDefEqProofs
  refine wc_of (SameInts_pc a.par b.par ha.par) (by simp) (by simp) ?_
  rintro _ rfl
  by_cases h5 : a.par = b.par
  case neg =>
    have : ¬ a = b := fun q => h5 (by rw [q])
    simp -implicitDefEqProofs [h5, this]
  simp -implicitDefEqProofs [h5]
  refine wk_take ?_
  simp -implicitDefEqProofs
  refine wc_of (SameInts_pc a.opn b.opn ha.opn) (by simp) (by simp) ?_
  rintro _ rfl
  by_cases h6 : a.opn = b.opn
  case neg =>
    have : ¬ a = b := fun q => h6 (by rw [q])
    simp -implicitDefEqProofs [h6, this]
  cases h7 : ((a.ml.length : Int) != b.ml.length)
  case' true =>
    have : ¬ a = b := fun q => by subst q; simp at h7
    simp -implicitDefEqProofs [h6, h7, this]
  have h7' : a.ml.length = b.ml.length := by simp at h7; omega
  simp -implicitDefEqProofs [h6, h7]
  refine w_rounds [2, 3] [] 2 (by simp) (sm12 a b) a.ml.length ⟨by simp, 0, by simp, by simp, by simp [Df.v, Df.cells, h1, h2', h3, h4, h5, h6]⟩ ?_
  rintro m S ⟨i, hi, ht, rfl⟩
  by_cases hm : i < a.ml.length
  · have i1 : (i : Int) < a.ml.length := by omega
    have i0 : ¬ (i : Int) < 0 := by omega
    have hm' : i < b.ml.length := by omega
    have p1 := mv_get hm
    have p2 := mv_get hm'
    by_cases he : a.ml[i] = b.ml[i]
    · rw [← he] at p2
      simp -implicitDefEqProofs [Df.v, Df.cells, i1, i0, p1, p2]
      exact ⟨m - 1, by omega, i + 1, by omega, take_eq1 hm hm' ht he, by rw [wrap64 (by have := ha.ml; omega)]; rfl⟩
    · have : ¬ a = b := fun q => he (by subst q; rfl)
      have he' : (a.ml[i].frm == b.ml[i].frm && (a.ml[i].to == b.ml[i].to && a.ml[i].rep == b.ml[i].rep)) = false := by
        cases q : (a.ml[i].frm == b.ml[i].frm && (a.ml[i].to == b.ml[i].to && a.ml[i].rep == b.ml[i].rep))
        · rfl
        · simp at q
          exact absurd (Ml.ext' q.1 q.2.1 q.2.2) he
      simp -implicitDefEqProofs [Df.v, Df.cells, i1, i0, p1, p2, he', this]
  · have i1 : ¬ (i : Int) < a.ml.length := by omega
    have h8 : a.ml = b.ml := by rwa [List.take_of_length_le (by omega), List.take_of_length_le (by omega)] at ht
    have : a = b := Df.ext' h1 h2' h8 h4 h5 h6 h3
    have i2 : ¬ i < b.ml.length := by omega
    simp -implicitDefEqProofs [Df.v, Df.cells, i2, this]
end Go.Proofs.Ytcjmbkbbhlmkfaa

namespace Go.Proofs.Ytcjmbkbbhlmkfaa
open Go.RowKit Go.Proofs

theorem node_getElem {g : List Nd} {i : Nat} (h : i < g.length) : g[i] = nodeAt g i := by
  rw [nodeAt, List.getD_eq_getElem?_getD]; simp [List.getElem?_eq_getElem h]
theorem lv_rep (n : Nat) (b : Bool) : lv (List.replicate n b) = List.replicate n (.s (.bool b)) := by simp [lv]
theorem iv_rep (n : Nat) (b : Int) : iv (List.replicate n b) = List.replicate n (.s (.int .i64 b)) := by simp [iv]
theorem lv_set (s : List Bool) (i : Nat) (b : Bool) : (lv s).set i (.s (.bool b)) = lv (s.set i b) := by simp [lv, List.map_set]
theorem iv_set (s : List Int) (i : Nat) (b : Int) : (iv s).set i (.s (.int .i64 b)) = iv (s.set i b) := by simp [iv, List.map_set]
/-- a computation in a box, its rows its own -/
def Df.box (d : Df) : List V := [.list 2 (gv d.g), .s (.int .i64 d.start), .own true 59 3 (mv d.ml), .own true 4 1 (lv d.eng), .own true 3 1 (iv d.par), .own true 3 1 (iv d.opn), .s (.bool d.dec)]
theorem Df.box_ok (d : Df) : d.box.all cellB = true := rfl
/-- queries along a node's edges -/
def Df.ask (d : Df) (i : Int) : Df := { d with opn := d.opn.set i.toNat (nodeAt d.g i).next.length, ml := d.ml ++ qrs i (nodeAt d.g i).next }
def askInv (d : Df) (i : Int) (o : List Int) (l : List Int) (m : Nat) (S : St) : Prop := ∃ j, j + m = l.length ∧ S = ⟨tmL [(28, .list 1 (iv l)), (29, .s (.int .i64 l.length)), (30, .s (.int .i64 j))], [.ptr 0 0, .s (.int .i64 i), .no], [({ d with opn := o, ml := d.ml ++ qrs i (l.take j) } : Df).box], 0⟩
set_option maxHeartbeats 8000000 in
set_option maxRecDepth 10000 in
theorem ask_ac (d : Df) (i : Int) (h0 : 0 ≤ i) (hi : i < d.g.length) (ho : d.opn.length = d.g.length) (hx : (nodeAt d.g i).next.length ≤ 1000000) (hl : d.ml.length ≤ 1000000) : AC Try.prog 27 [.ptr 0 0, .s (.int .i64 i)] [d.box] (fun r bs => r = .tup [] ∧ bs = [(d.ask i).box]) := by
  refine ac_end c27 mixed rfl ?_
  have i0 : ¬ i < 0 := by omega
  have i1 : i.toNat < d.g.length := by omega
  have i2 : i.toNat < d.opn.length := by omega
  have hg := gv_ate (g := d.g) (i := i) (by omega) (by omega)
  have hO := iv_ate (s := d.opn) (i := i) (by omega) (by omega)
  simp -implicitDefEqProofs [a27, F27, Df.box, i0, i1, i2, hi, ho, hg, hO, iv_set, Df.ask]
  revert hx
  generalize (nodeAt d.g i).next = l
  intro hx
  refine w_rounds [28, 29, 30] [2] 1 (by simp) (askInv d i (d.opn.set i.toNat l.length) l) l.length ⟨by simp, 0, by simp, by simp [Df.box, qrs]⟩ ?_
  rintro m S ⟨j, hj, rfl⟩
  by_cases hm : j < l.length
  · have h1 : (j : Int) < l.length := by omega
    have h0 : ¬ (j : Int) < 0 := by omega
    have hlen : min j l.length = j := by omega
    have b1 : d.ml.length + j + 1 ≤ maxLen ∧ (d.ml.length + j + 1) * 24 ≤ maxBytes := by simp [maxLen, maxBytes]; omega
    simp -implicitDefEqProofs [h1, h0, Df.box, iv_get hm, hlen, b1, qrs_take1 hm]
    exact ⟨m - 1, by omega, j + 1, by omega, by rw [wrap64 (by omega)]; simp [Df.box, mv_append, ← qrs_take1 hm]⟩
  · have h1 : ¬ (j : Int) < l.length := by omega
    have h2 : j = l.length := by omega
    simp -implicitDefEqProofs [h2, Df.box]
    refine retA_of 1 ?_
    simp -implicitDefEqProofs
end Go.Proofs.Ytcjmbkbbhlmkfaa

namespace Go.Proofs.Ytcjmbkbbhlmkfaa
open Go.RowKit Go.Proofs

/-- a mail taken out -/
def cut (l : List Ml) (k : Int) : List Ml := l.take k.toNat ++ l.drop (k.toNat + 1)
theorem cut_length {l : List Ml} {k : Int} (h : k.toNat < l.length) : (cut l k).length + 1 = l.length := by simp [cut]; omega
theorem CloneI_pc (l : List Int) (h : l.length ≤ 1000000) (hn : l ≠ []) : PC Try.prog 38 [.list 1 (iv l)] (fun r => r = .own true 3 1 (iv l)) := by
  refine pc_end c38 mixed rfl ?_
  have b1 : l.length ≤ maxLen ∧ l.length * 8 ≤ maxBytes := by simp [maxLen, maxBytes]; omega
  have h0 : l.length ≠ 0 := by simpa using hn
  have h1 : iv l ≠ [] := by simpa [iv] using hn
  simp -implicitDefEqProofs [a38, F38, b1, h0, h1, WO_isn]
theorem CloneB_pc (l : List Bool) (h : l.length ≤ 1000000) (hn : l ≠ []) : PC Try.prog 39 [.list 1 (lv l)] (fun r => r = .own true 4 1 (lv l)) := by
  refine pc_end c39 mixed rfl ?_
  have b1 : l.length ≤ maxLen ∧ l.length * 1 ≤ maxBytes := by simp [maxLen, maxBytes]; omega
  have b2 : l.length ≤ maxBytes := by simp [maxBytes]; omega
  have h0 : l.length ≠ 0 := by simpa using hn
  have h1 : lv l ≠ [] := by simpa [lv] using hn
  simp -implicitDefEqProofs [a39, F39, b1, b2, h0, h1, WO_isn]
theorem mv_cut (l : List Ml) (k : Nat) : (mv l).take k ++ (mv l).drop (k + 1) = mv (l.take k ++ l.drop (k + 1)) := by simp [mv, List.map_take, List.map_drop]
set_option maxHeartbeats 8000000 in
set_option maxRecDepth 10000 in
theorem without_pc (d : Df) (hs : d.sm) (k : Int) (h0 : 0 ≤ k) (hk : k < d.ml.length) (n1 : d.eng ≠ []) (n2 : d.par ≠ []) (n3 : d.opn ≠ []) : PC Try.prog 33 [d.v, .s (.int .i64 k)] (fun r => r = .agg ({ d with ml := cut d.ml k } : Df).box) := by
  refine pc_end c33 mixed rfl ?_
  simp -implicitDefEqProofs [a33, F33, Df.v, Df.cells]
  refine wkd_take ?_
  simp -implicitDefEqProofs
  refine wcd_of (copyGraph_pc d.g hs.g hs.nx) (by simp) (by simp) ?_
  simp -implicitDefEqProofs
  refine wk_take ?_
  simp -implicitDefEqProofs
  refine wc_of (CloneB_pc d.eng hs.eng n1) (by simp) (by simp) ?_
  rintro _ rfl
  simp -implicitDefEqProofs
  refine wk_take ?_
  simp -implicitDefEqProofs
  refine wc_of (CloneI_pc d.par hs.par n2) (by simp) (by simp) ?_
  rintro _ rfl
  simp -implicitDefEqProofs
  refine wk_take ?_
  simp -implicitDefEqProofs
  refine wc_of (CloneI_pc d.opn hs.opn n3) (by simp) (by simp) ?_
  rintro _ rfl
  have k0 : ¬ k < 0 := by omega
  have k1 : k.toNat ≤ d.ml.length := by omega
  have k3 : ¬ k + 1 < 0 := by omega
  have k4 : (k + 1).toNat = k.toNat + 1 := by omega
  have k5 : k.toNat + 1 ≤ d.ml.length := by omega
  have hm := hs.ml
  have kw : IntKind.i64.wrap (k + 1) = k + 1 := by rw [wrap64 (by omega)]
  have k6 : min k.toNat d.ml.length = k.toNat := by omega
  have b1 : k.toNat ≤ maxLen ∧ k.toNat * 24 ≤ maxBytes := by simp [maxLen, maxBytes]; omega
  have b2 : k.toNat + (d.ml.length - (k.toNat + 1)) ≤ maxLen ∧ (k.toNat + (d.ml.length - (k.toNat + 1))) * 24 ≤ maxBytes := by simp [maxLen, maxBytes]; omega
  have k7 : (d.ml.drop (k.toNat + 1)).take (d.ml.length - (k.toNat + 1)) = d.ml.drop (k.toNat + 1) := List.take_of_length_le (by simp)
  simp -implicitDefEqProofs [k7, k0, k1, k3, k4, k5, kw, k6, b1, b2, Df.box, cut, ← List.map_take, ← List.map_drop, mv]
/-- a copy: the graph's row is its own too -/
def Df.rbox (d : Df) : List V := [.own true 42 2 (gv d.g), .s (.int .i64 d.start), .own true 59 3 (mv d.ml), .own true 4 1 (lv d.eng), .own true 3 1 (iv d.par), .own true 3 1 (iv d.opn), .s (.bool d.dec)]
set_option maxHeartbeats 8000000 in
set_option maxRecDepth 10000 in
theorem Copy_pc (d : Df) (hs : d.sm) : PC Try.prog 34 [d.v] (fun r => r = .agg d.rbox) := by
  refine pc_end c34 mixed rfl ?_
  simp -implicitDefEqProofs [a34, F34, Df.v, Df.cells]
  refine wk_take ?_
  simp -implicitDefEqProofs
  refine wc_of (rCopy_pc d.g hs.g hs.nx) (by simp) (by simp) ?_
  rintro _ rfl
  have hm := hs.ml
  have he := hs.eng
  have hp := hs.par
  have ho := hs.opn
  have b1 : d.ml.length ≤ maxLen ∧ d.ml.length * 24 ≤ maxBytes := by simp [maxLen, maxBytes]; omega
  have b2 : d.eng.length ≤ maxLen ∧ d.eng.length ≤ maxBytes := by simp [maxLen, maxBytes]; omega
  have b3 : d.par.length ≤ maxLen ∧ d.par.length * 8 ≤ maxBytes := by simp [maxLen, maxBytes]; omega
  have b4 : d.opn.length ≤ maxLen ∧ d.opn.length * 8 ≤ maxBytes := by simp [maxLen, maxBytes]; omega
  simp -implicitDefEqProofs [b1, b2, b3, b4, Df.rbox]
end Go.Proofs.Ytcjmbkbbhlmkfaa

namespace Go.Proofs.Ytcjmbkbbhlmkfaa
open Go.RowKit Go.Proofs

theorem hand2 {bx : List (List V)} {B : List V} {q : Nat} {v : Value} (h : bx[q]? = some B) (hc : B.all cellB = true) : handOk bx [.ptr q 0, .s v] [] [q] [.ptr 0 0, .s v] [B] := by
  have hq := (List.getElem?_eq_some_iff.1 h).1
  exact ⟨by simp [ren, renA, renL, fzs], rfl, rfl, rfl, by simpa using hq, by simp [h], by simp [hc]⟩
def zDs : List V := [.s (.slice none 0 0), .s (.int .i64 0), .s (.slice none 0 0), .s (.slice none 0 0), .s (.slice none 0 0), .s (.slice none 0 0), .s (.bool false)]
def zD : V := .agg zDs
/-- what the functions return -/
def res (e : Int) (d : Df) : V := .tup [if e = 0 then d.v else zD, .s (.int .i64 e)]
def begE (g : List Nd) (s : Int) : Int := if gOk g = false then 2 else if s < 0 ∨ g.length ≤ s then 1 else if (nodeAt g s).k = 0 then 14 else 0
def begD0 (g : List Nd) (s : Int) : Df := ⟨g, s, [], (List.replicate g.length false).set s.toNat true, List.replicate g.length (-1), List.replicate g.length 0, false⟩
def begD (g : List Nd) (s : Int) : Df := (begD0 g s).ask s
/-- parents, the first i of them set -/
def fillP (n i : Nat) : List Int := List.replicate i (-1) ++ List.replicate (n - i) 0
theorem fillP_len {n i : Nat} (h : i ≤ n) : (fillP n i).length = n := by simp [fillP]; omega
theorem fillP_set {n i : Nat} (h : i < n) : (fillP n i).set i (-1) = fillP n (i + 1) := by
  unfold fillP
  rw [List.set_append_right _ _ (by simp), List.length_replicate, Nat.sub_self, show n - i = (n - (i + 1)) + 1 from by omega, List.replicate_succ, List.set_cons_zero, List.replicate_succ']
  simp
theorem fillP_at {n i : Nat} (h : i < n) (h' : i < (iv (fillP n i)).length) : (iv (fillP n i))[i] = .s (.int .i64 0) := by
  simp only [iv, List.getElem_map, fillP]
  rw [List.getElem_append_right (by simp)]
  simp
theorem fillP_end (n : Nat) : fillP n n = List.replicate n (-1) := by simp [fillP]
def pInv (g : List Nd) (s : Int) (m : Nat) (S : St) : Prop := ∃ i, i + m = g.length ∧ S = ⟨tmL [(4, .ptr 0 0), (7, .ptr 1 0), (43, .s (.int .i64 g.length)), (44, .s (.int .i64 i))], [.list 2 (gv g), .s (.int .i64 s), .s (.int .i64 0), .s (.int .i64 g.length), .no], [zDs, [.list 2 (gv g), .s (.int .i64 s), .s (.slice none 0 0), .own true 4 1 (lv (List.replicate g.length false)), .own true 3 1 (iv (fillP g.length i)), .own true 3 1 (iv (List.replicate g.length 0)), .s (.bool false)]], 0⟩
set_option maxHeartbeats 16000000 in
set_option maxRecDepth 10000 in
theorem Begin_pc (g : List Nd) (s : Int) (hl : g.length ≤ 1000000) (hn : ∀ n ∈ g, n.next.length ≤ 1000000) : PC Try.prog 10 [.list 2 (gv g), .s (.int .i64 s)] (fun r => r = res (begE g s) (begD g s)) := by
  refine pc_end c10 mixed rfl ?_
  simp -implicitDefEqProofs [a10, F10]
  refine wk_take ?_
  simp -implicitDefEqProofs
  refine wc_of (wValid_pc g hn) (by simp) (by simp) ?_
  rintro _ rfl
  by_cases g1 : gOk g = false
  · simp -implicitDefEqProofs [g1, res, begE, zD, zDs]
  have g1 : gOk g = true := by simpa using g1
  by_cases g2 : s < 0
  · simp -implicitDefEqProofs [g1, g2, res, begE, zD, zDs]
  by_cases g3 : s ≥ g.length
  · have g3' : (g.length : Int) ≤ s := g3
    simp -implicitDefEqProofs [g1, g2, g3, g3', res, begE, zD, zDs]
  have g3' : ¬ (g.length : Int) ≤ s := g3
  have g4 := gv_at (g := g) (i := s) (by omega) (by omega)
  cases g5 : ((nodeAt g s).k == 0)
  case' true =>
    have g5' : (nodeAt g s).k = 0 := eq_of_beq g5
    simp -implicitDefEqProofs [g1, g2, g3, g3', g4, g5, g5', res, begE, zD, zDs]
  have g5' : ¬ (nodeAt g s).k = 0 := by simpa using g5
  simp -implicitDefEqProofs [g1, g2, g3, g4, g5]
  refine wkd_take ?_
  simp -implicitDefEqProofs
  refine wcd_of (copyGraph_pc g hl hn) (by simp) (by simp) ?_
  have b1 : g.length ≤ maxLen ∧ g.length ≤ 140737488355328 ∧ g.length * 8 ≤ 140737488355328 := by simp [maxLen]; omega
  simp -implicitDefEqProofs [b1]
  refine w_rounds [4, 7, 43, 44] [4] 2 (by simp) (pInv g s) g.length ⟨by simp, 0, by simp, by simp [fillP, lv_rep, iv_rep, zDs]⟩ ?_
  rintro m S ⟨i, hi, rfl⟩
  by_cases hm : i < g.length
  · have h1 : (i : Int) < g.length := by omega
    have h0 : ¬ (i : Int) < 0 := by omega
    have hlen := fillP_len (n := g.length) (i := i) (by omega)
    simp -implicitDefEqProofs [h1, h0, hlen, hm, fillP_at hm, iv_set, fillP_set hm, zDs]
    exact ⟨m - 1, by omega, i + 1, by omega, by rw [wrap64 (by omega)]; rfl⟩
  have h1 : ¬ (i : Int) < g.length := by omega
  have h2 : i = g.length := by omega
  subst h2
  have i1 : s.toNat < g.length := by omega
  have e1 : (lv (List.replicate g.length false))[s.toNat]'(by simpa using i1) = .s (.bool false) := by simp [lv]
  have hx := hn _ (nodeAt_mem (g := g) (i := s) (by omega) (by omega))
  simp -implicitDefEqProofs [fillP_end, g2, i1, e1, lv_set, zDs]
  refine wk_hand ?_
  simp -implicitDefEqProofs
  refine wa_of (ask_ac (begD0 g s) s (by omega) (by simp only [begD0]; omega) (by simp [begD0]) (by simpa [begD0] using hx) (by simp [begD0])) (hand2 (q := 1) (by simp [begD0, Df.box, mv]) (Df.box_ok _)) ?_
  rintro _ _ ⟨rfl, rfl⟩
  refine ⟨rfl, ?_⟩
  have hk : (begD0 g s).g = g := rfl
  simp -implicitDefEqProofs [Df.box, g1, g2, g3', g5', res, begE, begD, Df.v, Df.cells]
end Go.Proofs.Ytcjmbkbbhlmkfaa
