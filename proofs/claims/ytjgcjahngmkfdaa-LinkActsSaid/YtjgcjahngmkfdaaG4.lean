/- Texts put behind one another: R1, R2. -/
import Derived.Test.YtjgcjahngmkfdaaG3
import Derived.ProofKit
import Derived.ChangeArms
import Derived.WideShapes
import Derived.Below
set_option linter.unusedVariables false
set_option linter.unusedSimpArgs false
namespace Go.Proofs.Ytjgcjahngmkfdaa
open Go.RowKit

/-- cells and their trees -/
structure Rd (w : World) (g : Gh) (cs : List Value) (xs : List V) : Prop where
  len : xs.length = cs.length
  rep : ∀ (j : Nat) (x : V) (c : Value), xs[j]? = some x → cs[j]? = some c → Rep (allG w g) w x c ∧ immC x = true ∧ c.oneCell' = true
def elemD (P : Program) (e : TypeId) (xs : List V) : V := if aggT P e = some true then .agg xs else xs.headD .no
/-- what trees a type has -/
def Shape (P : Program) : Nat → TypeId → List V → Prop
  | 0, _, _ => False
  | f + 1, t, xs =>
    match P.underlying t with
    | some .bool => ∃ b, xs = [.s (.bool b)]
    | some (.int k) => ∃ n, (Lit.int k n).wf = true ∧ xs = [.s (.int k n)]
    | some .string => ∃ s : ByteArray, s.size ≤ maxLen ∧ xs = [.s (.string s)]
    | some (.slice e) => ∃ els : List (List V), xs = [.list (P.cellsOf e) (els.map (elemD P e))] ∧ els.length ≤ maxLen ∧ ∀ el ∈ els, Shape P f e el
    | some (.struct fs) => ∃ parts : List (List V), xs = parts.flatten ∧ parts.length = fs.size ∧ ∀ (i : Nat) (fl : Field) (p : List V), fs[i]? = some fl → parts[i]? = some p → Shape P f fl.type p
    | _ => False
/-- fields that lie one behind the other -/
def contig (P : Program) : List Field → Nat → Bool
  | [], _ => true
  | f :: r, off => decide (f.offset = off) && contig P r (off + P.cellsOf f.type)
def sumCells (P : Program) : List Field → Nat
  | [] => 0
  | f :: r => P.cellsOf f.type + sumCells P r
/-- types that trees know -/
def okTy (P : Program) : Nat → TypeId → Bool
  | 0, _ => false
  | f + 1, t =>
    match P.underlying t with
    | some .bool | some (.int _) | some .string => Nat.beq (P.cellsOf t) 1
    | some (.slice e) => Nat.beq (P.cellsOf t) 1 && okTy P f e && ((match aggT P e with | some true => true | some false => Nat.beq (P.cellsOf e) 1 | none => false))
    | some (.struct fs) => contig P fs.toList 0 && Nat.beq (sumCells P fs.toList) (P.cellsOf t) && fs.all fun fl => okTy P f fl.type
    | _ => false
section
variable {H : Type} {enc : TypeId × Value → H} {P : Program} {w : World} {g : Gh} {base : Nat} {sp : Nat → Bool} {held : Bool}
theorem cut_parts : ∀ (fs : List Field) (off : Nat) (cs : List Value) (parts : List (List V)), contig P fs off = true → off + sumCells P fs = cs.length → parts.length = fs.length →
    (∀ (i : Nat) (fl : Field) (p : List V), fs[i]? = some fl → parts[i]? = some p → Rd w g ((cs.drop fl.offset).take (P.cellsOf fl.type)) p) → Rd w g (cs.drop off) parts.flatten
  | [], off, cs, parts, hc, hl, hp, h => by
    have : parts = [] := List.length_eq_zero_iff.1 hp
    subst this
    simp only [sumCells, Nat.add_zero] at hl
    rw [List.drop_of_length_le (by omega)]
    exact ⟨rfl, fun j x c hx => by simp at hx⟩
  | f :: r, off, cs, [], hc, hl, hp, h => by simp at hp
  | f :: r, off, cs, p :: ps, hc, hl, hp, h => by
    simp only [contig, Bool.and_eq_true, decide_eq_true_eq] at hc
    simp only [sumCells] at hl
    have h0 := h 0 f p rfl rfl
    have ih := cut_parts r (off + P.cellsOf f.type) cs ps hc.2 (by omega) (by simpa using hp) (fun i fl q hi hq => h (i + 1) fl q (by simpa using hi) (by simpa using hq))
    rw [hc.1] at h0
    have hp0 : p.length = P.cellsOf f.type := by rw [h0.len]; simp; omega
    refine ⟨?_, fun j x c hx hcj => ?_⟩
    · have := ih.len
      simp only [List.flatten_cons, List.length_append, List.length_drop] at this ⊢
      omega
    · simp only [List.flatten_cons, List.getElem?_append] at hx
      split at hx
      · next hj =>
        refine h0.rep j x c hx ?_
        rw [List.getElem?_take, if_pos (by omega)]
        exact hcj
      · next hj =>
        refine ih.rep (j - p.length) x c hx ?_
        rw [List.getElem?_drop] at hcj ⊢
        rw [← hcj]
        congr 1
        omega
theorem rd_one {c : Value} (h : c.oneCell' = true) : Rd w g [c] [.s c] := ⟨rfl, fun j x c' hx hc => by
  cases j with
  | zero => simp at hx hc; subst hx hc; exact ⟨.s h, rfl, h⟩
  | succ j => simp at hx⟩
theorem choose_list {α : Type} {Q : Nat → α → Prop} : ∀ (n : Nat), (∀ i, i < n → ∃ a, Q i a) → ∃ l : List α, l.length = n ∧ ∀ (i : Nat) (a : α), l[i]? = some a → Q i a
  | 0, _ => ⟨[], rfl, by simp⟩
  | n + 1, h => by
    obtain ⟨l, h1, h2⟩ := choose_list n (fun i hi => h i (by omega))
    obtain ⟨a, ha⟩ := h n (by omega)
    refine ⟨l ++ [a], by simp [h1], fun i b hi => ?_⟩
    rw [List.getElem?_append] at hi
    split at hi
    · exact h2 i b hi
    · have : i = n := by
        have := (List.getElem?_eq_some_iff.1 hi).1
        simp at this
        omega
      subst this
      rw [h1] at hi
      simp at hi
      subst hi
      exact ha
theorem shape_of : ∀ (dep : Nat) (t : TypeId), okTy P dep t = true → ∀ (fuel : Nat) (cs : List Value) (x : DataW H × List MemPlace), DataW.trod enc P w base sp held fuel t cs = some x → ∃ xs, Rd w g cs xs ∧ Shape P dep t xs ∧ cs.length = P.cellsOf t
  | 0, t, h => by simp [okTy] at h
  | dep + 1, t, hok => fun fuel cs x h => by
    unfold okTy at hok
    unfold Shape
    cases hu : P.underlying t with
    | none => rw [hu] at hok; simp at hok
    | some td =>
      rw [hu] at hok
      cases td with
      | bool =>
        have h1 := Nat.eq_of_beq_eq_true hok
        obtain ⟨b, rfl⟩ : ∃ b, cs = [.bool b] := by
          cases fuel with
          | zero => simp [DataW.trod] at h
          | succ n =>
            unfold DataW.trod at h
            rw [hu] at h
            split at h <;> simp_all
        exact ⟨[.s (.bool b)], rd_one rfl, ⟨b, rfl⟩, by simp [h1]⟩
      | int k =>
        have h1 := Nat.eq_of_beq_eq_true hok
        obtain ⟨n, hn, rfl⟩ : ∃ n, (Lit.int k n).wf = true ∧ cs = [.int k n] := by
          cases fuel with
          | zero => simp [DataW.trod] at h
          | succ n =>
            unfold DataW.trod at h
            rw [hu] at h
            split at h <;> simp_all
        exact ⟨[.s (.int k n)], rd_one rfl, ⟨n, hn, rfl⟩, by simp [h1]⟩
      | string =>
        have h1 := Nat.eq_of_beq_eq_true hok
        obtain ⟨s, hs, rfl⟩ : ∃ s : ByteArray, s.size ≤ maxLen ∧ cs = [.string s] := by
          cases fuel with
          | zero => simp [DataW.trod] at h
          | succ n =>
            unfold DataW.trod at h
            rw [hu] at h
            split at h <;> simp_all
        exact ⟨[.s (.string s)], rd_one rfl, ⟨s, hs, rfl⟩, by simp [h1]⟩
      | slice e =>
        simp only [Bool.and_eq_true] at hok
        obtain ⟨⟨h1, h2⟩, h3⟩ := hok
        have h1 := Nat.eq_of_beq_eq_true h1
        simp only
        rcases DataW.trod_slice hu h with ⟨rfl, _⟩ | ⟨a, len, cap, elems, rest, n, rfl, rfl, rfl, hb, hl, hm, hel, hget, _, _⟩
        · exact ⟨[.list (P.cellsOf e) []], ⟨rfl, fun j x c hx hc => by
            cases j with
            | zero =>
              simp at hx hc
              subst hx hc
              exact ⟨.list (fun _ => undef) (Nat.le_refl _) (Nat.zero_le _) (fun _ => rfl) (by simp) (by simp [flat]) (fun j hj => by simp [flat] at hj) (fun j u hu => by simp [flat] at hu), rfl, rfl⟩
            | succ j => simp at hx⟩, ⟨[], rfl, Nat.zero_le _, by simp⟩, by simp [h1]⟩
        · -- the elements
          have hone : ∀ i, i < len → ∃ (cs' : List Value) (xs : List V), w.cells? base (a.add (i * P.cellsOf e)) (P.cellsOf e) = some cs' ∧ Rd w g cs' xs ∧ Shape P dep e xs ∧ cs'.length = P.cellsOf e := by
            intro i hi
            have := hget i hi
            rw [List.getElem?_eq_getElem (by omega)] at this
            obtain ⟨cs', k1, k2⟩ := Option.bind_eq_some_iff.1 this
            obtain ⟨xs, k3, k4, k5⟩ := shape_of dep e h2 _ _ _ k2
            exact ⟨cs', xs, k1, k3, k4, k5⟩
          obtain ⟨els, e1, e2⟩ := choose_list (Q := fun i xs => ∃ cs' : List Value, w.cells? base (a.add (i * P.cellsOf e)) (P.cellsOf e) = some cs' ∧ Rd w g cs' xs ∧ Shape P dep e xs ∧ cs'.length = P.cellsOf e) len (fun i hi => by
            obtain ⟨cs', xs, q⟩ := hone i hi
            exact ⟨xs, cs', q⟩)
          have hlen : ∀ el ∈ els, el.length = P.cellsOf e := fun el hel' => by
            obtain ⟨i, hi⟩ := List.mem_iff_getElem?.1 hel'
            obtain ⟨cs', q1, q2, q3, q4⟩ := e2 i el hi
            rw [q2.len, q4]
          have hcells : ∀ el ∈ els, cellsOf (elemD P e el) = el := fun el hel' => by
            have hl' := hlen el hel'
            unfold elemD
            cases hag : aggT P e with
            | none => rw [hag] at h3; cases h3
            | some b =>
              cases b with
              | true => simp [cellsOf]
              | false =>
                rw [hag] at h3
                have h3 := Nat.eq_of_beq_eq_true h3
                rw [h3] at hl'
                obtain ⟨y, rfl⟩ := List.length_eq_one_iff.1 hl'
                obtain ⟨i, hi⟩ := List.mem_iff_getElem?.1 hel'
                obtain ⟨cs', q1, q2, q3, q4⟩ := e2 i [y] hi
                have hc0 : ∃ c, cs'[0]? = some c := ⟨cs'[0]'(by omega), by simp [(by omega : 0 < cs'.length)]⟩
                obtain ⟨c, hc⟩ := hc0
                have hi' := (q2.rep 0 y c rfl hc).2.1
                simp only [Option.some.injEq, Bool.false_eq_true, if_false, List.headD_cons]
                cases y <;> simp [immC] at hi' <;> rfl
          have hz : ∀ y ∈ els.map (elemD P e), (cellsOf y).length = P.cellsOf e := fun y hy => by
            obtain ⟨el, q1, rfl⟩ := List.mem_map.1 hy
            rw [hcells el q1, hlen el q1]
          have hfl := flat_length hz
          rw [List.length_map, e1] at hfl
          -- one cell among all
          have hat : ∀ j, j < len * P.cellsOf e → ∃ (i o : Nat) (el : List V) (u : V) (c : Value), j = i * P.cellsOf e + o ∧ els[i]? = some el ∧ el[o]? = some u ∧ (flat (els.map (elemD P e)))[j]? = some u ∧ w.cell? (a.add j) = some c ∧ Rep (allG w g) w u c ∧ immC u = true := by
            intro j hj
            have hz0 : 0 < P.cellsOf e := by
              rcases Nat.eq_zero_or_pos (P.cellsOf e) with q | q
              · rw [q] at hj; omega
              · exact q
            have hi : j / P.cellsOf e < len := (Nat.div_lt_iff_lt_mul hz0).2 hj
            have ho : j % P.cellsOf e < P.cellsOf e := Nat.mod_lt _ hz0
            have hje : j = j / P.cellsOf e * P.cellsOf e + j % P.cellsOf e := by rw [Nat.mul_comm]; exact (Nat.div_add_mod _ _).symm
            have hel' : els[j / P.cellsOf e]? = some (els[j / P.cellsOf e]'(by omega)) := List.getElem?_eq_getElem (by omega)
            generalize els[j / P.cellsOf e]'(by omega) = el at hel'
            obtain ⟨cs', q1, q2, q3, q4⟩ := e2 _ el hel'
            have hm := List.mem_of_getElem? hel'
            have hu : el[j % P.cellsOf e]? = some (el[j % P.cellsOf e]'(by rw [hlen el hm]; exact ho)) := by simp
            generalize el[j % P.cellsOf e]'(by rw [hlen el hm]; exact ho) = u at hu
            have hc : cs'[j % P.cellsOf e]? = some (cs'[j % P.cellsOf e]'(by rw [q4]; exact ho)) := by simp
            generalize cs'[j % P.cellsOf e]'(by rw [q4]; exact ho) = c at hc
            obtain ⟨_, _, q5⟩ := World.cells?_some q1
            have q6 := q5 _ ho
            rw [Addr.add_add, ← hje, hc] at q6
            obtain ⟨r1, r2, _⟩ := q2.rep _ u c hu hc
            refine ⟨_, _, el, u, c, hje, hel', hu, ?_, q6, r1, r2⟩
            have hx : (els.map (elemD P e))[j / P.cellsOf e]? = some (elemD P e el) := by rw [List.getElem?_map, hel']; rfl
            have := flat_get hz hx ho
            rw [hcells el hm, ← hje] at this
            rw [this, hu]
          have hrd : Rep (allG w g) w (.list (P.cellsOf e) (els.map (elemD P e))) (.slice (some a) (els.map (elemD P e)).length cap) := by
            refine .list (fun j => (w.cell? (a.add j)).getD undef) (by simp; omega) hm (fun q => by cases q) hz (fun u hu => ?_) (fun j hj => ?_) (fun j u hu => ?_)
            · obtain ⟨j, hj⟩ := List.mem_iff_getElem?.1 hu
              have hjl := (List.getElem?_eq_some_iff.1 hj).1
              obtain ⟨_, _, _, u', c, _, _, _, q4, _, _, q7⟩ := hat j (by omega)
              rw [hj] at q4
              cases q4
              exact q7
            · obtain ⟨_, _, _, u', c, _, _, _, _, q5, _, _⟩ := hat j (by omega)
              have h0 : ∃ c0, w.cell? (a.add 0) = some c0 := by
                obtain ⟨_, _, _, _, c0, _, _, _, _, q, _, _⟩ := hat 0 (by omega)
                exact ⟨c0, q⟩
              obtain ⟨c0, h0⟩ := h0
              have ha : a = ⟨a.block, a.off, none⟩ := by
                have e0 : a.add 0 = a := by simp [Addr.add]
                rw [e0] at h0
                obtain ⟨b, o, s⟩ := a
                cases s with
                | none => rfl
                | some q =>
                  unfold World.cell? at h0
                  split at h0
                  · simp at h0
                  · cases h0
              have hadd : a.add j = ⟨a.block, a.off + j, none⟩ := by rw [ha, addr_add]
              rw [hadd] at q5
              refine ⟨a.block, a.off, congrArg some ha, allG_lt q5, ?_⟩
              rw [hadd, q5]
              rfl
            · have hjl := (List.getElem?_eq_some_iff.1 hu).1
              obtain ⟨_, _, _, u', c, _, _, _, q4, q5, q6, _⟩ := hat j (by omega)
              rw [hu] at q4
              cases q4
              rw [q5]
              exact q6
          refine ⟨[.list (P.cellsOf e) (els.map (elemD P e))], ⟨rfl, fun j x c hx hc => ?_⟩, ⟨els, rfl, by omega, fun el hel' => ?_⟩, by simp [h1]⟩
          · cases j with
            | zero =>
              simp only [List.getElem?_cons_zero, Option.some.injEq] at hx hc
              subst hx hc
              rw [List.length_map, e1] at hrd
              exact ⟨hrd, rfl, rfl⟩
            | succ j => simp at hx
          · obtain ⟨i, hi⟩ := List.mem_iff_getElem?.1 hel'
            obtain ⟨_, _, _, q, _⟩ := e2 i el hi
            exact q
      | struct fs =>
        simp only [Bool.and_eq_true] at hok
        obtain ⟨⟨h1, h2⟩, h3⟩ := hok
        have h2 := Nat.eq_of_beq_eq_true h2
        obtain ⟨xs, n, rfl, rfl, k1, k2, k3⟩ := DataW.trod_struct hu h
        have hone : ∀ (i : Nat) (fl : Field), fs[i]? = some fl → ∃ p, Rd w g ((cs.drop fl.offset).take (P.cellsOf fl.type)) p ∧ Shape P dep fl.type p := by
          intro i fl hi
          have hi' := (Array.getElem?_eq_some_iff.1 hi).1
          have := k3 i fl hi
          rw [List.getElem?_eq_getElem (by omega)] at this
          obtain ⟨p, q1, q2, _⟩ := shape_of dep fl.type (by
            rw [Array.all_eq_true] at h3
            have := h3 i hi'
            have e : fs[i] = fl := by simpa [hi'] using hi
            rw [e] at this
            exact this) _ _ _ this
          exact ⟨p, q1, q2⟩
        have hex : ∃ parts : List (List V), parts.length = fs.size ∧ ∀ (i : Nat) (fl : Field) (p : List V), fs[i]? = some fl → parts[i]? = some p → Rd w g ((cs.drop fl.offset).take (P.cellsOf fl.type)) p ∧ Shape P dep fl.type p := by
          obtain ⟨parts, e1, e2⟩ := choose_list (Q := fun i p => ∀ fl, fs[i]? = some fl → Rd w g ((cs.drop fl.offset).take (P.cellsOf fl.type)) p ∧ Shape P dep fl.type p) fs.size (fun i hi => by
            obtain ⟨p, hp⟩ := hone i fs[i] (by simp [hi])
            refine ⟨p, fun fl hfl => ?_⟩
            have : fs[i] = fl := by simpa [hi] using hfl
            rw [← this]
            exact hp)
          exact ⟨parts, e1, fun i fl p hi hp => e2 i p hp fl hi⟩
        obtain ⟨parts, m1, m2⟩ := hex
        refine ⟨parts.flatten, ?_, ⟨parts, rfl, m1, fun i fl p hi hp => (m2 i fl p hi hp).2⟩, k1⟩
        have := cut_parts (w := w) (g := g) fs.toList 0 cs parts h1 (by omega) (by simpa using m1) (fun i fl p hi hp => (m2 i fl p (by simpa using hi) hp).1)
        simpa using this
      | _ => simp at hok
end
end Go.Proofs.Ytjgcjahngmkfdaa

namespace Go.Proofs.Ytjgcjahngmkfdaa
open Go.RowKit Go.WideShapes

def g00 : Gh := ⟨fun _ => 0, fun _ => 0⟩
/-- an argument's tree -/
def ArgShape (P : Program) (dep : Nat) (t : TypeId) (x : V) : Prop :=
  match P.underlying t with
  | some (.struct _) => ∃ xs, x = .agg xs ∧ Shape P dep t xs
  | _ => Shape P dep t [x]
section
variable {H : Type} {enc : TypeId × Value → H} {P : Program} {w : World} {base : Nat} {sp : Nat → Bool} {held : Bool}
theorem arg_tree {dep b2 : Nat} {t : TypeId} {v : Value} {d : DataW H} {ps : List MemPlace} (hok : okTy P dep t = true) (hval : Value.okWide P w .any b2 t v) (htr : DataW.Trod enc P w base sp held t v d ps) :
    ∃ x, Rep (allG w g00) w x v ∧ immA x = true ∧ ArgShape P dep t x := by
  obtain ⟨fuel, h⟩ := htr
  obtain ⟨xs, h1, h2, h3⟩ := shape_of (g := g00) dep t hok _ _ _ h
  cases dep with
  | zero => simp [okTy] at hok
  | succ dep =>
    have hone : (∀ cs, v ≠ .agg cs) → v.cells.toList.length = 1 → ∃ x, xs = [x] ∧ Rep (allG w g00) w x v ∧ immC x = true := by
      intro hna hl
      have hlx : xs.length = 1 := by rw [h1.len, hl]
      obtain ⟨x, rfl⟩ := List.length_eq_one_iff.1 hlx
      have hc : v.cells.toList[0]? = some v := by cases v <;> first | rfl | exact absurd rfl (hna _)
      obtain ⟨k1, k2, _⟩ := h1.rep 0 x v rfl hc
      exact ⟨x, rfl, k1, k2⟩
    have hsc : ∀ td, P.underlying t = some td → (∀ fs, td ≠ .struct fs) → (∀ cs, v ≠ .agg cs) → ∃ x, Rep (allG w g00) w x v ∧ immA x = true ∧ ArgShape P (dep + 1) t x := by
      intro td hu hns hna
      obtain ⟨x, rfl, k1, k2⟩ := hone hna (by cases v <;> first | rfl | exact absurd rfl (hna _))
      refine ⟨x, k1, by cases x <;> first | exact k2 | (simp [immC] at k2), ?_⟩
      unfold ArgShape
      rw [hu]
      cases td <;> first | exact absurd rfl (hns _) | exact h2
    cases hu : P.underlying t with
    | none => unfold okTy at hok; rw [hu] at hok; simp at hok
    | some td =>
      cases td with
      | bool => obtain ⟨b, rfl⟩ := okWide_bool hu hval; exact hsc _ hu (by simp) (by simp)
      | int k => obtain ⟨n, rfl⟩ := okWide_int hu hval; exact hsc _ hu (by simp) (by simp)
      | string => obtain ⟨s, rfl⟩ := okWide_string hu hval; exact hsc _ hu (by simp) (by simp)
      | slice e => obtain ⟨a, l, c, rfl⟩ := okWide_slice hu hval; exact hsc _ hu (by simp) (by simp)
      | struct fs =>
        obtain ⟨cs, rfl, hsz⟩ := okWide_struct hu hval
        have hcells : (Value.agg cs).cells.toList = cs.toList := rfl
        rw [hcells] at h1
        refine ⟨.agg xs, .agg (by simpa using h1.len) (fun c hc => ?_) (fun j u c hu' hc => (h1.rep j u c hu' (by simpa using hc)).1), ?_, ?_⟩
        · obtain ⟨j, hj⟩ := List.mem_iff_getElem?.1 hc
          have hjl : j < xs.length := by rw [h1.len]; exact (List.getElem?_eq_some_iff.1 hj).1
          exact (h1.rep j _ c (List.getElem?_eq_getElem hjl) hj).2.2
        · simp only [immA, List.all_eq_true]
          intro u hu'
          obtain ⟨j, hj⟩ := List.mem_iff_getElem?.1 hu'
          have hjl : j < cs.toList.length := by rw [← h1.len]; exact (List.getElem?_eq_some_iff.1 hj).1
          exact (h1.rep j u _ hj (List.getElem?_eq_getElem hjl)).2.1
        · unfold ArgShape
          rw [hu]
          exact ⟨xs, rfl, h2⟩
      | _ => unfold okTy at hok; rw [hu] at hok; simp at hok
/-- the law's call -/
theorem law_calls {f : FuncId} {args : List V} {vals : Array Value} (hpc : PC P f args (fun r => r = .s (.bool true))) (hl : args.length = vals.size) (hr : ∀ (i : Nat) (x : V) (v : Value), args[i]? = some x → vals[i]? = some v → Rep (allG w g00) w x v ∧ immA x = true) :
    Calls P f vals w fun e w' => e = .returned (.bool true) ∧ Below w.heap.size w w' := by
  have himm : ∀ x ∈ args, immA x = true := by
    intro x hx
    obtain ⟨i, hi⟩ := List.mem_iff_getElem?.1 hx
    have hil : i < vals.size := by rw [← hl]; exact (List.getElem?_eq_some_iff.1 hi).1
    exact (hr i x vals[i] hi (by simp [hil])).2
  obtain ⟨hbd, hno⟩ := bd_imm (g := allG w g00) (w := w) hl himm (fun i x v h1 h2 => (hr i x v h1 h2).1) (fun k hk => by
    simp only [allG, g00] at hk
    split at hk
    · next hk' => exact (Array.getElem?_eq_some_iff.1 hk').1
    · simp at hk)
  refine (hpc _ w _ hbd).mono ?_
  rintro e w' ⟨v, r, bs', g', rfl, ⟨rfl, rfl⟩, _, hb, hex⟩
  have hrep := hb.rep (.l (.var 0)) _ v ⟨rfl, by simp [valAt, Frn, Act.tv]⟩
  cases hrep
  exact ⟨rfl, hex.os, hex.tape, hex.output, hex.size, fun k hk => (hex.same k hk (hno k)).1⟩
end
end Go.Proofs.Ytjgcjahngmkfdaa
