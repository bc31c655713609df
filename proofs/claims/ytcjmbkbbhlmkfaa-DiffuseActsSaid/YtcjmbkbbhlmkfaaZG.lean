/- Texts put behind one another: G1, G2, G3, G4, G5. -/
import Derived.Test.YtcjmbkbbhlmkfaaZK
import Derived.WalkSpells
import Derived.WalkLawsBesides
import Derived.Lib.Hide
import Derived.Outline
import Derived.OwnWalk
import Derived.Deep.DeepMust
import Derived.Deep.LoopGhost
import Derived.WalkSmall
import Derived.BigQuiet
import Derived.Deep.QuietTactic
import Derived.Deep.RegionHeld3
import Derived.RegionTactic
set_option linter.unusedVariables false
set_option linter.unusedSimpArgs false
namespace Go.Proofs.Ytcjmbkbbhlmkfaa
open Go.RowKit Go.Proofs

theorem block_cell {w : World} {b i : Nat} {cs : Array Value} {t : TypeId} {v : Value} (h : w.heap[b]? = some (.cells cs t (0, 0))) (hv : cs[i]? = some v) : w.cell? ⟨b, i, none⟩ = some v := by
  rw [cell_of_row w b i cs t (0, 0) h]
  exact hv
theorem block_free {w : World} {b i : Nat} {cs : Array Value} {t : TypeId} (h : w.heap[b]? = some (.cells cs t (0, 0))) : w.frozen? ⟨b, i, none⟩ = false := by
  simp [World.frozen?, h]
theorem block_new (w : World) (cs : Array Value) (t : TypeId) : (w.alloc (.cells cs t)).heap[w.heap.size]? = some (.cells cs t (0, 0)) := heap_alloc_new w _
theorem block_old {w : World} {b : Nat} {o : Obj} (h : w.heap[b]? = some o) (o' : Obj) : (w.alloc o').heap[b]? = some o := by
  have hb : b < w.heap.size := (Array.getElem?_eq_some_iff.1 h).1
  rw [Below.heap_alloc w o' b hb]
  exact h
theorem block_cells {w : World} {b : Nat} {cs : Array Value} {t : TypeId} (h : w.heap[b]? = some (.cells cs t (0, 0))) : ∀ i, w.cell? ⟨b, i, none⟩ = cs[i]? := fun i => cell_of_row w b i cs t (0, 0) h
theorem block_frees {w : World} {b : Nat} {cs : Array Value} {t : TypeId} (h : w.heap[b]? = some (.cells cs t (0, 0))) : ∀ i, w.frozen? ⟨b, i, none⟩ = false := fun _ => block_free h
def intsV (l : List Int) : List Value := l.map (Value.int .i64)
theorem intsV_get {l : List Int} {k : Nat} (h : k < l.length) : (intsV l)[k]? = some (.int .i64 l[k]) := by simp [intsV, h]
theorem intsV_one (l : List Int) : ∀ u ∈ intsV l, u.oneCell' = true := by
  intro u hu
  simp only [intsV, List.mem_map] at hu
  obtain ⟨b, _, rfl⟩ := hu
  rfl
theorem intsV_snoc (l : List Int) (b : Int) : intsV l ++ [.int .i64 b] = intsV (l ++ [b]) := by simp [intsV]
@[simp] theorem intsV_length (l : List Int) : (intsV l).length = l.length := by simp [intsV]
set_option maxRecDepth 100000 in
set_option maxHeartbeats 400000 in
theorem mod_any (n m : Int) (w : World) (h1 : 1 ≤ m) (h2 : m ≤ 4611686018427387904) : Calls Try.prog 13 #[.int .i64 n, .int .i64 m] w fun e w' => e = .returned (.int .i64 (n % m)) ∧ w = w' := by
  have e1 : (m == 0) = false := by simp; omega
  have e1' : ¬ m = 0 := by omega
  have hb := Int.emod_nonneg n (b := m) (by omega)
  have hc := Int.emod_lt_of_pos n (b := m) (by omega)
  have e0 : ¬ m < 1 := by omega
  rcases tmod_pos (n := n) (m := m) (by omega) with ⟨h3, h4⟩ | ⟨h3, h4⟩
  · have e3 : IntKind.i64.wrap (n.tmod m + m) = n % m := by rw [h4]; exact wrap64 (by omega)
    go_enter Try.func13, Try.ntmps13
    go_wp2
    go_ret
    exact ⟨rfl, rfl⟩
  · have h5 : ¬ n % m < 0 := by omega
    go_enter Try.func13, Try.ntmps13
    go_wp2
    go_ret
    exact ⟨rfl, rfl⟩
theorem below_new (w : World) (o : Obj) : Below w.heap.size w (w.alloc o) := (Below.refl _ _).alloc (Nat.le_refl _) _
/-- the tape's block alone is written -/
structure Only (T : Nat) (w w' : World) : Prop where
  os : w'.os = w.os
  tape : w'.tape = w.tape
  output : w'.output = w.output
  size : w'.heap.size = w.heap.size
  blk : ∀ b, b ≠ T → w'.heap[b]? = w.heap[b]?
theorem Only.refl (T : Nat) (w : World) : Only T w w := ⟨rfl, rfl, rfl, rfl, fun _ _ => rfl⟩
set_option maxRecDepth 100000 in
set_option maxHeartbeats 400000 in
theorem next_any (T : Nat) (ty : TypeId) (A : Option Addr) (n c k : Nat) (l : List Int) (m : Int) (w : World) (hT : w.heap[T]? = some (.cells #[.slice A n c, .int .i64 k] ty (0, 0))) (hat : At w A (intsV l)) (hn : l.length = n) (hsep : ∀ b o, A = some ⟨b, o, none⟩ → l ≠ [] → b ≠ T) (hnc : n ≤ c) (hk : k ≤ 1000000) (hm : n ≤ 1000000) (h1 : 1 ≤ m) (h2 : m ≤ 4611686018427387904) :
    Calls Try.prog 24 #[.pointer (some ⟨T, 0, none⟩), .int .i64 m] w fun e w' => e = .returned (.int .i64 (nx l k m)) ∧ w'.heap[T]? = some (.cells #[.slice A n c, .int .i64 (nat1 l k)] ty (0, 0)) ∧ Only T w w' := by
  have C := block_cells hT
  have R := block_frees hT
  have HT := Lib.hid hT
  by_cases h : k < l.length
  · have g1 : ¬ (k : Int) ≥ n := by omega
    have w1 : IntKind.i64.wrap ((k : Int) + 1) = ((k + 1 : Nat) : Int) := by rw [wrap64 (by omega)]; rfl
    have w2 : IntKind.i64.wrap (((k + 1 : Nat) : Int) - 1) = (k : Int) := by rw [wrap64 (by omega)]; omega
    have w3 : IntKind.i64.wrap (k : Int) = (k : Int) := wrap64 (by omega)
    have e1 : nx l k m = l[k] % m := by simp [nx, h]
    have e2 : nat1 l k = k + 1 := by simp [nat1, h]
    obtain ⟨b, o, rfl, hb, hc⟩ := hat k _ (intsV_get h)
    have hkc : (k : Int) < n := by omega
    have HM : Hid (∀ w, Calls Try.prog 13 #[.int .i64 l[k], .int .i64 m] w fun e w' => e = .returned (.int .i64 (l[k] % m)) ∧ w' = w) := fun w => (mod_any l[k] m w h1 h2).mono fun _ _ ⟨p1, p2⟩ => ⟨p1, p2.symm⟩
    have hbT : b ≠ T := hsep b o rfl (fun q => by subst q; simp at h)
    have hT1 : 1 < (#[Value.slice (some ⟨b, o, none⟩) n c, .int .i64 k] : Array Value).size := by simp
    have D0 : ∀ q v, ((w.drewN q).setCell ⟨T, 1, none⟩ v).cell? ⟨T, 0, none⟩ = some (.slice (some ⟨b, o, none⟩) n c) := fun q v => by
      rw [World.cell?_setCell_other _ _ _ _ (by simp)]; exact C 0
    have D1 : ∀ q v, ((w.drewN q).setCell ⟨T, 1, none⟩ v).cell? ⟨T, 1, none⟩ = some v := fun q v => block_cell (setCell_row (w := w.drewN q) (o := 1) (v := v) hT) (by simp)
    have E1 : ∀ q, ((w.drewN q).setCell ⟨T, 1, none⟩ (.int .i64 ((k : Int) + 1))).heap[T]? = some (.cells #[.slice (some ⟨b, o, none⟩) n c, .int .i64 ((k + 1 : Nat) : Int)] ty (0, 0)) := fun q => by
      have := setCell_row (w := w.drewN q) (o := 1) (v := .int .i64 ((k : Int) + 1)) hT
      simpa using this
    have E2 : ∀ q, ((w.drewN q).setCell ⟨T, 1, none⟩ (.int .i64 ((k : Int) + 1))).heap.size = w.heap.size := fun q => by simp [World.setCell]
    have E1 := Lib.hid E1
    have E2 := Lib.hid E2
    have D2 : ∀ q v, ((w.drewN q).setCell ⟨T, 1, none⟩ v).cell? ⟨b, o + k, none⟩ = some (.int .i64 l[k]) := fun q v => by
      rw [World.cell?_setCell_other _ _ _ _ (fun e => hbT (by injection e with e1; exact e1.symm))]; exact hc
    clear hT hat hsep hn
    go_enter Try.func24, Try.ntmps24
    go_wp2
    go_quiet (fail)
    go_wp2
    go_quiet ((go_at_call 13; exact Calls.quiet_of_same (HM.out _)))
    go_wp2
    go_ret
    refine ⟨by rw [e1]; rfl, ?_, rfl, rfl, rfl, ?_, fun b hb => ?_⟩
    · rw [e2]; exact E1.out _
    · exact E2.out _
    · exact Below.heap_setCell _ _ _ _ hb
  · have g1 : (k : Int) ≥ n := by omega
    have e1 : nx l k m = 0 := by simp [nx, h]
    have e2 : nat1 l k = k := by simp [nat1, h]
    clear hT hat hsep hn
    go_enter Try.func24, Try.ntmps24
    go_wp2
    go_quiet (fail)
    go_wp2
    go_ret
    exact ⟨by rw [e1]; rfl, by rw [e2]; exact HT.out, rfl, rfl, rfl, rfl, fun _ _ => rfl⟩
end Go.Proofs.Ytcjmbkbbhlmkfaa

namespace Go.Proofs.Ytcjmbkbbhlmkfaa
open Go.RowKit Go.Proofs

theorem cell_heap {w w' : World} {b : Nat} (h : w'.heap[b]? = w.heap[b]?) (o : Nat) : w'.cell? ⟨b, o, none⟩ = w.cell? ⟨b, o, none⟩ := by
  unfold World.cell?
  rw [h]
/-- numbers lie behind a slice, in blocks between two -/
def Seen (lo hi : Nat) (w : World) (v : Value) (xs : List Int) : Prop := ∃ A c, v = .slice A xs.length c ∧ xs.length ≤ c ∧ c ≤ maxLen ∧ (A = none → c = 0) ∧ ∀ j u, (intsV xs)[j]? = some u → ∃ b o, A = some ⟨b, o, none⟩ ∧ lo ≤ b ∧ b < hi ∧ w.cell? ⟨b, o + j, none⟩ = some u
theorem Seen.keep {lo hi hi' : Nat} {w w' : World} {v : Value} {xs : List Int} (h : Seen lo hi w v xs) (hk : ∀ b, lo ≤ b → b < hi → w'.heap[b]? = w.heap[b]?) (hh : hi ≤ hi') : Seen lo hi' w' v xs := by
  obtain ⟨A, c, h1, h2, h3, h4, h5⟩ := h
  refine ⟨A, c, h1, h2, h3, h4, fun j u hj => ?_⟩
  obtain ⟨b, o, e, b1, b2, hc⟩ := h5 j u hj
  exact ⟨b, o, e, b1, by omega, (cell_heap (hk b b1 b2) _).trans hc⟩
theorem own_seen {M lo : Nat} {w : World} {v : Value} {xs : List Int} (h : w.ownsRow M 3 1 v xs.length (intsV xs)) (hl : lo ≤ M) : Seen lo w.heap.size w v xs := by
  rcases h.2 with ⟨rfl, hn⟩ | ⟨g, cap, cur, rfl, hb, hh, hc, hm, hs, ht⟩
  · have : xs = [] := List.length_eq_zero_iff.1 hn
    subst this
    exact ⟨none, 0, rfl, Nat.le_refl _, Nat.zero_le _, fun _ => rfl, fun j u hj => by simp [intsV] at hj⟩
  · have hlt : g < w.heap.size := (Array.getElem?_eq_some_iff.1 hh).1
    refine ⟨_, cap, rfl, hc, hm, (fun q => by cases q), fun j u hj => ⟨g, 0, rfl, by omega, hlt, ?_⟩⟩
    have := h.cells (g := g) rfl j u hj
    rw [addr_add] at this
    exact this
theorem own_blk {M : Nat} {w w' : World} {v : Value} {n : Nat} {us : List Value} (h : w.ownsRow M 3 1 v n us) (hk : ∀ b, M ≤ b → b < w.heap.size → w'.heap[b]? = w.heap[b]?) : w'.ownsRow M 3 1 v n us := by
  refine ⟨h.1, ?_⟩
  rcases h.2 with h2 | ⟨g, cap, cur, hv, hb, hh, r⟩
  · exact .inl h2
  · exact .inr ⟨g, cap, cur, hv, hb, by rw [hk g hb (Array.getElem?_eq_some_iff.1 hh).1]; exact hh, r⟩
theorem asc_up {lo N : Int} : ∀ {l : List Int}, asc lo N l = true → asc lo (N + 1) l = true := by
  intro l
  induction l generalizing lo with
  | nil => exact fun _ => rfl
  | cons j r ih =>
    simp only [asc, Bool.and_eq_true, decide_eq_true_eq]
    exact fun ⟨⟨h1, h2⟩, h3⟩ => ⟨⟨h1, by omega⟩, ih h3⟩
theorem asc_snoc {lo N : Int} (hlo : lo < N) : ∀ {l : List Int}, asc lo N l = true → asc lo (N + 1) (l ++ [N]) = true := by
  intro l
  induction l generalizing lo with
  | nil => intro _; simp [asc]; omega
  | cons j r ih =>
    simp only [asc, Bool.and_eq_true, decide_eq_true_eq, List.cons_append]
    exact fun ⟨⟨h1, h2⟩, h3⟩ => ⟨⟨h1, by omega⟩, ih h2 h3⟩
def Fin' (w : World) (lo hi N : Nat) (all : Bool) (cs : Array Value) (a : Nat) (nd : Nd) : Prop :=
  cs[a * 2]? = some (.int .i64 nd.k) ∧ (∃ v, cs[a * 2 + 1]? = some v ∧ Seen lo hi w v nd.next) ∧ nd.ok N = true ∧ (all = true → nd.k ≤ 1)
theorem Fin'.keep {w w' : World} {lo hi hi' N : Nat} {all : Bool} {cs cs' : Array Value} {a : Nat} {nd : Nd} (h : Fin' w lo hi N all cs a nd) (hk : ∀ b, lo ≤ b → b < hi → w'.heap[b]? = w.heap[b]?) (hh : hi ≤ hi') (h0 : cs'[a * 2]? = cs[a * 2]?) (h1 : cs'[a * 2 + 1]? = cs[a * 2 + 1]?) : Fin' w' lo hi' N all cs' a nd := by
  obtain ⟨q1, ⟨v, q2, q3⟩, q4⟩ := h
  exact ⟨h0.trans q1, ⟨v, h1.trans q2, q3.keep hk hh⟩, q4⟩
/-- nodes below i are made, node i is being made, up to j -/
structure GI (A : Option Addr) (n c : Nat) (all : Bool) (N : Nat) (w0 : World) (i j k : Nat) (cs : Array Value) (M : Nat) (nds : List Nd) (v : Value) (xs : List Int) (w : World) : Prop where
  kn : k ≤ n
  tape : w.heap[w0.heap.size]? = some (.cells #[.slice A n c, .int .i64 k] 50 (0, 0))
  blk : w.heap[w0.heap.size + 1]? = some (.cells cs 42 (0, 0))
  sz : cs.size = N * 2
  m1 : w0.heap.size + 2 ≤ M
  m2 : M ≤ w.heap.size
  il : i < N
  nl : nds.length = i
  fin : ∀ a nd, nds[a]? = some nd → Fin' w (w0.heap.size + 2) M N all cs a nd
  rest : ∀ a, i < a → a < N → cs[a * 2]? = some (.int .i64 0) ∧ cs[a * 2 + 1]? = some (.slice none 0 0)
  c0 : cs[i * 2]? = some (.int .i64 0)
  c1 : cs[i * 2 + 1]? = some v
  row : w.ownsRow M 3 1 v xs.length (intsV xs)
  ac : asc (-1) j xs = true
  xl : xs.length ≤ j
  bel : Below w0.heap.size w0 w
/-- nodes below i are made -/
structure GO (A : Option Addr) (n c : Nat) (all : Bool) (N : Nat) (w0 : World) (i k : Nat) (cs : Array Value) (nds : List Nd) (w : World) : Prop where
  kn : k ≤ n
  tape : w.heap[w0.heap.size]? = some (.cells #[.slice A n c, .int .i64 k] 50 (0, 0))
  blk : w.heap[w0.heap.size + 1]? = some (.cells cs 42 (0, 0))
  sz : cs.size = N * 2
  m2 : w0.heap.size + 2 ≤ w.heap.size
  nl : nds.length = i
  fin : ∀ a nd, nds[a]? = some nd → Fin' w (w0.heap.size + 2) w.heap.size N all cs a nd
  rest : ∀ a, i ≤ a → a < N → cs[a * 2]? = some (.int .i64 0) ∧ cs[a * 2 + 1]? = some (.slice none 0 0)
  bel : Below w0.heap.size w0 w
section
variable {A : Option Addr} {n c : Nat} {all : Bool} {N : Nat} {w0 : World} {i j k : Nat} {cs : Array Value} {M : Nat} {nds : List Nd} {v : Value} {xs : List Int} {w : World}
theorem GO.begin (h : GO A n c all N w0 i k cs nds w) (hi : i < N) : GI A n c all N w0 i 0 k cs w.heap.size nds (.slice none 0 0) [] w :=
  ⟨h.kn, h.tape, h.blk, h.sz, h.m2, Nat.le_refl _, hi, h.nl, h.fin, fun a h1 h2 => h.rest a (by omega) h2, (h.rest i (by omega) hi).1, (h.rest i (by omega) hi).2, World.ownsRow_nil _ _ _ _, rfl, Nat.le_refl _, h.bel⟩
theorem GI.step (h : GI A n c all N w0 i j k cs M nds v xs w) {w' : World} {j' k' : Nat} {v' : Value} {xs' : List Int} (hk' : k' ≤ n) (hT : w'.heap[w0.heap.size]? = some (.cells #[.slice A n c, .int .i64 k'] 50 (0, 0)))
    (hG : w'.heap[w0.heap.size + 1]? = some (.cells (cs.setIfInBounds (i * 2 + 1) v') 42 (0, 0))) (hb : ∀ b, w0.heap.size + 2 ≤ b → b < M → w'.heap[b]? = w.heap[b]?) (hs : w.heap.size ≤ w'.heap.size)
    (hrow : w'.ownsRow M 3 1 v' xs'.length (intsV xs')) (has : asc (-1) j' xs' = true) (hxl : xs'.length ≤ j') (hbel : Below w0.heap.size w0 w') : GI A n c all N w0 i j' k' (cs.setIfInBounds (i * 2 + 1) v') M nds v' xs' w' := by
  have hsz := h.sz
  have hil := h.il
  have hne : ∀ q, q ≠ i * 2 + 1 → (cs.setIfInBounds (i * 2 + 1) v')[q]? = cs[q]? := fun q hq => by rw [Array.getElem?_setIfInBounds]; simp [Ne.symm hq]
  refine ⟨hk', hT, hG, by simpa using hsz, h.m1, Nat.le_trans h.m2 hs, hil, h.nl, fun a nd ha => ?_, fun a h1 h2 => ?_, ?_, ?_, hrow, has, hxl, hbel⟩
  · have := h.nl
    have hlt := (List.getElem?_eq_some_iff.1 ha).1
    exact (h.fin a nd ha).keep hb (Nat.le_refl _) (hne _ (by omega)) (hne _ (by omega))
  · rw [hne _ (by omega), hne _ (by omega)]
    exact h.rest a h1 h2
  · rw [hne _ (by omega)]; exact h.c0
  · rw [Array.getElem?_setIfInBounds]; simp; omega
theorem set_same {cs : Array Value} {q : Nat} {v : Value} (h : cs[q]? = some v) : cs.setIfInBounds q v = cs := by
  apply Array.ext_getElem?
  intro p
  rw [Array.getElem?_setIfInBounds]
  split
  · next e => subst e; rw [if_pos (Array.getElem?_eq_some_iff.1 h).1, h]
  · rfl
/-- a number is drawn -/
theorem GI.next (h : GI A n c all N w0 i j k cs M nds v xs w) {w' : World} {k' : Nat} (hk' : k' ≤ n) (hT : w'.heap[w0.heap.size]? = some (.cells #[.slice A n c, .int .i64 k'] 50 (0, 0))) (ho : Only w0.heap.size w w') : GI A n c all N w0 i j k' cs M nds v xs w' := by
  have h1 := h.m1
  have := h.step (w' := w') (j' := j) (v' := v) (xs' := xs) hk' hT (by rw [set_same h.c1, ho.blk _ (by omega)]; exact h.blk) (fun b q1 q2 => ho.blk b (by omega)) (by rw [ho.size]; exact Nat.le_refl _) (own_blk h.row fun b q1 q2 => ho.blk b (by omega)) h.ac h.xl
    (h.bel.trans ⟨ho.os, ho.tape, ho.output, by rw [ho.size]; exact Nat.le_refl _, fun b q => ho.blk b (by omega)⟩)
  rwa [set_same h.c1] at this
theorem GI.up (h : GI A n c all N w0 i j k cs M nds v xs w) : GI A n c all N w0 i (j + 1) k cs M nds v xs w :=
  { h with ac := by have := asc_up h.ac; rwa [← Int.natCast_succ] at this, xl := Nat.le_succ_of_le h.xl }
end
end Go.Proofs.Ytcjmbkbbhlmkfaa

namespace Go.Proofs.Ytcjmbkbbhlmkfaa
open Go.RowKit Go.Proofs

section
variable {A : Option Addr} {n c : Nat} {all : Bool} {N : Nat} {w0 : World} {i j k : Nat} {cs : Array Value} {M : Nat} {nds : List Nd} {v : Value} {xs : List Int} {w : World}
theorem GI.close (h : GI A n c all N w0 i N k cs M nds v xs w) {w' : World} {k' : Nat} {K : Int} (hk' : k' ≤ n) (hT : w'.heap[w0.heap.size]? = some (.cells #[.slice A n c, .int .i64 k'] 50 (0, 0)))
    (hG : w'.heap[w0.heap.size + 1]? = some (.cells (cs.setIfInBounds (i * 2) (.int .i64 K)) 42 (0, 0))) (hb : ∀ b, w0.heap.size + 2 ≤ b → b < w.heap.size → w'.heap[b]? = w.heap[b]?) (hs : w.heap.size ≤ w'.heap.size)
    (hok : Nd.ok N ⟨K, xs⟩ = true) (hall : all = true → K ≤ 1) (hbel : Below w0.heap.size w0 w') : GO A n c all N w0 (i + 1) k' (cs.setIfInBounds (i * 2) (.int .i64 K)) (nds ++ [⟨K, xs⟩]) w' := by
  have hsz := h.sz
  have hil := h.il
  have hnl := h.nl
  have hm1 := h.m1
  have hm2 := h.m2
  have hne : ∀ q, q ≠ i * 2 → (cs.setIfInBounds (i * 2) (.int .i64 K))[q]? = cs[q]? := fun q hq => by rw [Array.getElem?_setIfInBounds]; simp [Ne.symm hq]
  refine ⟨hk', hT, hG, by simpa using hsz, by omega, by simp [hnl], fun a nd ha => ?_, fun a h1 h2 => ?_, hbel⟩
  · by_cases hai : a < nds.length
    · rw [List.getElem?_append_left hai] at ha
      exact (h.fin a nd ha).keep (fun b q1 q2 => hb b q1 (by omega)) (by omega) (hne _ (by omega)) (hne _ (by omega))
    · have hae : a = nds.length := by
        have := (List.getElem?_eq_some_iff.1 ha).1
        simp at this
        omega
      subst hae
      simp at ha
      subst ha
      subst hnl
      refine ⟨?_, ⟨v, ?_, ?_⟩, hok, hall⟩
      · rw [Array.getElem?_setIfInBounds]; simp; omega
      · rw [hne _ (by omega)]; exact h.c1
      · exact (own_seen h.row hm1).keep hb hs
  · rw [hne _ (by omega), hne _ (by omega)]
    exact h.rest a (by omega) h2
theorem GI.close0 (h : GI A n c all N w0 i N k cs M nds v [] w) : GO A n c all N w0 (i + 1) k cs (nds ++ [⟨0, []⟩]) w := by
  have := h.close (w' := w) (K := 0) h.kn h.tape (by rw [set_same h.c0]; exact h.blk) (fun _ _ _ => rfl) (Nat.le_refl _) (by simp [Nd.ok, asc]) (fun _ => by decide) h.bel
  rwa [set_same h.c0] at this
theorem GI.blk1 (h : GI A n c all N w0 i j k cs M nds v xs w) (b : Nat) (hb : b ≠ w0.heap.size + 1) (u : Value) : (w.setCell ⟨w0.heap.size + 1, i * 2, none⟩ u).heap[b]? = w.heap[b]? := Below.heap_setCell _ _ _ _ hb
theorem nd_ok {N : Nat} {K : Int} {xs : List Int} (h1 : 0 < K) (h2 : K ≤ xs.length) (h : asc (-1) N xs = true) : Nd.ok N ⟨K, xs⟩ = true := by
  have : 0 ≤ K ∧ K ≤ xs.length ∧ (K = 0 → xs.length = 0) := ⟨by omega, h2, fun q => by omega⟩
  simp only [Nd.ok, Bool.and_eq_true, decide_eq_true_eq]
  exact ⟨this, h⟩
theorem GI.close1 (h : GI A n c all N w0 i N k cs M nds v xs w) {K : Int} (h1 : 0 < K) (h2 : K ≤ xs.length) (hall : all = true → K ≤ 1) : GO A n c all N w0 (i + 1) k (cs.setIfInBounds (i * 2) (.int .i64 K)) (nds ++ [⟨K, xs⟩]) (w.setCell ⟨w0.heap.size + 1, i * 2, none⟩ (.int .i64 K)) :=
  h.close h.kn (by rw [Below.heap_setCell _ _ _ _ (by simp)]; exact h.tape) (setCell_row h.blk) (fun b q1 q2 => Below.heap_setCell _ _ _ _ (by simp; omega)) (by simp [World.setCell]) (nd_ok h1 h2 h.ac) hall (h.bel.setCell (by simp) _)
theorem GI.close2 (h : GI A n c all N w0 i N k cs M nds v xs w) {K : Int} (u : Value) (h1 : 0 < K) (h2 : K ≤ xs.length) (hall : all = true → K ≤ 1) : GO A n c all N w0 (i + 1) k (cs.setIfInBounds (i * 2) (.int .i64 K)) (nds ++ [⟨K, xs⟩]) ((w.setCell ⟨w0.heap.size + 1, i * 2, none⟩ u).setCell ⟨w0.heap.size + 1, i * 2, none⟩ (.int .i64 K)) :=
  h.close h.kn (by rw [Below.heap_setCell _ _ _ _ (by simp), Below.heap_setCell _ _ _ _ (by simp)]; exact h.tape) (by have := setCell_row (o := i * 2) (v := .int .i64 K) (setCell_row (o := i * 2) (v := u) h.blk); rw [this]; simp) (fun b q1 q2 => by rw [Below.heap_setCell _ _ _ _ (by simp; omega), Below.heap_setCell _ _ _ _ (by simp; omega)]) (by simp [World.setCell]) (nd_ok h1 h2 h.ac) hall ((h.bel.setCell (by simp) _).setCell (by simp) _)
/-- what the cells hold behind the first store -/
theorem GI.after (h : GI A n c all N w0 i j k cs M nds v xs w) (u : Value) : (w.setCell ⟨w0.heap.size + 1, i * 2, none⟩ u).cell? ⟨w0.heap.size + 1, i * 2 + 1, none⟩ = some v ∧ (w.setCell ⟨w0.heap.size + 1, i * 2, none⟩ u).cell? ⟨w0.heap.size + 1, i * 2, none⟩ = some u ∧ ∀ q, (w.setCell ⟨w0.heap.size + 1, i * 2, none⟩ u).frozen? ⟨w0.heap.size + 1, q, none⟩ = false := by
  have hr := setCell_row (o := i * 2) (v := u) h.blk
  have hsz := h.sz
  have hil := h.il
  refine ⟨(block_cells hr _).trans ?_, (block_cells hr _).trans ?_, block_frees hr⟩
  · rw [Array.getElem?_setIfInBounds]; simp; exact h.c1
  · rw [Array.getElem?_setIfInBounds]; simp; omega
end
/-- a number is appended to a node's row -/
theorem GI.app {A : Option Addr} {n c : Nat} {all : Bool} {N : Nat} {w0 : World} {i j k : Nat} {cs : Array Value} {M : Nat} {nds : List Nd} {v : Value} {xs : List Int} {w w2 : World} {o : Obj} {v' : Value} (h : GI A n c all N w0 i j k cs M nds v xs w) (h6 : Below M (w.alloc o) w2)
    (hh : w2.heap[w0.heap.size + 1]? = some (.cells cs 42 (0, 0))) (hw2 : w2.ownsRow M 3 1 v' (xs.length + 1) (intsV xs ++ [.int .i64 j])) :
    GI A n c all N w0 i (j + 1) k (cs.setIfInBounds (i * 2 + 1) v') M nds v' (xs ++ [(j : Int)]) (w2.setCell ⟨w0.heap.size + 1, i * 2 + 1, none⟩ v') := by
  have m1 := h.m1
  have m2 := h.m2
  have hal : ∀ b, b < w.heap.size → (w.alloc o).heap[b]? = w.heap[b]? := fun b q => (below_new w o).block b q
  have hblk : ∀ b, b ≠ w0.heap.size + 1 → b < M → (w2.setCell ⟨w0.heap.size + 1, i * 2 + 1, none⟩ v').heap[b]? = w.heap[b]? := fun b q1 q2 => by
    rw [Below.heap_setCell _ _ _ _ q1, h6.block b q2, hal b (by omega)]
  have hsz : w.heap.size ≤ (w2.setCell ⟨w0.heap.size + 1, i * 2 + 1, none⟩ v').heap.size := by
    have h1 := h6.size
    have h2 := (below_new w o).size
    simp only [World.setCell, Array.size_modify]
    omega
  refine h.step h.kn (by rw [hblk _ (by omega) (by omega)]; exact h.tape) (setCell_row hh) (fun b q1 q2 => hblk b (by omega) q2) hsz ?_ ?_ (by simp; exact h.xl) ?_
  · rw [← intsV_snoc, List.length_append]
    exact ownsRow_setCell_below hw2 (by simp; omega) _
  · have := asc_snoc (by omega) h.ac
    rwa [← Int.natCast_succ] at this
  · exact h.bel.trans ((((below_new w o).mono (by omega)).trans (h6.mono (by omega))).setCell (by simp) _)
theorem infoI : (Try.prog.info? 3).map (fun i => (i.zero, i.size, i.bytes)) = some (some (.int .i64 0), 1, 8) := by kernel_rfl
theorem infoN : (Try.prog.info? 42).map (fun i => (i.zero, i.size, i.bytes)) = some (some (.agg #[.int .i64 0, .slice none 0 0]), 2, 32) := by kernel_rfl
/-- the nodes' row, as it is made -/
theorem GO.start {A : Option Addr} {n c : Nat} {all : Bool} {N : Nat} {w0 w1 w2 : World} {k : Nat} (hk : k ≤ n) (hN : 0 < N) (hT : w1.heap[w0.heap.size]? = some (.cells #[.slice A n c, .int .i64 k] 50 (0, 0))) (hs : w1.heap.size = w0.heap.size + 1) (hb : Below w0.heap.size w0 w1)
    (ho : w2.ownsRow w1.heap.size 42 2 (.slice (some ⟨w1.heap.size, 0, none⟩) N N) N (madeCells (Value.agg #[.int .i64 0, .slice none 0 0]).cells (N * 2)).toList) (hg : w1.grownBy w2 none) : ∃ cs, GO A n c all N w0 0 k cs [] w2 := by
  rcases ho.2 with ⟨h1, h2⟩ | ⟨g, cap, cur, hv, hb1, hh, hc, hm, hcs, ht⟩
  · cases h1
  · injection hv with q1 q2 q3
    injection q1 with q1
    injection q1 with q1
    subst q1
    subst q3
    have hget : ∀ q, q < N * 2 → cur[q]? = (madeCells (Value.agg #[.int .i64 0, .slice none 0 0]).cells (N * 2))[q]? := by
      intro q hq
      have := congrArg (·[q]?) ht
      simp only [List.getElem?_take, if_pos hq, Array.getElem?_toList] at this
      exact this
    have hsz := hg.size
    refine ⟨cur, hk, ?_, ?_, hcs, ?_, rfl, fun a nd ha => by simp at ha, fun a _ h2 => ⟨?_, ?_⟩, ?_⟩
    · rw [hg.block _ (by omega) (by simp)]; exact hT
    · rw [← hs]; exact hh
    · have := (Array.getElem?_eq_some_iff.1 hh).1
      omega
    · rw [hget _ (by omega), made_get _ _ _ (by omega) (by simp [Value.cells])]
      simp [Value.cells, Nat.mul_mod_left]
    · rw [hget _ (by omega), made_get _ _ _ (by omega) (by simp [Value.cells])]
      have : (a * 2 + 1) % 2 = 1 := by omega
      simp [Value.cells, this]
    · exact hb.trans ⟨hg.os, hg.tape, hg.output, hg.size, fun b q => hg.block b (by omega) (by simp)⟩
end Go.Proofs.Ytcjmbkbbhlmkfaa

namespace Go.Proofs.Ytcjmbkbbhlmkfaa
open Go.RowKit Go.Proofs

set_option maxRecDepth 100000 in
set_option maxHeartbeats 400000 in
theorem graph_any (A : Option Addr) (n c : Nat) (l : List Int) (all : Bool) (w : World) (hat : At w A (intsV l)) (hn : l.length = n) (hnc : n ≤ c) (hm : n ≤ 1000000) :
    Calls Try.prog 9 #[.slice A n c, .bool all] w fun e w' => ∃ N, e = .returned (.slice (some ⟨w.heap.size + 1, 0, none⟩) N N) ∧ 0 < N ∧ N ≤ 8 ∧ ∃ k cs nds, GO A n c all N w N k cs nds w' := by
  obtain ⟨i0, hi, hz0, hz1, hz2⟩ := info_parts infoI
  obtain ⟨i1, hj, hy0, hy1, hy2⟩ := info_parts infoN
  have HN : Hid (∀ (w1 : World) (k : Nat) (m : Int), w1.heap[w.heap.size]? = some (.cells #[.slice A n c, .int .i64 k] 50 (0, 0)) → Below w.heap.size w w1 → k ≤ n → 1 ≤ m → m ≤ 100 → Calls Try.prog 24 #[.pointer (some ⟨w.heap.size, 0, none⟩), .int .i64 m] w1 fun e w' => e = .returned (.int .i64 (nx l k m)) ∧ w'.heap[w.heap.size]? = some (.cells #[.slice A n c, .int .i64 (nat1 l k)] 50 (0, 0)) ∧ Only w.heap.size w1 w') := fun w1 k m h1 h2 h3 h4 h5 =>
    next_any w.heap.size 50 A n c k l m w1 h1 (hat.below h2 (Nat.le_refl _)) hn (fun b o e hl => by
      subst e
      cases l with
      | nil => exact absurd rfl hl
      | cons x r =>
        obtain ⟨b', o', e, hb, _⟩ := hat 0 (.int .i64 x) rfl
        injection e with e
        injection e with e
        omega) hnc (by omega) hm h4 (by omega)
  have HK : Hid (∀ k, k ≤ n → nat1 l k ≤ n) := fun k hk => by have := (nat1_le (xs := l) (k := k) (by omega)).1; omega
  have hw1 : (w.alloc (.cells #[.slice A n c, .int .i64 0] 50)).heap[w.heap.size]? = some (.cells #[.slice A n c, .int .i64 (0 : Nat)] 50 (0, 0)) := block_new w _ 50
  have HW1 := Lib.hid hw1
  have hb1 := nx_bd l 0 (m := 8) (by omega)
  obtain ⟨m0, hm0⟩ : ∃ m0 : Nat, nx l 0 8 = m0 := ⟨(nx l 0 8).toNat, by omega⟩
  have hm8 : m0 < 8 := by omega
  have HM0 := Lib.hid hm0
  have hs1 : (w.alloc (.cells #[.slice A n c, .int .i64 0] 50)).heap.size = w.heap.size + 1 := by simp
  have HS1 := Lib.hid hs1
  clear hat hn hw1 hb1 hm0 hs1
  go_enter Try.func9, Try.ntmps9
  go_wp2_with (first
    | (go_at_call 24; go_must (refine (HN.out _ 0 8 HW1.out (below_new _ _) (by omega) (by omega) (by omega)).mono ?_); rw [HM0.out]; rintro e w1 ⟨rfl, h1, h2⟩; have h3 := (below_new w (.cells #[.slice A n c, .int .i64 0] 50)).trans ⟨h2.os, h2.tape, h2.output, by rw [h2.size]; exact Nat.le_refl _, fun b q => h2.blk b (by omega)⟩; have h4 := h2.size.trans HS1.out; have H1 := Lib.hid h1; have H3 := Lib.hid h3; have H4 := Lib.hid h4; clear h1 h2 h3 h4)
    | (at_make; go_must (refine wpList_make_full _ rfl (.tmp 16) (.tmp 16) 22 rfl _ 42 i1 _ 2 Try.underlying22 hj hy0 hy1 .i64 .i64 (1 + (m0 : Int)) (1 + (m0 : Int)) (m0 + 1) rfl rfl (by omega) (by omega) (by rw [hy2]; omega) (by unfold maxLen; omega) (Nat.le_refl _) ?_); intro w2 h5 h6; have HG : Hid (∃ cs, GO A n c all (m0 + 1) w 0 _ cs [] w2) := (GO.start (HK.out 0 (by omega)) (by omega) H1.out H4.out H3.out h5 h6); clear h5 h6))
  rw [H4.out]
  go_loopw [20] (fun t wr => ∃ (i k : Nat) (cs : Array Value) (nds : List Nd), t = .int .i64 i ∧ i ≤ m0 + 1 ∧ GO A n c all (m0 + 1) w i k cs nds wr) (fun t _ => m0 + 1 - (intOf t).toNat)
  case atStart =>
    obtain ⟨cs, h⟩ := HG.out
    exact ⟨0, _, cs, [], rfl, by omega, h⟩
  case round =>
    obtain ⟨i, k, cs, nds, rfl, him, hGO⟩ := hrel
    have HO := Lib.hid hGO
    clear hGO
    obtain ⟨wo, rfl⟩ : ∃ wo : World, wo = wr := ⟨_, rfl⟩
    by_cases hlt : i < m0 + 1
    · have hlt' : (i : Int) < m0 + 1 := by omega
      go_wp2_with fail
      go_loopw [9] (fun t wr => ∃ (j k : Nat) (cs : Array Value) (M : Nat) (v : Value) (xs : List Int), t = .int .i64 j ∧ j ≤ m0 + 1 ∧ GI A n c all (m0 + 1) w i j k cs M nds v xs wr) (fun t _ => m0 + 1 - (intOf t).toNat)
      case atStart => exact ⟨0, _, _, _, _, _, rfl, by omega, HO.out.begin hlt⟩
      case round =>
        obtain ⟨j, k, cs, M, v, xs, rfl, hjm, hGI⟩ := hrel
        clear HO HG H1 H3 H4
        by_cases hjl : j < m0 + 1
        · have hjl' : (j : Int) < 1 + m0 := by omega
          have HI := Lib.hid hGI
          clear hGI
          cases hx : (nx l k 3 == 1)
          · go_wp2_with (go_at_call 24; go_must (refine (HN.out _ k 3 HI.out.tape HI.out.bel HI.out.kn (by omega) (by omega)).mono ?_); rintro e w1 ⟨rfl, h1, h2⟩; have HJ := Lib.hid (HI.out.next (HK.out _ HI.out.kn) h1 h2); clear h1 h2)
            go_roundw
            case rel => exact ⟨j + 1, _, cs, M, v, xs, by go_num, by omega, HJ.out.up⟩
            case measure => simp [intOf]; omega
          · have hxl := HI.out.xl
            have hM := HI.out.m1
            go_wp2_with (first
              | (go_at_call 24; go_must (refine (HN.out _ k 3 HI.out.tape HI.out.bel HI.out.kn (by omega) (by omega)).mono ?_); rintro e w1 ⟨rfl, h1, h2⟩; have hJ := HI.out.next (HK.out _ HI.out.kn) h1 h2; have C := block_cells hJ.blk; have CV : w1.cell? ⟨w.heap.size + 1, i * 2 + 1, none⟩ = some v := (C _).trans hJ.c1; clear C; have HJ := Lib.hid hJ; clear h1 h2 hJ)
              | (at_builtin; go_must (refine wpList_app _ rfl (.tmp 37) (.tmp 39) 25 rfl M 3 i0 _ 1 8 Try.underlying25 hi hz0 hz1 hz2 rfl (by decide) (by decide) v xs.length (intsV xs) rfl (Gr.alloc (.inl HJ.out.row) _) (some ⟨w1.heap.size, 0, none⟩) 1 1 [_] rfl rfl (At.new w1 [_] 3) (by simp [Value.oneCell']) (by unfold maxLen; omega) (by omega) (by have := HJ.out.m2; simp; omega) ?_); intro v' w2 h2 h3 h4 h5 h6; have hw2 := h3 (by decide); obtain ⟨A', c', hv', _, _, _⟩ := own_slice hw2; subst hv'; have hh : w2.heap[w.heap.size + 1]? = some (.cells cs 42 (0, 0)) := by
                  rw [h6.block _ (by omega)]; exact block_old HJ.out.blk _
                 have CV2 : w2.cell? ⟨w.heap.size + 1, i * 2 + 1, none⟩ = some v := (block_cells hh _).trans HJ.out.c1; have RF := block_frees hh; have HH := Lib.hid hh; have HW2 := Lib.hid hw2; have H6 := Lib.hid h6; clear h2 h3 h4 h5 h6 hh hw2))
            go_roundw
            case rel => exact ⟨j + 1, _, _, M, _, _, by go_num, by omega, HJ.out.app H6.out HH.out HW2.out⟩
            case measure => simp [intOf]; omega
        · have hjl' : ¬ (j : Int) < 1 + m0 := by omega
          have hje : j = m0 + 1 := by omega
          subst hje
          obtain ⟨A', c', hv', _, _, _⟩ := own_slice hGI.row
          subst hv'
          have hxl := hGI.xl
          have C := block_cells hGI.blk
          have CV : wr.cell? ⟨w.heap.size + 1, i * 2 + 1, none⟩ = some (.slice A' xs.length c') := (C _).trans hGI.c1
          have HI := Lib.hid hGI
          clear C hGI
          by_cases hx0 : xs.length = 0
          · have hxs : xs = [] := List.length_eq_zero_iff.1 hx0
            subst hxs
            go_wp2_with fail
            go_roundw
            case rel => exact ⟨i + 1, _, _, _, by go_num, by omega, HI.out.close0⟩
            case measure => simp [intOf]; omega
          · have hx1 : 0 < xs.length := by omega
            have hx1' : (0 : Int) < xs.length := by omega
            have hnb := nx_bd l k (m := xs.length) (by omega)
            obtain ⟨q, hq⟩ : ∃ q : Nat, nx l k xs.length = q := ⟨(nx l k xs.length).toNat, by omega⟩
            have hq1 : q < xs.length := by omega
            have HQ := Lib.hid hq
            clear hnb hq
            cases all
            · go_wp2_with (go_at_call 24; go_must (refine (HN.out _ k xs.length HI.out.tape HI.out.bel HI.out.kn (by omega) (by omega)).mono ?_); rw [HQ.out]; rintro e w1 ⟨rfl, h1, h2⟩; have hJ := HI.out.next (HK.out _ HI.out.kn) h1 h2; have C := block_cells hJ.blk; have C0 : w1.cell? ⟨w.heap.size + 1, i * 2, none⟩ = some (.int .i64 0) := (C _).trans hJ.c0; have RF := block_frees hJ.blk; clear C; have HJ := Lib.hid hJ; clear h1 h2 hJ)
              go_roundw
              case rel => exact ⟨i + 1, _, _, _, by go_num, by omega, HJ.out.close1 (by omega) (by omega) (fun e => by cases e)⟩
              case measure => simp [intOf]; omega
            · go_wp2_with (go_at_call 24; go_must (refine (HN.out _ k xs.length HI.out.tape HI.out.bel HI.out.kn (by omega) (by omega)).mono ?_); rw [HQ.out]; rintro e w1 ⟨rfl, h1, h2⟩; have hJ := HI.out.next (HK.out _ HI.out.kn) h1 h2; have C := block_cells hJ.blk; have C0 : w1.cell? ⟨w.heap.size + 1, i * 2, none⟩ = some (.int .i64 0) := (C _).trans hJ.c0; have RF := block_frees hJ.blk; have D1 := fun u => (hJ.after u).1; have D2 := fun u => (hJ.after u).2.1; have D3 := fun u => (hJ.after u).2.2; clear C; have HJ := Lib.hid hJ; clear h1 h2 hJ)
              go_roundw
              case rel => exact ⟨i + 1, _, _, _, by go_num, by omega, HJ.out.close2 (K := 1) _ (by omega) (by omega) (fun _ => by omega)⟩
              case measure => simp [intOf]; omega
    · have hlt' : ¬ (i : Int) < m0 + 1 := by omega
      go_wp2_with fail
      go_ret
      have hie : i = m0 + 1 := by omega
      subst hie
      exact ⟨m0 + 1, rfl, by omega, by omega, k, cs, nds, HO.out⟩
end Go.Proofs.Ytcjmbkbbhlmkfaa

namespace Go.Proofs.Ytcjmbkbbhlmkfaa
open Go.RowKit Go.Proofs

/-- a walk by hand that makes something that is never written again is a contract -/
theorem pc_imm {P : Program} {f : FuncId} {args : List V} {Q : V → Prop} (him : ∀ x ∈ args, immA x = true)
    (hw : ∀ (g : Gh) (w : World) (vs : Array Value), args.length = vs.size → (∀ (i : Nat) (x : V) (v : Value), args[i]? = some x → vs[i]? = some v → Rep g w x v) → (∀ k, 0 < g.I k → k < w.heap.size) →
      Calls P f vs w fun e' w' => ∃ (v : Value) (r : V) (I' : Nat → Nat), e' = .returned v ∧ Q r ∧ immA r = true ∧ okV r = true ∧ (∀ b, b < w.heap.size → I' b = g.I b) ∧ (∀ b, 0 < I' b → b < w'.heap.size) ∧ Rep ⟨I', g.φ⟩ w' r v ∧ Below w.heap.size w w') : PC P f args Q := by
  intro g w vs hb
  have hl : args.length = vs.size := by have := hb.sz; simp [Frn] at this; exact this.symm
  have hrep : ∀ (i : Nat) (x : V) (v : Value), args[i]? = some x → vs[i]? = some v → Rep g w x v := by
    intro i x v hx hv
    refine hb.rep (.l (.var i)) x v ⟨hx, ?_⟩
    have hi := (List.getElem?_eq_some_iff.1 hx).1
    have hi' : i < vs.size := by omega
    rw [Array.getElem?_eq_getElem hi'] at hv
    cases hv
    simp [valAt, Frn, Act.tv, hi, hl ▸ hi]
  refine (hw g w vs hl hrep hb.Ilt).mono ?_
  rintro e' w' ⟨v, r, I', rfl, hQ, hi, hok, h1, h2, hr, hbel⟩
  obtain ⟨q1, q2⟩ := bd_imm (g := ⟨I', g.φ⟩) (w := w') (args := [r]) (vals := #[v]) rfl (by simpa using hi) (fun i y u hy hu => by
    cases i with
    | zero => simp at hy hu; subst hy; subst hu; exact hr
    | succ i => simp at hy) h2
  refine ⟨v, r, [], ⟨I', g.φ⟩, rfl, ⟨rfl, hQ⟩, hok, q1, ⟨hbel.os, hbel.tape, hbel.output, hbel.size, fun k hk' _ => ⟨hbel.block k hk', h1 k hk'⟩, fun k ho' => absurd ho' (q2 k), fun b hb' => by simp at hb'⟩⟩
/-- all cells of a block -/
def blkSize (w : World) (b : Nat) : Nat := match w.heap[b]? with | some (.cells cs _ _) => cs.size | _ => 0
theorem cell_lt {w : World} {b o : Nat} {u : Value} (h : w.cell? ⟨b, o, none⟩ = some u) : o < blkSize w b := by
  unfold World.cell? at h
  unfold blkSize
  split at h
  · next cs ty fz hh => simp at h; simp [hh]; exact (Array.getElem?_eq_some_iff.1 h).1
  · cases h
theorem blk_lt {w : World} {b : Nat} (h : 0 < blkSize w b) : b < w.heap.size := by
  unfold blkSize at h
  split at h
  · next cs ty fz hh => exact (Array.getElem?_eq_some_iff.1 hh).1
  · omega
def newI (g : Gh) (w w' : World) (b : Nat) : Nat := if b < w.heap.size then g.I b else blkSize w' b
theorem iv_flat (xs : List Int) : flat (iv xs) = iv xs := by
  induction xs with
  | nil => rfl
  | cons x r ih => simp only [iv, List.map_cons, flat, cellsOf] at ih ⊢; rw [ih]; rfl
theorem seen_rep {g : Gh} {w w' : World} {lo hi : Nat} {v : Value} {xs : List Int} (h : Seen lo hi w' v xs) (hlo : w.heap.size ≤ lo) : Rep ⟨newI g w w', g.φ⟩ w' (.list 1 (iv xs)) v := by
  obtain ⟨A, c, rfl, h2, h3, h4, h5⟩ := h
  have hl : (iv xs).length = xs.length := by simp
  have := Rep.list (g := ⟨newI g w w', g.φ⟩) (w := w') (z := 1) (xs := iv xs) (A := A) (c := c) (fun j => (intsV xs)[j]?.getD undef) (by rw [hl]; exact h2) h3 h4
    (fun x hx => by simp only [iv, List.mem_map] at hx; obtain ⟨n, _, rfl⟩ := hx; rfl) (fun u hu => by rw [iv_flat] at hu; simp only [iv, List.mem_map] at hu; obtain ⟨n, _, rfl⟩ := hu; rfl)
    (fun j hj => by
      rw [iv_flat, hl] at hj
      obtain ⟨b, o, e, b1, b2, hc⟩ := h5 j _ (intsV_get hj)
      refine ⟨b, o, e, ?_, by rw [hc, intsV_get hj]; rfl⟩
      have := cell_lt hc
      simp only [newI]
      rw [if_neg (by omega)]
      exact this)
    (fun j u hu => by
      rw [iv_flat] at hu
      have hj := (List.getElem?_eq_some_iff.1 hu).1
      rw [hl] at hj
      rw [iv_get hj] at hu
      cases hu
      rw [intsV_get hj]
      exact .s rfl)
  rw [hl] at this
  exact this
theorem graph_rep {A : Option Addr} {n c : Nat} {all : Bool} {N k : Nat} {w w' : World} {cs : Array Value} {nds : List Nd} {g : Gh} (hN : N ≤ 8) (h : GO A n c all N w N k cs nds w') : Rep ⟨newI g w w', g.φ⟩ w' (.list 2 (gv nds)) (.slice (some ⟨w.heap.size + 1, 0, none⟩) N N) := by
  have hnl := h.nl
  have hsz := h.sz
  have hz : ∀ x ∈ gv nds, (cellsOf x).length = 2 := fun x hx => by simp only [gv, List.mem_map] at hx; obtain ⟨q, _, rfl⟩ := hx; rfl
  have hfl : (flat (gv nds)).length = N * 2 := by rw [flat_length hz]; simp [hnl]
  have hlt : w.heap.size + 1 < w'.heap.size := by have := (Array.getElem?_eq_some_iff.1 h.blk).1; omega
  have hI : newI g w w' (w.heap.size + 1) = N * 2 := by
    simp only [newI]
    rw [if_neg (by omega)]
    simp [blkSize, h.blk, hsz]
  -- a cell
  have cell : ∀ j u, (flat (gv nds))[j]? = some u → ∃ a nd, nds[a]? = some nd ∧ (j = a * 2 ∧ u = .s (.int .i64 nd.k) ∨ j = a * 2 + 1 ∧ u = .list 1 (iv nd.next)) := by
    intro j u hu
    have hj := (List.getElem?_eq_some_iff.1 hu).1
    rw [hfl] at hj
    have ha : j / 2 < nds.length := by omega
    refine ⟨j / 2, nds[j / 2], List.getElem?_eq_getElem ha, ?_⟩
    have hx : (gv nds)[j / 2]? = some (.agg [.s (.int .i64 nds[j / 2].k), .list 1 (iv nds[j / 2].next)]) := gv_get ha
    rcases (show j % 2 = 0 ∨ j % 2 = 1 by omega) with q | q
    · have := flat_get (o := 0) hz hx (by omega)
      rw [show j / 2 * 2 + 0 = j by omega, hu] at this
      simp [cellsOf] at this
      exact .inl ⟨by omega, this⟩
    · have := flat_get (o := 1) hz hx (by omega)
      rw [show j / 2 * 2 + 1 = j by omega, hu] at this
      simp [cellsOf] at this
      exact .inr ⟨by omega, this⟩
  have hl : (gv nds).length = N := by simp [hnl]
  have := Rep.list (g := ⟨newI g w w', g.φ⟩) (w := w') (z := 2) (xs := gv nds) (A := some ⟨w.heap.size + 1, 0, none⟩) (c := N) (fun j => cs[j]?.getD undef) (by omega) (by unfold maxLen; omega) (fun e => by cases e) hz
    (fun u hu => by
      obtain ⟨j, hj, rfl⟩ := List.getElem_of_mem hu
      obtain ⟨a, nd, _, q⟩ := cell j _ (List.getElem?_eq_getElem hj)
      rcases q with ⟨_, q⟩ | ⟨_, q⟩ <;> rw [q] <;> rfl)
    (fun j hj => by
      rw [hfl] at hj
      refine ⟨_, _, rfl, by show 0 + j < newI g w w' (w.heap.size + 1); rw [hI]; omega, ?_⟩
      rw [Nat.zero_add, block_cells h.blk, Array.getElem?_eq_getElem (by omega)]; rfl)
    (fun j u hu => by
      obtain ⟨a, nd, ha, q⟩ := cell j u hu
      obtain ⟨f1, ⟨v, f2, f3⟩, _⟩ := h.fin a nd ha
      rcases q with ⟨rfl, rfl⟩ | ⟨rfl, rfl⟩
      · rw [f1]; exact .s rfl
      · rw [f2]; exact seen_rep f3 (by omega))
  rw [hl] at this
  exact this
theorem rep_ints {g : Gh} {w : World} {l : List Int} {v : Value} (h : Rep g w (.list 1 (iv l)) v) (hlt : ∀ k, 0 < g.I k → k < w.heap.size) : ∃ A c, v = .slice A l.length c ∧ l.length ≤ c ∧ At w A (intsV l) := by
  cases h with
  | list vals hc hm hA hz hi hcell hrep =>
    rename_i A c
    refine ⟨A, c, by simp, by simpa using hc, fun j u hj => ?_⟩
    have hjl : j < l.length := by have := (List.getElem?_eq_some_iff.1 hj).1; simpa using this
    rw [intsV_get hjl] at hj
    cases hj
    obtain ⟨b, q, e, h1, h2⟩ := hcell j (by rw [iv_flat]; simpa using hjl)
    have hr := hrep j _ (by rw [iv_flat]; exact iv_get hjl)
    refine ⟨b, q, e, hlt b (by omega), ?_⟩
    rw [h2, hr.of_s rfl]
theorem graph_pc (l : List Int) (all : Bool) (hl : l.length ≤ 1000000) : PC Try.prog 9 [.list 1 (iv l), .s (.bool all)] (fun r => ∃ G, r = .list 2 (gv G) ∧ gOk G = true ∧ 1 ≤ G.length ∧ G.length ≤ 8 ∧ (all = true → ∀ n ∈ G, n.k ≤ 1)) := by
  refine pc_imm (by intro x hx; simp at hx; rcases hx with rfl | rfl <;> rfl) fun g w vs hsz hrep hlt => ?_
  have hs : vs.size = 2 := by simpa using hsz.symm
  have e0 : vs[0]? = some vs[0] := Array.getElem?_eq_getElem (by omega)
  have e1 : vs[1]? = some vs[1] := Array.getElem?_eq_getElem (by omega)
  have r0 := hrep 0 _ _ rfl e0
  have r1 := (hrep 1 _ _ rfl e1).of_s rfl
  obtain ⟨A, c, hv, hc, hat⟩ := rep_ints r0 hlt
  have hvs : vs = #[.slice A l.length c, .bool all] := by
    apply Array.ext
    · simpa using hs
    · intro i h1 h2
      have : i = 0 ∨ i = 1 := by simp at h2; omega
      rcases this with rfl | rfl
      · simpa using hv
      · simpa using r1
  rw [hvs]
  refine (graph_any A l.length c l all w hat rfl hc hl).mono ?_
  rintro e' w' ⟨N, rfl, hN1, hN8, k, cs, nds, hG⟩
  have hlen := hG.nl
  have hfin : ∀ nd ∈ nds, nd.ok N = true ∧ (all = true → nd.k ≤ 1) := fun nd hnd => by
    obtain ⟨a, ha, rfl⟩ := List.getElem_of_mem hnd
    exact (hG.fin a _ (List.getElem?_eq_getElem ha)).2.2
  refine ⟨_, .list 2 (gv nds), newI g w w', rfl, ⟨nds, rfl, ?_, by omega, by omega, fun h n hn => (hfin n hn).2 h⟩, ?_, rfl, fun b hb => by simp [newI, hb], fun b hb => ?_, graph_rep hN8 hG, hG.bel⟩
  · simp only [gOk, Bool.and_eq_true, decide_eq_true_eq, List.all_eq_true]
    exact ⟨by omega, fun n hn => by rw [hlen]; exact (hfin n hn).1⟩
  · rfl
  · simp only [newI] at hb
    split at hb
    · have := hlt b hb
      have := hG.bel.size
      omega
    · exact blk_lt hb
end Go.Proofs.Ytcjmbkbbhlmkfaa
