/- Texts put behind one another: N1, N2, N3, N4, Q1. -/
import Derived.Test.YtbbhenjhghbimaaZK
import Derived.Test.YtbbhenjhghbimaaZM
set_option linter.unusedVariables false
set_option linter.unusedSimpArgs false
namespace Go.Proofs.Ytbbhenjhghbimaa

/-- x is reached from i by one step or more -/
inductive Rea (g : List Nd) (i : Int) : Int → Prop
  | one {x : Int} (h : x ∈ (nodeAt g i).next) : Rea g i x
  | step {y x : Int} (h : Rea g i y) (hx : x ∈ (nodeAt g y).next) : Rea g i x
theorem gOk_mem {g : List Nd} (h : gOk g = true) {i x : Int} (hx : x ∈ (nodeAt g i).next) : 0 ≤ x ∧ x < g.length := by
  by_cases hi : i.toNat < g.length
  · simp only [gOk, Bool.and_eq_true, List.all_eq_true] at h
    rw [nodeAt, List.getD_eq_getElem?_getD, List.getElem?_eq_getElem hi] at hx
    have := h.2 _ (List.getElem_mem hi)
    simp only [Nd.ok, Bool.and_eq_true] at this
    have := asc_mem this.2 x hx
    omega
  · rw [nodeAt, List.getD_eq_getElem?_getD, List.getElem?_eq_none (by omega)] at hx
    simp at hx
theorem Rea.bd {g : List Nd} (hg : gOk g = true) {i x : Int} (h : Rea g i x) : 0 ≤ x ∧ x < g.length := by
  cases h with
  | one h => exact gOk_mem hg h
  | step _ h => exact gOk_mem hg h
theorem Rea.trans {g : List Nd} {i j x : Int} (h : Rea g i j) (k : Rea g j x) : Rea g i x := by
  induction k with
  | one h2 => exact .step h h2
  | step _ h2 ih => exact .step ih h2
theorem Rea.front {g : List Nd} {i j x : Int} (h : j ∈ (nodeAt g i).next) (k : Rea g j x) : Rea g i x := (Rea.one h).trans k
/-- a closed set that holds the first ones holds all that is reached -/
theorem Rea.closed {g : List Nd} {i : Int} {S : Int → Prop} (h0 : ∀ x ∈ (nodeAt g i).next, S x) (h1 : ∀ y, S y → ∀ x ∈ (nodeAt g y).next, S x) {x : Int} (h : Rea g i x) : S x := by
  induction h with
  | one h => exact h0 _ h
  | step _ h ih => exact h1 _ ih _ h

theorem seenAt_set {s : List Bool} {i x : Int} (h0 : 0 ≤ i) (h1 : i < s.length) (hx : 0 ≤ x) : seenAt (s.set i.toNat true) x = (decide (x = i) || seenAt s x) := by
  simp only [seenAt, List.getD_eq_getElem?_getD, List.getElem?_set]
  by_cases h : i.toNat = x.toNat
  · have : x = i := by omega
    have h2 : i.toNat < s.length := by omega
    subst this
    simp [h2]
  · have : ¬ x = i := by omega
    simp [h, this]
def unseen (s : List Bool) : Nat := s.countP (· == false)
theorem unseen_set : ∀ {s : List Bool} {i : Nat}, s[i]? = some false → unseen (s.set i true) + 1 = unseen s
  | [], i, h => by simp at h
  | b :: r, 0, h => by
    simp at h
    subst h
    simp [unseen]
  | b :: r, i + 1, h => by
    simp only [List.getElem?_cons_succ] at h
    have := unseen_set h
    simp only [unseen, List.set_cons_succ, List.countP_cons] at this ⊢
    omega
/-- the search: what is seen, what is still to be looked at -/
structure Dfs (g : List Nd) (i : Int) (s : List Bool) (l : List Int) : Prop where
  len : s.length = g.length
  bd : ∀ x ∈ l, 0 ≤ x ∧ x < g.length
  sound : ∀ x, 0 ≤ x → seenAt s x = true → Rea g i x
  snd2 : ∀ x ∈ l, Rea g i x
  c0 : ∀ x ∈ (nodeAt g i).next, seenAt s x = true ∨ x ∈ l
  c1 : ∀ y, 0 ≤ y → seenAt s y = true → ∀ x ∈ (nodeAt g y).next, seenAt s x = true ∨ x ∈ l
theorem seenAt_rep (n : Nat) (x : Int) : seenAt (List.replicate n false) x = false := by
  simp only [seenAt, List.getD_eq_getElem?_getD, List.getElem?_replicate]
  split <;> rfl
theorem Dfs.start {g : List Nd} (hg : gOk g = true) (i : Int) : Dfs g i (List.replicate g.length false) (nodeAt g i).next :=
  ⟨by simp, fun x hx => gOk_mem hg hx, fun x _ h => (by rw [seenAt_rep] at h; cases h), fun x hx => .one hx, fun x hx => .inr hx, fun y _ h => (by rw [seenAt_rep] at h; cases h)⟩
theorem Dfs.old {g : List Nd} {i : Int} {s : List Bool} {l : List Int} {n : Int} (h : Dfs g i s (l ++ [n])) (hn : seenAt s n = true) : Dfs g i s l := by
  have key : ∀ x, (seenAt s x = true ∨ x ∈ l ++ [n]) → seenAt s x = true ∨ x ∈ l := fun x hx => by
    rcases hx with hx | hx
    · exact .inl hx
    · rw [List.mem_append, List.mem_singleton] at hx
      rcases hx with hx | rfl
      · exact .inr hx
      · exact .inl hn
  exact ⟨h.len, fun x hx => h.bd x (by simp [hx]), h.sound, fun x hx => h.snd2 x (by simp [hx]), fun x hx => key x (h.c0 x hx), fun y h0 h1 x hx => key x (h.c1 y h0 h1 x hx)⟩
theorem Dfs.new {g : List Nd} (hg : gOk g = true) {i : Int} {s : List Bool} {l : List Int} {n : Int} (h : Dfs g i s (l ++ [n])) : Dfs g i (s.set n.toNat true) (l ++ (nodeAt g n).next) := by
  have hn := h.bd n (by simp)
  have hlen := h.len
  have hset : ∀ x, 0 ≤ x → seenAt (s.set n.toNat true) x = (decide (x = n) || seenAt s x) := fun x hx => seenAt_set hn.1 (by omega) hx
  have hr := h.snd2 n (by simp)
  have key : ∀ x, 0 ≤ x → (seenAt s x = true ∨ x ∈ l ++ [n]) → seenAt (s.set n.toNat true) x = true ∨ x ∈ l ++ (nodeAt g n).next := fun x h0 hx => by
    rw [hset x h0]
    rcases hx with hx | hx
    · simp [hx]
    · rw [List.mem_append, List.mem_singleton] at hx
      rcases hx with hx | rfl
      · simp [hx]
      · simp
  refine ⟨by simp [hlen], fun x hx => ?_, fun x h0 hx => ?_, fun x hx => ?_, fun x hx => key x (gOk_mem hg hx).1 (h.c0 x hx), fun y h0 hy x hx => ?_⟩
  · rw [List.mem_append] at hx
    rcases hx with hx | hx
    · exact h.bd x (by simp [hx])
    · exact gOk_mem hg hx
  · rw [hset x h0, Bool.or_eq_true, decide_eq_true_eq] at hx
    rcases hx with rfl | hx
    · exact hr
    · exact h.sound x h0 hx
  · rw [List.mem_append] at hx
    rcases hx with hx | hx
    · exact h.snd2 x (by simp [hx])
    · exact .step hr hx
  · rw [hset y h0, Bool.or_eq_true, decide_eq_true_eq] at hy
    rcases hy with rfl | hy
    · exact .inr (by simp [hx])
    · exact key x (gOk_mem hg hx).1 (h.c1 y h0 hy x hx)
theorem Dfs.done {g : List Nd} (hg : gOk g = true) {i : Int} {s : List Bool} (h : Dfs g i s []) (x : Int) (h0 : 0 ≤ x) : seenAt s x = true ↔ Rea g i x := by
  refine ⟨h.sound x h0, fun hr => ?_⟩
  have := Rea.closed (S := fun x => 0 ≤ x ∧ seenAt s x = true) (fun x hx => ⟨(gOk_mem hg hx).1, by simpa using h.c0 x hx⟩) (fun y hy x hx => ⟨(gOk_mem hg hx).1, by simpa using h.c1 y hy.1 hy.2 x hx⟩) hr
  exact this.2
/-- the numbers of the true ones, below a bound -/
def trues (s : List Bool) (k : Nat) : List Int := ((List.range k).filter fun j : Nat => seenAt s (j : Int)).map fun j : Nat => (j : Int)
theorem trues_succ (s : List Bool) (k : Nat) : trues s (k + 1) = if seenAt s (k : Nat) = true then trues s k ++ [(k : Int)] else trues s k := by
  simp only [trues, List.range_succ, List.filter_append, List.map_append]
  split
  · next h => simp [h]
  · next h => simp [h]
theorem mem_trues {s : List Bool} {k : Nat} {x : Int} : x ∈ trues s k ↔ 0 ≤ x ∧ x < k ∧ seenAt s x = true := by
  simp only [trues, List.mem_map, List.mem_filter, List.mem_range]
  constructor
  · rintro ⟨j, ⟨h1, h2⟩, rfl⟩
    exact ⟨by omega, by omega, h2⟩
  · rintro ⟨h1, h2, h3⟩
    refine ⟨x.toNat, ⟨by omega, ?_⟩, by omega⟩
    rw [show ((x.toNat : Nat) : Int) = x by omega]; exact h3
theorem trues_len (s : List Bool) (k : Nat) : (trues s k).length ≤ k := by
  simp only [trues, List.length_map]
  exact Nat.le_trans (List.length_filter_le _ _) (by simp)
end Go.Proofs.Ytbbhenjhghbimaa

namespace Go.Proofs.Ytbbhenjhghbimaa

def sent (g : List Nd) (s : List Bool) : Nat := (List.zipWith (fun n b => if b = true then n.next.length else 0) g s).sum
theorem sent_rep : ∀ (g : List Nd) (n : Nat), sent g (List.replicate n false) = 0
  | [], n => by simp [sent]
  | x :: r, 0 => by simp [sent]
  | x :: r, n + 1 => by
    have := sent_rep r n
    simp only [sent, List.replicate_succ, List.zipWith_cons_cons, List.sum_cons] at this ⊢
    simp [this]
theorem sent_set : ∀ {g : List Nd} {s : List Bool} {i : Nat}, s[i]? = some false → i < g.length → sent g (s.set i true) = sent g s + (g.getD i ⟨0, []⟩).next.length
  | [], s, i, _, h => by simp at h
  | x :: r, [], i, h, _ => by simp at h
  | x :: r, b :: t, 0, h, _ => by
    simp at h
    subst h
    simp [sent]
    omega
  | x :: r, b :: t, i + 1, h, hi => by
    simp only [List.getElem?_cons_succ] at h
    simp only [List.length_cons] at hi
    have := sent_set (g := r) h (by omega)
    simp only [sent, List.set_cons_succ, List.zipWith_cons_cons, List.sum_cons, List.getD_cons_succ] at this ⊢
    omega
theorem sent_le : ∀ (g : List Nd) (s : List Bool), sent g s ≤ edgs g
  | [], s => by simp [sent]
  | x :: r, [] => by simp [sent]
  | x :: r, b :: t => by
    have := sent_le r t
    simp only [sent, edgs, List.zipWith_cons_cons, List.sum_cons, List.map_cons] at this ⊢
    split <;> omega
def active (c : Ch) (a : Int) : Prop := 0 ≤ a ∧ (a = c.start ∨ seenAt c.seen a = true)
def handled (c : Ch) (x : Int) : Prop := (x = c.start ∧ c.dec = true) ∨ (x ≠ c.start ∧ ((nodeAt c.g x).k = 0 ∨ seenAt c.seen x = true))
structure Run (G : List Nd) (i : Int) (c : Ch) (n : Nat) : Prop where
  ok : c.ok
  g : c.g = G
  st : c.start = i
  snd : ∀ x, 0 ≤ x → seenAt c.seen x = true → Rea G i x
  dec : c.dec = true → Rea G i i
  hand : ∀ a, active c a → ∀ x ∈ (nodeAt G a).next, (⟨a, x⟩ : Pr) ∈ c.ps ∨ handled c x
  cnt : n + c.ps.length = sent G c.seen + (nodeAt G i).next.length
theorem begE_ok {G : List Nd} {i : Int} (h : begE G i = 0) : gOk G = true ∧ 0 ≤ i ∧ i < G.length ∧ (nodeAt G i).k ≠ 0 := by
  unfold begE at h
  split at h
  · cases h
  · next h1 =>
    split at h
    · cases h
    · next h2 =>
      split at h
      · cases h
      · next h3 => exact ⟨by simpa using h1, by omega, by omega, h3⟩
theorem Run.begin {G : List Nd} {i : Int} (h : begE G i = 0) : Run G i (begC G i) 0 := by
  obtain ⟨h1, h2, h3, h4⟩ := begE_ok h
  refine ⟨⟨h1, h2, h3, h4, by simp [begC], fun j hj q => ?_, fun p hp => ?_⟩, rfl, rfl, fun x _ q => ?_, fun q => (by cases q), fun a ha x hx => ?_, ?_⟩
  · simp only [begC, seenAt_rep] at q; cases q
  · simp only [begC, prs, List.mem_map] at hp
    obtain ⟨x, hx, rfl⟩ := hp
    exact ⟨h2, h3, .inl rfl, hx⟩
  · simp only [begC, seenAt_rep] at q; cases q
  · have : a = i := by
      rcases ha.2 with q | q
      · exact q
      · simp only [begC, seenAt_rep] at q; cases q
    subst this
    exact .inl (List.mem_map.2 ⟨x, hx, rfl⟩)
  · simp [begC, sent_rep]
theorem mem_cut {l : List Pr} {k : Nat} (h : k < l.length) {p : Pr} (hp : p ∈ l) : p = l[k] ∨ p ∈ cut l k := by
  rw [← List.take_append_drop k l, List.mem_append] at hp
  rcases hp with hp | hp
  · exact .inr (by simp [cut, hp])
  · rw [List.drop_eq_getElem_cons h, List.mem_cons] at hp
    rcases hp with hp | hp
    · exact .inl hp
    · exact .inr (by simp [cut, hp])
theorem cut_sub {l : List Pr} {k : Nat} {p : Pr} (hp : p ∈ cut l k) : p ∈ l := by
  rw [cut, List.mem_append] at hp
  rcases hp with hp | hp
  · exact List.mem_of_mem_take hp
  · exact List.mem_of_mem_drop hp
theorem cut_len {l : List Pr} {k : Nat} (h : k < l.length) : (cut l k).length + 1 = l.length := by
  simp only [cut, List.length_append, List.length_take, List.length_drop]
  omega
theorem Run.hits {G : List Nd} {i : Int} {c : Ch} {n : Nat} (h : Run G i c n) {a x : Int} (ha : active c a) (hx : x ∈ (nodeAt G a).next) : Rea G i x := by
  rcases ha.2 with q | q
  · rw [h.st] at q; subst q; exact .one hx
  · exact .step (h.snd a ha.1 q) hx
theorem Run.step {G : List Nd} {i : Int} {c : Ch} {n : Nat} (h : Run G i c n) {k : Nat} (hk : k < c.ps.length) : Run G i (stepC c k) (n + 1) := by
  have hok := h.ok
  obtain ⟨o1, o2, o3, o4, o5, o6, o7⟩ := hok
  have hto := ok_to h.ok hk
  have hpk := o7 _ (List.getElem_mem hk)
  have htk : c.ps[k].to = toAt c.ps k := toAt_get hk
  have hlen := cut_len hk
  have hcnt := h.cnt
  have hr : Rea G i (toAt c.ps k) := by
    rw [← htk]
    refine h.hits (a := c.ps[k].frm) ⟨hpk.1, hpk.2.2.1⟩ ?_
    rw [← h.g]; exact hpk.2.2.2
  have hsub : ∀ p ∈ cut c.ps k, prOk c p := fun p hp => o7 p (cut_sub hp)
  unfold stepC
  split
  · next ht =>
    refine ⟨⟨o1, o2, o3, o4, o5, o6, hsub⟩, h.g, h.st, h.snd, fun _ => ?_, fun a ha x hx => ?_, by simp only; omega⟩
    · rw [ht, h.st] at hr; exact hr
    · rcases h.hand a ha x hx with q | q
      · rcases mem_cut hk q with q | q
        · refine .inr (.inl ⟨?_, rfl⟩)
          have : x = toAt c.ps k := by rw [← htk, ← q]
          rw [this]; exact ht
        · exact .inl q
      · refine .inr ?_
        rcases q with ⟨q, _⟩ | q
        · exact .inl ⟨q, rfl⟩
        · exact .inr q
  · next ht =>
    split
    · next ht2 =>
      obtain ⟨hk1, hk2⟩ := ht2
      have hset : ∀ x, 0 ≤ x → seenAt (c.seen.set (toAt c.ps k).toNat true) x = (decide (x = toAt c.ps k) || seenAt c.seen x) := fun x hx => seenAt_set hto.1 (by omega) hx
      refine ⟨⟨o1, o2, o3, o4, by simp [o5], fun j hj q => ?_, fun p hp => ?_⟩, h.g, h.st, fun x h0 q => ?_, h.dec, fun a ha x hx => ?_, ?_⟩
      · simp only at q ⊢
        rw [hset _ (by omega), Bool.or_eq_true, decide_eq_true_eq] at q
        rcases q with q | q
        · rw [q]; exact ⟨ht, hk1⟩
        · exact o6 j hj q
      · simp only [List.mem_append, prs, List.mem_map] at hp
        rcases hp with hp | ⟨x, hx, rfl⟩
        · obtain ⟨p1, p2, p3, p4⟩ := hsub p hp
          refine ⟨p1, p2, ?_, p4⟩
          rcases p3 with p3 | p3
          · exact .inl p3
          · exact .inr (by simp only; rw [hset _ p1, p3, Bool.or_true])
        · exact ⟨hto.1, hto.2, .inr (by simp only; rw [hset _ hto.1]; simp), hx⟩
      · simp only at q
        rw [hset x h0, Bool.or_eq_true, decide_eq_true_eq] at q
        rcases q with rfl | q
        · exact hr
        · exact h.snd x h0 q
      · have hmono : ∀ x, 0 ≤ x → handled c x → handled ⟨c.g, c.start, cut c.ps k ++ prs (toAt c.ps k) (nodeAt c.g (toAt c.ps k)).next, c.seen.set (toAt c.ps k).toNat true, c.dec⟩ x := fun x h0 q => by
          rcases q with q | ⟨q1, q2⟩
          · exact .inl q
          · refine .inr ⟨q1, ?_⟩
            rcases q2 with q2 | q2
            · exact .inl q2
            · exact .inr (by simp only; rw [hset x h0, q2, Bool.or_true])
        have hx0 := (gOk_mem (by rw [← h.g]; exact o1) hx).1
        have ha' := ha.2
        simp only at ha'
        rw [hset a ha.1, Bool.or_eq_true, decide_eq_true_eq] at ha'
        have key : active c a → (⟨a, x⟩ : Pr) ∈ cut c.ps k ++ prs (toAt c.ps k) (nodeAt c.g (toAt c.ps k)).next ∨ handled ⟨c.g, c.start, cut c.ps k ++ prs (toAt c.ps k) (nodeAt c.g (toAt c.ps k)).next, c.seen.set (toAt c.ps k).toNat true, c.dec⟩ x := fun hac => by
          rcases h.hand a hac x hx with q | q
          · rcases mem_cut hk q with q | q
            · refine .inr (.inr ⟨?_, .inr ?_⟩)
              · have : x = toAt c.ps k := by rw [← htk, ← q]
                rw [this]; exact ht
              · have : x = toAt c.ps k := by rw [← htk, ← q]
                simp only; rw [hset x hx0, this]; simp
            · exact .inl (by simp [q])
          · exact .inr (hmono x hx0 q)
        rcases ha' with q | rfl | q
        · exact key ⟨ha.1, .inl q⟩
        · refine .inl ?_
          rw [List.mem_append]
          exact .inr (List.mem_map.2 ⟨x, by rw [h.g]; exact hx, rfl⟩)
        · exact key ⟨ha.1, .inr q⟩
      · have hs : c.seen[(toAt c.ps k).toNat]? = some false := by
          rw [seenAt, List.getD_eq_getElem?_getD] at hk2
          rw [List.getElem?_eq_getElem (by omega)] at hk2 ⊢
          simpa using hk2
        have := sent_set (g := G) hs (by rw [← h.g]; omega)
        simp only [List.length_append, prs_length]
        rw [this]
        have : (G.getD (toAt c.ps k).toNat ⟨0, []⟩).next.length = (nodeAt c.g (toAt c.ps k)).next.length := by rw [h.g]; rfl
        omega
    · next ht2 =>
      refine ⟨⟨o1, o2, o3, o4, o5, o6, hsub⟩, h.g, h.st, h.snd, h.dec, fun a ha x hx => ?_, by simp only; omega⟩
      rcases h.hand a ha x hx with q | q
      · rcases mem_cut hk q with q | q
        · have hxe : x = toAt c.ps k := by rw [← htk, ← q]
          refine .inr (.inr ⟨by rw [hxe]; exact ht, ?_⟩)
          rw [hxe]
          by_cases h1 : (nodeAt c.g (toAt c.ps k)).k = 0
          · exact .inl h1
          · refine .inr ?_
            cases h2 : seenAt c.seen (toAt c.ps k)
            · exact absurd ⟨h1, h2⟩ ht2
            · rfl
        · exact .inl q
      · exact .inr q
/-- when no probe is on its way -/
structure Fini (G : List Nd) (i : Int) (c : Ch) (n : Nat) : Prop where
  g : c.g = G
  st : c.start = i
  ps : c.ps = []
  len : c.seen.length = G.length
  seen : ∀ x, 0 ≤ x → (seenAt c.seen x = true ↔ Rea G i x ∧ x ≠ i ∧ 0 < (nodeAt G x).k)
  dec : c.dec = true ↔ Rea G i i
  cnt : n = sent G c.seen + (nodeAt G i).next.length
theorem Run.done {G : List Nd} {i : Int} {c : Ch} {n : Nat} (h : Run G i c n) (hp : c.ps = []) : Fini G i c n := by
  obtain ⟨o1, o2, o3, o4, o5, o6, o7⟩ := h.ok
  have hgG : gOk G = true := by rw [← h.g]; exact o1
  have hh : ∀ a, active c a → ∀ x ∈ (nodeAt G a).next, handled c x := fun a ha x hx => by
    rcases h.hand a ha x hx with q | q
    · rw [hp] at q; cases q
    · exact q
  -- all that is reached is handled
  have hall : ∀ x, Rea G i x → 0 ≤ x ∧ handled c x := fun x hr => by
    refine Rea.closed (S := fun x => 0 ≤ x ∧ handled c x) (fun x hx => ⟨(gOk_mem hgG hx).1, hh i ⟨by rw [← h.st]; exact o2, .inl h.st.symm⟩ x hx⟩) (fun y hy x hx => ⟨(gOk_mem hgG hx).1, ?_⟩) hr
    rcases hy.2 with ⟨q, _⟩ | ⟨_, q | q⟩
    · exact hh y ⟨hy.1, .inl q⟩ x hx
    · have hb : y < G.length := by
        by_cases hb : y.toNat < G.length
        · omega
        · rw [nodeAt, List.getD_eq_getElem?_getD, List.getElem?_eq_none (by omega)] at hx
          simp at hx
      have := (gOk_node hgG hy.1 hb).2.2.1 (by rw [← h.g]; exact q)
      rw [List.length_eq_zero_iff] at this
      rw [this] at hx
      cases hx
    · exact hh y ⟨hy.1, .inr q⟩ x hx
  refine ⟨h.g, h.st, hp, by rw [o5, h.g], fun x h0 => ⟨fun q => ?_, fun ⟨q1, q2, q3⟩ => ?_⟩, ⟨h.dec, fun q => ?_⟩, ?_⟩
  · have hx : x < c.g.length := by
      by_cases hx : x.toNat < c.seen.length
      · omega
      · rw [seenAt, List.getD_eq_getElem?_getD, List.getElem?_eq_none (by omega)] at q
        cases q
    have := o6 x.toNat (by omega) (by rw [show ((x.toNat : Nat) : Int) = x by omega]; exact q)
    rw [show ((x.toNat : Nat) : Int) = x by omega] at this
    refine ⟨h.snd x h0 q, by rw [← h.st]; exact this.1, ?_⟩
    have := ok_k h.ok h0 hx
    rw [← h.g]
    omega
  · rcases (hall x q1).2 with ⟨q, _⟩ | ⟨_, q | q⟩
    · exact absurd (q.trans h.st) q2
    · rw [h.g] at q; omega
    · exact q
  · rcases (hall i q).2 with ⟨_, q⟩ | ⟨q, _⟩
    · exact q
    · exact absurd h.st.symm q
  · have := h.cnt
    rw [hp] at this
    simpa using this
/-- two runs end alike -/
theorem Fini.uniq {G : List Nd} {i : Int} {a b : Ch} {n m : Nat} (h : Fini G i a n) (k : Fini G i b m) : a = b ∧ n = m := by
  have hs : a.seen = b.seen := by
    apply List.ext_getElem
    · rw [h.len, k.len]
    · intro j h1 h2
      have e : seenAt a.seen (j : Nat) = true ↔ seenAt b.seen (j : Nat) = true := (h.seen _ (by omega)).trans (k.seen _ (by omega)).symm
      have e1 : seenAt a.seen (j : Nat) = a.seen[j] := by simp [seenAt, h1]
      have e2 : seenAt b.seen (j : Nat) = b.seen[j] := by simp [seenAt, h2]
      rw [e1, e2] at e
      exact Bool.eq_iff_iff.2 e
  refine ⟨Ch.ext' (h.g.trans k.g.symm) (h.st.trans k.st.symm) (h.ps.trans k.ps.symm) hs (Bool.eq_iff_iff.2 (h.dec.trans k.dec.symm)), ?_⟩
  rw [h.cnt, k.cnt, hs]
theorem Run.few {G : List Nd} {i : Int} {c : Ch} {n : Nat} (h : Run G i c n) : n + c.ps.length ≤ edgs G := by
  have hs0 : seenAt c.seen i = false := by
    cases q : seenAt c.seen i
    · rfl
    · have := h.ok.2.2.2.2.2.1 i.toNat (by have := h.ok.2.1; have := h.ok.2.2.1; rw [h.st] at *; omega)
      have h0 := h.ok.2.1
      rw [h.st] at h0
      rw [show ((i.toNat : Nat) : Int) = i by omega] at this
      exact absurd h.st.symm (this q).1
  have h0 := h.ok.2.1
  have h1 := h.ok.2.2.1
  have h2 := h.ok.2.2.2.2.1
  rw [h.st, h.g] at h1
  rw [h.st] at h0
  rw [h.g] at h2
  have hs : c.seen[i.toNat]? = some false := by
    rw [seenAt, List.getD_eq_getElem?_getD] at hs0
    rw [List.getElem?_eq_getElem (by omega)] at hs0 ⊢
    simpa using hs0
  have e1 := sent_set (g := G) hs (by omega)
  have e2 := sent_le G (c.seen.set i.toNat true)
  have e3 : (G.getD i.toNat ⟨0, []⟩).next.length = (nodeAt G i).next.length := rfl
  have := h.cnt
  omega
end Go.Proofs.Ytbbhenjhghbimaa

namespace Go.Proofs.Ytbbhenjhghbimaa

theorem Rea.back {g : List Nd} {to : Int} {P : Int → Prop} (h0 : ∀ j, to ∈ (nodeAt g j).next → P j) (h1 : ∀ j y, y ∈ (nodeAt g j).next → P y → P j) {j : Int} (h : Rea g j to) : P j := by
  have key : ∀ x, Rea g j x → (x = to ∨ P x) → P j := by
    intro x hx
    induction hx with
    | one hx =>
      rintro (rfl | q)
      · exact h0 _ hx
      · exact h1 _ _ hx q
    | step _ hx ih =>
      rintro (rfl | q)
      · exact ih (.inr (h0 _ hx))
      · exact ih (.inr (h1 _ _ hx q))
  exact key to h (.inl rfl)
theorem node_lt {g : List Nd} {j x : Int} (h : x ∈ (nodeAt g j).next) : j < g.length := by
  by_cases hi : j.toNat < g.length
  · omega
  · rw [nodeAt, List.getD_eq_getElem?_getD, List.getElem?_eq_none (by omega)] at h
    simp at h
def dAt (d : List Int) (i : Int) : Int := d.getD i.toNat 0
def nz (d : List Int) : Nat := d.countP (· != 0)
theorem nz_set : ∀ {d : List Int} {i : Nat} {s : Int}, d[i]? = some 0 → s ≠ 0 → nz (d.set i s) = nz d + 1
  | [], i, s, h, _ => by simp at h
  | b :: r, 0, s, h, hs => by
    simp at h
    subst h
    simp [nz, List.countP_cons, hs]
  | b :: r, i + 1, s, h, hs => by
    simp only [List.getElem?_cons_succ] at h
    have := nz_set h hs
    simp only [nz, List.set_cons_succ, List.countP_cons] at this ⊢
    omega
theorem nz_all {d : List Int} (h : d.length ≤ nz d) {j : Int} (h0 : 0 ≤ j) (h1 : j < d.length) : dAt d j ≠ 0 := by
  have e : nz d = d.length := Nat.le_antisymm List.countP_le_length h
  rw [nz, List.countP_eq_length] at e
  have hj : j.toNat < d.length := by omega
  have := e _ (List.getElem_mem hj)
  rw [dAt, List.getD_eq_getElem?_getD, List.getElem?_eq_getElem hj]
  simpa using this
theorem dAt_set {d : List Int} {i x s : Int} (h0 : 0 ≤ i) (h1 : i < d.length) (hx : 0 ≤ x) : dAt (d.set i.toNat s) x = if x = i then s else dAt d x := by
  simp only [dAt, List.getD_eq_getElem?_getD, List.getElem?_set]
  by_cases h : i.toNat = x.toNat
  · have : x = i := by omega
    have h2 : i.toNat < d.length := by omega
    subst this
    simp [h2]
  · have : ¬ x = i := by omega
    simp [h, this]
def Clo (g : List Nd) (to : Int) (d : List Int) : Prop := (∀ j, 0 ≤ j → to ∈ (nodeAt g j).next → dAt d j ≠ 0) ∧ ∀ j y, 0 ≤ j → 0 ≤ y → y ∈ (nodeAt g j).next → dAt d y ≠ 0 → dAt d j ≠ 0
/-- the distances below s are found -/
structure Dis (g : List Nd) (to s : Int) (d : List Int) : Prop where
  len : d.length = g.length
  snd : ∀ j, 0 ≤ j → dAt d j ≠ 0 → Rea g j to ∧ 1 ≤ dAt d j ∧ dAt d j < s
  c0 : 1 < s → ∀ j, 0 ≤ j → to ∈ (nodeAt g j).next → dAt d j ≠ 0
  c1 : ∀ j y, 0 ≤ j → 0 ≤ y → y ∈ (nodeAt g j).next → dAt d y ≠ 0 → dAt d y < s - 1 → dAt d j ≠ 0
  prog : s - 1 ≤ nz d ∨ Clo g to d
def hit (to s : Int) (d : List Int) (n : Int) : Prop := (s = 1 ∧ n = to) ∨ (1 < s ∧ dAt d n = s - 1)
/-- while s is looked for -/
structure Dim (g : List Nd) (to s : Int) (d0 d : List Int) (i k : Nat) : Prop where
  len : d.length = g.length
  old : ∀ j, 0 ≤ j → dAt d0 j ≠ 0 → dAt d j = dAt d0 j
  new : ∀ j, 0 ≤ j → dAt d j ≠ 0 → dAt d j = dAt d0 j ∨ (dAt d j = s ∧ dAt d0 j = 0 ∧ ∃ n ∈ (nodeAt g j).next, hit to s d0 n)
  dn : ∀ j : Int, 0 ≤ j → j < (i : Nat) → (∃ n ∈ (nodeAt g j).next, hit to s d0 n) → dAt d j ≠ 0
  dnk : ∀ q (h : q < (nodeAt g (i : Nat)).next.length), q < k → hit to s d0 (nodeAt g (i : Nat)).next[q] → dAt d (i : Nat) ≠ 0
  ch : d = d0 ∨ nz d0 + 1 ≤ nz d
theorem Dis.start (g : List Nd) (to : Int) : Dis g to 1 (List.replicate g.length 0) := by
  have h0 : ∀ x, dAt (List.replicate g.length 0) x = 0 := fun x => by
    simp only [dAt, List.getD_eq_getElem?_getD, List.getElem?_replicate]
    split <;> rfl
  exact ⟨by simp, fun j _ h => absurd (h0 j) h, fun h => by omega, fun j y _ _ _ h => absurd (h0 y) h, .inl (by omega)⟩
theorem Dim.start {g : List Nd} {to s : Int} {d : List Int} (h : Dis g to s d) : Dim g to s d d 0 0 :=
  ⟨h.len, fun _ _ _ => rfl, fun _ _ _ => .inl rfl, fun j h0 h1 => by omega, fun q _ h1 => by omega, .inl rfl⟩
section
variable {g : List Nd} {to s : Int} {d0 d : List Int} {i k : Nat}
/-- a node is done -/
theorem Dim.up (h : Dim g to s d0 d i k) (hk : (nodeAt g (i : Nat)).next.length ≤ k ∨ dAt d (i : Nat) ≠ 0) : Dim g to s d0 d (i + 1) 0 := by
  refine ⟨h.len, h.old, h.new, fun j h0 h1 hc => ?_, fun q _ h1 => by omega, h.ch⟩
  by_cases hj : j < i
  · exact h.dn j h0 hj hc
  · have : j = i := by omega
    subst this
    rcases hk with hk | hk
    · obtain ⟨n, hn, hh⟩ := hc
      obtain ⟨q, hq, rfl⟩ := List.getElem_of_mem hn
      exact h.dnk q hq (by omega) hh
    · exact hk
theorem hit_same (hd : Dis g to s d0) (h : Dim g to s d0 d i k) {n : Int} (hn : 0 ≤ n) : hit to s d n ↔ hit to s d0 n := by
  unfold hit
  constructor
  · rintro (q | ⟨q1, q2⟩)
    · exact .inl q
    · refine .inr ⟨q1, ?_⟩
      rcases h.new n hn (by omega) with e | ⟨e, _⟩
      · rw [← e]; exact q2
      · omega
  · rintro (q | ⟨q1, q2⟩)
    · exact .inl q
    · refine .inr ⟨q1, ?_⟩
      rw [h.old n hn (by omega)]; exact q2
theorem Dim.pass (hd : Dis g to s d0) (hg : gOk g = true) (h : Dim g to s d0 d i k) (hk : k < (nodeAt g (i : Nat)).next.length) (hh : ¬ hit to s d (nodeAt g (i : Nat)).next[k]) : Dim g to s d0 d i (k + 1) := by
  refine ⟨h.len, h.old, h.new, h.dn, fun q hq h1 h2 => ?_, h.ch⟩
  by_cases e : q < k
  · exact h.dnk q hq e h2
  · have : q = k := by omega
    subst this
    exact absurd ((hit_same hd h (gOk_mem hg (List.getElem_mem hq)).1).2 h2) hh
theorem Dim.put (hd : Dis g to s d0) (hg : gOk g = true) (hs : 1 ≤ s) (h : Dim g to s d0 d i k) (hi : i < g.length) (hz : dAt d (i : Nat) = 0) (hk : k < (nodeAt g (i : Nat)).next.length) (hh : hit to s d (nodeAt g (i : Nat)).next[k]) : Dim g to s d0 (d.set i s) i (k + 1) := by
  have hlen := h.len
  have hset : ∀ x, 0 ≤ x → dAt (d.set i s) x = if x = (i : Nat) then s else dAt d x := fun x hx => by
    have := dAt_set (d := d) (i := (i : Nat)) (s := s) (by omega) (by omega) hx
    simpa using this
  have hz0 : dAt d0 (i : Nat) = 0 := by
    by_cases e : dAt d0 (i : Nat) = 0
    · exact e
    · rw [h.old _ (by omega) e] at hz
      exact absurd hz e
  have hh0 := (hit_same hd h (gOk_mem hg (List.getElem_mem hk)).1).1 hh
  refine ⟨by simp [hlen], fun j h0 hj => ?_, fun j h0 hj => ?_, fun j h0 h1 hc => ?_, fun q hq h1 h2 => ?_, .inr ?_⟩
  · rw [hset j h0]
    split
    · next e => subst e; exact absurd hz0 hj
    · exact h.old j h0 hj
  · rw [hset j h0] at hj ⊢
    split
    · next e => subst e; exact .inr ⟨rfl, hz0, _, List.getElem_mem hk, hh0⟩
    · next e =>
      rw [if_neg e] at hj
      exact h.new j h0 hj
  · rw [hset j h0, if_neg (by omega)]
    exact h.dn j h0 h1 hc
  · rw [hset _ (by omega), if_pos rfl]
    omega
  · have hz' : d[i]? = some 0 := by
      rw [dAt, List.getD_eq_getElem?_getD, List.getElem?_eq_getElem (by simp; omega)] at hz
      rw [List.getElem?_eq_getElem (by omega)]
      simpa using hz
    rw [nz_set hz' (by omega)]
    rcases h.ch with e | e
    · rw [e]; omega
    · omega
/-- a step is done -/
theorem Dim.done (hd : Dis g to s d0) (hg : gOk g = true) (hs : 1 ≤ s) (h : Dim g to s d0 d g.length k) : Dis g to (s + 1) d := by
  have c0 : ∀ j, 0 ≤ j → to ∈ (nodeAt g j).next → dAt d j ≠ 0 := fun j h0 hj => by
    by_cases h1 : s = 1
    · exact h.dn j h0 (node_lt hj) ⟨to, hj, .inl ⟨h1, rfl⟩⟩
    · have := hd.c0 (by omega) j h0 hj
      rw [h.old j h0 this]; exact this
  have c1 : ∀ j y, 0 ≤ j → 0 ≤ y → y ∈ (nodeAt g j).next → dAt d y ≠ 0 → dAt d y < s + 1 - 1 → dAt d j ≠ 0 := fun j y h0 hy hj hn hl => by
    rcases h.new y hy hn with e | ⟨e, _⟩
    · rw [e] at hn hl
      have hb := (hd.snd y hy hn).2.1
      by_cases h2 : dAt d0 y < s - 1
      · have := hd.c1 j y h0 hy hj hn h2
        rw [h.old j h0 this]; exact this
      · exact h.dn j h0 (node_lt hj) ⟨y, hj, .inr ⟨by omega, by omega⟩⟩
    · omega
  refine ⟨h.len, fun j h0 hj => ?_, fun _ => c0, c1, ?_⟩
  · rcases h.new j h0 hj with e | ⟨e, _, n, hn, hh⟩
    · rw [e] at hj ⊢
      have := hd.snd j h0 hj
      exact ⟨this.1, this.2.1, by omega⟩
    · refine ⟨?_, by omega, by omega⟩
      rcases hh with ⟨_, rfl⟩ | ⟨q1, q2⟩
      · exact .one hn
      · exact .front hn (hd.snd n (gOk_mem hg hn).1 (by omega)).1
  · rcases h.ch with e | e
    · refine .inr ⟨c0, fun j y h0 hy hj hn => c1 j y h0 hy hj hn ?_⟩
      rw [e] at hn ⊢
      have := (hd.snd y hy hn).2.2
      omega
    · rcases hd.prog with p | p
      · exact .inl (by omega)
      · refine .inr ⟨c0, fun j y h0 hy hj hn => ?_⟩
        rcases h.new y hy hn with q | ⟨_, q, n, hn2, hh⟩
        · rw [q] at hn
          have := p.2 j y h0 hy hj hn
          rw [h.old j h0 this]; exact this
        · exfalso
          rcases hh with ⟨_, rfl⟩ | ⟨q1, q2⟩
          · exact p.1 y hy hn2 q
          · exact p.2 y n hy (gOk_mem hg hn2).1 hn2 (by omega) q
end
/-- at the end -/
theorem Dis.fin {g : List Nd} {to : Int} {d : List Int} (hg : gOk g = true) (h : Dis g to (g.length + 1) d) {j : Int} (h0 : 0 ≤ j) (h1 : j < g.length) : dAt d j ≠ 0 ↔ Rea g j to := by
  refine ⟨fun q => (h.snd j h0 q).1, fun q => ?_⟩
  rcases h.prog with p | p
  · exact nz_all (by rw [h.len]; omega) h0 (by rw [h.len]; exact h1)
  · have := Rea.back (P := fun x => 0 ≤ x → dAt d x ≠ 0) (fun j hj h0 => p.1 j h0 hj) (fun j y hj hy h0 => p.2 j y h0 (gOk_mem hg hj).1 hj (hy (gOk_mem hg hj).1)) q
    exact this h0
end Go.Proofs.Ytbbhenjhghbimaa

namespace Go.Proofs.Ytbbhenjhghbimaa

/-- the number of neighbours that are done -/
def ndn (g : List Nd) (s : List Bool) (i : Int) : Nat := (nodeAt g i).next.countP fun x => seenAt s x
/-- nothing more can be done -/
def Cl (g : List Nd) (s : List Bool) : Prop := ∀ i : Int, 0 ≤ i → i < g.length → (nodeAt g i).k ≤ ndn g s i → seenAt s i = true
/-- what is done must be done -/
def Ls (g : List Nd) (s : List Bool) : Prop := ∀ S : Int → Bool, (∀ i : Int, 0 ≤ i → i < g.length → (nodeAt g i).k ≤ (nodeAt g i).next.countP S → S i = true) → ∀ x : Int, 0 ≤ x → seenAt s x = true → S x = true
theorem Ls.start (g : List Nd) (n : Nat) : Ls g (List.replicate n false) := fun S _ x _ h => by rw [seenAt_rep] at h; cases h
theorem Ls.put {g : List Nd} (hg : gOk g = true) {s : List Bool} (h : Ls g s) {i : Nat} (hi : i < g.length) (hl : s.length = g.length) (hk : (nodeAt g (i : Nat)).k ≤ ndn g s (i : Nat)) : Ls g (s.set i true) := by
  intro S hS x h0 hx
  have := seenAt_set (s := s) (i := (i : Nat)) (x := x) (by omega) (by omega) h0
  simp only [Int.toNat_natCast] at this
  rw [this, Bool.or_eq_true, decide_eq_true_eq] at hx
  rcases hx with rfl | hx
  · refine hS _ (by omega) (by omega) ?_
    have hm : ndn g s (i : Nat) ≤ (nodeAt g (i : Nat)).next.countP S := List.countP_mono_left fun y hy q => h S hS y (gOk_mem hg hy).1 q
    omega
  · exact h S hS x h0 hx
theorem Rea.head {g : List Nd} {i x : Int} (h : Rea g i x) : ∃ y ∈ (nodeAt g i).next, y = x ∨ Rea g y x := by
  induction h with
  | one h => exact ⟨_, h, .inl rfl⟩
  | step _ hx ih =>
    obtain ⟨y, hy, q⟩ := ih
    refine ⟨y, hy, .inr ?_⟩
    rcases q with rfl | q
    · exact .one hx
    · exact .step q hx
theorem countP_lt {α : Type} {p q : α → Bool} : ∀ {l : List α}, (∀ a ∈ l, p a = true → q a = true) → (∃ a ∈ l, q a = true ∧ p a = false) → l.countP p < l.countP q
  | [], _, h => by obtain ⟨a, ha, _⟩ := h; cases ha
  | x :: r, hm, h => by
    have hle : r.countP p ≤ r.countP q := List.countP_mono_left fun a ha => hm a (by simp [ha])
    obtain ⟨a, ha, h1, h2⟩ := h
    rw [List.mem_cons] at ha
    simp only [List.countP_cons]
    rcases ha with rfl | ha
    · simp only [h1, h2, if_true, Bool.false_eq_true, if_false]; omega
    · have := countP_lt (fun a ha => hm a (by simp [ha])) ⟨a, ha, h1, h2⟩
      have hx := hm x (by simp)
      split
      · next e => rw [if_pos (hx e)]; omega
      · split <;> omega
open Classical in
theorem stuck_iff {g : List Nd} (hg : gOk g = true) (ha : ∀ n ∈ g, n.k = n.next.length) {s : List Bool} (hc : Cl g s) (hl : Ls g s) {i : Int} (h0 : 0 ≤ i) (h1 : i < g.length) : seenAt s i = false ↔ ∃ j, (j = i ∨ Rea g i j) ∧ Rea g j j := by
  have hk : ∀ x : Int, 0 ≤ x → x < g.length → (nodeAt g x).k = (nodeAt g x).next.length := fun x a b => ha _ (nodeAt_mem a b)
  constructor
  · intro hs
    apply Classical.byContradiction
    intro hno
    have hno : ∀ j, (j = i ∨ Rea g i j) → ¬ Rea g j j := fun j hj q => hno ⟨j, hj, q⟩
    have key : ∀ m : Nat, ∀ x : Int, (x = i ∨ Rea g i x) → 0 ≤ x → x < g.length → (List.range g.length).countP (fun y : Nat => decide (Rea g x (y : Int))) ≤ m → seenAt s x = true := by
      intro m
      induction m with
      | zero =>
        intro x hx a b hm
        refine hc x a b ?_
        rw [hk x a b]
        have : (nodeAt g x).next = [] := by
          cases hn : (nodeAt g x).next with
          | nil => rfl
          | cons y r =>
            have hy : y ∈ (nodeAt g x).next := by rw [hn]; simp
            have hb := gOk_mem hg hy
            have : 0 < (List.range g.length).countP (fun y : Nat => decide (Rea g x (y : Int))) := List.countP_pos_iff.2 ⟨y.toNat, by simp; omega, by
              rw [show ((y.toNat : Nat) : Int) = y by omega]; exact decide_eq_true (.one hy)⟩
            omega
        rw [ndn, this]; simp
      | succ m ih =>
        intro x hx a b hm
        refine hc x a b ?_
        rw [hk x a b]
        have : ndn g s x = (nodeAt g x).next.length := by
          rw [ndn, List.countP_eq_length]
          intro y hy
          have hb := gOk_mem hg hy
          have hy2 : y = i ∨ Rea g i y := by
            rcases hx with rfl | hx
            · exact .inr (.one hy)
            · exact .inr (.step hx hy)
          refine ih y hy2 hb.1 hb.2 ?_
          have : (List.range g.length).countP (fun z : Nat => decide (Rea g y (z : Int))) < (List.range g.length).countP (fun z : Nat => decide (Rea g x (z : Int))) := by
            refine countP_lt (fun z _ q => ?_) ⟨y.toNat, by simp; omega, ?_, ?_⟩
            · exact decide_eq_true (.front hy (of_decide_eq_true q))
            · rw [show ((y.toNat : Nat) : Int) = y by omega]; exact decide_eq_true (.one hy)
            · rw [show ((y.toNat : Nat) : Int) = y by omega]; exact decide_eq_false (hno y hy2)
          omega
        rw [this]; omega
    have := key _ i (.inl rfl) h0 h1 (Nat.le_refl _)
    rw [hs] at this
    cases this
  · rintro ⟨j, hj, hjj⟩
    have hij : Rea g i j := by
      rcases hj with rfl | hj
      · exact hjj
      · exact hj
    cases hs : seenAt s i with
    | false => rfl
    | true =>
      have := hl (fun x => decide (¬ Rea g x j)) (fun x a b hx => ?_) i h0 hs
      · simp at this
        exact absurd hij this
      · refine decide_eq_true fun hxj => ?_
        rw [hk x a b] at hx
        have hall : (nodeAt g x).next.countP (fun x => decide (¬ Rea g x j)) = (nodeAt g x).next.length := Nat.le_antisymm List.countP_le_length (by omega)
        rw [List.countP_eq_length] at hall
        obtain ⟨y, hy, q⟩ := hxj.head
        have := hall y hy
        simp only [decide_eq_true_eq] at this
        rcases q with rfl | q
        · exact this hjj
        · exact this q
/-- the numbers of the false ones, below a bound -/
def flss (s : List Bool) (k : Nat) : List Int := ((List.range k).filter fun j : Nat => !seenAt s (j : Int)).map fun j : Nat => (j : Int)
theorem flss_succ (s : List Bool) (k : Nat) : flss s (k + 1) = if seenAt s (k : Nat) = true then flss s k else flss s k ++ [(k : Int)] := by
  simp only [flss, List.range_succ, List.filter_append, List.map_append]
  split
  · next h => simp [h]
  · next h => simp [h]
theorem mem_flss {s : List Bool} {k : Nat} {x : Int} : x ∈ flss s k ↔ 0 ≤ x ∧ x < k ∧ seenAt s x = false := by
  simp only [flss, List.mem_map, List.mem_filter, List.mem_range]
  constructor
  · rintro ⟨j, ⟨h1, h2⟩, rfl⟩
    exact ⟨by omega, by omega, by simpa using h2⟩
  · rintro ⟨h1, h2, h3⟩
    refine ⟨x.toNat, ⟨by omega, ?_⟩, by omega⟩
    rw [show ((x.toNat : Nat) : Int) = x by omega, h3]; rfl
theorem flss_len (s : List Bool) (k : Nat) : (flss s k).length ≤ k := by
  simp only [flss, List.length_map]
  exact Nat.le_trans (List.length_filter_le _ _) (by simp)
end Go.Proofs.Ytbbhenjhghbimaa

namespace Go.Proofs.Ytbbhenjhghbimaa
open Go.RowKit Go.Proofs

theorem tape2 {bx : List (List V)} {B : List V} {q : Nat} {v : Value} (h : bx[q]? = some B) (hc : B.all cellB = true) : handOk bx [.ptr q 0, .s v] [] [q] [.ptr 0 0, .s v] [B] :=
  ⟨by simp [ren, renA, renL, fzs], rfl, rfl, rfl, by simp [(List.getElem?_eq_some_iff.1 h).1], by simp [h], by simpa using hc⟩
theorem tapeB_ok (xs : List Int) (k : Nat) : (tapeB xs k).all cellB = true := rfl
theorem edgs_le {g : List Nd} {m : Nat} (h : ∀ n ∈ g, n.next.length ≤ m) : edgs g ≤ g.length * m := by
  induction g with
  | nil => simp [edgs]
  | cons x r ih =>
    have h1 := h x (by simp)
    have h2 := ih fun n hn => h n (by simp [hn])
    simp only [edgs, List.map_cons, List.sum_cons, List.length_cons, Nat.add_mul] at h2 ⊢
    omega
theorem edgs_64 {g : List Nd} (h : gOk g = true) (h8 : g.length ≤ 8) : edgs g ≤ 64 := by
  have h1 : edgs g ≤ g.length * 8 := edgs_le fun n hn => by have := gOk_next h hn; omega
  omega
theorem Run.sm {G : List Nd} {i : Int} {c : Ch} {n : Nat} (h : Run G i c n) (hG : gOk G = true) (h8 : G.length ≤ 8) : c.sm := by
  have h1 := h.few
  have h2 := edgs_64 hG h8
  have h3 := h.ok.2.2.2.2.1
  rw [h.g] at h3
  exact ⟨by rw [h.g]; omega, fun n hn => by rw [h.g] at hn; have := gOk_next hG hn; omega, by omega, by omega⟩
def plInv (G : List Nd) (i : Int) (o : List Int) (m : Nat) (S : St) : Prop := ∃ (n k : Nat) (c : Ch), Run G i c n ∧ n + m = 64 ∧ k ≤ o.length ∧
  S = ⟨tmL [(6, .ptr 0 0), (9, .ptr 1 0)], [.list 2 (gv G), .s (.int .i64 i), .list 1 (iv o), .s (.int .i64 0), .s (.bool false), .s (.int .i64 0), .ptr 2 0, .s (.int .i64 n)], [[.s (.slice none 0 0), .s (.int .i64 0), .s (.slice none 0 0), .s (.slice none 0 0), .s (.bool false)], c.cells, tapeB o k], 0⟩
def playQ (G : List Nd) (i : Int) (r : V) : Prop := (begE G i ≠ 0 → r = .tup [ch0.v, .s (.int .i64 0), .s (.bool false)]) ∧ (begE G i = 0 → ∃ c n, Fini G i c n ∧ n ≤ edgs G ∧ r = .tup [c.v, .s (.int .i64 (n : Nat)), .s (.bool true)])
set_option maxHeartbeats 8000000 in
set_option maxRecDepth 10000 in
theorem play_pc (G : List Nd) (i : Int) (o : List Int) (hG : gOk G = true) (h8 : G.length ≤ 8) (ho : o.length ≤ 1000000) : PC Try.prog 20 [.list 2 (gv G), .s (.int .i64 i), .list 1 (iv o)] (playQ G i) := by
  have hGn : ∀ n ∈ G, n.next.length ≤ 1000000 := fun n hn => by have := gOk_next hG hn; omega
  have h64 := edgs_64 hG h8
  refine pc_end c20 mixed rfl ?_
  simp -implicitDefEqProofs [a20, F20]
  refine wk_take ?_
  simp -implicitDefEqProofs
  refine wc_of (Begin_pl G i (by omega) hGn) (by simp) (by simp) ?_
  rintro _ rfl
  simp -implicitDefEqProofs [resP, Ch.v, Ch.cells]
  by_cases he : begE G i = 0
  case neg =>
    have he' : (begE G i == 0) = false := by simpa using he
    have hce : chE (begE G i) (begC G i) = ch0 := by rw [chE, if_neg he]
    rw [hce]
    refine w_rounds [6, 9] [] 3 (by simp) (fun m S => m = 0 ∧ S = ⟨tmL [(6, .ptr 0 0), (9, .ptr 1 0)], [.list 2 (gv G), .s (.int .i64 i), .list 1 (iv o), .s (.int .i64 0), .s (.bool false), .s (.int .i64 (begE G i)), .ptr 2 0, .s (.int .i64 0)], [[.s (.slice none 0 0), .s (.int .i64 0), .s (.slice none 0 0), .s (.slice none 0 0), .s (.bool false)], ch0.cells, tapeB o 0], 0⟩) 0 ⟨by simp, rfl, by simp [Ch.cells, tapeB]⟩ ?_
    rintro m S ⟨rfl, rfl⟩
    simp -implicitDefEqProofs [Ch.cells, he']
    exact ⟨fun _ => by simp [Ch.v, Ch.cells], fun q => absurd q he⟩
  have hce : chE (begE G i) (begC G i) = begC G i := by rw [chE, if_pos he]
  rw [hce]
  refine w_rounds [6, 9] [] 3 (by simp) (plInv G i o) 64 ⟨by simp, 0, 0, begC G i, .begin he, rfl, by omega, by simp [Ch.cells, tapeB, he]⟩ ?_
  rintro m S ⟨n, k, c, hR, hnm, hk, rfl⟩
  have hf := hR.few
  have hsm := hR.sm hG h8
  have hn2 : (n : Int) < 2000 := by omega
  by_cases hp : 0 < c.ps.length
  · have hnx := nx_bd o k (m := c.ps.length) (by omega)
    obtain ⟨j, hj⟩ : ∃ j : Nat, nx o k c.ps.length = j := ⟨(nx o k c.ps.length).toNat, by omega⟩
    have hjl : j < c.ps.length := by omega
    have hR2 := hR.step hjl
    have hsm2 := hR2.sm hG h8
    have hse : stepE c (j : Nat) = 0 := by
      unfold stepE
      rw [if_neg (not_not_intro hR.ok), if_neg (by omega)]
    have hres : resP (stepE c (j : Nat)) (stepC c (j : Int).toNat) = .tup [(stepC c j).v, .s (.int .i64 0)] := by rw [resP, chE, if_pos hse, hse]; simp
    have wn : IntKind.i64.wrap ((n : Int) + 1) = ((n + 1 : Nat) : Int) := by rw [wrap64 (by omega)]; rfl
    simp -implicitDefEqProofs [Ch.cells, hp, hn2]
    refine wkd_hand ?_
    simp -implicitDefEqProofs
    refine wad_of (Next_ac o k c.ps.length (by omega) (by omega) (by omega)) (tape2 (q := 2) rfl (tapeB_ok _ _)) (by rfl) ?_
    rw [hj]
    simp -implicitDefEqProofs
    refine wkd_take ?_
    simp -implicitDefEqProofs
    refine wcd_of (Step_pl c j hsm) (by simp [Ch.v, Ch.cells]) (by simp [Ch.v, Ch.cells]) ?_
    rw [hres]
    simp -implicitDefEqProofs [Ch.v, Ch.cells]
    have hok2 := hR2.ok
    revert hR2 hsm2 hok2
    generalize stepC c j = c2
    intro hR2 hsm2 hok2
    refine wk_take ?_
    simp -implicitDefEqProofs
    refine wc_of (Valid_pc c2 hsm2) (by simp [Ch.v, Ch.cells]) (by simp [Ch.v, Ch.cells]) ?_
    rintro _ rfl
    simp -implicitDefEqProofs [hok2, wn]
    have hn1 := nat1_le (xs := o) (k := k) hk
    exact ⟨by simp [tapeB], m - 1, by omega, n + 1, nat1 o k, c2, hR2, by omega, hn1.1, by simp [Ch.cells]⟩
  · simp -implicitDefEqProofs [Ch.cells, hp]
    have hp0 : c.ps = [] := List.length_eq_zero_iff.1 (by omega)
    exact ⟨fun q => absurd he q, fun _ => ⟨c, n, hR.done hp0, by omega, by simp [Ch.v, Ch.cells]⟩⟩
end Go.Proofs.Ytbbhenjhghbimaa
