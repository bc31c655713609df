/- Texts put behind one another: T1, T2, T3, T4, T5, T6. -/
set_option linter.unusedVariables false
set_option linter.unusedSimpArgs false
namespace Go.Proofs.Ytlnmbpaijodpjaa

/-- y lies on x's path -/
inductive Pth (f : Int → Int) : Int → Int → Prop
  | refl {x : Int} : Pth f x x
  | step {x y : Int} (h : Pth f (f x) y) (hx : f x ≠ -1) : Pth f x y
theorem Pth.trans {f : Int → Int} {x y z : Int} (h : Pth f x y) : Pth f y z → Pth f x z := by
  induction h with
  | refl => exact id
  | step _ hx ih => exact fun k => .step (ih k) hx
theorem Pth.one {f : Int → Int} {x y : Int} (h : f x = y) (hy : y ≠ -1) : Pth f x y := by
  refine .step ?_ ?_
  · rw [h]; exact .refl
  · rw [h]; exact hy
theorem Pth.last {f : Int → Int} {x y : Int} (h : Pth f x y) (hx : f x = -1) : y = x := by
  cases h with
  | refl => rfl
  | step _ q => exact absurd hx q
/-- two on one path -/
theorem Pth.cmp {f : Int → Int} {x y z : Int} (h : Pth f x y) : Pth f x z → Pth f y z ∨ Pth f z y := by
  induction h with
  | refl => exact .inl
  | step h hx ih =>
    intro k
    cases k with
    | refl => exact .inr (.step h hx)
    | step k _ => exact ih k
theorem Pth.end_eq {f : Int → Int} {x r s : Int} (h : Pth f x r) (hr : f r = -1) (k : Pth f x s) (hs : f s = -1) : r = s := by
  rcases h.cmp k with q | q
  · exact (q.last hr).symm
  · exact q.last hs
/-- nobody who comes to an end lies on a circle -/
theorem no_circle {f : Int → Int} {x r : Int} (h : Pth f x r) (hr : f r = -1) : ∀ {y : Int}, f x = y → y ≠ -1 → ¬ Pth f y x := by
  induction h with
  | refl => intro y e hy; exact absurd (e.symm.trans hr) hy
  | @step x z h hx ih =>
    intro y e hy hc
    subst e
    -- (f x) reaches x, hence f x's next reaches f x
    by_cases q : f (f x) = -1
    · have := hc.last q
      rw [← this] at q
      exact hx q
    · refine ih hr rfl q ?_
      have key : ∀ {a : Int}, Pth f a x → a = f x → Pth f (f (f x)) (f x) := by
        intro a k e
        cases k with
        | refl => rw [← e, ← e]; exact .refl
        | step k _ => subst e; exact k.trans (.one rfl hx)
      exact key hc rfl
def End (f : Int → Int) (x : Int) : Prop := ∃ r, Pth f x r ∧ f r = -1
theorem End.circle {f : Int → Int} {x y : Int} (h : End f x) (e : f x = y) (hy : y ≠ -1) : ¬ Pth f y x := by
  obtain ⟨r, h1, h2⟩ := h
  exact no_circle h1 h2 e hy
/-- a path is turned round: r, that pointed to s, points to where s pointed; s points to h, which comes to r -/
def turn (f : Int → Int) (r s h : Int) : Int → Int := fun x => if x = r then f s else if x = s then h else f x
structure Turn (f : Int → Int) (r s h : Int) : Prop where
  rs : f r = s
  s0 : s ≠ -1
  h0 : h ≠ -1
  hr : Pth f h r
  es : End f s
  er : End f r
section
variable {f : Int → Int} {r s h : Int}
theorem Turn.ne (t : Turn f r s h) : r ≠ s := fun e => t.er.circle t.rs t.s0 (by rw [e]; exact .refl)
theorem Turn.hs (t : Turn f r s h) : h ≠ s := fun e => t.er.circle t.rs t.s0 (by rw [← e]; exact t.hr)
theorem Turn.nsr (t : Turn f r s h) : ¬ Pth f s r := t.er.circle t.rs t.s0
theorem Turn.to_r (t : Turn f r s h) {x : Int} (k : Pth f x r) : Pth (turn f r s h) x r := by
  generalize hq : r = q at k
  induction k with
  | refl => exact .refl
  | @step x y k hx ih =>
    subst hq
    have e1 : x = r ∨ x ≠ r := Classical.em _
    rcases e1 with rfl | e1
    · exact .refl
    · have e2 : x ≠ s := fun e => t.nsr (by rw [← e]; exact .step k hx)
      have e3 : turn f r s h x = f x := by simp [turn, e1, e2]
      exact .step (by rw [e3]; exact ih rfl) (by rw [e3]; exact hx)
theorem Turn.s_r (t : Turn f r s h) : Pth (turn f r s h) s r := by
  have e : turn f r s h s = h := by simp [turn, t.ne.symm]
  exact .step (by rw [e]; exact t.to_r t.hr) (by rw [e]; exact t.h0)
/-- from behind s nothing has changed -/
theorem Turn.from_l (t : Turn f r s h) {x y : Int} (k : Pth f x y) : Pth f (f s) x → f s ≠ -1 → Pth (turn f r s h) x y := by
  induction k with
  | refl => exact fun _ _ => .refl
  | @step x y k hx ih =>
    intro hl hs0
    have e1 : x ≠ r := fun e => t.nsr (by rw [← e]; exact .step hl hs0)
    have e2 : x ≠ s := fun e => t.es.circle rfl hs0 (by rw [e] at hl; exact hl)
    have e3 : turn f r s h x = f x := by simp [turn, e1, e2]
    exact .step (by rw [e3]; exact ih (hl.trans (.one rfl hx)) hs0) (by rw [e3]; exact hx)
theorem Turn.r_of (t : Turn f r s h) {y : Int} (k : Pth f s y) (hy : y ≠ s) : Pth (turn f r s h) r y := by
  have e : turn f r s h r = f s := by simp [turn]
  cases k with
  | refl => exact absurd rfl hy
  | step k hx => exact .step (by rw [e]; exact t.from_l k .refl hx) (by rw [e]; exact hx)
/-- what comes to y, not s, comes to it still -/
theorem Turn.keep (t : Turn f r s h) {x y : Int} (k : Pth f x y) (hy : y ≠ s) : Pth (turn f r s h) x y := by
  induction k with
  | refl => exact .refl
  | @step x y k hx ih =>
    by_cases e1 : x = r
    · subst e1
      rw [t.rs] at k
      exact t.r_of k hy
    · by_cases e2 : x = s
      · subst e2
        exact t.s_r.trans (t.r_of (.step k hx) hy)
      · have e3 : turn f r s h x = f x := by simp [turn, e1, e2]
        exact .step (by rw [e3]; exact ih hy) (by rw [e3]; exact hx)
/-- what came to s comes to r -/
theorem Turn.keep_s (t : Turn f r s h) {x : Int} (k : Pth f x s) : Pth (turn f r s h) x r := by
  generalize hq : s = q at k
  induction k with
  | refl => subst hq; exact t.s_r
  | @step x y k hx ih =>
    subst hq
    by_cases e1 : x = r
    · subst e1; exact .refl
    · by_cases e2 : x = s
      · subst e2; exact t.s_r
      · have e3 : turn f r s h x = f x := by simp [turn, e1, e2]
        exact .step (by rw [e3]; exact ih rfl) (by rw [e3]; exact hx)
theorem Turn.ends (t : Turn f r s h) {x : Int} (k : End f x) : End (turn f r s h) x := by
  obtain ⟨z, k1, k2⟩ := k
  by_cases e : z = s
  · subst e
    exact ⟨r, t.keep_s k1, by simp [turn, k2]⟩
  · refine ⟨z, t.keep k1 e, ?_⟩
    by_cases e1 : z = r
    · subst e1
      rw [t.rs] at k2
      exact absurd k2 t.s0
    · simp [turn, e1, e, k2]
end
/-- an end gets a successor -/
def hang (f : Int → Int) (s h : Int) : Int → Int := fun x => if x = s then h else f x
theorem hang_keep {f : Int → Int} {s h x y : Int} (hs : f s = -1) (k : Pth f x y) : Pth (hang f s h) x y := by
  induction k with
  | refl => exact .refl
  | @step x y k hx ih =>
    have e : x ≠ s := fun e => hx (by rw [e]; exact hs)
    have e3 : hang f s h x = f x := by simp [hang, e]
    exact .step (by rw [e3]; exact ih) (by rw [e3]; exact hx)
/-- one whom nobody points to gets no successor -/
theorem cut_keep {f : Int → Int} {i x y : Int} (hi : ∀ z, f z ≠ i) (hx : x ≠ i) (k : Pth f x y) : Pth (hang f i (-1)) x y ∧ y ≠ i := by
  induction k with
  | refl => exact ⟨.refl, hx⟩
  | @step x y k hx' ih =>
    have e3 : hang f i (-1) x = f x := by simp [hang, hx]
    obtain ⟨k1, k2⟩ := ih (hi x)
    exact ⟨.step (by rw [e3]; exact k1) (by rw [e3]; exact hx'), k2⟩
/-- where no two point to the same: of two that come to one, one comes to the other -/
theorem Pth.back {f : Int → Int} (hf : ∀ x y, f x ≠ -1 → f x = f y → x = y) {a r : Int} (h : Pth f a r) : ∀ {b : Int}, Pth f b r → Pth f a b ∨ Pth f b a := by
  induction h with
  | refl => exact fun k => .inr k
  | @step a r h hx ih =>
    intro b k
    rcases ih k with q | q
    · exact .inl (.step q hx)
    · -- b comes to f a
      have key : ∀ {b c : Int}, Pth f b c → c = f a → b = f a ∨ Pth f b a := by
        intro b c k
        induction k with
        | refl => exact fun e => .inl e
        | @step b c k hb ih2 =>
          intro e
          rcases ih2 e with q | q
          · exact .inr (by rw [hf b a hb q]; exact .refl)
          · exact .inr (.step q hb)
      rcases key q rfl with q | q
      · exact .inl (.step (by rw [q]; exact .refl) hx)
      · exact .inr q
theorem Pth.pred {f : Int → Int} {x y : Int} (h : Pth f x y) : x = y ∨ ∃ z, Pth f x z ∧ f z = y ∧ y ≠ -1 := by
  induction h with
  | refl => exact .inl rfl
  | @step x y h hx ih =>
    rcases ih with q | ⟨z, q1, q2, q3⟩
    · exact .inr ⟨x, .refl, q, by rw [← q]; exact hx⟩
    · exact .inr ⟨z, .step q1 hx, q2, q3⟩
end Go.Proofs.Ytlnmbpaijodpjaa

namespace Go.Proofs.Ytlnmbpaijodpjaa

/-- a site's state -/
structure Tk where
  has : Bool
  want : Bool
  using_ : Bool
  last : Int
  next : Int
deriving DecidableEq
/-- a message on its way: to a site; the token, or the request of a site -/
structure Ms where
  to : Int
  tok : Bool
  org : Int
deriving DecidableEq
def Rng (n : Nat) (i : Int) : Prop := 0 ≤ i ∧ i < n
instance (n : Nat) (i : Int) : Decidable (Rng n i) := by unfold Rng; infer_instance
def Othr (n : Nat) (i x : Int) : Prop := 0 ≤ x ∧ x < n ∧ x ≠ i
instance (n : Nat) (i x : Int) : Decidable (Othr n i x) := by unfold Othr; infer_instance
/-- a valid state of site i of n -/
structure Tk.ok (t : Tk) (n : Nat) (i : Int) : Prop where
  n1 : 1 ≤ n
  n4 : n ≤ 4
  ri : Rng n i
  l : t.last ≠ -1 → Othr n i t.last
  x : t.next ≠ -1 → Othr n i t.next
  uh : t.using_ = true → t.has = true
  wh : t.want = true → t.has = false
  busy : t.using_ = true ∨ t.want = true → (t.next = -1 ↔ t.last = -1)
  idle : t.using_ = false → t.want = false → t.next = -1 ∧ (t.last = -1 ↔ t.has = true)
def Tk.busy (t : Tk) : Prop := t.using_ = true ∨ t.want = true
theorem Tk.ok.nl {t : Tk} {n : Nat} {i : Int} (h : t.ok n i) (hb : t.busy) : t.next = -1 ↔ t.last = -1 := h.busy hb
/-- whom a message is about -/
def Ms.subj (m : Ms) : Int := if m.tok = true then m.to else m.org
def tAt (t : List Tk) (i : Int) : Tk := t.getD i.toNat ⟨false, false, false, 0, -1⟩
theorem tAt_set {t : List Tk} {i x : Int} {v : Tk} (h0 : 0 ≤ i) (h1 : i < t.length) (hx : 0 ≤ x) : tAt (t.set i.toNat v) x = if x = i then v else tAt t x := by
  simp only [tAt, List.getD_eq_getElem?_getD]
  by_cases e : x = i
  · subst e
    rw [List.getElem?_set_self (by omega), if_pos rfl]; rfl
  · rw [List.getElem?_set_ne (by omega), if_neg e]
def cntP {α : Type} (p : α → Bool) (l : List α) : Nat := l.countP p
theorem count_set {p : Tk → Bool} : ∀ {t : List Tk} {i : Nat} {v : Tk}, i < t.length → (t.set i v).countP p + (if p (t.getD i ⟨false, false, false, 0, -1⟩) = true then 1 else 0) = t.countP p + (if p v = true then 1 else 0)
  | [], i, v, h => by simp at h
  | x :: r, 0, v, _ => by simp only [List.set_cons_zero, List.countP_cons, List.getD_cons_zero]; omega
  | x :: r, i + 1, v, h => by
    have := count_set (p := p) (t := r) (i := i) (v := v) (by simpa using h)
    simp only [List.set_cons_succ, List.countP_cons, List.getD_cons_succ]
    omega
theorem count_tAt {p : Tk → Bool} {t : List Tk} {i : Int} {v : Tk} (h0 : 0 ≤ i) (h1 : i < t.length) : (t.set i.toNat v).countP p + (if p (tAt t i) = true then 1 else 0) = t.countP p + (if p v = true then 1 else 0) :=
  count_set (by omega)
theorem tAt_mem {t : List Tk} {i : Int} (h0 : 0 ≤ i) (h1 : i < t.length) : tAt t i ∈ t := by
  have h : i.toNat < t.length := by omega
  rw [tAt, List.getD_eq_getElem?_getD, List.getElem?_eq_getElem h]
  exact List.getElem_mem h
theorem mem_tAt {t : List Tk} {x : Tk} (h : x ∈ t) : ∃ i : Int, 0 ≤ i ∧ i < t.length ∧ tAt t i = x := by
  obtain ⟨i, hi, rfl⟩ := List.getElem_of_mem h
  exact ⟨i, by omega, by omega, by rw [tAt, List.getD_eq_getElem?_getD]; simp [List.getElem?_eq_getElem hi]⟩
/-- a message is taken out -/
def mcut (l : List Ms) (k : Nat) : List Ms := l.take k ++ l.drop (k + 1)
def msAt (l : List Ms) (k : Nat) : Ms := l.getD k ⟨0, false, 0⟩
theorem mcut_mem {l : List Ms} {k : Nat} {m : Ms} (h : m ∈ mcut l k) : m ∈ l := by
  rw [mcut, List.mem_append] at h
  exact h.elim List.mem_of_mem_take List.mem_of_mem_drop
theorem mcut_perm : ∀ {l : List Ms} {k : Nat}, k < l.length → (msAt l k :: mcut l k).Perm l
  | [], k, h => by simp at h
  | x :: r, 0, _ => by simp [msAt, mcut]
  | x :: r, k + 1, h => by
    have := mcut_perm (l := r) (k := k) (by simpa using h)
    have e : mcut (x :: r) (k + 1) = x :: mcut r k := by simp [mcut]
    have e2 : msAt (x :: r) (k + 1) = msAt r k := by simp [msAt]
    rw [e, e2]
    exact (List.Perm.swap _ _ _).trans (this.cons x)
theorem mcut_count {l : List Ms} {k : Nat} (h : k < l.length) (p : Ms → Bool) : (mcut l k).countP p + (if p (msAt l k) = true then 1 else 0) = l.countP p := by
  rw [← (mcut_perm h).countP_eq, List.countP_cons]
theorem msAt_mem {l : List Ms} {k : Nat} (h : k < l.length) : msAt l k ∈ l := (mcut_perm h).mem_iff.1 (by simp)
/-- how often site i is waited for: messages about it, sites behind which it stands -/
def rsn (t : List Tk) (ml : List Ms) (i : Int) : Nat := ml.countP (fun m => decide (m.subj = i)) + t.countP (fun x => decide (x.next = i))
/-- the next function of the sites -/
def nx (n : Nat) (t : List Tk) : Int → Int := fun i => if Rng n i then (tAt t i).next else -1
/-- sites, messages: as they may stand -/
structure Inv (n : Nat) (t : List Tk) (ml : List Ms) (G : Int → Int) : Prop where
  n1 : 1 ≤ n
  n4 : n ≤ 4
  len : t.length = n
  val : ∀ i, Rng n i → (tAt t i).ok n i
  one : t.countP (·.has) + ml.countP (·.tok) = 1
  rs : ∀ i, Rng n i → rsn t ml i = if (tAt t i).want = true then 1 else 0
  mr : ∀ m ∈ ml, Rng n m.to ∧ (m.tok = false → Rng n m.org)
  gl : ∀ i, Rng n i → (tAt t i).last ≠ -1 → G i = (tAt t i).last
  ac : ∀ i, Rng n i → End G i
  na : ∀ i, Rng n i → End (nx n t) i
  mem : ∀ i r, Rng n i → (tAt t i).busy → Pth (nx n t) i r → nx n t r = -1 → Pth G i r
  rq : ∀ m ∈ ml, m.tok = false → ∀ r, Pth (nx n t) m.org r → nx n t r = -1 → G r = m.to
section
variable {n : Nat} {t : List Tk} {ml : List Ms} {G : Int → Int}
theorem Inv.nxr (h : Inv n t ml G) {i : Int} (hx : nx n t i ≠ -1) : Rng n i ∧ nx n t i = (tAt t i).next ∧ Rng n (nx n t i) := by
  unfold nx at hx ⊢
  by_cases hi : Rng n i
  · rw [if_pos hi] at hx ⊢
    exact ⟨hi, rfl, ((h.val i hi).x hx).1, ((h.val i hi).x hx).2.1⟩
  · rw [if_neg hi] at hx; exact absurd rfl hx
/-- who is waited for wants -/
theorem Inv.wants (h : Inv n t ml G) {i : Int} (hi : Rng n i) (hr : 1 ≤ rsn t ml i) : (tAt t i).want = true := by
  rw [h.rs i hi] at hr
  by_cases hw : (tAt t i).want = true
  · exact hw
  · rw [if_neg hw] at hr; omega
theorem count_pos {α : Type} {p : α → Bool} {l : List α} {a : α} (h : a ∈ l) (hp : p a = true) : 1 ≤ l.countP p := List.countP_pos_iff.2 ⟨a, h, hp⟩
theorem Inv.wm (h : Inv n t ml G) {m : Ms} (hm : m ∈ ml) : (tAt t m.subj).want = true := by
  obtain ⟨h1, h2⟩ := h.mr m hm
  refine h.wants ?_ ?_
  · unfold Ms.subj; split
    · exact h1
    · next e => exact h2 (by simpa using e)
  · have := count_pos (p := fun x : Ms => decide (x.subj = m.subj)) hm (by simp)
    unfold rsn; omega
theorem Inv.wn (h : Inv n t ml G) {i : Int} (hx : nx n t i ≠ -1) : (tAt t (nx n t i)).want = true := by
  obtain ⟨h1, h2, h3⟩ := h.nxr hx
  refine h.wants h3 ?_
  have h4 : 0 ≤ i ∧ i < t.length := by have := h1.1; have := h1.2; have := h.len; omega
  have := count_pos (p := fun x : Tk => decide (x.next = nx n t i)) (tAt_mem h4.1 h4.2) (by simp [h2])
  unfold rsn; omega
/-- no two stand before the same -/
theorem two_count {p : Tk → Bool} : ∀ {t : List Tk} {i j : Nat}, i < t.length → j < t.length → i ≠ j → p (t.getD i ⟨false, false, false, 0, -1⟩) = true → p (t.getD j ⟨false, false, false, 0, -1⟩) = true → 2 ≤ t.countP p
  | [], i, j, h, _, _, _, _ => by simp at h
  | x :: r, 0, 0, _, _, h, _, _ => absurd rfl h
  | x :: r, 0, j + 1, _, hj, _, h1, h2 => by
    simp only [List.getD_cons_zero, List.getD_cons_succ] at h1 h2
    have hj : j < r.length := by simpa using hj
    have : 1 ≤ r.countP p := count_pos (a := r[j]) (List.getElem_mem _) (by rw [List.getD_eq_getElem?_getD, List.getElem?_eq_getElem hj] at h2; exact h2)
    rw [List.countP_cons, if_pos h1]; omega
  | x :: r, i + 1, 0, hi, _, _, h1, h2 => by
    simp only [List.getD_cons_zero, List.getD_cons_succ] at h1 h2
    have hi : i < r.length := by simpa using hi
    have : 1 ≤ r.countP p := count_pos (a := r[i]) (List.getElem_mem _) (by rw [List.getD_eq_getElem?_getD, List.getElem?_eq_getElem hi] at h1; exact h1)
    rw [List.countP_cons, if_pos h2]; omega
  | x :: r, i + 1, j + 1, hi, hj, h, h1, h2 => by
    simp only [List.getD_cons_succ] at h1 h2
    have := two_count (p := p) (t := r) (i := i) (j := j) (by simpa using hi) (by simpa using hj) (by omega) h1 h2
    rw [List.countP_cons]; omega
theorem Inv.inj (h : Inv n t ml G) : ∀ x y, nx n t x ≠ -1 → nx n t x = nx n t y → x = y := by
  intro x y hx e
  obtain ⟨a1, a2, a3⟩ := h.nxr hx
  obtain ⟨b1, b2, _⟩ := h.nxr (i := y) (by rw [← e]; exact hx)
  by_cases q : x = y
  · exact q
  · exfalso
    have hl := h.len
    have : 2 ≤ t.countP (fun z => decide (z.next = nx n t x)) := two_count (i := x.toNat) (j := y.toNat) (by have := a1.1; have := a1.2; omega) (by have := b1.1; have := b1.2; omega) (by have := a1.1; have := b1.1; omega)
      (by simp only [decide_eq_true_eq]; exact a2.symm) (by simp only [decide_eq_true_eq]; rw [e]; exact b2.symm)
    have hr := h.rs _ a3
    unfold rsn at hr
    split at hr <;> omega
/-- all on a busy one's path are busy -/
theorem Inv.path (h : Inv n t ml G) {i r : Int} (hi : Rng n i) (hb : (tAt t i).busy) (k : Pth (nx n t) i r) : Rng n r ∧ (tAt t r).busy := by
  induction k with
  | refl => exact ⟨hi, hb⟩
  | step k hx ih => exact ih (h.nxr hx).2.2 (.inr (h.wn hx))
/-- a busy one at the end of its queue knows no path -/
theorem Inv.tail (h : Inv n t ml G) {r : Int} (hr : Rng n r) (hb : (tAt t r).busy) (hx : nx n t r = -1) : (tAt t r).last = -1 := by
  unfold nx at hx
  rw [if_pos hr] at hx
  exact ((h.val r hr).nl hb).1 hx
end
end Go.Proofs.Ytlnmbpaijodpjaa

namespace Go.Proofs.Ytlnmbpaijodpjaa

/-- the states of a site -/
@[simp] def Tk.use (t : Tk) : Tk := { t with using_ := true }
@[simp] def Tk.ask (t : Tk) : Tk := { t with want := true, last := -1 }
@[simp] def Tk.get (t : Tk) : Tk := { t with has := true, using_ := true, want := false }
@[simp] def Tk.rest (t : Tk) : Tk := { t with using_ := false }
@[simp] def Tk.pass (t : Tk) : Tk := { t with using_ := false, has := false, next := -1 }
section
variable {n : Nat} {t : List Tk} {ml : List Ms} {G : Int → Int}
theorem nx_set {i : Int} {v : Tk} (hi : Rng n i) (hl : t.length = n) : nx n (t.set i.toNat v) = hang (nx n t) i v.next := by
  funext x
  unfold nx hang
  by_cases e : x = i
  · subst e
    rw [if_pos hi, if_pos rfl, tAt_set hi.1 (by have := hi.2; omega) hi.1, if_pos rfl]
  · rw [if_neg e]
    by_cases hx : Rng n x
    · simp only [if_pos hx]; rw [tAt_set hi.1 (by have := hi.2; omega) hx.1, if_neg e]
    · simp only [if_neg hx]
theorem hang_same {f : Int → Int} {i h : Int} (e : f i = h) : hang f i h = f := by
  funext x
  unfold hang
  split
  · next q => rw [q, e]
  · rfl
theorem nx_at {i : Int} (hi : Rng n i) : nx n t i = (tAt t i).next := by unfold nx; rw [if_pos hi]
theorem nx_same {i : Int} {v : Tk} (hi : Rng n i) (hl : t.length = n) (e : v.next = (tAt t i).next) : nx n (t.set i.toNat v) = nx n t := by
  rw [nx_set hi hl]; exact hang_same (by rw [nx_at hi, e])
theorem cnt_same {p : Tk → Bool} {i : Int} {v : Tk} (hi : Rng n i) (hl : t.length = n) (e : p v = p (tAt t i)) : (t.set i.toNat v).countP p = t.countP p := by
  have := count_tAt (p := p) (t := t) (v := v) hi.1 (by have := hi.2; omega)
  rw [e] at this
  omega
theorem tA {i x : Int} {v : Tk} (hi : Rng n i) (hl : t.length = n) (hx : Rng n x) : tAt (t.set i.toNat v) x = if x = i then v else tAt t x :=
  tAt_set hi.1 (by have := hi.2; omega) hx.1
/-- the wish of one who has the token -/
theorem Inv.want_has (h : Inv n t ml G) {i : Int} (hi : Rng n i) (hw : (tAt t i).want = false) (hh : (tAt t i).has = true) (hu : (tAt t i).using_ = false) : Inv n (t.set i.toNat (tAt t i).use) ml G := by
  have hv := h.val i hi
  have hid := hv.idle hu hw
  have en := nx_same (v := (tAt t i).use) hi h.len rfl
  refine ⟨h.n1, h.n4, by simp [h.len], fun x hx => ?_, ?_, fun x hx => ?_, h.mr, fun x hx hl => ?_, h.ac, by rw [en]; exact h.na, fun x r hx hb k1 k2 => ?_, by rw [en]; exact h.rq⟩
  · rw [tA hi h.len hx]
    split
    · next e =>
      subst e
      exact ⟨hv.n1, hv.n4, hv.ri, hv.l, hv.x, fun _ => hh, hv.wh, fun _ => ⟨fun _ => hid.2.2 hh, fun _ => hid.1⟩, fun q => by cases q⟩
    · exact h.val x hx
  · rw [cnt_same (v := (tAt t i).use) hi h.len rfl]; exact h.one
  · unfold rsn
    rw [cnt_same (v := (tAt t i).use) hi h.len rfl, tA hi h.len hx]
    have := h.rs x hx
    unfold rsn at this
    split
    · next e => subst e; exact this
    · exact this
  · rw [tA hi h.len hx] at hl ⊢
    split at hl
    · next e => subst e; rw [if_pos rfl]; exact h.gl x hx hl
    · next e => rw [if_neg e]; exact h.gl x hx hl
  · rw [en] at k1 k2
    rw [tA hi h.len hx] at hb
    split at hb
    · next e =>
      subst e
      rw [k1.last (by rw [nx_at hx]; exact hid.1)]
      exact .refl
    · exact h.mem x r hx hb k1 k2
/-- the wish of one who hasn't -/
theorem Inv.want_ask (h : Inv n t ml G) {i : Int} (hi : Rng n i) (hw : (tAt t i).want = false) (hh : (tAt t i).has = false) (hu : (tAt t i).using_ = false) : Inv n (t.set i.toNat (tAt t i).ask) (ml ++ [⟨(tAt t i).last, false, i⟩]) G := by
  have hv := h.val i hi
  have hid := hv.idle hu hw
  have hl0 : (tAt t i).last ≠ -1 := fun e => by have := hid.2.1 e; rw [hh] at this; cases this
  have en := nx_same (v := (tAt t i).ask) hi h.len rfl
  have hni : nx n t i = -1 := by rw [nx_at hi]; exact hid.1
  refine ⟨h.n1, h.n4, by simp [h.len], fun x hx => ?_, ?_, fun x hx => ?_, fun m hm => ?_, fun x hx hl => ?_, h.ac, by rw [en]; exact h.na, fun x r hx hb k1 k2 => ?_, fun m hm ht r k1 k2 => ?_⟩
  · rw [tA hi h.len hx]
    split
    · next e =>
      subst e
      exact ⟨hv.n1, hv.n4, hv.ri, fun q => absurd rfl q, hv.x, hv.uh, fun _ => hh, fun _ => ⟨fun _ => rfl, fun _ => hid.1⟩, fun _ q => by cases q⟩
    · exact h.val x hx
  · rw [cnt_same (v := (tAt t i).ask) hi h.len rfl]; simpa using h.one
  · unfold rsn
    rw [cnt_same (v := (tAt t i).ask) hi h.len rfl, tA hi h.len hx, List.countP_append]
    have h1 := h.rs x hx
    unfold rsn at h1
    have h2 : [(⟨(tAt t i).last, false, i⟩ : Ms)].countP (fun m => decide (m.subj = x)) = if i = x then 1 else 0 := by
      by_cases q : i = x <;> simp [Ms.subj, q]
    rw [h2]
    by_cases e : x = i
    · subst e
      rw [hw, if_neg (by decide)] at h1
      rw [if_pos rfl, if_pos rfl, if_pos (by simp)]
      omega
    · rw [if_neg e, if_neg (fun q => e q.symm)]
      omega
  · rw [List.mem_append] at hm
    rcases hm with hm | hm
    · exact h.mr m hm
    · simp at hm; subst hm
      exact ⟨⟨(hv.l hl0).1, (hv.l hl0).2.1⟩, fun _ => hi⟩
  · rw [tA hi h.len hx] at hl ⊢
    split at hl
    · exact absurd rfl hl
    · next e => rw [if_neg e]; exact h.gl x hx hl
  · rw [en] at k1 k2
    rw [tA hi h.len hx] at hb
    split at hb
    · next e =>
      subst e
      rw [k1.last hni]
      exact .refl
    · exact h.mem x r hx hb k1 k2
  · rw [en] at k1 k2
    rw [List.mem_append] at hm
    rcases hm with hm | hm
    · exact h.rq m hm ht r k1 k2
    · simp at hm; subst hm
      rw [k1.last hni]
      exact h.gl i hi hl0
/-- the token comes -/
theorem Inv.tok_in (h : Inv n t ml G) {k : Nat} (hk : k < ml.length) (ht : (msAt ml k).tok = true) : (tAt t (msAt ml k).to).want = true ∧
    Inv n (t.set (msAt ml k).to.toNat (tAt t (msAt ml k).to).get) (mcut ml k) G := by
  have hm := msAt_mem hk
  have hs : (msAt ml k).subj = (msAt ml k).to := by unfold Ms.subj; rw [if_pos ht]
  have hw := h.wm hm
  rw [hs] at hw
  refine ⟨hw, ?_⟩
  have hi := (h.mr _ hm).1
  have hc := fun p => mcut_count hk p
  generalize hm' : msAt ml k = m at *
  generalize m.to = i at *
  have hv := h.val i hi
  have hh := hv.wh hw
  have en := nx_same (v := (tAt t i).get) hi h.len rfl
  refine ⟨h.n1, h.n4, by simp [h.len], fun x hx => ?_, ?_, fun x hx => ?_, fun m hm => h.mr m (mcut_mem hm), fun x hx hl => ?_, h.ac, by rw [en]; exact h.na, fun x r hx hb k1 k2 => ?_, fun m hm ht r k1 k2 => ?_⟩
  · rw [tA hi h.len hx]
    split
    · next e =>
      subst e
      exact ⟨hv.n1, hv.n4, hv.ri, hv.l, hv.x, fun _ => rfl, fun q => (by cases q), fun _ => hv.busy (.inr hw), fun q => by cases q⟩
    · exact h.val x hx
  · have h1 : (t.set i.toNat (tAt t i).get).countP (·.has) = t.countP (·.has) + 1 := by
      have := count_tAt (t := t) (p := (·.has)) (v := (tAt t i).get) hi.1 (by have := hi.2; have := h.len; omega)
      simpa [hh] using this
    have h2 : (mcut ml k).countP (·.tok) + 1 = ml.countP (·.tok) := by
      have := hc (·.tok)
      simpa [ht] using this
    have h3 := h.one
    omega
  · unfold rsn
    rw [cnt_same (v := (tAt t i).get) hi h.len rfl, tA hi h.len hx]
    have h1 := h.rs x hx
    have h2 : (mcut ml k).countP (fun m => decide (m.subj = x)) + (if i = x then 1 else 0) = ml.countP (fun m => decide (m.subj = x)) := by
      have := hc (fun m => decide (m.subj = x))
      rw [hs] at this
      simpa using this
    unfold rsn at h1
    by_cases e : x = i
    · subst e
      rw [hw, if_pos rfl] at h1
      rw [if_pos rfl] at h2
      rw [if_pos rfl, if_neg (by simp)]
      omega
    · rw [if_neg (fun q => e q.symm)] at h2
      rw [if_neg e]
      omega
  · rw [tA hi h.len hx] at hl ⊢
    split at hl
    · next e => subst e; rw [if_pos rfl]; exact h.gl x hx hl
    · next e => rw [if_neg e]; exact h.gl x hx hl
  · rw [en] at k1 k2
    rw [tA hi h.len hx] at hb
    split at hb
    · next e => subst e; exact h.mem x r hx (.inr hw) k1 k2
    · exact h.mem x r hx hb k1 k2
  · rw [en] at k1 k2
    exact h.rq m (mcut_mem hm) ht r k1 k2
/-- done, nobody stands behind -/
theorem Inv.done_keep (h : Inv n t ml G) {i : Int} (hi : Rng n i) (hu : (tAt t i).using_ = true) (hx : (tAt t i).next = -1) : Inv n (t.set i.toNat (tAt t i).rest) ml G := by
  have hv := h.val i hi
  have hh := hv.uh hu
  have hl := (hv.busy (.inl hu)).1 hx
  have hw : (tAt t i).want = false := by
    cases hq : (tAt t i).want
    · rfl
    · rw [hv.wh hq] at hh; cases hh
  have en := nx_same (v := (tAt t i).rest) hi h.len rfl
  refine ⟨h.n1, h.n4, by simp [h.len], fun x hx' => ?_, ?_, fun x hx' => ?_, h.mr, fun x hx' hl => ?_, h.ac, by rw [en]; exact h.na, fun x r hx' hb k1 k2 => ?_, by rw [en]; exact h.rq⟩
  · rw [tA hi h.len hx']
    split
    · next e =>
      subst e
      exact ⟨hv.n1, hv.n4, hv.ri, hv.l, hv.x, fun q => (by cases q), hv.wh, fun q => by rcases q with q | q <;> simp [hw] at q, fun _ _ => ⟨hx, ⟨fun _ => hh, fun _ => hl⟩⟩⟩
    · exact h.val x hx'
  · rw [cnt_same (v := (tAt t i).rest) hi h.len rfl]; exact h.one
  · unfold rsn
    rw [cnt_same (v := (tAt t i).rest) hi h.len rfl, tA hi h.len hx']
    have := h.rs x hx'
    unfold rsn at this
    split
    · next e => subst e; exact this
    · exact this
  · rw [tA hi h.len hx'] at hl ⊢
    split at hl
    · next e => subst e; rw [if_pos rfl]; exact h.gl x hx' hl
    · next e => rw [if_neg e]; exact h.gl x hx' hl
  · rw [en] at k1 k2
    rw [tA hi h.len hx'] at hb
    split at hb
    · next e => subst e; rcases hb with q | q <;> simp [hw] at q
    · exact h.mem x r hx' hb k1 k2
/-- done, the token goes on -/
theorem Inv.done_pass (h : Inv n t ml G) {i : Int} (hi : Rng n i) (hu : (tAt t i).using_ = true) (hx : (tAt t i).next ≠ -1) : Inv n (t.set i.toNat (tAt t i).pass) (ml ++ [⟨(tAt t i).next, true, 0⟩]) G := by
  have hv := h.val i hi
  have hh := hv.uh hu
  have hl : (tAt t i).last ≠ -1 := fun e => hx ((hv.busy (.inl hu)).2 e)
  have hw : (tAt t i).want = false := by
    cases hq : (tAt t i).want
    · rfl
    · rw [hv.wh hq] at hh; cases hh
  have en := nx_set (v := (tAt t i).pass) hi h.len
  have hno : ∀ z, nx n t z ≠ i := fun z e => by
    have := h.wn (i := z) (by rw [e]; have := hi.1; omega)
    rw [e, hw] at this; cases this
  -- the paths of others are as they were
  have hp : ∀ {x r : Int}, Rng n x → x ≠ i → Pth (hang (nx n t) i (-1)) x r → hang (nx n t) i (-1) r = -1 → Pth (nx n t) x r ∧ nx n t r = -1 := by
    intro x r hx' e k1 k2
    obtain ⟨r', q1, q2⟩ := h.na x hx'
    obtain ⟨q3, q4⟩ := cut_keep hno e q1
    have : r = r' := k1.end_eq k2 q3 (by simp [hang, q4, q2])
    subst this
    exact ⟨q1, q2⟩
  refine ⟨h.n1, h.n4, by simp [h.len], fun x hx' => ?_, ?_, fun x hx' => ?_, fun m hm => ?_, fun x hx' hl => ?_, h.ac, fun x hx' => ?_, fun x r hx' hb k1 k2 => ?_, fun m hm ht r k1 k2 => ?_⟩
  · rw [tA hi h.len hx']
    split
    · next e =>
      subst e
      exact ⟨hv.n1, hv.n4, hv.ri, hv.l, fun q => absurd rfl q, fun q => (by cases q), fun _ => rfl, fun q => (by rcases q with q | q <;> simp [hw] at q), fun _ _ => ⟨rfl, ⟨fun q => absurd q hl, fun q => by cases q⟩⟩⟩
    · exact h.val x hx'
  · have h1 := count_tAt (t := t) (p := (·.has)) (v := (tAt t i).pass) hi.1 (by have := hi.2; have := h.len; omega)
    have h3 := h.one
    simp only [Tk.pass, hh] at h1
    simp at h1 h3 ⊢
    omega
  · unfold rsn
    rw [tA hi h.len hx', List.countP_append]
    have h1 := h.rs x hx'
    have h2 := count_tAt (t := t) (p := fun z => decide (z.next = x)) (v := (tAt t i).pass) hi.1 (by have := hi.2; have := h.len; omega)
    have hx1 : ¬ (-1 : Int) = x := by have := hx'.1; omega
    unfold rsn at h1
    have e2 : (if x = i then (tAt t i).pass else tAt t x).want = (tAt t x).want := by
      by_cases q : x = i
      · rw [if_pos q, q]; rfl
      · rw [if_neg q]
    rw [e2, ← h1]
    by_cases e : (tAt t i).next = x
    · simp [Ms.subj, e, hx1] at h2 ⊢
      omega
    · simp [Ms.subj, e, hx1] at h2 ⊢
      omega
  · rw [List.mem_append] at hm
    rcases hm with hm | hm
    · exact h.mr m hm
    · simp at hm; subst hm
      exact ⟨⟨(hv.x hx).1, (hv.x hx).2.1⟩, fun q => by cases q⟩
  · rw [tA hi h.len hx'] at hl ⊢
    split at hl
    · next e => subst e; rw [if_pos rfl]; exact h.gl x hx' hl
    · next e => rw [if_neg e]; exact h.gl x hx' hl
  · rw [en]
    by_cases e : x = i
    · subst e; exact ⟨x, .refl, by simp [hang]⟩
    · obtain ⟨r, q1, q2⟩ := h.na x hx'
      obtain ⟨q3, q4⟩ := cut_keep hno e q1
      exact ⟨r, q3, by simp [hang, q4, q2]⟩
  · rw [en] at k1 k2
    rw [tA hi h.len hx'] at hb
    split at hb
    · rcases hb with q | q <;> simp [hw] at q
    · next e =>
      obtain ⟨q1, q2⟩ := hp hx' e k1 k2
      exact h.mem x r hx' hb q1 q2
  · rw [en] at k1 k2
    rw [List.mem_append] at hm
    rcases hm with hm | hm
    · have ho := (h.mr m hm).2 ht
      have hwm := h.wm hm
      have hs : m.subj = m.org := by unfold Ms.subj; rw [ht]; rfl
      rw [hs] at hwm
      obtain ⟨q1, q2⟩ := hp ho (fun e => by rw [e, hw] at hwm; cases hwm) k1 k2
      exact h.rq m hm ht r q1 q2
    · simp at hm; subst hm; cases ht
end
end Go.Proofs.Ytlnmbpaijodpjaa

namespace Go.Proofs.Ytlnmbpaijodpjaa

@[simp] def Tk.fwd (t : Tk) (o : Int) : Tk := { t with last := o }
@[simp] def Tk.give (t : Tk) (o : Int) : Tk := { t with has := false, last := o }
@[simp] def Tk.hold (t : Tk) (o : Int) : Tk := { t with next := o, last := o }
section
variable {n : Nat} {t : List Tk} {ml : List Ms} {G : Int → Int}
theorem subj_req {m : Ms} (h : m.tok = false) : m.subj = m.org := by unfold Ms.subj; rw [h]; rfl
/-- nobody stands before one whose request is on its way -/
theorem Inv.no2 (h : Inv n t ml G) {m : Ms} (hm : m ∈ ml) {z : Int} (hz : nx n t z = m.subj) (hs : Rng n m.subj) : False := by
  have h0 : nx n t z ≠ -1 := by rw [hz]; have := hs.1; omega
  obtain ⟨a1, a2, _⟩ := h.nxr h0
  have h1 := count_pos (p := fun x : Ms => decide (x.subj = m.subj)) hm (by simp)
  have h2 := count_pos (p := fun x : Tk => decide (x.next = m.subj)) (tAt_mem (t := t) a1.1 (by have := a1.2; have := h.len; omega)) (by rw [← a2, hz]; simp)
  have h3 := h.rs _ hs
  unfold rsn at h3
  split at h3 <;> omega
/-- two requests stand for two queues -/
theorem Inv.other (h : Inv n t ml G) {k : Nat} (hk : k < ml.length) (ht : (msAt ml k).tok = false) {m' : Ms} (hm' : m' ∈ mcut ml k) (ht' : m'.tok = false) {r : Int} (k1 : Pth (nx n t) (msAt ml k).org r) (k2 : Pth (nx n t) m'.org r) : False := by
  have hm := msAt_mem hk
  have e1 := subj_req ht
  have e2 := subj_req ht'
  have r1 := (h.mr _ hm).2 ht
  have r2 := (h.mr _ (mcut_mem hm')).2 ht'
  have same : (msAt ml k).org = m'.org → False := fun e => by
    have h1 := mcut_count hk (fun x => decide (x.subj = m'.org))
    have h2 := count_pos (p := fun x : Ms => decide (x.subj = m'.org)) hm' (by simp [e2])
    have h3 := h.rs _ r2
    rw [if_pos (by simp [e1, e])] at h1
    unfold rsn at h3
    split at h3 <;> omega
  rcases k1.back h.inj k2 with q | q
  · rcases q.pred with q | ⟨z, _, q, _⟩
    · exact same q
    · exact h.no2 (mcut_mem hm') (by rw [q, e2]) (by rw [e2]; exact r2)
  · rcases q.pred with q | ⟨z, _, q, _⟩
    · exact same q.symm
    · exact h.no2 hm (by rw [q, e1]) (by rw [e1]; exact r1)
/-- a request has come to s: what is known -/
structure Came (n : Nat) (t : List Tk) (ml : List Ms) (G : Int → Int) (k : Nat) (r : Int) : Prop where
  hk : k < ml.length
  tok : (msAt ml k).tok = false
  s : Rng n (msAt ml k).to
  o : Rng n (msAt ml k).org
  want : (tAt t (msAt ml k).org).want = true
  ot : Othr n (msAt ml k).to (msAt ml k).org
  k1 : Pth (nx n t) (msAt ml k).org r
  k2 : nx n t r = -1
  rr : Rng n r
  rl : (tAt t r).last = -1
  tn : Turn G r (msAt ml k).to (msAt ml k).org
theorem Inv.came (h : Inv n t ml G) {k : Nat} (hk : k < ml.length) (ht : (msAt ml k).tok = false) : ∃ r, Came n t ml G k r := by
  have hm := msAt_mem hk
  obtain ⟨hs, ho⟩ := h.mr _ hm
  have ho := ho ht
  have hw := h.wm hm
  rw [subj_req ht] at hw
  obtain ⟨r, k1, k2⟩ := h.na _ ho
  obtain ⟨hr, hb⟩ := h.path ho (.inr hw) k1
  have tn : Turn G r (msAt ml k).to (msAt ml k).org := ⟨h.rq _ hm ht r k1 k2, by have := hs.1; omega, by have := ho.1; omega, h.mem _ r ho (.inr hw) k1 k2, h.ac _ hs, h.ac _ hr⟩
  exact ⟨r, hk, ht, hs, ho, hw, ⟨ho.1, ho.2, tn.hs⟩, k1, k2, hr, h.tail hr hb k2, tn⟩
/-- the request is sent on -/
theorem Inv.req_fwd (h : Inv n t ml G) {k : Nat} {r : Int} (c : Came n t ml G k r) (hl : (tAt t (msAt ml k).to).last ≠ -1) :
    Inv n (t.set (msAt ml k).to.toNat ((tAt t (msAt ml k).to).fwd (msAt ml k).org)) (mcut ml k ++ [⟨(tAt t (msAt ml k).to).last, false, (msAt ml k).org⟩]) (turn G r (msAt ml k).to (msAt ml k).org) ∧
    nx n (t.set (msAt ml k).to.toNat ((tAt t (msAt ml k).to).fwd (msAt ml k).org)) = nx n t ∧ ∀ i r', Rng n i → (tAt t i).busy → Pth (nx n t) i r' → nx n t r' = -1 → r' ≠ (msAt ml k).to := by
  obtain ⟨hk, ht, hs, ho, hw, hot, k1, k2, hr, hrl, tn⟩ := c
  have hc := fun p => mcut_count hk p
  have hoth := fun {m'} {r'} => h.other (m' := m') (r := r') hk ht
  have sj := subj_req ht
  generalize hm : msAt ml k = m at *
  generalize m.to = s at *
  generalize m.org = o at *
  have hv := h.val s hs
  have ho0 : o ≠ -1 := by have := ho.1; omega
  have en : nx n (t.set s.toNat ((tAt t s).fwd o)) = nx n t := nx_same hs h.len rfl
  have ns : ∀ i r', Rng n i → (tAt t i).busy → Pth (nx n t) i r' → nx n t r' = -1 → r' ≠ s := fun i r' hi hb q1 q2 e => by
    obtain ⟨a, b⟩ := h.path hi hb q1
    rw [e] at a b q2
    exact hl (h.tail a b q2)
  have gs : turn G r s o s = o := by simp [turn, tn.ne.symm]
  have gr : turn G r s o r = G s := by simp [turn]
  refine ⟨⟨h.n1, h.n4, by simp [h.len], fun x hx => ?_, ?_, fun x hx => ?_, fun m' hm' => ?_, fun x hx hxl => ?_, fun x hx => tn.ends (h.ac x hx), by rw [en]; exact h.na, fun x r' hx hb q1 q2 => ?_, fun m' hm' ht' r' q1 q2 => ?_⟩, en, ns⟩
  · rw [tA hs h.len hx]
    split
    · next e =>
      subst e
      refine ⟨hv.n1, hv.n4, hv.ri, fun _ => hot, hv.x, hv.uh, hv.wh, fun q => ?_, fun q1 q2 => ?_⟩
      · have := hv.busy q
        show (tAt t x).next = -1 ↔ o = -1
        exact ⟨fun q => absurd (this.1 q) hl, fun q => absurd q ho0⟩
      · have := hv.idle q1 q2
        exact ⟨this.1, ⟨fun q => absurd q ho0, fun q => absurd (this.2.2 q) hl⟩⟩
    · exact h.val x hx
  · rw [cnt_same (v := (tAt t s).fwd o) hs h.len rfl, List.countP_append]
    have h1 := hc (·.tok)
    have h2 := h.one
    rw [ht] at h1
    simp only [Bool.false_eq_true, if_false, Nat.add_zero] at h1
    rw [h1]
    simpa using h2
  · unfold rsn
    rw [cnt_same (v := (tAt t s).fwd o) hs h.len rfl, tA hs h.len hx, List.countP_append]
    have h1 := h.rs x hx
    have h2 := hc (fun m => decide (m.subj = x))
    rw [sj] at h2
    simp only [decide_eq_true_eq] at h2
    have h3 : [(⟨(tAt t s).last, false, o⟩ : Ms)].countP (fun m => decide (m.subj = x)) = if o = x then 1 else 0 := by
      by_cases q : o = x <;> simp [Ms.subj, q]
    unfold rsn at h1
    have e2 : (if x = s then (tAt t s).fwd o else tAt t x).want = (tAt t x).want := by
      by_cases q : x = s
      · rw [if_pos q, q]; rfl
      · rw [if_neg q]
    rw [h3, e2, ← h1]
    omega
  · rw [List.mem_append] at hm'
    rcases hm' with hm' | hm'
    · exact h.mr m' (mcut_mem hm')
    · simp at hm'; subst hm'
      exact ⟨⟨(hv.l hl).1, (hv.l hl).2.1⟩, fun _ => ho⟩
  · rw [tA hs h.len hx] at hxl ⊢
    split at hxl
    · next e => subst e; rw [if_pos rfl]; exact gs
    · next e =>
      rw [if_neg e]
      have : x ≠ r := fun q => hxl (by rw [q]; exact hrl)
      simp only [turn, if_neg this, if_neg e]
      exact h.gl x hx hxl
  · rw [en] at q1 q2
    have hb' : (tAt t x).busy := by
      rw [tA hs h.len hx] at hb
      split at hb
      · next e => subst e; exact hb
      · exact hb
    exact tn.keep (h.mem x r' hx hb' q1 q2) (ns x r' hx hb' q1 q2)
  · rw [en] at q1 q2
    rw [List.mem_append] at hm'
    rcases hm' with hm' | hm'
    · have hwm := h.wm (mcut_mem hm')
      rw [subj_req ht'] at hwm
      have e1 : r' ≠ r := fun e => hoth hm' ht' k1 (e ▸ q1)
      have e2 := ns _ r' ((h.mr _ (mcut_mem hm')).2 ht') (.inr hwm) q1 q2
      simp only [turn, if_neg e1, if_neg e2]
      exact h.rq m' (mcut_mem hm') ht' r' q1 q2
    · simp at hm'; subst hm'
      have : r' = r := q1.end_eq q2 k1 k2
      rw [this, gr]
      exact h.gl s hs hl
/-- the token is given away -/
theorem Inv.req_give (h : Inv n t ml G) {k : Nat} {r : Int} (c : Came n t ml G k r) (hl : (tAt t (msAt ml k).to).last = -1) (hh : (tAt t (msAt ml k).to).has = true) (hu : (tAt t (msAt ml k).to).using_ = false) :
    Inv n (t.set (msAt ml k).to.toNat ((tAt t (msAt ml k).to).give (msAt ml k).org)) (mcut ml k ++ [⟨(msAt ml k).org, true, 0⟩]) (turn G r (msAt ml k).to (msAt ml k).org) ∧
    nx n (t.set (msAt ml k).to.toNat ((tAt t (msAt ml k).to).give (msAt ml k).org)) = nx n t ∧ ∀ i r', Rng n i → (tAt t i).busy → Pth (nx n t) i r' → nx n t r' = -1 → r' ≠ (msAt ml k).to := by
  obtain ⟨hk, ht, hs, ho, hw, hot, k1, k2, hr, hrl, tn⟩ := c
  have hc := fun p => mcut_count hk p
  have hoth := fun {m'} {r'} => h.other (m' := m') (r := r') hk ht
  have sj := subj_req ht
  generalize hm : msAt ml k = m at *
  generalize m.to = s at *
  generalize m.org = o at *
  have hv := h.val s hs
  have ho0 : o ≠ -1 := by have := ho.1; omega
  have hsw : (tAt t s).want = false := by
    cases hq : (tAt t s).want
    · rfl
    · rw [hv.wh hq] at hh; cases hh
  have hid := hv.idle hu hsw
  have en : nx n (t.set s.toNat ((tAt t s).give o)) = nx n t := nx_same hs h.len rfl
  have nb : ¬ (tAt t s).busy := fun q => by rcases q with q | q <;> simp [hu, hsw] at q
  have ns : ∀ i r', Rng n i → (tAt t i).busy → Pth (nx n t) i r' → nx n t r' = -1 → r' ≠ s := fun i r' hi hb q1 q2 e => by
    obtain ⟨a, b⟩ := h.path hi hb q1
    rw [e] at b
    exact nb b
  have gs : turn G r s o s = o := by simp [turn, tn.ne.symm]
  refine ⟨⟨h.n1, h.n4, by simp [h.len], fun x hx => ?_, ?_, fun x hx => ?_, fun m' hm' => ?_, fun x hx hxl => ?_, fun x hx => tn.ends (h.ac x hx), by rw [en]; exact h.na, fun x r' hx hb q1 q2 => ?_, fun m' hm' ht' r' q1 q2 => ?_⟩, en, ns⟩
  · rw [tA hs h.len hx]
    split
    · next e =>
      subst e
      refine ⟨hv.n1, hv.n4, hv.ri, fun _ => hot, hv.x, fun q => ?_, fun _ => rfl, fun q => ?_, fun q1 q2 => ⟨hid.1, ⟨fun q => absurd q ho0, fun q => by cases q⟩⟩⟩
      · have : (tAt t x).using_ = true := q
        rw [hu] at this; cases this
      · exact absurd q nb
    · exact h.val x hx
  · have h1 : (t.set s.toNat ((tAt t s).give o)).countP (·.has) + 1 = t.countP (·.has) := by
      have := count_tAt (t := t) (p := (·.has)) (v := (tAt t s).give o) hs.1 (by have := hs.2; have := h.len; omega)
      simpa [hh] using this
    have h2 := hc (·.tok)
    have h3 := h.one
    rw [ht] at h2
    simp only [Bool.false_eq_true, if_false, Nat.add_zero] at h2
    have h4 : [(⟨o, true, 0⟩ : Ms)].countP (·.tok) = 1 := by simp
    rw [List.countP_append, h2, h4]
    omega
  · unfold rsn
    rw [cnt_same (v := (tAt t s).give o) hs h.len rfl, tA hs h.len hx, List.countP_append]
    have h1 := h.rs x hx
    have h2 := hc (fun m => decide (m.subj = x))
    rw [sj] at h2
    simp only [decide_eq_true_eq] at h2
    have h3 : [(⟨o, true, 0⟩ : Ms)].countP (fun m => decide (m.subj = x)) = if o = x then 1 else 0 := by
      by_cases q : o = x <;> simp [Ms.subj, q]
    unfold rsn at h1
    have e2 : (if x = s then (tAt t s).give o else tAt t x).want = (tAt t x).want := by
      by_cases q : x = s
      · rw [if_pos q, q]; rfl
      · rw [if_neg q]
    rw [h3, e2, ← h1]
    omega
  · rw [List.mem_append] at hm'
    rcases hm' with hm' | hm'
    · exact h.mr m' (mcut_mem hm')
    · simp at hm'; subst hm'
      exact ⟨ho, fun q => by cases q⟩
  · rw [tA hs h.len hx] at hxl ⊢
    split at hxl
    · next e => subst e; rw [if_pos rfl]; exact gs
    · next e =>
      rw [if_neg e]
      have : x ≠ r := fun q => hxl (by rw [q]; exact hrl)
      simp only [turn, if_neg this, if_neg e]
      exact h.gl x hx hxl
  · rw [en] at q1 q2
    rw [tA hs h.len hx] at hb
    split at hb
    · exact absurd hb nb
    · exact tn.keep (h.mem x r' hx hb q1 q2) (ns x r' hx hb q1 q2)
  · rw [en] at q1 q2
    rw [List.mem_append] at hm'
    rcases hm' with hm' | hm'
    · have hwm := h.wm (mcut_mem hm')
      rw [subj_req ht'] at hwm
      have e1 : r' ≠ r := fun e => hoth hm' ht' k1 (e ▸ q1)
      have e2 := ns _ r' ((h.mr _ (mcut_mem hm')).2 ht') (.inr hwm) q1 q2
      simp only [turn, if_neg e1, if_neg e2]
      exact h.rq m' (mcut_mem hm') ht' r' q1 q2
    · simp at hm'; subst hm'; cases ht'
/-- where a queue gets a successor at its end -/
theorem hang_end {f : Int → Int} {s o r : Int} (hs : f s = -1) (ho : o ≠ -1) (k1 : Pth f o r) (k2 : f r = -1) (hrs : r ≠ s) {x p r' : Int} (a1 : Pth f x p) (a2 : f p = -1) (b1 : Pth (hang f s o) x r') (b2 : hang f s o r' = -1) : (p = s → r' = r) ∧ (p ≠ s → r' = p) := by
  have h1 := hang_keep (h := o) hs a1
  refine ⟨fun e => ?_, fun e => ?_⟩
  · subst e
    have e1 : hang f p o p = o := by simp [hang]
    exact b1.end_eq b2 (h1.trans (.step (by rw [e1]; exact hang_keep hs k1) (by rw [e1]; exact ho))) (by simp [hang, hrs, k2])
  · exact b1.end_eq b2 h1 (by simp [hang, e, a2])
/-- one stands behind -/
theorem Inv.req_hold (h : Inv n t ml G) {k : Nat} {r : Int} (c : Came n t ml G k r) (hl : (tAt t (msAt ml k).to).last = -1) (hh : ¬ ((tAt t (msAt ml k).to).has = true ∧ (tAt t (msAt ml k).to).using_ = false)) :
    Inv n (t.set (msAt ml k).to.toNat ((tAt t (msAt ml k).to).hold (msAt ml k).org)) (mcut ml k) (turn G r (msAt ml k).to (msAt ml k).org) ∧
    nx n (t.set (msAt ml k).to.toNat ((tAt t (msAt ml k).to).hold (msAt ml k).org)) = hang (nx n t) (msAt ml k).to (msAt ml k).org ∧ nx n t (msAt ml k).to = -1 := by
  obtain ⟨hk, ht, hs, ho, hw, hot, k1, k2, hr, hrl, tn⟩ := c
  have hc := fun p => mcut_count hk p
  have hoth := fun {m'} {r'} => h.other (m' := m') (r := r') hk ht
  have sj := subj_req ht
  generalize hm : msAt ml k = m at *
  generalize m.to = s at *
  generalize m.org = o at *
  have hv := h.val s hs
  have ho0 : o ≠ -1 := by have := ho.1; omega
  have hb : (tAt t s).busy := by
    by_cases q1 : (tAt t s).using_ = true
    · exact .inl q1
    · by_cases q2 : (tAt t s).want = true
      · exact .inr q2
      · have := hv.idle (by simpa using q1) (by simpa using q2)
        exact absurd ⟨this.2.1 hl, by simpa using q1⟩ hh
  have hsn : (tAt t s).next = -1 := (hv.nl hb).2 hl
  have nxs : nx n t s = -1 := by rw [nx_at hs, hsn]
  have en : nx n (t.set s.toNat ((tAt t s).hold o)) = hang (nx n t) s o := nx_set hs h.len
  have gs : turn G r s o s = o := by simp [turn, tn.ne.symm]
  have gr : turn G r s o r = G s := by simp [turn]
  have he := fun {x p r' : Int} => hang_end (x := x) (p := p) (r' := r') nxs ho0 k1 k2 tn.ne
  refine ⟨⟨h.n1, h.n4, by simp [h.len], fun x hx => ?_, ?_, fun x hx => ?_, fun m' hm' => h.mr m' (mcut_mem hm'), fun x hx hxl => ?_, fun x hx => tn.ends (h.ac x hx), fun x hx => ?_, fun x r' hx hb q1 q2 => ?_, fun m' hm' ht' r' q1 q2 => ?_⟩, en, nxs⟩
  · rw [tA hs h.len hx]
    split
    · next e =>
      subst e
      refine ⟨hv.n1, hv.n4, hv.ri, fun _ => hot, fun _ => hot, hv.uh, hv.wh, fun q => ⟨fun q => q, fun q => q⟩, fun q1 q2 => ?_⟩
      have q1' : (tAt t x).using_ = false := q1
      have q2' : (tAt t x).want = false := q2
      rcases hb with q | q
      · rw [q1'] at q; cases q
      · rw [q2'] at q; cases q
    · exact h.val x hx
  · rw [cnt_same (v := (tAt t s).hold o) hs h.len rfl]
    have h1 := hc (·.tok)
    have h2 := h.one
    rw [ht] at h1
    simp only [Bool.false_eq_true, if_false, Nat.add_zero] at h1
    rw [h1]
    exact h2
  · unfold rsn
    rw [tA hs h.len hx]
    have h1 := h.rs x hx
    have h2 := hc (fun m => decide (m.subj = x))
    rw [sj] at h2
    simp only [decide_eq_true_eq] at h2
    have hx1 : ¬ (-1 : Int) = x := by have := hx.1; omega
    have h3 : (t.set s.toNat ((tAt t s).hold o)).countP (fun z => decide (z.next = x)) = t.countP (fun z => decide (z.next = x)) + if o = x then 1 else 0 := by
      have := count_tAt (t := t) (p := fun z => decide (z.next = x)) (v := (tAt t s).hold o) hs.1 (by have := hs.2; have := h.len; omega)
      rw [hsn] at this
      by_cases q : o = x <;> simpa [hx1, q] using this
    unfold rsn at h1
    have e2 : (if x = s then (tAt t s).hold o else tAt t x).want = (tAt t x).want := by
      by_cases q : x = s
      · rw [if_pos q, q]; rfl
      · rw [if_neg q]
    rw [e2, ← h1, h3]
    omega
  · rw [tA hs h.len hx] at hxl ⊢
    split at hxl
    · next e => subst e; rw [if_pos rfl]; exact gs
    · next e =>
      rw [if_neg e]
      have : x ≠ r := fun q => hxl (by rw [q]; exact hrl)
      simp only [turn, if_neg this, if_neg e]
      exact h.gl x hx hxl
  · rw [en]
    obtain ⟨p, a1, a2⟩ := h.na x hx
    by_cases e : p = s
    · subst e
      have e1 : hang (nx n t) p o p = o := by simp [hang]
      exact ⟨r, (hang_keep nxs a1).trans (.step (by rw [e1]; exact hang_keep nxs k1) (by rw [e1]; exact ho0)), by simp [hang, tn.ne, k2]⟩
    · exact ⟨p, hang_keep nxs a1, by simp [hang, e, a2]⟩
  · rw [en] at q1 q2
    have hb' : (tAt t x).busy := by
      rw [tA hs h.len hx] at hb
      split at hb
      · next e => subst e; exact hb
      · exact hb
    obtain ⟨p, a1, a2⟩ := h.na x hx
    have := h.mem x p hx hb' a1 a2
    obtain ⟨e1, e2⟩ := he a1 a2 q1 q2
    by_cases e : p = s
    · rw [e1 e]; rw [e] at this; exact tn.keep_s this
    · rw [e2 e]; exact tn.keep this e
  · rw [en] at q1 q2
    have hom := (h.mr _ (mcut_mem hm')).2 ht'
    obtain ⟨p, a1, a2⟩ := h.na _ hom
    obtain ⟨e1, e2⟩ := he a1 a2 q1 q2
    by_cases e : p = s
    · rw [e1 e, gr]
      rw [e] at a1 a2
      exact h.rq m' (mcut_mem hm') ht' s a1 a2
    · rw [e2 e]
      have e3 : p ≠ r := fun e => hoth hm' ht' k1 (e ▸ a1)
      simp only [turn, if_neg e3, if_neg e]
      exact h.rq m' (mcut_mem hm') ht' p a1 a2
end
end Go.Proofs.Ytlnmbpaijodpjaa

namespace Go.Proofs.Ytlnmbpaijodpjaa

/-- what a site does with a message -/
def hearT (t : Tk) (m : Ms) : Tk := if m.tok = true then t.get else if t.last ≠ -1 then t.fwd m.org else if t.has = true ∧ t.using_ = false then t.give m.org else t.hold m.org
def hearM (t : Tk) (m : Ms) : List Ms := if m.tok = true then [] else if t.last ≠ -1 then [⟨t.last, false, m.org⟩] else if t.has = true ∧ t.using_ = false then [⟨m.org, true, 0⟩] else []
def doneT (t : Tk) : Tk := if t.next = -1 then t.rest else t.pass
def doneM (t : Tk) : List Ms := if t.next = -1 then [] else [⟨t.next, true, 0⟩]
def wantT (t : Tk) : Tk := if t.has = true then t.use else t.ask
def wantM (t : Tk) (i : Int) : List Ms := if t.has = true then [] else [⟨t.last, false, i⟩]
/-- a message is delivered -/
def delT (t : List Tk) (ml : List Ms) (k : Nat) : List Tk := t.set (msAt ml k).to.toNat (hearT (tAt t (msAt ml k).to) (msAt ml k))
def delM (t : List Tk) (ml : List Ms) (k : Nat) : List Ms := mcut ml k ++ hearM (tAt t (msAt ml k).to) (msAt ml k)
/-- what is known of the sites that requests have come by -/
structure Vis (n : Nat) (t : List Tk) (ml : List Ms) (G : Int → Int) (V : List Bool) : Prop where
  len : V.length = 16
  vis : ∀ m ∈ ml, m.tok = false → ∀ x, Rng n x → V.getD (4 * m.org + x).toNat false = true → ∀ r, Pth (nx n t) m.org r → nx n t r = -1 → Pth G x r
def mu (t : List Tk) (V : List Bool) : Nat := V.countP (fun b => !b) + 2 * t.countP (·.want) + t.countP (·.using_)
theorem countB_set : ∀ {V : List Bool} {i : Nat}, V.getD i true = false → (V.set i true).countP (fun b => !b) + 1 = V.countP (fun b => !b)
  | [], i, h => by simp at h
  | x :: r, 0, h => by simp at h; subst h; simp
  | x :: r, i + 1, h => by
    have := countB_set (V := r) (i := i) (by simpa using h)
    simp only [List.set_cons_succ, List.countP_cons]
    omega
theorem getD_set {V : List Bool} {i j : Nat} (hi : i < V.length) : (V.set i true).getD j false = if j = i then true else V.getD j false := by
  simp only [List.getD_eq_getElem?_getD]
  by_cases e : j = i
  · subst e; rw [List.getElem?_set_self hi, if_pos rfl]; rfl
  · rw [List.getElem?_set_ne (fun q => e q.symm), if_neg e]
section
variable {n : Nat} {t : List Tk} {ml : List Ms} {G : Int → Int} {V : List Bool}
theorem Vis.none (n : Nat) (t : List Tk) (ml : List Ms) (G : Int → Int) : Vis n t ml G (List.replicate 16 false) :=
  ⟨by simp, fun m _ _ x _ hv => by
    rw [List.getD_eq_getElem?_getD, List.getElem?_replicate] at hv
    split at hv <;> cases hv⟩
/-- the site hasn't been come by -/
theorem Came.fresh {k : Nat} {r : Int} (c : Came n t ml G k r) (v : Vis n t ml G V) (hn : n ≤ 4) : (4 * (msAt ml k).org + (msAt ml k).to).toNat < V.length ∧ V.getD (4 * (msAt ml k).org + (msAt ml k).to).toNat true = false := by
  have h1 := c.o
  have h2 := c.s
  have hlt : (4 * (msAt ml k).org + (msAt ml k).to).toNat < V.length := by
    rw [v.len]
    unfold Rng at h1 h2
    omega
  refine ⟨hlt, ?_⟩
  have key : V.getD (4 * (msAt ml k).org + (msAt ml k).to).toNat false ≠ true := fun q =>
    c.tn.nsr (v.vis _ (msAt_mem c.hk) c.tok _ c.s q r c.k1 c.k2)
  rw [List.getD_eq_getElem?_getD, List.getElem?_eq_getElem hlt] at key ⊢
  simpa using key
theorem idx_ne {a b x y : Int} (ha : 0 ≤ a) (hb : 0 ≤ b) (hx : 0 ≤ x ∧ x < 4) (hy : 0 ≤ y ∧ y < 4) (h : (4 * a + x).toNat = (4 * b + y).toNat) : a = b ∧ x = y := by omega
/-- a message is delivered: all stands, and less is left -/
theorem Inv.deliver (h : Inv n t ml G) (v : Vis n t ml G V) {k : Nat} (hk : k < ml.length) : ∃ G' V', Inv n (delT t ml k) (delM t ml k) G' ∧ Vis n (delT t ml k) (delM t ml k) G' V' ∧ mu (delT t ml k) V' + 1 = mu t V := by
  have hto := (h.mr _ (msAt_mem hk)).1
  have hn4 := h.n4
  cases ht : (msAt ml k).tok
  case true =>
    obtain ⟨hw, hI⟩ := h.tok_in hk ht
    have e1 : delT t ml k = t.set (msAt ml k).to.toNat (tAt t (msAt ml k).to).get := by rw [delT, hearT, if_pos ht]
    have e2 : delM t ml k = mcut ml k := by rw [delM, hearM, if_pos ht, List.append_nil]
    rw [e1, e2]
    refine ⟨G, V, hI, ⟨v.len, fun m hm hmt x hx hv r k1 k2 => ?_⟩, ?_⟩
    · have en := nx_same (v := (tAt t (msAt ml k).to).get) hto h.len rfl
      rw [en] at k1 k2
      exact v.vis m (mcut_mem hm) hmt x hx hv r k1 k2
    · have hv := h.val _ hto
      have hu : (tAt t (msAt ml k).to).using_ = false := by
        cases q : (tAt t (msAt ml k).to).using_
        · rfl
        · have := hv.uh q; rw [hv.wh hw] at this; cases this
      have h1 := count_tAt (t := t) (p := (·.want)) (v := (tAt t (msAt ml k).to).get) hto.1 (by have := hto.2; have := h.len; omega)
      have h2 := count_tAt (t := t) (p := (·.using_)) (v := (tAt t (msAt ml k).to).get) hto.1 (by have := hto.2; have := h.len; omega)
      simp only [Tk.get, hw, hu, Bool.false_eq_true, if_false, if_true] at h1 h2
      unfold mu
      simp only [Tk.get]
      omega
  case false =>
    obtain ⟨r, c⟩ := h.came hk ht
    obtain ⟨f1, f2⟩ := c.fresh v hn4
    have hs := c.s
    have ho := c.o
    have hvis : ∀ m' ∈ mcut ml k, m'.tok = false → ∀ x, Rng n x → (V.set (4 * (msAt ml k).org + (msAt ml k).to).toNat true).getD (4 * m'.org + x).toNat false = true → ∀ r', Pth (nx n t) m'.org r' → nx n t r' = -1 → Pth G x r' := by
      intro m' hm' ht' x hx hv r' q1 q2
      have hom := (h.mr _ (mcut_mem hm')).2 ht'
      rw [getD_set f1, if_neg] at hv
      · exact v.vis m' (mcut_mem hm') ht' x hx hv r' q1 q2
      · intro e
        have := (idx_ne hom.1 ho.1 ⟨hx.1, by have := hx.2; omega⟩ ⟨hs.1, by have := hs.2; omega⟩ e).1
        exact h.other hk ht hm' ht' c.k1 (by rw [this]; exact c.k1)
    have hvw : ∀ m' ∈ mcut ml k, m'.tok = false → Rng n m'.org ∧ (tAt t m'.org).busy := fun m' hm' ht' => by
      have hwm := h.wm (mcut_mem hm')
      rw [subj_req ht'] at hwm
      exact ⟨(h.mr _ (mcut_mem hm')).2 ht', .inr hwm⟩
    have hmu : ∀ {v : Tk}, v.want = (tAt t (msAt ml k).to).want → v.using_ = (tAt t (msAt ml k).to).using_ → mu (t.set (msAt ml k).to.toNat v) (V.set (4 * (msAt ml k).org + (msAt ml k).to).toNat true) + 1 = mu t V := fun {v} e1 e2 => by
      have h1 := countB_set f2
      have h2 := cnt_same (p := (·.want)) (v := v) hs h.len e1
      have h3 := cnt_same (p := (·.using_)) (v := v) hs h.len e2
      unfold mu
      omega
    have hlenV : (V.set (4 * (msAt ml k).org + (msAt ml k).to).toNat true).length = 16 := by simp [v.len]
    by_cases hl : (tAt t (msAt ml k).to).last = -1
    · by_cases hh : (tAt t (msAt ml k).to).has = true ∧ (tAt t (msAt ml k).to).using_ = false
      · obtain ⟨hI, en, ns⟩ := h.req_give c hl hh.1 hh.2
        have e1 : delT t ml k = t.set (msAt ml k).to.toNat ((tAt t (msAt ml k).to).give (msAt ml k).org) := by rw [delT, hearT, if_neg (by rw [ht]; simp), if_neg (fun q => q hl), if_pos hh]
        have e2 : delM t ml k = mcut ml k ++ [⟨(msAt ml k).org, true, 0⟩] := by rw [delM, hearM, if_neg (by rw [ht]; simp), if_neg (fun q => q hl), if_pos hh]
        rw [e1, e2]
        refine ⟨_, _, hI, ⟨hlenV, fun m' hm' ht' x hx hv r' q1 q2 => ?_⟩, hmu rfl rfl⟩
        rw [en] at q1 q2
        rw [List.mem_append] at hm'
        rcases hm' with hm' | hm'
        · obtain ⟨b1, b2⟩ := hvw m' hm' ht'
          exact c.tn.keep (hvis m' hm' ht' x hx hv r' q1 q2) (ns _ r' b1 b2 q1 q2)
        · simp at hm'; subst hm'; cases ht'
      · obtain ⟨hI, en, nxs⟩ := h.req_hold c hl hh
        have e1 : delT t ml k = t.set (msAt ml k).to.toNat ((tAt t (msAt ml k).to).hold (msAt ml k).org) := by rw [delT, hearT, if_neg (by rw [ht]; simp), if_neg (fun q => q hl), if_neg hh]
        have e2 : delM t ml k = mcut ml k := by rw [delM, hearM, if_neg (by rw [ht]; simp), if_neg (fun q => q hl), if_neg hh, List.append_nil]
        rw [e1, e2]
        refine ⟨_, _, hI, ⟨hlenV, fun m' hm' ht' x hx hv r' q1 q2 => ?_⟩, hmu rfl rfl⟩
        rw [en] at q1 q2
        obtain ⟨b1, b2⟩ := hvw m' hm' ht'
        obtain ⟨p, a1, a2⟩ := h.na _ b1
        have hR := hvis m' hm' ht' x hx hv p a1 a2
        obtain ⟨g1, g2⟩ := hang_end nxs (by have := ho.1; omega) c.k1 c.k2 c.tn.ne a1 a2 q1 q2
        by_cases e : p = (msAt ml k).to
        · rw [g1 e]; rw [e] at hR; exact c.tn.keep_s hR
        · rw [g2 e]; exact c.tn.keep hR e
    · obtain ⟨hI, en, ns⟩ := h.req_fwd c hl
      have e1 : delT t ml k = t.set (msAt ml k).to.toNat ((tAt t (msAt ml k).to).fwd (msAt ml k).org) := by rw [delT, hearT, if_neg (by rw [ht]; simp), if_pos hl]
      have e2 : delM t ml k = mcut ml k ++ [⟨(tAt t (msAt ml k).to).last, false, (msAt ml k).org⟩] := by rw [delM, hearM, if_neg (by rw [ht]; simp), if_pos hl]
      rw [e1, e2]
      refine ⟨_, _, hI, ⟨hlenV, fun m' hm' ht' x hx hv r' q1 q2 => ?_⟩, hmu rfl rfl⟩
      rw [en] at q1 q2
      rw [List.mem_append] at hm'
      rcases hm' with hm' | hm'
      · obtain ⟨b1, b2⟩ := hvw m' hm' ht'
        exact c.tn.keep (hvis m' hm' ht' x hx hv r' q1 q2) (ns _ r' b1 b2 q1 q2)
      · simp at hm'; subst hm'
        have er : r' = r := q1.end_eq q2 c.k1 c.k2
        rw [er]
        by_cases ex : x = (msAt ml k).to
        · rw [ex]; exact c.tn.s_r
        · rw [getD_set f1, if_neg] at hv
          · exact c.tn.keep (v.vis _ (msAt_mem hk) ht x hx hv r c.k1 c.k2) c.tn.ne
          · intro e
            exact ex (idx_ne ho.1 ho.1 ⟨hx.1, by have := hx.2; omega⟩ ⟨hs.1, by have := hs.2; omega⟩ e).2
/-- a site is done -/
theorem Inv.done (h : Inv n t ml G) (v : Vis n t ml G V) {i : Int} (hi : Rng n i) (hu : (tAt t i).using_ = true) : Inv n (t.set i.toNat (doneT (tAt t i))) (ml ++ doneM (tAt t i)) G ∧ Vis n (t.set i.toNat (doneT (tAt t i))) (ml ++ doneM (tAt t i)) G V ∧ mu (t.set i.toNat (doneT (tAt t i))) V + 1 = mu t V := by
  have hv := h.val i hi
  have hh := hv.uh hu
  have hw : (tAt t i).want = false := by
    cases hq : (tAt t i).want
    · rfl
    · rw [hv.wh hq] at hh; cases hh
  have hmu : ∀ {v : Tk}, v.want = (tAt t i).want → v.using_ = false → mu (t.set i.toNat v) V + 1 = mu t V := fun {v} e1 e2 => by
    have h2 := cnt_same (p := (·.want)) (v := v) hi h.len e1
    have h3 := count_tAt (t := t) (p := (·.using_)) (v := v) hi.1 (by have := hi.2; have := h.len; omega)
    simp only [hu, e2, Bool.false_eq_true, if_false, if_true] at h3
    unfold mu
    omega
  by_cases hx : (tAt t i).next = -1
  · have e1 : doneT (tAt t i) = (tAt t i).rest := by rw [doneT, if_pos hx]
    have e2 : doneM (tAt t i) = [] := by rw [doneM, if_pos hx]
    rw [e1, e2, List.append_nil]
    refine ⟨h.done_keep hi hu hx, ⟨v.len, ?_⟩, hmu rfl rfl⟩
    rw [nx_same (v := (tAt t i).rest) hi h.len rfl]
    exact v.vis
  · have e1 : doneT (tAt t i) = (tAt t i).pass := by rw [doneT, if_neg hx]
    have e2 : doneM (tAt t i) = [⟨(tAt t i).next, true, 0⟩] := by rw [doneM, if_neg hx]
    rw [e1, e2]
    refine ⟨h.done_pass hi hu hx, ⟨v.len, fun m hm ht x hx' hv' r k1 k2 => ?_⟩, hmu rfl rfl⟩
    have en := nx_set (v := (tAt t i).pass) hi h.len
    have hno : ∀ z, nx n t z ≠ i := fun z e => by
      have := h.wn (i := z) (by rw [e]; have := hi.1; omega)
      rw [e, hw] at this; cases this
    rw [en] at k1 k2
    rw [List.mem_append] at hm
    rcases hm with hm | hm
    · have ho := (h.mr m hm).2 ht
      have hwm := h.wm hm
      rw [subj_req ht] at hwm
      have hne : m.org ≠ i := fun e => by rw [e, hw] at hwm; cases hwm
      obtain ⟨p, q1, q2⟩ := h.na _ ho
      obtain ⟨q3, q4⟩ := cut_keep hno hne q1
      have : r = p := k1.end_eq k2 q3 (by simp [hang, q4, q2])
      subst this
      exact v.vis m hm ht x hx' hv' r q1 q2
    · simp at hm; subst hm; cases ht
theorem Inv.want (h : Inv n t ml G) {i : Int} (hi : Rng n i) (hw : (tAt t i).want = false) (hu : (tAt t i).using_ = false) : Inv n (t.set i.toNat (wantT (tAt t i))) (ml ++ wantM (tAt t i) i) G := by
  by_cases hh : (tAt t i).has = true
  · rw [wantT, if_pos hh, wantM, if_pos hh, List.append_nil]
    exact h.want_has hi hw hh hu
  · rw [wantT, if_neg hh, wantM, if_neg hh]
    exact h.want_ask hi hw (by simpa using hh) hu
/-- the first states -/
def newT (i : Int) : Tk := if i = 0 then ⟨true, false, false, -1, -1⟩ else ⟨false, false, false, 0, -1⟩
def startT (n : Nat) : List Tk := (List.range n).map fun i : Nat => newT i
theorem startT_at {n : Nat} {i : Int} (hi : Rng n i) : tAt (startT n) i = newT i := by
  have h : i.toNat < n := by have := hi.1; have := hi.2; omega
  have e : ((i.toNat : Nat) : Int) = i := by have := hi.1; omega
  rw [tAt, startT, List.getD_eq_getElem?_getD, List.getElem?_map, List.getElem?_range h]
  simp [e]
theorem Inv.start {n : Nat} (h1 : 1 ≤ n) (h4 : n ≤ 4) : Inv n (startT n) [] (fun x => if x = 0 then -1 else 0) := by
  have hnx : ∀ x, nx n (startT n) x = -1 := fun x => by
    unfold nx
    split
    · next hx => rw [startT_at hx]; unfold newT; split <;> rfl
    · rfl
  have hcases : n = 1 ∨ n = 2 ∨ n = 3 ∨ n = 4 := by omega
  refine ⟨h1, h4, by simp [startT], fun i hi => ?_, ?_, fun i hi => ?_, fun m hm => (by cases hm), fun i hi hl => ?_, fun i hi => ?_, fun i hi => ⟨i, .refl, hnx i⟩, fun i r hi hb => ?_, fun m hm => by cases hm⟩
  · rw [startT_at hi]
    unfold newT
    by_cases e : i = 0
    · rw [if_pos e]
      exact ⟨h1, h4, hi, fun q => absurd rfl q, fun q => absurd rfl q, fun q => (by cases q), fun q => (by cases q), fun q => ⟨fun _ => rfl, fun _ => rfl⟩, fun _ _ => ⟨rfl, ⟨fun _ => rfl, fun _ => rfl⟩⟩⟩
    · rw [if_neg e]
      exact ⟨h1, h4, hi, fun _ => ⟨Int.le_refl 0, by show (0 : Int) < n; omega, fun q => e q.symm⟩, fun q => absurd rfl q, fun q => (by cases q), fun q => (by cases q), fun q => (by rcases q with q | q <;> cases q), fun _ _ => ⟨rfl, ⟨fun q => (by cases q), fun q => by cases q⟩⟩⟩
  · rcases hcases with rfl | rfl | rfl | rfl <;> decide
  · rw [startT_at hi]
    have e : (newT i).want = false := by unfold newT; split <;> rfl
    rw [e, if_neg (by simp)]
    unfold rsn
    rw [List.countP_nil, Nat.zero_add, List.countP_eq_zero]
    intro x hx
    simp only [startT, List.mem_map] at hx
    obtain ⟨j, _, rfl⟩ := hx
    have : (newT (j : Int)).next = -1 := by unfold newT; split <;> rfl
    rw [this]
    have := hi.1
    simp only [decide_eq_true_eq]
    omega
  · rw [startT_at hi] at hl ⊢
    unfold newT at hl ⊢
    by_cases e : i = 0
    · rw [if_pos e] at hl; exact absurd rfl hl
    · rw [if_neg e]; simp [e]
  · by_cases e : i = 0
    · subst e; exact ⟨0, .refl, rfl⟩
    · exact ⟨0, .one (by simp [e]) (by decide), rfl⟩
  · rw [startT_at hi] at hb
    unfold newT at hb
    split at hb <;> rcases hb with q | q <;> cases q
/-- nobody waits where nothing is on its way and nobody uses the token -/
theorem Inv.quiet (h : Inv n t [] G) (hu : ∀ i, Rng n i → (tAt t i).using_ = false) : ∀ i, Rng n i → (tAt t i).want = false := by
  intro i hi
  cases hq : (tAt t i).want
  · rfl
  exfalso
  -- each who wants stands behind one who wants
  have pred : ∀ x, Rng n x → (tAt t x).want = true → ∃ y, Rng n y ∧ (tAt t y).want = true ∧ nx n t y = x := by
    intro x hx hw
    have h1 := h.rs x hx
    rw [hw, if_pos rfl] at h1
    unfold rsn at h1
    rw [List.countP_nil, Nat.zero_add] at h1
    obtain ⟨z, hz, hzx⟩ := List.countP_pos_iff.1 (by omega : 0 < t.countP (fun z => decide (z.next = x)))
    obtain ⟨y, y0, y1, rfl⟩ := mem_tAt hz
    have hy : Rng n y := ⟨y0, by have := h.len; omega⟩
    have hyx : (tAt t y).next = x := by simpa using hzx
    refine ⟨y, hy, ?_, by rw [nx_at hy, hyx]⟩
    cases hw' : (tAt t y).want
    · have := (h.val y hy).idle (hu y hy) hw'
      rw [this.1] at hyx
      have := hx.1
      omega
    · rfl
  -- steps to the end of the queue
  have it : ∀ {x r : Int}, Pth (nx n t) x r → nx n t r = -1 → ∃ k : Nat, ∀ (p : Nat → Int), p 0 = x → (∀ j, p (j + 1) = nx n t (p j)) → p (k + 1) = -1 := by
    intro x r k1
    induction k1 with
    | refl => intro hr; exact ⟨0, fun p p0 ps => by rw [ps, p0, hr]⟩
    | step k hx ih =>
      intro hr
      obtain ⟨k, hk⟩ := ih hr
      refine ⟨k + 1, fun p p0 ps => ?_⟩
      exact hk (fun j => p (j + 1)) (by rw [ps, p0]) (fun j => ps (j + 1))
  let q : Int → Nat → Int := fun x j => Nat.rec x (fun _ y => nx n t y) j
  have hq0 : ∀ x, q x 0 = x := fun x => rfl
  have hqs : ∀ x j, q x (j + 1) = nx n t (q x j) := fun x j => rfl
  have hqc : ∀ x j, q (nx n t x) j = q x (j + 1) := fun x j => by
    induction j with
    | zero => rfl
    | succ j ih => rw [hqs, ih, hqs x (j + 1)]
  -- a common bound
  have bound : ∀ m : Nat, m ≤ n → ∃ B : Nat, ∀ x : Int, 0 ≤ x → x < m → ∃ k, k ≤ B ∧ q x (k + 1) = -1 := by
    intro m
    induction m with
    | zero => intro _; exact ⟨0, fun x h1 h2 => by omega⟩
    | succ m ih =>
      intro hm
      obtain ⟨B, hB⟩ := ih (by omega)
      obtain ⟨r, r1, r2⟩ := h.na (m : Int) ⟨by omega, by omega⟩
      obtain ⟨k, hk⟩ := it r1 r2
      refine ⟨B + k, fun x h1 h2 => ?_⟩
      by_cases e : x = m
      · subst e
        exact ⟨k, by omega, hk (q _) (hq0 _) (hqs _)⟩
      · obtain ⟨k', q1, q2⟩ := hB x h1 (by omega)
        exact ⟨k', by omega, q2⟩
  obtain ⟨B, hB⟩ := bound n (Nat.le_refl n)
  -- long queues
  have long : ∀ k : Nat, ∃ x, Rng n x ∧ (tAt t x).want = true ∧ ∀ j, j ≤ k → 0 ≤ q x j := by
    intro k
    induction k with
    | zero => exact ⟨i, hi, hq, fun j hj => by rw [show j = 0 by omega]; exact hi.1⟩
    | succ k ih =>
      obtain ⟨x, x1, x2, x3⟩ := ih
      obtain ⟨y, y1, y2, y3⟩ := pred x x1 x2
      refine ⟨y, y1, y2, fun j hj => ?_⟩
      cases j with
      | zero => exact y1.1
      | succ j => rw [← hqc, y3]; exact x3 j (by omega)
  obtain ⟨x, x1, _, x3⟩ := long (B + 1)
  obtain ⟨k, k1, k2⟩ := hB x x1.1 x1.2
  have := x3 (k + 1) (by omega)
  omega
end
end Go.Proofs.Ytlnmbpaijodpjaa

namespace Go.Proofs.Ytlnmbpaijodpjaa

theorem len_subj {n : Nat} : ∀ {ml : List Ms}, (∀ m ∈ ml, Rng n m.subj) → n ≤ 4 → ml.length = ml.countP (fun m => decide (m.subj = 0)) + ml.countP (fun m => decide (m.subj = 1)) + ml.countP (fun m => decide (m.subj = 2)) + ml.countP (fun m => decide (m.subj = 3))
  | [], _, _ => rfl
  | m :: r, h, h4 => by
    have ih := len_subj (ml := r) (fun x hx => h x (List.mem_cons_of_mem _ hx)) h4
    have hm := h m (List.mem_cons_self ..)
    simp only [List.length_cons, List.countP_cons]
    rw [ih]
    unfold Rng at hm
    rcases (show m.subj = 0 ∨ m.subj = 1 ∨ m.subj = 2 ∨ m.subj = 3 by omega) with q | q | q | q <;> rw [q] <;> simp <;> omega
theorem Inv.len4 {n : Nat} {t : List Tk} {ml : List Ms} {G : Int → Int} (h : Inv n t ml G) : ml.length ≤ 4 := by
  have hs : ∀ m ∈ ml, Rng n m.subj := fun m hm => by
    have := h.mr m hm
    unfold Ms.subj
    split
    · exact this.1
    · next q => exact this.2 (by simpa using q)
  have hc : ∀ i : Int, ml.countP (fun m => decide (m.subj = i)) ≤ 1 := fun i => by
    by_cases hi : Rng n i
    · have := h.rs i hi
      unfold rsn at this
      split at this <;> omega
    · have : ml.countP (fun m => decide (m.subj = i)) = 0 := by
        rw [List.countP_eq_zero]
        intro m hm q
        simp at q
        exact hi (q ▸ hs m hm)
      omega
  have := len_subj hs h.n4
  have h0 := hc 0
  have h1 := hc 1
  have h2 := hc 2
  have h3 := hc 3
  omega
end Go.Proofs.Ytlnmbpaijodpjaa
