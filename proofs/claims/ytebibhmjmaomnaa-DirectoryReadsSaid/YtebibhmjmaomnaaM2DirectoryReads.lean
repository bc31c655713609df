/- Texts put behind one another: D24, D25, D27, D26. -/
import Derived.Test.YtebibhmjmaomnaaZN
import Derived.Test.YtebibhmjmaomnaaZE
import Derived.Test.YtebibhmjmaomnaaZL
set_option linter.unusedVariables false
set_option linter.unusedSimpArgs false
namespace Go.Proofs.Ytebibhmjmaomnaa
open Go.RowKit Go.Proofs
def two (s : ByteArray) : List (List Rs) := [[], [lk s]]
def all16 : List (List Rs) := (two (nm5 0)).flatMap fun a => (two (nm5 1)).flatMap fun b => (two (nm5 2)).flatMap fun c => (two (nm5 3)).map fun d => a ++ b ++ c ++ d
theorem cat16 : (all16.all fun c => catOk c && (List.range 4).all fun j => (insE c (lk (nm5 j)) != 0 || decide (insL c (lk (nm5 j)) ∈ all16)) && (rmE c (lk (nm5 j)).nm != 0 || decide (delL c (lk (nm5 j)).nm ∈ all16))) = true := by decide +kernel
theorem c16_of {c : List Rs} (h : c ∈ all16) : catOk c = true ∧ ∀ j, j < 4 → (insE c (lk (nm5 j)) = 0 → insL c (lk (nm5 j)) ∈ all16) ∧ (rmE c (lk (nm5 j)).nm = 0 → delL c (lk (nm5 j)).nm ∈ all16) := by
  have h1 := List.all_eq_true.1 cat16 c h
  obtain ⟨h2, h3⟩ := Bool.and_eq_true_iff.1 h1
  refine ⟨h2, fun j hj => ?_⟩
  have h4 := List.all_eq_true.1 h3 j (List.mem_range.2 hj)
  obtain ⟨h5, h6⟩ := Bool.and_eq_true_iff.1 h4
  refine ⟨fun he => ?_, fun he => ?_⟩
  · rw [he] at h5; simpa using h5
  · rw [he] at h6; simpa using h6
structure Lst (r : Rp) : Prop where
  v0 : 0 ≤ r.ver
  v1 : r.ver ≤ 1073741824
  c : r.cat ∈ all16
theorem Lst.z : Lst Rp.z := ⟨by simp [Rp.z], by simp [Rp.z], by decide +kernel⟩
theorem Lst.ok {r : Rp} (h : Lst r) : rpOk r = true := by
  unfold rpOk
  rw [(c16_of h.c).1]
  simp [h.v0, h.v1]
theorem Lst.chg {r : Rp} (h : Lst r) {j : Nat} (hj : j < 4) {add : Bool} (he : chgE r add (lk (nm5 j)) = 0) : Lst (chgR r add (lk (nm5 j))) ∧ (chgR r add (lk (nm5 j))).ver = r.ver + 1 := by
  obtain ⟨_, hc⟩ := c16_of h.c
  obtain ⟨h1, h2⟩ := hc j hj
  have hv : ¬ r.ver = 1073741824 := by
    intro q
    simp [chgE, h.ok, q] at he
  have he2 : (if add then insE r.cat (lk (nm5 j)) else rmE r.cat (lk (nm5 j)).nm) = 0 := by
    simpa [chgE, h.ok, hv] using he
  have e : chgR r add (lk (nm5 j)) = ⟨r.ver + 1, if add then insL r.cat (lk (nm5 j)) else delL r.cat (lk (nm5 j)).nm⟩ := by rw [chgR, if_pos he]
  have h3 := h.v0
  have h4 := h.v1
  rw [e]
  refine ⟨⟨?_, ?_, ?_⟩, rfl⟩
  · show 0 ≤ r.ver + 1; omega
  · show r.ver + 1 ≤ 1073741824; omega
  · cases add
    · simp only [Bool.false_eq_true, if_false] at he2 ⊢; exact h2 he2
    · simp only [if_true] at he2 ⊢; exact h1 he2
structure Inv (k : Nat) (Q : List Nat) (l : List Rp) (last : Rp) : Prop where
  len : l.length = k
  ok : ∀ x ∈ l, rpOk x = true
  lst : Lst last
  q : ∃ s ∈ Q, ∀ (i : Nat) (h : i < l.length), s.testBit i = true → l[i] = last
  le : ∀ x ∈ l, x.ver ≤ last.ver
  top : ∀ x ∈ l, x.ver = last.ver → x = last
  same : ∀ x ∈ l, ∀ y ∈ l, x.ver = y.ver → x = y
section
variable {k : Nat} {Q : List Nat} {l : List Rp} {last : Rp}
theorem Inv.start (h : Md k Q) : Inv k Q (List.replicate k Rp.z) Rp.z := by
  have hz : ∀ x ∈ List.replicate k Rp.z, x = Rp.z := fun x hx => (List.mem_replicate.1 hx).2
  refine ⟨by simp, fun x hx => by rw [hz x hx]; exact Lst.z.ok, Lst.z, ?_, fun x hx => by rw [hz x hx]; exact Int.le_refl _, fun x hx _ => hz x hx, fun x hx y hy _ => by rw [hz x hx, hz y hy]⟩
  cases hQ : Q with
  | nil => exact absurd hQ h.cot.ne
  | cons s r => exact ⟨s, by simp, fun i hi _ => by simp⟩
theorem pick_has {s i : Nat} (h : i < l.length) (hb : s.testBit i = true) : l[i] ∈ pick s l := by
  unfold pick pickU
  refine List.mem_map.2 ⟨i, List.mem_filter.2 ⟨List.mem_range.2 h, hb⟩, ?_⟩
  simp [List.getD, h]
theorem pick_mem {s : Nat} {x : Rp} (hx : x ∈ pick s l) : x ∈ l := pickU_mem (Nat.le_refl _) hx
theorem meet_bit {s t : Nat} (h : Md k Q) (hs : s ∈ Q) (ht : t ∈ Q) : ∃ i, i < k ∧ s.testBit i = true ∧ t.testBit i = true := by
  obtain ⟨i, hi⟩ := Nat.exists_testBit_of_ne_zero (h.cot.meet s hs t ht)
  rw [Nat.testBit_and, Bool.and_eq_true] at hi
  refine ⟨i, ?_, hi.1, hi.2⟩
  by_cases hk : i < k
  · exact hk
  · have h1 := (h.cot.rng s hs).2
    have h2 : 2 ^ k ≤ 2 ^ i := Nat.pow_le_pow_right (by omega) (by omega)
    rw [Nat.testBit_lt_two_pow (by omega)] at hi
    exact absurd hi.1 (by simp)
theorem fold_ge : ∀ (l : List Rp) (a : Rp), a.ver ≤ (l.foldl mx a).ver ∧ ∀ x ∈ l, x.ver ≤ (l.foldl mx a).ver
  | [], a => ⟨Int.le_refl _, fun x hx => by simp at hx⟩
  | y :: l, a => by
    rw [List.foldl_cons]
    obtain ⟨h1, h2⟩ := fold_ge l (mx a y)
    have h3 : a.ver ≤ (mx a y).ver ∧ y.ver ≤ (mx a y).ver := by
      unfold mx
      split <;> omega
    refine ⟨Int.le_trans h3.1 h1, fun x hx => ?_⟩
    rcases List.mem_cons.1 hx with rfl | hx
    · exact Int.le_trans h3.2 h1
    · exact h2 x hx
theorem best_is {p : List Rp} (hm : last ∈ p) (hle : ∀ x ∈ p, x.ver ≤ last.ver) (ht : ∀ x ∈ p, x.ver = last.ver → x = last) : best p = last := by
  have h0 : p.getD 0 Rp.z ∈ p := by
    cases p with
    | nil => simp at hm
    | cons a p => simp
  have h1 : best p ∈ p := by
    rcases fold_mem p (p.getD 0 Rp.z) with h | h
    · unfold best; rw [h]; exact h0
    · exact h
  have h2 := (fold_ge p (p.getD 0 Rp.z)).2 last hm
  have h3 := hle _ h1
  refine ht _ h1 ?_
  unfold best at h3 ⊢
  omega
theorem Inv.vl (h : Inv k Q l last) (md : Md k Q) : vlOk l k (zi Q) = true := by
  have h1 : l.all rpOk = true := List.all_eq_true.2 h.ok
  simp [vlOk, md.ok, h.len, h1]
theorem av_q {up t0 : Int} (md : Md k Q) (ha : availE k (zi Q) up = some t0) : ∃ t : Nat, t0 = (t : Int) ∧ t ∈ Q := by
  unfold availE at ha
  rw [if_pos md.ok] at ha
  have hm := avail_mem ha
  unfold zi at hm
  obtain ⟨t, ht, rfl⟩ := List.mem_map.1 hm
  exact ⟨t, rfl, ht⟩
theorem Inv.read (h : Inv k Q l last) (md : Md k Q) {up t0 : Int} (ha : availE k (zi Q) up = some t0) : rdE l k (zi Q) up = 0 ∧ rdR l k (zi Q) up = last := by
  obtain ⟨t, rfl, ht⟩ := av_q md ha
  obtain ⟨s, hs, hl⟩ := h.q
  obtain ⟨i, hi, h1, h2⟩ := meet_bit md hs ht
  have hil : i < l.length := by rw [h.len]; exact hi
  have hm : last ∈ pick t l := by rw [← hl i hil h1]; exact pick_has hil h2
  have hb := best_is hm (fun x hx => h.le x (pick_mem hx)) (fun x hx => h.top x (pick_mem hx))
  have hne : pick t l ≠ [] := fun q => by rw [q] at hm; simp at hm
  have hall : (pick t l).all rpOk = true := List.all_eq_true.2 fun x hx => h.ok x (pick_mem hx)
  have hc : (pick t l).any (clash (best (pick t l))) = false := by
    rw [List.any_eq_false]
    intro x hx hc
    rw [hb] at hc
    unfold clash at hc
    have hc := of_decide_eq_true hc
    exact hc.2 (by rw [h.top x (pick_mem hx) hc.1])
  have hE : nwE (pick t l) = 0 := by simp [nwE, hne, hall, hc]
  obtain ⟨r1, r2⟩ := rd_of (h.vl md) ha
  rw [Int.toNat_natCast] at r1 r2
  exact ⟨by rw [r1, hE], by rw [r2, nwR, if_pos hE, hb]⟩
theorem wrU_get {s : Nat} {r : Rp} {i : Nat} (h : i < l.length) (h' : i < (wrU s l r l.length).length) : (wrU s l r l.length)[i] = if s.testBit i then accR l[i] r else l[i] := by
  simp [wrU, List.getD, h]
theorem Inv.write (h : Inv k Q l last) (md : Md k Q) {up t0 : Int} (ha : availE k (zi Q) up = some t0) {w : Rp} (hw : Lst w) (hv : w.ver = last.ver + 1) : wrE l k (zi Q) up w = 0 ∧ Inv k Q (wrR l k (zi Q) up w) w := by
  obtain ⟨t, rfl, ht⟩ := av_q md ha
  obtain ⟨w1, w2⟩ := wr_of (h.vl md) hw.ok ha
  rw [Int.toNat_natCast] at w1 w2
  have hacc : ∀ x ∈ l, accE x w = 0 ∧ accR x w = w := by
    intro x hx
    have h1 := h.le x hx
    have h2 : ¬ x.ver = w.ver := by omega
    have h3 : x.ver < w.ver := by omega
    have e : accE x w = 0 := by simp [accE, h.ok x hx, hw.ok, h2]
    exact ⟨e, by rw [accR, if_pos e, if_pos h3]⟩
  have h0 : ∀ i, i ≤ l.length → wrF t l w i = 0 := by
    intro i
    induction i with
    | zero => intro _; rfl
    | succ i ih =>
      intro hi
      rw [wrF_succ (by omega), if_neg (by simpa using ih (by omega)), (hacc _ (List.getElem_mem _)).1]
      simp
  have hE := h0 _ (Nat.le_refl _)
  rw [hE] at w1
  refine ⟨w1, ?_⟩
  rw [w2 hE]
  have hlen : (wrU t l w l.length).length = l.length := by simp [wrU]
  have hget : ∀ (i : Nat) (hi : i < l.length) (h' : i < (wrU t l w l.length).length), (wrU t l w l.length)[i] = if t.testBit i then w else l[i] := by
    intro i hi h'
    rw [wrU_get hi h', (hacc _ (List.getElem_mem hi)).2]
  have hmem : ∀ x ∈ wrU t l w l.length, x = w ∨ x ∈ l := by
    intro x hx
    obtain ⟨i, hi, rfl⟩ := List.getElem_of_mem hx
    rw [hget i (by omega) hi]
    split
    · exact .inl rfl
    · exact .inr (List.getElem_mem _)
  refine ⟨by rw [hlen, h.len], ?_, hw, ⟨t, ht, ?_⟩, ?_, ?_, ?_⟩
  · intro x hx
    rcases hmem x hx with rfl | hx
    · exact hw.ok
    · exact h.ok x hx
  · intro i hi hb
    rw [hget i (by omega) hi, if_pos hb]
  · intro x hx
    rcases hmem x hx with rfl | hx
    · exact Int.le_refl _
    · have := h.le x hx; omega
  · intro x hx hv'
    rcases hmem x hx with rfl | hx
    · rfl
    · have := h.le x hx; omega
  · intro x hx y hy hxy
    rcases hmem x hx with ex | hx' <;> rcases hmem y hy with ey | hy'
    · rw [ex, ey]
    · have := h.le y hy'; rw [ex] at hxy; omega
    · have := h.le x hx'; rw [ey] at hxy; omega
    · exact h.same x hx' y hy' hxy
theorem Inv.update (h : Inv k Q l last) (md : Md k Q) (rd wr : Int) (add : Bool) {j : Nat} (hj : j < 4) :
    (upE l k (zi Q) rd wr add (lk (nm5 j)) = 0 ↔ (availE k (zi Q) rd).isSome = true ∧ (availE k (zi Q) wr).isSome = true ∧ chgE last add (lk (nm5 j)) = 0) ∧
    (upE l k (zi Q) rd wr add (lk (nm5 j)) = 0 → Inv k Q (upR l k (zi Q) rd wr add (lk (nm5 j))) (chgR last add (lk (nm5 j)))) := by
  cases h1 : availE k (zi Q) rd with
  | none =>
    have e : rdE l k (zi Q) rd = 21 := by simp [rdE, h.vl md, h1]
    have e2 : upE l k (zi Q) rd wr add (lk (nm5 j)) = 21 := by simp [upE, e]
    rw [e2]
    simp
  | some t =>
    obtain ⟨r1, r2⟩ := h.read md h1
    by_cases h3 : chgE last add (lk (nm5 j)) = 0
    case neg =>
      have e2 : upE l k (zi Q) rd wr add (lk (nm5 j)) = chgE last add (lk (nm5 j)) := by simp [upE, r1, r2, h3]
      rw [e2]
      simp [h3]
    obtain ⟨hL, hV⟩ := h.lst.chg hj h3
    have e2 : upE l k (zi Q) rd wr add (lk (nm5 j)) = wrE l k (zi Q) wr (chgR last add (lk (nm5 j))) := by simp [upE, r1, r2, h3]
    cases h2 : availE k (zi Q) wr with
    | none =>
      have e : wrE l k (zi Q) wr (chgR last add (lk (nm5 j))) = 21 := by simp [wrE, h.vl md, hL.ok, h2]
      rw [e2, e]
      simp
    | some t2 =>
      obtain ⟨q1, q2⟩ := h.write md h2 hL hV
      refine ⟨by rw [e2, q1]; simp [h3], fun hE => ?_⟩
      rw [upR, if_pos hE, r2]
      exact q2
end
end Go.Proofs.Ytebibhmjmaomnaa
namespace Go.Proofs.Ytebibhmjmaomnaa
open Go.RowKit Go.Proofs
theorem w_cut {P : Program} {F : Fr} {n : Nat} {x y : ACode} {S : St} {Q : AX → St → Prop} (Mid : St → Prop) (h1 : W P F n x S (fun e S' => e = .normal ∧ Mid S')) (h2 : ∀ S', Mid S' → W P F n y S' Q) : W P F n x S (sq P F n y Q) :=
  w_mono x (fun e S' ⟨he, hm⟩ => by subst he; exact h2 S' hm) h1
theorem Light_pc (l : List Int) : PC Try.prog 28 [.list 1 (iv l)] (fun r => r = .s (.bool (decide (l.length ≤ 400)))) := by
  refine pc_end c28 mixed rfl ?_
  by_cases h : (l.length : Int) ≤ 400
  · have h2 : l.length ≤ 400 := by omega
    simp -implicitDefEqProofs [a28, F28, h, h2]
  · have h2 : ¬ l.length ≤ 400 := by omega
    simp -implicitDefEqProofs [a28, F28, h, h2]
def tapeB (xs : List Int) (k : Nat) : List V := [.list 1 (iv xs), .s (.int .i64 k)]
def nx (xs : List Int) (k : Nat) (m : Int) : Int := if h : k < xs.length then xs[k] % m else 0
def nat1 (xs : List Int) (k : Nat) : Nat := if k < xs.length then k + 1 else k
theorem nx_bd (xs : List Int) (k : Nat) {m : Int} (h : 0 < m) : 0 ≤ nx xs k m ∧ nx xs k m < m := by
  unfold nx
  split
  · exact ⟨Int.emod_nonneg _ (by omega), Int.emod_lt_of_pos _ h⟩
  · exact ⟨Int.le_refl _, h⟩
theorem nat1_le {xs : List Int} {k : Nat} (h : k ≤ xs.length) : nat1 xs k ≤ xs.length ∧ k ≤ nat1 xs k := by unfold nat1; split <;> omega
theorem More_ac (xs : List Int) (k : Nat) : AC Try.prog 32 [.ptr 0 0] [tapeB xs k] (fun r bs => r = .s (.bool (decide (k < xs.length))) ∧ bs = [tapeB xs k]) := by
  refine ac_end c32 mixed rfl ?_
  simp -implicitDefEqProofs [a32, F32, tapeB]
  refine retA_of 1 ?_
  simp -implicitDefEqProofs [tapeB]
theorem Next_ac (xs : List Int) (k : Nat) (m : Int) (h1 : 1 ≤ m) (h2 : m ≤ 4611686018427387904) (hk : k ≤ 1000000) : AC Try.prog 33 [.ptr 0 0, .s (.int .i64 m)] [tapeB xs k] (fun r bs => r = .s (.int .i64 (nx xs k m)) ∧ bs = [tapeB xs (nat1 xs k)]) := by
  refine ac_end c33 mixed rfl ?_
  by_cases h : k < xs.length
  · have g1 : ¬ (k : Int) ≥ xs.length := by omega
    have w1 : IntKind.i64.wrap ((k : Int) + 1) = (k : Int) + 1 := wrap64 (by omega)
    have w2 : IntKind.i64.wrap ((k : Int) + 1 - 1) = (k : Int) := by rw [wrap64 (by omega)]; omega
    have w3 : IntKind.i64.wrap (k : Int) = (k : Int) := wrap64 (by omega)
    have k0 : ¬ (k : Int) < 0 := by omega
    simp -implicitDefEqProofs [a33, F33, tapeB, g1, w1, w2, w3, k0, iv_get h]
    refine wkd_take ?_
    simp -implicitDefEqProofs
    refine wcd_of (Mod_pc xs[k] m h1 h2) (by simp) (by simp) ?_
    simp -implicitDefEqProofs
    refine retA_of 1 ?_
    simp -implicitDefEqProofs [tapeB, nx, nat1, h]
  · have g1 : (k : Int) ≥ xs.length := by omega
    simp -implicitDefEqProofs [a33, F33, tapeB, g1]
    refine retA_of 1 ?_
    simp -implicitDefEqProofs [tapeB, nx, nat1, h]
theorem hand1 {bx : List (List V)} {B : List V} {q : Nat} (h : bx[q]? = some B) (hc : B.all cellB = true) : handOk bx [.ptr q 0] [] [q] [.ptr 0 0] [B] :=
  ⟨by simp [ren, renA, renL, fzs], rfl, rfl, rfl, by simp [(List.getElem?_eq_some_iff.1 h).1], by simp [h], by simpa using hc⟩
theorem hand2 {bx : List (List V)} {B : List V} {q : Nat} {v : Value} (h : bx[q]? = some B) (hc : B.all cellB = true) : handOk bx [.ptr q 0, .s v] [] [q] [.ptr 0 0, .s v] [B] :=
  ⟨by simp [ren, renA, renL, fzs], rfl, rfl, rfl, by simp [(List.getElem?_eq_some_iff.1 h).1], by simp [h], by simpa using hc⟩
theorem tapeB_ok (xs : List Int) (k : Nat) : (tapeB xs k).all cellB = true := rfl
structure Nz (zs : List V) (l : List Rp) : Prop where
  len : zs.length = l.length
  get : ∀ (i : Nat) (h : i < l.length), ∃ c, zs[i]? = some (.agg [.s (.int .i64 l[i].ver), c]) ∧ immC c = true ∧ nilL c (.list 4 (rl l[i].cat))
  asl : asRep (.list 2 zs) (.list 2 (pl l))
theorem Nz.of (l : List Rp) : Nz (pl l) l := ⟨by simp, fun i h => ⟨_, pl_get h, rfl, .inl rfl⟩, asRep.refl _⟩
def zA : V := .agg [.s (.int .i64 0), .s (.slice none 0 0)]
theorem flat_zA : ∀ k : Nat, nilLs (flat (List.replicate k zA)) (flat (pl (List.replicate k Rp.z))) ∧ ∀ u ∈ flat (pl (List.replicate k Rp.z)), immC u = true
  | 0 => ⟨by simp [flat, pl, nilLs], by simp [flat, pl]⟩
  | k + 1 => by
    obtain ⟨h1, h2⟩ := flat_zA k
    have e1 : flat (List.replicate (k + 1) zA) = .s (.int .i64 0) :: .s (.slice none 0 0) :: flat (List.replicate k zA) := rfl
    have e2 : flat (pl (List.replicate (k + 1) Rp.z)) = .s (.int .i64 0) :: .list 4 [] :: flat (pl (List.replicate k Rp.z)) := rfl
    rw [e1, e2]
    refine ⟨⟨.inl rfl, .inr ⟨rfl, 4, rfl⟩, h1⟩, fun u hu => ?_⟩
    rcases List.mem_cons.1 hu with rfl | hu
    · rfl
    rcases List.mem_cons.1 hu with rfl | hu
    · rfl
    · exact h2 u hu
theorem Nz.zero (k : Nat) : Nz (List.replicate k zA) (List.replicate k Rp.z) := by
  obtain ⟨h1, h2⟩ := flat_zA k
  refine ⟨by simp, fun i h => ?_, asRep_list (by simp) ?_ h1 h2⟩
  · have h' : i < k := by simpa using h
    refine ⟨.s (.slice none 0 0), by simp [h', zA, Rp.z], rfl, ?_⟩
    simp only [List.getElem_replicate]
    exact .inr ⟨rfl, 4, rfl⟩
  · intro y hy
    simp only [pl, List.map_replicate, List.mem_replicate] at hy
    rw [hy.2]; rfl
end Go.Proofs.Ytebibhmjmaomnaa
namespace Go.Proofs.Ytebibhmjmaomnaa
open Go.RowKit Go.Proofs
structure Cq (c : V) (q : List Int) : Prop where
  seen : ∀ l e, seenL l e c = .list 1 (iv q)
  know : known c = true
  lent : isLent c = false
theorem Cq.list (q : List Int) : Cq (.list 1 (iv q)) q := ⟨fun _ _ => rfl, rfl, rfl⟩
theorem Cq.own (q : List Int) : Cq (.own false 3 1 (iv q)) q := ⟨fun _ _ => rfl, rfl, rfl⟩
end Go.Proofs.Ytebibhmjmaomnaa
namespace Go.Proofs.Ytebibhmjmaomnaa
open Go.RowKit Go.Proofs
def MidR (l : List Int) (n : Nat) (S : St) : Prop := ∃ (k : Nat) (Q : List Nat) (tm : Nat → V) (v3 v4 v5 v6 : V), Md k Q ∧ k ≤ 7 ∧ tm 5 = .ptr 0 0 ∧
  S = ⟨tm, [.list 1 (iv l), .s (.int .u8 n), .s (.bool false), v3, v4, v5, v6, .no, .no, .no, .no, .no, .no, .no, .no, .no, .no, .no, .no, .no, .no, .no, .no, .no, .no, .no], [[.s (.int .i64 k), .list 1 (iv (zi Q))]], 0⟩
def V7 (zs : List V) (z : V) : Prop := z = .list 2 zs ∨ z = .own false 32 2 zs
theorem mv7 {S : St} {d i : Nat} {zs : List V} {z : V} (hz : V7 zs z) (h : S.vs[i]? = some z) : mvD S d (.v i) = some (.list 2 zs, S.tm) := by
  rcases hz with rfl | rfl <;> simp [mvD, mvV, h]
def RdI (l : List Int) (n k : Nat) (Q : List Nat) (m : Nat) (S : St) : Prop := ∃ (p : Nat) (lst : List Rp) (last : Rp) (zs : List V) (z7 c : V), p + m = l.length ∧ Inv k Q lst last ∧ Nz zs lst ∧ V7 zs z7 ∧ nilL c (.list 4 (rl last.cat)) ∧
  S = ⟨tmL [(5, .ptr 0 0), (8, .ptr 1 0)], [.list 1 (iv l), .s (.int .u8 n), .s (.bool false), .no, .no, .no, .no, z7, .ptr 2 0, .no, .no, .no, .no, .no, .no, .no, .no, .no, .no, .no, .no, .no, .no, .no, .no, .no], [[.s (.int .i64 k), .list 1 (iv (zi Q))], [.s (.int .i64 last.ver), c], tapeB l p], 0⟩
def MidW (l : List Int) (n k : Nat) (Q : List Nat) (z7 : V) (L : List V) (add : Bool) (j p : Nat) (S : St) : Prop := ∃ (tm : Nat → V) (rd wr : Int) (q e : Nat), tm 5 = .ptr 0 0 ∧ tm 8 = .ptr 1 0 ∧ (∀ t, 102 ≤ t → tm t = .no) ∧ p < q ∧ q ≤ l.length ∧
  S = ⟨tm, [.list 1 (iv l), .s (.int .u8 n), .s (.bool false), .no, .no, .no, .no, z7, .ptr 2 0, .s (.int .i64 rd), .s (.int .i64 wr), .s (.bool add), .s (.string (nm5 j)), .no, .no, .no, .no, .no, .no, .no, .no, .no, .no, .no, .no, .no], [[.s (.int .i64 k), .list 1 (iv (zi Q))], L, tapeB l q], e⟩
def MidC (B : Nat) (vs : List V) (bx : List (List V)) (S : St) : Prop := ∃ (tm : Nat → V) (e : Nat), tm 5 = .ptr 0 0 ∧ tm 8 = .ptr 1 0 ∧ tm 18 = .ptr 3 0 ∧ (∀ t, B ≤ t → tm t = .no) ∧ S = ⟨tm, vs, bx, e⟩
def MidU (l : List Int) (n k : Nat) (Q : List Nat) (rd wr : Int) (q : Nat) (S : St) : Prop := ∃ (tm : Nat → V) (e : Nat) (lst : List Rp) (last : Rp) (zs : List V) (z7 c v11 v12 v13 v14 v15 v16 v17 v18 v19 : V) (B : List V), tm 5 = .ptr 0 0 ∧ tm 8 = .ptr 1 0 ∧ Inv k Q lst last ∧ Nz zs lst ∧ V7 zs z7 ∧ nilL c (.list 4 (rl last.cat)) ∧
  S = ⟨tm, [.list 1 (iv l), .s (.int .u8 n), .s (.bool false), .no, .no, .no, .no, z7, .ptr 2 0, .s (.int .i64 rd), .s (.int .i64 wr), v11, v12, v13, v14, v15, v16, v17, v18, v19, .no, .no, .no, .no, .no, .no], [[.s (.int .i64 k), .list 1 (iv (zi Q))], [.s (.int .i64 last.ver), c], tapeB l q, B], e⟩
def MidT (ts : List (Nat × V)) (vs : List V) (bx : List (List V)) (S : St) : Prop := ∃ (tm : Nat → V) (e : Nat), (∀ x ∈ ts, tm x.1 = x.2) ∧ S = ⟨tm, vs, bx, e⟩
def UpI (l : List Int) (n k : Nat) (Q : List Nat) (u1 rd wr : Int) (q : Nat) (z7 : V) (L : List V) (m : Nat) (S : St) : Prop := ∃ i : Nat, i + m = 3 ∧
  S = ⟨tmL [(5, .ptr 0 0), (8, .ptr 1 0), (154, .list 1 [.s (.int .i64 u1), .s (.int .i64 rd), .s (.int .i64 wr)]), (155, .s (.int .i64 3)), (156, .s (.int .i64 i))], [.list 1 (iv l), .s (.int .u8 n), .s (.bool false), .no, .no, .no, .no, z7, .ptr 2 0, .s (.int .i64 rd), .s (.int .i64 wr), .no, .no, .no, .no, .no, .no, .no, .no, .no, .no, .no, .no, .no, .no, .no], [[.s (.int .i64 k), .list 1 (iv (zi Q))], L, tapeB l q], 0⟩
def EqO (l : List Int) (n k : Nat) (Q : List Nat) (q : Nat) (zs : List V) (z7 : V) (L : List V) (m : Nat) (S : St) : Prop := ∃ i : Nat, i + m = k ∧
  S = ⟨tmL [(5, .ptr 0 0), (8, .ptr 1 0), (184, .list 2 zs), (185, .s (.int .i64 k)), (186, .s (.int .i64 i))], [.list 1 (iv l), .s (.int .u8 n), .s (.bool false), .no, .no, .no, .no, z7, .ptr 2 0, .no, .no, .no, .no, .no, .no, .no, .no, .no, .no, .no, .no, .no, .no, .no, .no, .no], [[.s (.int .i64 k), .list 1 (iv (zi Q))], L, tapeB l q], 0⟩
def EqJ (l : List Int) (n k : Nat) (Q : List Nat) (q : Nat) (zs : List V) (z7 : V) (L : List V) (i : Nat) (m : Nat) (S : St) : Prop := ∃ j : Nat, j + m = k ∧
  S = ⟨tmL [(5, .ptr 0 0), (8, .ptr 1 0), (184, .list 2 zs), (185, .s (.int .i64 k)), (186, .s (.int .i64 i)), (189, .list 2 zs), (190, .s (.int .i64 k)), (191, .s (.int .i64 j))], [.list 1 (iv l), .s (.int .u8 n), .s (.bool false), .no, .no, .no, .no, z7, .ptr 2 0, .no, .no, .no, .no, .no, .no, .no, .no, .no, .no, .no, .no, .no, .no, .no, .s (.int .i64 i), .no], [[.s (.int .i64 k), .list 1 (iv (zi Q))], L, tapeB l q], 0⟩
theorem cV7 {n : Nat} {zs : List V} {z : V} (h : V7 zs z) : cellV n z = true := by rcases h with rfl | rfl <;> rfl
theorem cKc {n : Nat} {c : V} {l : List Rs} (h : nilL c (.list 4 (rl l))) : cellK n c = true := by rcases h with rfl | ⟨rfl, _⟩ <;> rfl
theorem cKt {n : Nat} (l : List Int) (q : Nat) : ∀ x ∈ tapeB l q, cellK n x = true := by
  intro x hx
  simp [tapeB] at hx
  rcases hx with rfl | rfl <;> rfl
theorem w_cut0 {P : Program} {F : Fr} {n : Nat} {x : ACode} {S : St} {Q : AX → St → Prop} (Mid : St → Prop) (h1 : W P F n x S (fun e S' => e = .normal ∧ Mid S')) (h2 : ∀ S', Mid S' → Q .normal S') : W P F n x S Q :=
  w_mono x (fun e S' ⟨he, hm⟩ => by subst he; exact h2 S' hm) h1
theorem binS_andNot (k : IntKind) (a b : Int) : binS .andNot (.int k a) (.int k b) = some (.int k (bits .andNot k a b)) := by simp only [binS, if_true]; rfl
theorem rpOk_sm {r : Rp} (h : rpOk r = true) : r.sm := by
  unfold rpOk at h
  simp only [Bool.and_eq_true] at h
  have := catOk_len h.2
  unfold Rp.sm
  omega
theorem shlM {k : Nat} (hk : k ≤ 9) : IntKind.i64.wrap ((2 : Int) ^ min k IntKind.i64.bits) = ((2 ^ k : Nat) : Int) ∧ (1 : Int) ≤ ((2 ^ k : Nat) : Int) ∧ ((2 ^ k : Nat) : Int) ≤ 512 := by
  have h1 := shl1 (n := k) (by omega)
  have h2 : 2 ^ k ≤ 2 ^ 9 := Nat.pow_le_pow_right (by omega) hk
  have h3 : 0 < 2 ^ k := Nat.two_pow_pos k
  exact ⟨h1, by omega, by omega⟩
set_option maxHeartbeats 64000000 in
set_option maxRecDepth 10000 in
theorem DirectoryReads_pc (l : List Int) (n : Nat) (hn : n < 256) : PC Try.prog 4 [.list 1 (iv l), .s (.int .u8 n)] (fun r => r = .s (.bool true)) := by
  have cL := Light_pc l
  have cAw := awake_pc
  have cM3 : PC Try.prog 29 [.s (.int .i64 3)] (fun r => r = .tup [cP 3 (zi (major 3)), .s (.int .i64 0)]) := rMaj_pc (n := 3) (by omega) (by omega)
  have cM4 : PC Try.prog 29 [.s (.int .i64 4)] (fun r => r = .tup [cP 4 (zi (major 4)), .s (.int .i64 0)]) := rMaj_pc (n := 4) (by omega) (by omega)
  have cG : PC Try.prog 30 [.s (.int .i64 2), .s (.int .i64 2)] (fun q => q = .tup [cP 4 (zi (reduce (2 * 2) (grid 2 2))), .s (.int .i64 0)]) := rGr_pc (r := 2) (c := 2) (by omega) (by omega)
  have cT : PC Try.prog 31 [.s (.int .i64 3)] (fun q => q = .tup [cP 7 (zi (tQ 3)), .s (.int .i64 0)]) := rTr_pc (k := 3) (.inr (.inr rfl))
  have md3 := major_md (n := 3) (by omega) (by omega)
  have md4 := major_md (n := 4) (by omega) (by omega)
  have mdG : Md 4 (reduce (2 * 2) (grid 2 2)) := gr_md (r := 2) (c := 2) (by omega) (by omega)
  have mdT : Md 7 (tQ 3) := tr_md (k := 3) (.inr (.inr rfl))
  generalize major 3 = M3 at *
  generalize major 4 = M4 at *
  generalize reduce (2 * 2) (grid 2 2) = G2 at *
  generalize tQ 3 = T3 at *
  refine pc_end c4b mixed rfl ?_
  simp -implicitDefEqProofs [a4b, F4]
  refine wk_take ?_
  simp -implicitDefEqProofs
  refine wc_of cL (by simp) (by simp) ?_
  rintro _ rfl
  by_cases hl : l.length ≤ 400
  case neg =>
    simp -implicitDefEqProofs [hl]
    refine wk_take ?_
    simp -implicitDefEqProofs
    refine wc_of cAw (by simp) (by simp) ?_
    rintro _ rfl
    simp -implicitDefEqProofs
  simp -implicitDefEqProofs [hl]
  refine wk_take ?_
  simp -implicitDefEqProofs
  refine wc_of cM3 (by simp) (by simp) ?_
  rintro _ rfl
  simp -implicitDefEqProofs [cP]
  refine w_cut (MidR l n) ?_ ?_
  · have hr : (n : Int).tmod 4 = ((n % 4 : Nat) : Int) := by rw [Int.tmod_eq_emod_of_nonneg (by omega)]; omega
    have hcase : n % 4 = 0 ∨ n % 4 = 1 ∨ n % 4 = 2 ∨ n % 4 = 3 := by omega
    rcases hcase with h | h | h | h
    · rw [h] at hr
      simp -implicitDefEqProofs [a4sw, hr]
      refine ⟨3, M3, _, _, _, _, _, md3, by omega, ?_, rfl⟩
      simp
    · rw [h] at hr
      simp -implicitDefEqProofs [a4sw, hr]
      refine wk_take ?_
      simp -implicitDefEqProofs
      refine wc_of cG (by simp) (by simp) ?_
      rintro _ rfl
      simp -implicitDefEqProofs [cP]
      refine ⟨4, G2, _, _, _, _, _, mdG, by omega, ?_, rfl⟩
      simp
    · rw [h] at hr
      simp -implicitDefEqProofs [a4sw, hr]
      refine wk_take ?_
      simp -implicitDefEqProofs
      refine wc_of cT (by simp) (by simp) ?_
      rintro _ rfl
      simp -implicitDefEqProofs [cP]
      refine ⟨7, T3, _, _, _, _, _, mdT, by omega, ?_, rfl⟩
      simp
    · rw [h] at hr
      simp -implicitDefEqProofs [a4sw, hr]
      refine wk_take ?_
      simp -implicitDefEqProofs
      refine wc_of cM4 (by simp) (by simp) ?_
      rintro _ rfl
      simp -implicitDefEqProofs [cP]
      refine ⟨4, M4, _, _, _, _, _, md4, by omega, ?_, rfl⟩
      simp
  rintro S ⟨k, Q, tm, v3, v4, v5, v6, md, hk, htm, rfl⟩
  clear cM3 cM4 cG cT md3 md4 mdG mdT cL
  have bk : k ≤ maxLen ∧ k * 32 ≤ maxBytes ∧ k * 32 ≤ 140737488355328 := by simp [maxLen, maxBytes]; omega
  simp -implicitDefEqProofs [htm, bk]
  refine w_rounds [5, 8] [3, 4, 5, 6, 9, 10, 11, 12, 13, 14, 15, 16, 17, 18, 19, 20, 21, 22, 23, 24, 25] 3 (by simp) (RdI l n k Q) l.length ⟨by simp [htm], 0, List.replicate k Rp.z, Rp.z, List.replicate k zA, .own false 32 2 (List.replicate k zA), .s (.slice none 0 0), by omega, Inv.start md, Nz.zero k, .inr rfl, .inr ⟨rfl, 4, rfl⟩, by simp [htm, zA, Rp.z, tapeB]⟩ ?_
  clear htm tm
  rintro m S ⟨p, lst, last, zs, z7, c, hpm, hI, hZ, h7, hcn, rfl⟩
  simp -implicitDefEqProofs
  refine wk_hand ?_
  simp -implicitDefEqProofs
  refine wa_of (More_ac l p) (hand1 (q := 2) rfl (tapeB_ok _ _)) ?_
  rintro _ _ ⟨rfl, rfl⟩
  refine ⟨rfl, ?_⟩
  by_cases hp : p < l.length
  case neg =>
    simp -implicitDefEqProofs [hp]
    refine wk_take ?_
    simp -implicitDefEqProofs
    refine wc_of cAw (by simp) (by simp) ?_
    rintro _ rfl
    simp -implicitDefEqProofs
  have hk0 : ¬ (k : Int) < 0 := by omega
  obtain ⟨hM, hM1, hM2⟩ := shlM (k := k) (by omega)
  have k1 : nat1 l p = p + 1 := by simp [nat1, hp]
  have q1 := nat1_le (xs := l) (k := p) (by omega)
  have q2 := nat1_le (xs := l) (k := nat1 l p) q1.1
  have q3 := nat1_le (xs := l) (k := nat1 l (nat1 l p)) q2.1
  have q4 := nat1_le (xs := l) (k := nat1 l (nat1 l (nat1 l p))) q3.1
  have q5 := nat1_le (xs := l) (k := nat1 l (nat1 l (nat1 l (nat1 l p)))) q4.1
  have q6 := nat1_le (xs := l) (k := nat1 l (nat1 l (nat1 l (nat1 l (nat1 l p))))) q5.1
  have hb := nx_bd l (nat1 l (nat1 l (nat1 l p))) (m := 4) (by omega)
  obtain ⟨j, hj⟩ : ∃ j : Nat, nx l (nat1 l (nat1 l (nat1 l p))) 4 = j := ⟨_, (Int.toNat_of_nonneg hb.1).symm⟩
  rw [hj] at hb
  have hj4 : j < 4 := by omega
  have hj0 : ¬ (j : Int) < 0 := by omega
  have hget : ([.s (.string (ByteArray.mk #[97])), .s (.string (ByteArray.mk #[98])), .s (.string (ByteArray.mk #[99])), .s (.string (ByteArray.mk #[100]))] : List V)[j]? = some (.s (.string (nm5 j))) := by
    have : j = 0 ∨ j = 1 ∨ j = 2 ∨ j = 3 := by omega
    rcases this with rfl | rfl | rfl | rfl <;> rfl
  generalize hMe : ((2 ^ k : Nat) : Int) = M at hM hM1 hM2
  have wM : IntKind.i64.wrap (M - 1) = M - 1 := wrap64 (by omega)
  simp -implicitDefEqProofs [hp]
  refine wnm_perm [0, 1, 2, 3, 5, 6, 7, 8, 10, 13, 14, 4, 9, 11, 12, 15, 16, 17, 18, 19, 20, 21] ⟨[5], [4, 5, 7, 8, 9, 10, 14, 16, 17], [11, 12, 13, 15], [(11, 5, 6)]⟩ (by kernel_rfl) (by kernel_rfl) ?_
  simp -implicitDefEqProofs [permL, hk0, hM]
  refine wkd_hand ?_
  simp -implicitDefEqProofs
  refine wad_of (Next_ac l p M hM1 (by omega) (by omega)) (hand2 (q := 2) rfl (tapeB_ok _ _)) (by rfl) ?_
  simp -implicitDefEqProofs
  refine wkd_hand ?_
  simp -implicitDefEqProofs
  refine wad_of (Next_ac l (nat1 l p) M hM1 (by omega) (by omega)) (hand2 (q := 2) rfl (tapeB_ok _ _)) (by rfl) ?_
  simp -implicitDefEqProofs
  refine wkd_hand ?_
  simp -implicitDefEqProofs
  refine wad_of (Next_ac l (nat1 l (nat1 l p)) 3 (by omega) (by omega) (by omega)) (hand2 (q := 2) rfl (tapeB_ok _ _)) (by rfl) ?_
  simp -implicitDefEqProofs
  refine wkd_hand ?_
  simp -implicitDefEqProofs
  refine wad_of (Next_ac l (nat1 l (nat1 l (nat1 l p))) 4 (by omega) (by omega) (by omega)) (hand2 (q := 2) rfl (tapeB_ok _ _)) (by rfl) ?_
  rw [hj]
  simp -implicitDefEqProofs [hj0, hget]
  generalize decide (0 < nx l (nat1 l (nat1 l p)) 3) = add
  refine w_cut (MidW l n k Q z7 [.s (.int .i64 last.ver), c] add j p) ?_ ?_
  · simp -implicitDefEqProofs [a4md]
    refine wk_hand ?_
    simp -implicitDefEqProofs
    refine wa_of (Next_ac l (nat1 l (nat1 l (nat1 l (nat1 l p)))) 2 (by omega) (by omega) (by omega)) (hand2 (q := 2) rfl (tapeB_ok _ _)) ?_
    rintro _ _ ⟨rfl, rfl⟩
    refine ⟨rfl, ?_⟩
    cases hx : (nx l (nat1 l (nat1 l (nat1 l (nat1 l p)))) 2 == 0)
    · simp -implicitDefEqProofs [hx]
      refine ⟨_, _, _, _, _, ?_, ?_, fun t ht => by (try simp only [tmL, upd]); (repeat rw [if_neg (by omega)]); (first | done | rfl | exact tmn t (by omega)), ?_, ?_, rfl⟩
      · simp
      · simp
      · omega
      · omega
    · have hb5 := nx_bd l (nat1 l (nat1 l (nat1 l (nat1 l (nat1 l p))))) (m := k) (by have := md.k1.1; omega)
      obtain ⟨e5, he5⟩ : ∃ e5 : Nat, nx l (nat1 l (nat1 l (nat1 l (nat1 l (nat1 l p))))) k = e5 := ⟨_, (Int.toNat_of_nonneg hb5.1).symm⟩
      have he0 : ¬ (e5 : Int) < 0 := by omega
      simp -implicitDefEqProofs [hx, hk0, hM, wM]
      refine wkd_hand ?_
      simp -implicitDefEqProofs
      refine wad_of (Next_ac l (nat1 l (nat1 l (nat1 l (nat1 l (nat1 l p))))) k (by have := md.k1.1; omega) (by omega) (by omega)) (hand2 (q := 2) rfl (tapeB_ok _ _)) (by rfl) ?_
      rw [he5]
      simp -implicitDefEqProofs [he0, ↓binS_andNot]
      refine ⟨_, _, _, _, _, ?_, ?_, fun t ht => by (try simp only [tmL, upd]); (repeat rw [if_neg (by omega)]); (first | done | rfl | exact tmn t (by omega)), ?_, ?_, rfl⟩
      · simp
      · simp
      · omega
      · omega
  rintro S ⟨tm, rd, wr, q, e, ht5, ht8, tmn, hpq, hql, rfl⟩
  clear hj hb hj0 hget q1 q2 q3 q4 q5 q6 k1
  have hlen : lst.length ≤ 1000000 := by have := hI.len; omega
  have hq : (zi Q).length ≤ 1000 := by have := md.l64; rw [zi_length]; omega
  have hsm : ∀ x ∈ lst, x.sm := fun x hx => rpOk_sm (hI.ok x hx)
  have cAv := fun up => rAvail_pc k (zi Q) up hq
  have cK := lock_pc (nm5 j)
  have cCh := rChange_pc last add (lk (nm5 j)) (rpOk_sm hI.lst.ok)
  have cU : PC Try.prog 25 [.list 2 zs, cP k (zi Q), .s (.int .i64 rd), .s (.int .i64 wr), .s (.bool add), (lk (nm5 j)).v] _ := pc_as (Update_pc lst k (zi Q) rd wr add (lk (nm5 j)) hlen hsm hq) ⟨hZ.asl, asRep.refl _, asRep.refl _, asRep.refl _, asRep.refl _, asRep.refl _, trivial⟩ (by simp [immA, immC, cP, Rs.v])
  obtain ⟨u1, u2⟩ := hI.update md rd wr add hj4
  simp -implicitDefEqProofs [ht5, tmn]
  refine wk_take ?_
  simp -implicitDefEqProofs
  refine wc_of (cAv rd) (by simp [cP]) (by simp [cP]) ?_
  rintro _ rfl
  simp -implicitDefEqProofs [avR, ht5, tmn]
  refine wk_take ?_
  simp -implicitDefEqProofs
  refine wc_of (cAv wr) (by simp [cP]) (by simp [cP]) ?_
  rintro _ rfl
  simp -implicitDefEqProofs [avR]
  generalize availE k (zi Q) rd = o1 at u1 ⊢
  generalize availE k (zi Q) wr = o2 at u1 ⊢
  generalize chgE last add (lk (nm5 j)) = e2 at u1 cCh ⊢
  generalize chgR last add (lk (nm5 j)) = W2 at u2 cCh ⊢
  refine w_cut (MidC 122 [.list 1 (iv l), .s (.int .u8 n), .s (.bool false), .no, .no, .no, .no, z7, .ptr 2 0, .s (.int .i64 rd), .s (.int .i64 wr), .s (.bool add), .s (.string (nm5 j)), .s (.int .i64 (o1.getD 0)), .s (.bool o1.isSome), .s (.int .i64 (o2.getD 0)), .s (.bool o2.isSome), .s (.int .i64 e2), .no, .no, .no, .no, .no, .no, .no, .no] [[.s (.int .i64 k), .list 1 (iv (zi Q))], [.s (.int .i64 last.ver), c], tapeB l q, [.s (.int .i64 W2.ver), .list 4 (rl W2.cat)]]) ?_ ?_
  · rcases hcn with rfl | ⟨rfl, z0, hz0⟩
    · simp -implicitDefEqProofs [a4cg, ht5, ht8, tmn]
      refine wkd_take ?_
      simp -implicitDefEqProofs
      refine wcd_of cK (by simp) (by simp) ?_
      simp -implicitDefEqProofs [Rs.v]
      refine wkd_take ?_
      simp -implicitDefEqProofs
      refine wcd_of cCh (by simp [Rp.v, Rs.v]) (by simp [Rp.v, Rs.v]) ?_
      simp -implicitDefEqProofs [Rp.v]
      refine ⟨_, _, ?_, ?_, ?_, fun t ht => by (try simp only [tmL, upd]); (repeat rw [if_neg (by omega)]); (first | done | rfl | exact tmn t (by omega)), rfl⟩ <;> simp [ht5, ht8]
    · have hcz : rl last.cat = [] := by injection hz0
      simp -implicitDefEqProofs [a4cg, ht5, ht8, tmn]
      refine wkd_take ?_
      simp -implicitDefEqProofs
      refine wcd_of cK (by simp) (by simp) ?_
      simp -implicitDefEqProofs [Rs.v]
      refine wkd_take ?_
      simp -implicitDefEqProofs
      refine wcd_nil cCh ?_ ?_ ?_ ?_
      · simp [Rp.v, Rs.v, nilAs, nilA, nilLs, nilL, hcz]
      · simp [Rp.v, Rs.v, immA, immC]
      · simp [immA, immC]
      simp -implicitDefEqProofs [Rp.v]
      refine ⟨_, _, ?_, ?_, ?_, fun t ht => by (try simp only [tmL, upd]); (repeat rw [if_neg (by omega)]); (first | done | rfl | exact tmn t (by omega)), rfl⟩ <;> simp [ht5, ht8]
  clear ht5 ht8 tmn
  rintro S ⟨tm, e, ht5, ht8, ht18, tmn, rfl⟩
  simp -implicitDefEqProofs [↓mv7 h7, ht5, tmn]
  refine wkd_take ?_
  simp -implicitDefEqProofs
  refine wcd_of cK (by simp) (by simp) ?_
  simp -implicitDefEqProofs [Rs.v]
  refine wkd_take ?_
  simp -implicitDefEqProofs
  refine wcd_of cU (by simp [cP, Rs.v]) (by simp [cP, Rs.v]) ?_
  simp -implicitDefEqProofs
  generalize upE lst k (zi Q) rd wr add (lk (nm5 j)) = f at u1 u2 ⊢
  generalize upR lst k (zi Q) rd wr add (lk (nm5 j)) = X at u2 ⊢
  refine w_cut (MidC 144 [.list 1 (iv l), .s (.int .u8 n), .s (.bool false), .no, .no, .no, .no, z7, .ptr 2 0, .s (.int .i64 rd), .s (.int .i64 wr), .s (.bool add), .s (.string (nm5 j)), .s (.int .i64 (o1.getD 0)), .s (.bool o1.isSome), .s (.int .i64 (o2.getD 0)), .s (.bool o2.isSome), .s (.int .i64 e2), .list 2 (pl X), .s (.int .i64 f), .no, .no, .no, .no, .no, .no] [[.s (.int .i64 k), .list 1 (iv (zi Q))], [.s (.int .i64 last.ver), c], tapeB l q, [.s (.int .i64 W2.ver), .list 4 (rl W2.cat)]]) ?_ ?_
  · by_cases hf : f = 0
    · obtain ⟨h1, h2, h3⟩ := u1.1 hf
      simp -implicitDefEqProofs [a4ck, hf, h1, h2, h3]
      refine ⟨_, _, ?_, ?_, ?_, fun t ht => by (try simp only [tmL, upd]); (repeat rw [if_neg (by omega)]); (first | done | rfl | exact tmn t (by omega)), rfl⟩ <;> simp [ht5, ht8, ht18]
    · have hf' : (f == 0) = false := by simpa using hf
      cases h1 : o1.isSome
      · simp -implicitDefEqProofs [a4ck, hf', h1]
        refine ⟨_, _, ?_, ?_, ?_, fun t ht => by (try simp only [tmL, upd]); (repeat rw [if_neg (by omega)]); (first | done | rfl | exact tmn t (by omega)), rfl⟩ <;> simp [ht5, ht8, ht18]
      · cases h2 : o2.isSome
        · simp -implicitDefEqProofs [a4ck, hf', h1, h2]
          refine ⟨_, _, ?_, ?_, ?_, fun t ht => by (try simp only [tmL, upd]); (repeat rw [if_neg (by omega)]); (first | done | rfl | exact tmn t (by omega)), rfl⟩ <;> simp [ht5, ht8, ht18]
        · cases h3 : (e2 == 0)
          · simp -implicitDefEqProofs [a4ck, hf', h1, h2, h3]
            refine ⟨_, _, ?_, ?_, ?_, fun t ht => by (try simp only [tmL, upd]); (repeat rw [if_neg (by omega)]); (first | done | rfl | exact tmn t (by omega)), rfl⟩ <;> simp [ht5, ht8, ht18]
          · exact absurd (u1.2 ⟨h1, h2, by simpa using h3⟩) hf
  clear ht5 ht8 ht18 tmn
  rintro S ⟨tm, e, ht5, ht8, ht18, tmn, rfl⟩
  simp -implicitDefEqProofs
  refine w_cut (MidU l n k Q rd wr q) ?_ ?_
  · cases hf : (f == 0)
    · simp -implicitDefEqProofs [a4up, hf]
      refine ⟨_, _, lst, last, zs, z7, c, _, _, _, _, _, _, _, _, _, _, ?_, ?_, hI, hZ, h7, hcn, rfl⟩ <;> simp [ht5, ht8]
    · have hf0 : f = 0 := by simpa using hf
      simp -implicitDefEqProofs [a4up, hf, ht5, ht8, ht18, tmn]
      refine ⟨_, _, X, W2, pl X, .list 2 (pl X), .list 4 (rl W2.cat), _, _, _, _, _, _, _, _, _, _, ?_, ?_, u2 hf0, Nz.of X, .inl rfl, .inl rfl, rfl⟩ <;> simp [ht5, ht8]
  clear u1 u2 cU cCh cK hI hZ h7 hcn hlen hsm ht5 ht8 ht18 tmn
  rintro S ⟨tm, e, lst, last, zs, z7, c, v11, v12, v13, v14, v15, v16, v17, v18, v19, B, ht5, ht8, hI, hZ, h7, hcn, rfl⟩
  have hlen : lst.length ≤ 1000000 := by have := hI.len; omega
  have hsm : ∀ x ∈ lst, x.sm := fun x hx => rpOk_sm (hI.ok x hx)
  have hzl : zs.length = k := by rw [hZ.len, hI.len]
  have w1 : cellV 3 z7 = true := cV7 h7
  have w2 : cellK 3 c = true := cKc hcn
  have w3 : ∀ x ∈ tapeB l q, cellK 3 x = true := cKt l q
  simp -implicitDefEqProofs [ht5, hk0, hM, wM]
  generalize M - 1 = u1
  refine w_rounds [5, 8, 154, 155, 156] [11, 12, 13, 14, 15, 16, 17, 18, 19, 20, 21, 22, 23] 3 (by simp) (UpI l n k Q u1 rd wr q z7 [.s (.int .i64 last.ver), c]) 3 ⟨by simp [ht5, ht8, w1, w2, tapeB], 0, by simp, by simp [tapeB, ht5, ht8]⟩ ?_
  clear ht5 ht8
  rintro m' S ⟨i, hi, rfl⟩
  by_cases hi3 : i < 3
  case pos =>
    have hi1 : (i : Int) < 3 := by omega
    have hi0 : ¬ (i : Int) < 0 := by omega
    have hw : IntKind.i64.wrap ((i : Int) + 1) = (i : Int) + 1 := wrap64 (by omega)
    obtain ⟨u, hu⟩ : ∃ u : Int, ([.s (.int .i64 u1), .s (.int .i64 rd), .s (.int .i64 wr)] : List V)[i]? = some (.s (.int .i64 u)) := by
      have : i = 0 ∨ i = 1 ∨ i = 2 := by omega
      rcases this with rfl | rfl | rfl
      · exact ⟨_, rfl⟩
      · exact ⟨_, rfl⟩
      · exact ⟨_, rfl⟩
    simp -implicitDefEqProofs [hi1, hi0, hu]
    refine wk_take ?_
    simp -implicitDefEqProofs
    refine wc_of (cAv u) (by simp [cP]) (by simp [cP]) ?_
    rintro _ rfl
    cases ho : availE k (zi Q) u
    · simp -implicitDefEqProofs [avR, hw, w1, w2, tapeB]
      exact ⟨m' - 1, by omega, i + 1, by omega, by simp [tapeB]⟩
    · next t =>
      obtain ⟨g1, g2⟩ := hI.read md ho
      have cR : PC Try.prog 21 [.list 2 zs, cP k (zi Q), .s (.int .i64 u)] _ := pc_as (Read_pc lst k (zi Q) u hlen hsm hq) ⟨hZ.asl, asRep.refl _, asRep.refl _, trivial⟩ (by simp [immA, immC, cP])
      rw [g1, g2] at cR
      have cS := rSame_pc last last (rpOk_sm hI.lst.ok)
      rw [show decide (last = last) = true by simp] at cS
      simp -implicitDefEqProofs [avR, ↓mv7 h7]
      refine wk_take ?_
      simp -implicitDefEqProofs
      refine wc_of cR (by simp [cP]) (by simp [cP]) ?_
      rintro _ rfl
      simp -implicitDefEqProofs [Rp.v]
      refine w_cut0 (MidT [(5, .ptr 0 0), (8, .ptr 1 0), (154, .list 1 [.s (.int .i64 u1), .s (.int .i64 rd), .s (.int .i64 wr)]), (155, .s (.int .i64 3)), (156, .s (.int .i64 i))] [.list 1 (iv l), .s (.int .u8 n), .s (.bool false), .no, .no, .no, .no, z7, .ptr 2 0, .s (.int .i64 rd), .s (.int .i64 wr), .no, .no, .no, .no, .no, .no, .no, .no, .no, .s (.int .i64 u), .s (.int .i64 t), .s (.bool true), .s (.int .i64 0), .no, .no] [[.s (.int .i64 k), .list 1 (iv (zi Q))], [.s (.int .i64 last.ver), c], tapeB l q, [.s (.int .i64 last.ver), .list 4 (rl last.cat)]]) ?_ ?_
      · rcases hcn with rfl | ⟨rfl, z0, hz0⟩
        · simp -implicitDefEqProofs [a4sm]
          refine wk_take ?_
          simp -implicitDefEqProofs
          refine wc_of cS (by simp [Rp.v]) (by simp [Rp.v]) ?_
          rintro _ rfl
          simp -implicitDefEqProofs
          exact ⟨_, _, by simp, rfl⟩
        · have hcz : rl last.cat = [] := by injection hz0
          simp -implicitDefEqProofs [a4sm]
          refine wk_take ?_
          simp -implicitDefEqProofs
          refine wc_nil cS ?_ ?_ ?_ ?_
          · simp [Rp.v, nilAs, nilA, nilLs, nilL, hcz]
          · simp [Rp.v, immA, immC]
          · simp [immA, immC]
          rintro _ rfl
          simp -implicitDefEqProofs
          exact ⟨_, _, by simp, rfl⟩
      rintro S ⟨tm, e, hts, rfl⟩
      simp only [List.forall_mem_cons, List.not_mem_nil, false_implies, implies_true, and_true] at hts
      obtain ⟨s1, s2, s3, s4, s5⟩ := hts
      simp -implicitDefEqProofs [w1, w2, tapeB, hw, s1, s2, s3, s4, s5]
      exact ⟨m' - 1, by omega, i + 1, by omega, by simp [tapeB, s1, s2, s3, s4, s5]⟩
  have hi1 : ¬ (i : Int) < 3 := by omega
  simp -implicitDefEqProofs [hi1, ↓mv7 h7, hzl]
  refine w_rounds [5, 8, 184, 185, 186] [9, 10, 24, 25] 3 (by simp) (EqO l n k Q q zs z7 [.s (.int .i64 last.ver), c]) k ⟨by simp [w1, w2, tapeB], 0, by simp, by simp [tapeB]⟩ ?_
  rintro m2 S ⟨i2, hi2, rfl⟩
  by_cases hik : i2 < k
  case neg =>
    have g1 : ¬ (i2 : Int) < (k : Int) := by omega
    simp -implicitDefEqProofs [g1, w1, w2, tapeB]
    exact ⟨l.length - q, by omega, q, lst, last, zs, z7, c, by omega, hI, hZ, h7, hcn, by simp [tapeB]⟩
  have g1 : (i2 : Int) < (k : Int) := by omega
  have g0 : ¬ (i2 : Int) < 0 := by omega
  have hw : IntKind.i64.wrap ((i2 : Int) + 1) = (i2 : Int) + 1 := wrap64 (by omega)
  simp -implicitDefEqProofs [g1, ↓mv7 h7, hzl]
  refine w_rounds [5, 8, 184, 185, 186, 189, 190, 191] [25] 3 (by simp) (EqJ l n k Q q zs z7 [.s (.int .i64 last.ver), c] i2) k ⟨by simp [w1, w2, tapeB], 0, by simp, by simp [tapeB]⟩ ?_
  rintro m3 S ⟨i3, hi3', rfl⟩
  by_cases hjk : i3 < k
  case neg =>
    have g3 : ¬ (i3 : Int) < (k : Int) := by omega
    simp -implicitDefEqProofs [g3, hw, w1, w2, tapeB]
    exact ⟨m2 - 1, by omega, i2 + 1, by omega, by simp [tapeB]⟩
  have g3 : (i3 : Int) < (k : Int) := by omega
  have g4 : ¬ (i3 : Int) < 0 := by omega
  have hw3 : IntKind.i64.wrap ((i3 : Int) + 1) = (i3 : Int) + 1 := wrap64 (by omega)
  have b2 : i2 < lst.length := by rw [hI.len]; exact hik
  have b3 : i3 < lst.length := by rw [hI.len]; exact hjk
  obtain ⟨c2, y1, y2, y3⟩ := hZ.get i2 b2
  obtain ⟨c3, x1, x2, x3⟩ := hZ.get i3 b3
  simp -implicitDefEqProofs [g3]
  refine w_cut0 (MidT [(5, .ptr 0 0), (8, .ptr 1 0), (184, .list 2 zs), (185, .s (.int .i64 k)), (186, .s (.int .i64 i2)), (189, .list 2 zs), (190, .s (.int .i64 k)), (191, .s (.int .i64 i3))] [.list 1 (iv l), .s (.int .u8 n), .s (.bool false), .no, .no, .no, .no, z7, .ptr 2 0, .no, .no, .no, .no, .no, .no, .no, .no, .no, .no, .no, .no, .no, .no, .no, .s (.int .i64 i2), .s (.int .i64 i3)] [[.s (.int .i64 k), .list 1 (iv (zi Q))], [.s (.int .i64 last.ver), c], tapeB l q]) ?_ ?_
  · cases hv : ((lst[i2]).ver == (lst[i3]).ver)
    · simp -implicitDefEqProofs [a4eq, g3, g4, g0, ↓mv7 h7, y1, x1, hv]
      exact ⟨_, _, by simp, rfl⟩
    · have he := hI.same _ (List.getElem_mem b2) _ (List.getElem_mem b3) (by simpa using hv)
      have cS := rSame_pc (lst[i2]) (lst[i3]) (rpOk_sm (hI.ok _ (List.getElem_mem b2)))
      rw [decide_eq_true he] at cS
      rcases y3 with rfl | ⟨rfl, z2, hz2⟩ <;> rcases x3 with rfl | ⟨rfl, z3, hz3⟩
      all_goals
        try injection hz2 with _ hz2
        try injection hz3 with _ hz3
        try have hz4 : rl (lst[i3]).cat = [] := by rw [← he]; exact hz2
        try have hz5 : rl (lst[i2]).cat = [] := by rw [he]; exact hz3
        simp -implicitDefEqProofs [a4eq, g3, g4, g0, ↓mv7 h7, y1, x1, hv]
        refine wkd_take ?_
        simp -implicitDefEqProofs
        refine wcd_nil cS ?_ ?_ ?_ ?_
        · simp [Rp.v, nilAs, nilA, nilLs, nilL, *]
        · simp [Rp.v, immA, immC]
        · simp [immA, immC]
        simp -implicitDefEqProofs
        exact ⟨_, _, by simp, rfl⟩
  rintro S ⟨tm, e, hts, rfl⟩
  simp only [List.forall_mem_cons, List.not_mem_nil, false_implies, implies_true, and_true] at hts
  obtain ⟨s1, s2, s3, s4, s5, s6, s7, s8⟩ := hts
  simp -implicitDefEqProofs [w1, w2, tapeB, hw3, s1, s2, s3, s4, s5, s6, s7, s8]
  exact ⟨m3 - 1, by omega, i3 + 1, by omega, by simp [tapeB, s1, s2, s3, s4, s5, s6, s7, s8]⟩
end Go.Proofs.Ytebibhmjmaomnaa
