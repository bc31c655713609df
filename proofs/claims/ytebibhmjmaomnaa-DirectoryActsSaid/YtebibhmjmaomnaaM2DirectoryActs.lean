/- Texts put behind one another: D24, D25, D27, D28. -/
import Derived.Test.YtebibhmjmaomnaaZN
import Derived.Test.YtebibhmjmaomnaaZE
import Derived.Test.YtebibhmjmaomnaaZL
set_option linter.unusedVariables false
set_option linter.unusedSimpArgs false
namespace Go.Proofs.Ytebibhmjmaomnaa
open Go.RowKit Go.Proofs
def two (s : ByteArray) : List (List Rs) := [[], [lk s]]
def all16 : List (List Rs) := (two (nm5 0)).flatMap fun a => (two (nm5 1)).flatMap fun b => (two (nm5 2)).flatMap fun c => (two (nm5 3)).map fun d => a ++ b ++ c ++ d
theorem cat16 : (all16.all fun c => catOk c && (List.range 4).all fun j => (insE c (lk (nm5 j)) != 0 || decide (insL c (lk (nm5 j)) ∈ all16)) && (rmE c (lk (nm5 j)).nm != 0 || decide (delL c (lk (nm5 j)).nm ∈ all16))) = true := by decide +kernel
theorem c16_of {c : List Rs} (h : c ∈ all16) : catOk c = true ∧ ∀ j, j < 4 → (insE c (lk (nm5 j)) = 0 → insL c (lk (nm5 j)) ∈ all16) ∧ (rmE c (lk (nm5 j)).nm = 0 → delL c (lk (nm5 j)).nm ∈ all16) := by
  have h1 := List.all_eq_true.1 cat16 c h
  obtain ⟨h2, h3⟩ := Bool.and_eq_true_iff.1 h1
  refine ⟨h2, fun j hj => ?_⟩
  have h4 := List.all_eq_true.1 h3 j (List.mem_range.2 hj)
  obtain ⟨h5, h6⟩ := Bool.and_eq_true_iff.1 h4
  refine ⟨fun he => ?_, fun he => ?_⟩
  · rw [he] at h5; simpa using h5
  · rw [he] at h6; simpa using h6
structure Lst (r : Rp) : Prop where
  v0 : 0 ≤ r.ver
  v1 : r.ver ≤ 1073741824
  c : r.cat ∈ all16
theorem Lst.z : Lst Rp.z := ⟨by simp [Rp.z], by simp [Rp.z], by decide +kernel⟩
theorem Lst.ok {r : Rp} (h : Lst r) : rpOk r = true := by
  unfold rpOk
  rw [(c16_of h.c).1]
  simp [h.v0, h.v1]
structure Inv (k : Nat) (Q : List Nat) (l : List Rp) (last : Rp) : Prop where
  len : l.length = k
  ok : ∀ x ∈ l, rpOk x = true
  lst : Lst last
  q : ∃ s ∈ Q, ∀ (i : Nat) (h : i < l.length), s.testBit i = true → l[i] = last
  le : ∀ x ∈ l, x.ver ≤ last.ver
  top : ∀ x ∈ l, x.ver = last.ver → x = last
  same : ∀ x ∈ l, ∀ y ∈ l, x.ver = y.ver → x = y
section
variable {k : Nat} {Q : List Nat} {l : List Rp} {last : Rp}
theorem pick_has {s i : Nat} (h : i < l.length) (hb : s.testBit i = true) : l[i] ∈ pick s l := by
  unfold pick pickU
  refine List.mem_map.2 ⟨i, List.mem_filter.2 ⟨List.mem_range.2 h, hb⟩, ?_⟩
  simp [List.getD, h]
theorem pick_mem {s : Nat} {x : Rp} (hx : x ∈ pick s l) : x ∈ l := pickU_mem (Nat.le_refl _) hx
theorem meet_bit {s t : Nat} (h : Md k Q) (hs : s ∈ Q) (ht : t ∈ Q) : ∃ i, i < k ∧ s.testBit i = true ∧ t.testBit i = true := by
  obtain ⟨i, hi⟩ := Nat.exists_testBit_of_ne_zero (h.cot.meet s hs t ht)
  rw [Nat.testBit_and, Bool.and_eq_true] at hi
  refine ⟨i, ?_, hi.1, hi.2⟩
  by_cases hk : i < k
  · exact hk
  · have h1 := (h.cot.rng s hs).2
    have h2 : 2 ^ k ≤ 2 ^ i := Nat.pow_le_pow_right (by omega) (by omega)
    rw [Nat.testBit_lt_two_pow (by omega)] at hi
    exact absurd hi.1 (by simp)
theorem fold_ge : ∀ (l : List Rp) (a : Rp), a.ver ≤ (l.foldl mx a).ver ∧ ∀ x ∈ l, x.ver ≤ (l.foldl mx a).ver
  | [], a => ⟨Int.le_refl _, fun x hx => by simp at hx⟩
  | y :: l, a => by
    rw [List.foldl_cons]
    obtain ⟨h1, h2⟩ := fold_ge l (mx a y)
    have h3 : a.ver ≤ (mx a y).ver ∧ y.ver ≤ (mx a y).ver := by
      unfold mx
      split <;> omega
    refine ⟨Int.le_trans h3.1 h1, fun x hx => ?_⟩
    rcases List.mem_cons.1 hx with rfl | hx
    · exact Int.le_trans h3.2 h1
    · exact h2 x hx
theorem best_is {p : List Rp} (hm : last ∈ p) (hle : ∀ x ∈ p, x.ver ≤ last.ver) (ht : ∀ x ∈ p, x.ver = last.ver → x = last) : best p = last := by
  have h0 : p.getD 0 Rp.z ∈ p := by
    cases p with
    | nil => simp at hm
    | cons a p => simp
  have h1 : best p ∈ p := by
    rcases fold_mem p (p.getD 0 Rp.z) with h | h
    · unfold best; rw [h]; exact h0
    · exact h
  have h2 := (fold_ge p (p.getD 0 Rp.z)).2 last hm
  have h3 := hle _ h1
  refine ht _ h1 ?_
  unfold best at h3 ⊢
  omega
theorem Inv.vl (h : Inv k Q l last) (md : Md k Q) : vlOk l k (zi Q) = true := by
  have h1 : l.all rpOk = true := List.all_eq_true.2 h.ok
  simp [vlOk, md.ok, h.len, h1]
theorem av_q {up t0 : Int} (md : Md k Q) (ha : availE k (zi Q) up = some t0) : ∃ t : Nat, t0 = (t : Int) ∧ t ∈ Q := by
  unfold availE at ha
  rw [if_pos md.ok] at ha
  have hm := avail_mem ha
  unfold zi at hm
  obtain ⟨t, ht, rfl⟩ := List.mem_map.1 hm
  exact ⟨t, rfl, ht⟩
theorem Inv.read (h : Inv k Q l last) (md : Md k Q) {up t0 : Int} (ha : availE k (zi Q) up = some t0) : rdE l k (zi Q) up = 0 ∧ rdR l k (zi Q) up = last := by
  obtain ⟨t, rfl, ht⟩ := av_q md ha
  obtain ⟨s, hs, hl⟩ := h.q
  obtain ⟨i, hi, h1, h2⟩ := meet_bit md hs ht
  have hil : i < l.length := by rw [h.len]; exact hi
  have hm : last ∈ pick t l := by rw [← hl i hil h1]; exact pick_has hil h2
  have hb := best_is hm (fun x hx => h.le x (pick_mem hx)) (fun x hx => h.top x (pick_mem hx))
  have hne : pick t l ≠ [] := fun q => by rw [q] at hm; simp at hm
  have hall : (pick t l).all rpOk = true := List.all_eq_true.2 fun x hx => h.ok x (pick_mem hx)
  have hc : (pick t l).any (clash (best (pick t l))) = false := by
    rw [List.any_eq_false]
    intro x hx hc
    rw [hb] at hc
    unfold clash at hc
    have hc := of_decide_eq_true hc
    exact hc.2 (by rw [h.top x (pick_mem hx) hc.1])
  have hE : nwE (pick t l) = 0 := by simp [nwE, hne, hall, hc]
  obtain ⟨r1, r2⟩ := rd_of (h.vl md) ha
  rw [Int.toNat_natCast] at r1 r2
  exact ⟨by rw [r1, hE], by rw [r2, nwR, if_pos hE, hb]⟩
end
end Go.Proofs.Ytebibhmjmaomnaa
namespace Go.Proofs.Ytebibhmjmaomnaa
open Go.RowKit Go.Proofs
theorem w_cut {P : Program} {F : Fr} {n : Nat} {x y : ACode} {S : St} {Q : AX → St → Prop} (Mid : St → Prop) (h1 : W P F n x S (fun e S' => e = .normal ∧ Mid S')) (h2 : ∀ S', Mid S' → W P F n y S' Q) : W P F n x S (sq P F n y Q) :=
  w_mono x (fun e S' ⟨he, hm⟩ => by subst he; exact h2 S' hm) h1
structure Nz (zs : List V) (l : List Rp) : Prop where
  len : zs.length = l.length
  get : ∀ (i : Nat) (h : i < l.length), ∃ c, zs[i]? = some (.agg [.s (.int .i64 l[i].ver), c]) ∧ immC c = true ∧ nilL c (.list 4 (rl l[i].cat))
  asl : asRep (.list 2 zs) (.list 2 (pl l))
theorem Nz.of (l : List Rp) : Nz (pl l) l := ⟨by simp, fun i h => ⟨_, pl_get h, rfl, .inl rfl⟩, asRep.refl _⟩
def zA : V := .agg [.s (.int .i64 0), .s (.slice none 0 0)]
theorem flat_zA : ∀ k : Nat, nilLs (flat (List.replicate k zA)) (flat (pl (List.replicate k Rp.z))) ∧ ∀ u ∈ flat (pl (List.replicate k Rp.z)), immC u = true
  | 0 => ⟨by simp [flat, pl, nilLs], by simp [flat, pl]⟩
  | k + 1 => by
    obtain ⟨h1, h2⟩ := flat_zA k
    have e1 : flat (List.replicate (k + 1) zA) = .s (.int .i64 0) :: .s (.slice none 0 0) :: flat (List.replicate k zA) := rfl
    have e2 : flat (pl (List.replicate (k + 1) Rp.z)) = .s (.int .i64 0) :: .list 4 [] :: flat (pl (List.replicate k Rp.z)) := rfl
    rw [e1, e2]
    refine ⟨⟨.inl rfl, .inr ⟨rfl, 4, rfl⟩, h1⟩, fun u hu => ?_⟩
    rcases List.mem_cons.1 hu with rfl | hu
    · rfl
    rcases List.mem_cons.1 hu with rfl | hu
    · rfl
    · exact h2 u hu
theorem Nz.zero (k : Nat) : Nz (List.replicate k zA) (List.replicate k Rp.z) := by
  obtain ⟨h1, h2⟩ := flat_zA k
  refine ⟨by simp, fun i h => ?_, asRep_list (by simp) ?_ h1 h2⟩
  · have h' : i < k := by simpa using h
    refine ⟨.s (.slice none 0 0), by simp [h', zA, Rp.z], rfl, ?_⟩
    simp only [List.getElem_replicate]
    exact .inr ⟨rfl, 4, rfl⟩
  · intro y hy
    simp only [pl, List.map_replicate, List.mem_replicate] at hy
    rw [hy.2]; rfl
end Go.Proofs.Ytebibhmjmaomnaa
namespace Go.Proofs.Ytebibhmjmaomnaa
open Go.RowKit Go.Proofs
theorem w_cut2 {P : Program} {F : Fr} {n : Nat} {x y : ACode} {S : St} {Q : AX → St → Prop} (Mid : St → Prop) (h1 : W P F n x S (fun e S' => e = .normal ∧ Mid S')) (h2 : ∀ S', Mid S' → W P F n y S' Q) : W P F n (.seq x y) S Q := by
  rw [W_seq]
  exact w_cut Mid h1 h2
theorem isLent_s (v : Value) : isLent (.s v) = false := rfl
theorem isLent_l (z : Nat) (xs : List V) : isLent (.list z xs) = false := rfl
theorem isLent_o (b : Bool) (e z : Nat) (xs : List V) : isLent (.own b e z xs) = false := rfl
theorem sn_s (l : Loc) (e : Nat) (v : Value) : seenL l e (.s v) = .s v := rfl
theorem sn_l (l : Loc) (e z : Nat) (xs : List V) : seenL l e (.list z xs) = .list z xs := rfl
theorem sn_a (l : Loc) (e : Nat) (cs : List V) : seenL l e (.agg cs) = .agg cs := rfl
structure Cq (c : V) (q : List Int) : Prop where
  seen : ∀ l e, seenL l e c = .list 1 (iv q)
  know : known c = true
  lent : isLent c = false
theorem Cq.list (q : List Int) : Cq (.list 1 (iv q)) q := ⟨fun _ _ => rfl, rfl, rfl⟩
theorem Cq.own (q : List Int) : Cq (.own false 3 1 (iv q)) q := ⟨fun _ _ => rfl, rfl, rfl⟩
theorem nwR_sm {l : List Rp} (h : ∀ x ∈ l, x.sm) : (nwR l).sm := by
  unfold nwR
  split
  · exact best_sm h
  · exact z_sm
theorem wrU_sm {s : Nat} {l : List Rp} {r : Rp} (h : ∀ x ∈ l, x.sm) (hr : r.sm) (i : Nat) : ∀ x ∈ wrU s l r i, x.sm := by
  intro x hx
  unfold wrU at hx
  obtain ⟨j, _, rfl⟩ := List.mem_map.1 hx
  have h0 : (l.getD j Rp.z).sm := by
    by_cases hj : j < l.length
    · simp [List.getD, hj, h]
    · simp [List.getD, hj, z_sm]
  split
  · exact accR_sm h0 hr
  · exact h0
theorem wrR_ok {l : List Rp} {n : Int} {q : List Int} {up : Int} {r : Rp} (h : ∀ x ∈ l, x.sm) (hl : l.length ≤ 1000000) (hr : r.sm) : (wrR l n q up r).length ≤ 1000000 ∧ ∀ x ∈ wrR l n q up r, x.sm := by
  unfold wrR
  split
  · exact ⟨by simpa [wrU] using hl, wrU_sm h hr _⟩
  · simp
theorem upR_ok {l : List Rp} {n : Int} {q : List Int} {rd wr : Int} {add : Bool} {x : Rs} (h : ∀ x ∈ l, x.sm) (hl : l.length ≤ 1000000) : (upR l n q rd wr add x).length ≤ 1000000 ∧ ∀ y ∈ upR l n q rd wr add x, y.sm := by
  unfold upR
  split
  · exact wrR_ok h hl (chgR_sm _ _ _)
  · simp
end Go.Proofs.Ytebibhmjmaomnaa
namespace Go.Proofs.Ytebibhmjmaomnaa
open Go.RowKit Go.Proofs
def Ac1 (l : List Rp) (cn : Int) (cq : List Int) (x : Rs) (up wr : Int) (add : Bool) (by9 : List Int) (m : Nat) (S : St) : Prop := ∃ (i : Nat) (M : List Rp), i + m = 3 ∧ M.length = i ∧ (∀ y ∈ M, y.sm) ∧
  S = ⟨tmL [(8, .ptr 0 0), (9, .ptr 1 0)], [.list 2 (pl l), cP cn cq, x.v, .s (.int .i64 up), .s (.int .i64 wr), .s (.bool add), .list 1 (iv by9), .s (.bool false), .own true 32 2 (pl M), .s (.int .i64 i), .no, .no, .no, .no, .no, .no, .no, .no, .no, .no, .no, .no, .no], [[.s (.int .i64 cn), .list 1 (iv cq)], [.s (.string x.nm), .s (.int .i64 x.kd), .s (.int .i64 x.un), .s (.int .i64 x.hm)]], 0⟩
def Ac2 (l : List Rp) (cn : Int) (cq : List Int) (x : Rs) (up wr : Int) (add : Bool) (by9 : List Int) (M : List Rp) (m : Nat) (S : St) : Prop := ∃ k : Nat, k + m = 2 ∧
  S = ⟨tmL [(8, .ptr 0 0), (9, .ptr 1 0)], [.list 2 (pl l), cP cn cq, x.v, .s (.int .i64 up), .s (.int .i64 wr), .s (.bool add), .list 1 (iv by9), .s (.bool false), .own false 32 2 (pl M), .no, .no, .s (.int .i64 k), .no, .no, .no, .no, .no, .no, .no, .no, .no, .no, .no], [[.s (.int .i64 cn), .list 1 (iv cq)], [.s (.string x.nm), .s (.int .i64 x.kd), .s (.int .i64 x.un), .s (.int .i64 x.hm)]], 0⟩
def MdK0 (l : List Rp) (cn : Int) (cq : List Int) (x : Rs) (up wr : Int) (add : Bool) (by9 : List Int) (M : List Rp) (k : Nat) (S : St) : Prop := ∃ (tm : Nat → V) (e : Nat) (L : List Rp) (n2 : Int) (q2 : List Int) (cqc : V) (xr : Rs), tm 8 = .ptr 0 0 ∧ (∀ t, 97 ≤ t → tm t = .no) ∧ tm 9 = .ptr 1 0 ∧ tm 20 = .ptr 2 0 ∧ tm 21 = .ptr 3 0 ∧ (L.length ≤ 1000000 ∧ (∀ y ∈ L, y.sm) ∧ q2.length ≤ 1000) ∧ (cqc = .list 1 (iv q2) ∨ cqc = .own true 3 1 (iv q2)) ∧
  S = ⟨tm, [.list 2 (pl l), cP cn cq, x.v, .s (.int .i64 up), .s (.int .i64 wr), .s (.bool add), .list 1 (iv by9), .s (.bool false), .own false 32 2 (pl M), .no, .no, .s (.int .i64 k), .list 2 (pl L), .no, .no, .no, .no, .no, .no, .no, .no, .no, .no], [[.s (.int .i64 cn), .list 1 (iv cq)], [.s (.string x.nm), .s (.int .i64 x.kd), .s (.int .i64 x.un), .s (.int .i64 x.hm)], [.s (.int .i64 n2), cqc], [.s (.string xr.nm), .s (.int .i64 xr.kd), .s (.int .i64 xr.un), .s (.int .i64 xr.hm)]], e⟩
def MdL0 (l : List Rp) (cn : Int) (cq : List Int) (x : Rs) (up wr : Int) (add : Bool) (by9 : List Int) (M : List Rp) (k : Nat) (S : St) : Prop := ∃ (tm : Nat → V) (e : Nat) (L : List Rp) (n2 : Int) (q2 : List Int) (cqc : V) (xr : Rs), tm 8 = .ptr 0 0 ∧ (∀ t, 97 ≤ t → tm t = .no) ∧ tm 9 = .ptr 1 0 ∧ tm 20 = .ptr 2 0 ∧ tm 21 = .ptr 3 0 ∧ tm 22 = .ptr 4 0 ∧ (L.length ≤ 1000000 ∧ (∀ y ∈ L, y.sm) ∧ q2.length ≤ 1000) ∧ Cq cqc q2 ∧
  S = ⟨tm, [.list 2 (pl l), cP cn cq, x.v, .s (.int .i64 up), .s (.int .i64 wr), .s (.bool add), .list 1 (iv by9), .s (.bool false), .own false 32 2 (pl M), .no, .no, .s (.int .i64 k), .list 2 (pl L), .no, .no, .no, .no, .no, .no, .no, .no, .no, .no], [[.s (.int .i64 cn), .list 1 (iv cq)], [.s (.string x.nm), .s (.int .i64 x.kd), .s (.int .i64 x.un), .s (.int .i64 x.hm)], [.s (.int .i64 n2), cqc], [.s (.string xr.nm), .s (.int .i64 xr.kd), .s (.int .i64 xr.un), .s (.int .i64 xr.hm)], [.s (.int .i64 0), .s (.slice none 0 0)]], e⟩
def MdO0 (l : List Rp) (cn : Int) (cq : List Int) (x : Rs) (up wr : Int) (add : Bool) (by9 : List Int) (M : List Rp) (k : Nat) (L : List Rp) (n2 : Int) (cqc : V) (xr : Rs) (S : St) : Prop := ∃ (tm : Nat → V) (e : Nat) (one : Rp) (c1 : V), tm 8 = .ptr 0 0 ∧ (∀ t, 97 ≤ t → tm t = .no) ∧ tm 9 = .ptr 1 0 ∧ tm 20 = .ptr 2 0 ∧ tm 21 = .ptr 3 0 ∧ tm 22 = .ptr 4 0 ∧ one.sm ∧ nilL c1 (.list 4 (rl one.cat)) ∧
  S = ⟨tm, [.list 2 (pl l), cP cn cq, x.v, .s (.int .i64 up), .s (.int .i64 wr), .s (.bool add), .list 1 (iv by9), .s (.bool false), .own false 32 2 (pl M), .no, .no, .s (.int .i64 k), .list 2 (pl L), .no, .no, .no, .no, .no, .no, .no, .no, .no, .no], [[.s (.int .i64 cn), .list 1 (iv cq)], [.s (.string x.nm), .s (.int .i64 x.kd), .s (.int .i64 x.un), .s (.int .i64 x.hm)], [.s (.int .i64 n2), cqc], [.s (.string xr.nm), .s (.int .i64 xr.kd), .s (.int .i64 xr.un), .s (.int .i64 xr.hm)], [.s (.int .i64 one.ver), c1]], e⟩
def MdK1 (l : List Rp) (cn : Int) (cq : List Int) (x : Rs) (up wr : Int) (add : Bool) (by9 : List Int) (M : List Rp) (k : Nat) (S : St) : Prop := ∃ (tm : Nat → V) (e : Nat) (L : List Rp) (n2 : Int) (q2 : List Int) (cqc : V) (xr : Rs), tm 8 = .ptr 0 0 ∧ (∀ t, 97 ≤ t → tm t = .no) ∧ tm 9 = .ptr 1 0 ∧ tm 20 = .ptr 3 0 ∧ tm 21 = .ptr 2 0 ∧ (L.length ≤ 1000000 ∧ (∀ y ∈ L, y.sm) ∧ q2.length ≤ 1000) ∧ (cqc = .list 1 (iv q2) ∨ cqc = .own true 3 1 (iv q2)) ∧
  S = ⟨tm, [.list 2 (pl l), cP cn cq, x.v, .s (.int .i64 up), .s (.int .i64 wr), .s (.bool add), .list 1 (iv by9), .s (.bool false), .own false 32 2 (pl M), .no, .no, .s (.int .i64 k), .list 2 (pl L), .no, .no, .no, .no, .no, .no, .no, .no, .no, .no], [[.s (.int .i64 cn), .list 1 (iv cq)], [.s (.string x.nm), .s (.int .i64 x.kd), .s (.int .i64 x.un), .s (.int .i64 x.hm)], [.s (.string xr.nm), .s (.int .i64 xr.kd), .s (.int .i64 xr.un), .s (.int .i64 xr.hm)], [.s (.int .i64 n2), cqc]], e⟩
def MdL1 (l : List Rp) (cn : Int) (cq : List Int) (x : Rs) (up wr : Int) (add : Bool) (by9 : List Int) (M : List Rp) (k : Nat) (S : St) : Prop := ∃ (tm : Nat → V) (e : Nat) (L : List Rp) (n2 : Int) (q2 : List Int) (cqc : V) (xr : Rs), tm 8 = .ptr 0 0 ∧ (∀ t, 97 ≤ t → tm t = .no) ∧ tm 9 = .ptr 1 0 ∧ tm 20 = .ptr 3 0 ∧ tm 21 = .ptr 2 0 ∧ tm 22 = .ptr 4 0 ∧ (L.length ≤ 1000000 ∧ (∀ y ∈ L, y.sm) ∧ q2.length ≤ 1000) ∧ Cq cqc q2 ∧
  S = ⟨tm, [.list 2 (pl l), cP cn cq, x.v, .s (.int .i64 up), .s (.int .i64 wr), .s (.bool add), .list 1 (iv by9), .s (.bool false), .own false 32 2 (pl M), .no, .no, .s (.int .i64 k), .list 2 (pl L), .no, .no, .no, .no, .no, .no, .no, .no, .no, .no], [[.s (.int .i64 cn), .list 1 (iv cq)], [.s (.string x.nm), .s (.int .i64 x.kd), .s (.int .i64 x.un), .s (.int .i64 x.hm)], [.s (.string xr.nm), .s (.int .i64 xr.kd), .s (.int .i64 xr.un), .s (.int .i64 xr.hm)], [.s (.int .i64 n2), cqc], [.s (.int .i64 0), .s (.slice none 0 0)]], e⟩
def MdO1 (l : List Rp) (cn : Int) (cq : List Int) (x : Rs) (up wr : Int) (add : Bool) (by9 : List Int) (M : List Rp) (k : Nat) (L : List Rp) (n2 : Int) (cqc : V) (xr : Rs) (S : St) : Prop := ∃ (tm : Nat → V) (e : Nat) (one : Rp) (c1 : V), tm 8 = .ptr 0 0 ∧ (∀ t, 97 ≤ t → tm t = .no) ∧ tm 9 = .ptr 1 0 ∧ tm 20 = .ptr 3 0 ∧ tm 21 = .ptr 2 0 ∧ tm 22 = .ptr 4 0 ∧ one.sm ∧ nilL c1 (.list 4 (rl one.cat)) ∧
  S = ⟨tm, [.list 2 (pl l), cP cn cq, x.v, .s (.int .i64 up), .s (.int .i64 wr), .s (.bool add), .list 1 (iv by9), .s (.bool false), .own false 32 2 (pl M), .no, .no, .s (.int .i64 k), .list 2 (pl L), .no, .no, .no, .no, .no, .no, .no, .no, .no, .no], [[.s (.int .i64 cn), .list 1 (iv cq)], [.s (.string x.nm), .s (.int .i64 x.kd), .s (.int .i64 x.un), .s (.int .i64 x.hm)], [.s (.string xr.nm), .s (.int .i64 xr.kd), .s (.int .i64 xr.un), .s (.int .i64 xr.hm)], [.s (.int .i64 n2), cqc], [.s (.int .i64 one.ver), c1]], e⟩
set_option maxHeartbeats 64000000 in
set_option maxRecDepth 10000 in
theorem DirectoryActs_pc (l : List Rp) (cn : Int) (cq : List Int) (x : Rs) (up wr : Int) (add : Bool) (by9 : List Int) : PC Try.prog 3 [.list 2 (pl l), cP cn cq, x.v, .s (.int .i64 up), .s (.int .i64 wr), .s (.bool add), .list 1 (iv by9)] (fun r => r = .s (.bool true)) := by
  have cSh := short_pc l
  have cAw := awake_pc
  refine pc_end c3b mixed rfl ?_
  simp -implicitDefEqProofs [a3b, F3, cP, Rs.v]
  refine wk_take ?_
  simp -implicitDefEqProofs
  refine wc_of cSh (by simp) (by simp) ?_
  rintro _ rfl
  cases hsh : shE l
  case' false =>
    simp -implicitDefEqProofs
    refine wk_take ?_
    simp -implicitDefEqProofs
    refine wc_of cAw (by simp) (by simp) ?_
    rintro _ rfl
    simp -implicitDefEqProofs
  by_cases hq : (80 : Int) < (cq.length : Int)
  case pos =>
    simp -implicitDefEqProofs [hq]
    refine wk_take ?_
    simp -implicitDefEqProofs
    refine wc_of cAw (by simp) (by simp) ?_
    rintro _ rfl
    simp -implicitDefEqProofs
  by_cases hb : (9 : Int) < (by9.length : Int)
  case pos =>
    simp -implicitDefEqProofs [hq, hb]
    refine wk_take ?_
    simp -implicitDefEqProofs
    refine wc_of cAw (by simp) (by simp) ?_
    rintro _ rfl
    simp -implicitDefEqProofs
  obtain ⟨hl1, hl2⟩ := Bool.and_eq_true_iff.1 hsh
  have hl : l.length ≤ 1000000 := by have := of_decide_eq_true hl1; omega
  have hs : ∀ y ∈ l, y.sm := fun y hy => by
    have := of_decide_eq_true (List.all_eq_true.1 hl2 y hy)
    unfold Rp.sm
    omega
  simp -implicitDefEqProofs [hq, hb]
  refine w_rounds [8, 9] [10] 2 (by simp) (Ac1 l cn cq x up wr add by9) 3 ⟨by simp, 0, [], by simp, rfl, by simp, by simp [cP, Rs.v, pl]⟩ ?_
  rintro m S ⟨i, M, hi, hML, hMs, rfl⟩
  by_cases hi3 : i < 3
  case pos =>
    have g1 : (i : Int) < 3 := by omega
    have g0 : ¬ (i : Int) < 0 := by omega
    have hw : IntKind.i64.wrap ((i : Int) + 1) = (i : Int) + 1 := wrap64 (by omega)
    have b1 : M.length + 1 ≤ maxLen ∧ (M.length + 1) * 32 ≤ maxBytes := by simp [maxLen, maxBytes]; omega
    have nxt : ∀ v, (∀ y ∈ M ++ [made v], y.sm) := fun v y hy => by
      rcases List.mem_append.1 hy with h | h
      · exact hMs y h
      · rw [List.mem_singleton.1 h]; exact made_sm v
    by_cases hby : i < by9.length
    · have g2 : (i : Int) < (by9.length : Int) := by omega
      have cM := made_pc by9[i]
      simp -implicitDefEqProofs [g1, g0, g2, iv_get hby]
      refine wk_take ?_
      simp -implicitDefEqProofs
      refine wc_of cM (by simp) (by simp) ?_
      rintro _ rfl
      simp -implicitDefEqProofs [Rp.v, Rs.v, cP, b1, hw]
      exact ⟨m - 1, by omega, i + 1, M ++ [made by9[i]], by omega, by simp [hML], nxt _, by simp [pl, Rp.v, cP, Rs.v]⟩
    · have g2 : ¬ (i : Int) < (by9.length : Int) := by omega
      have cM := made_pc 0
      simp -implicitDefEqProofs [g1, g0, g2]
      refine wk_take ?_
      simp -implicitDefEqProofs
      refine wc_of cM (by simp) (by simp) ?_
      rintro _ rfl
      simp -implicitDefEqProofs [Rp.v, Rs.v, cP, b1, hw]
      exact ⟨m - 1, by omega, i + 1, M ++ [made 0], by omega, by simp [hML], nxt _, by simp [pl, Rp.v, cP, Rs.v]⟩
  have g1 : ¬ (i : Int) < 3 := by omega
  simp -implicitDefEqProofs [g1]
  refine w_rounds [8, 9] [9, 10, 12, 13, 14, 15, 16, 17, 18, 19, 20, 21, 22] 2 (by simp) (Ac2 l cn cq x up wr add by9 M) 2 ⟨by simp [cP, Rs.v], 0, by simp, by simp [cP, Rs.v]⟩ ?_
  rintro m2 S ⟨k, hk, rfl⟩
  by_cases hk2 : k < 2
  case neg =>
    have g2 : ¬ (k : Int) < 2 := by omega
    simp -implicitDefEqProofs [g2]
    refine wk_take ?_
    simp -implicitDefEqProofs
    refine wc_of cAw (by simp) (by simp) ?_
    rintro _ rfl
    simp -implicitDefEqProofs
  have g2 : (k : Int) < 2 := by omega
  have hwk : IntKind.i64.wrap ((k : Int) + 1) = (k : Int) + 1 := wrap64 (by omega)
  have cMd := Mod_pc up 3 (by omega) (by omega)
  obtain ⟨j, hj⟩ : ∃ j : Nat, up % 3 = j := ⟨_, (Int.toNat_of_nonneg (Int.emod_nonneg _ (by omega))).symm⟩
  have hj3 : (j : Int) < 3 := by rw [← hj]; exact Int.emod_lt_of_pos _ (by omega)
  rw [hj] at cMd
  have hj0 : ¬ (j : Int) < 0 := by omega
  obtain ⟨nm, hget⟩ : ∃ nm : ByteArray, ([.s (.string (ByteArray.mk #[97])), .s (.string (ByteArray.mk #[98])), .s (.string (ByteArray.mk #[100]))] : List V)[j]? = some (.s (.string nm)) := by
    have : j = 0 ∨ j = 1 ∨ j = 2 := by omega
    rcases this with rfl | rfl | rfl
    · exact ⟨_, rfl⟩
    · exact ⟨_, rfl⟩
    · exact ⟨_, rfl⟩
  have cK := lock_pc nm
  have hM1 : M.length ≤ 1000000 := by omega
  have hcq : cq.length ≤ 1000 := by omega
  simp -implicitDefEqProofs [g2]
  refine wnm_split 3 4 (by kernel_rfl) ?_ ?_
  · refine wnm_perm [0, 1, 2, 3, 4, 5, 6, 7] ⟨[8, 9], [], [], [(5, 8, 1), (5, 9, 2), (6, 9, 2)]⟩ (by kernel_rfl) (by kernel_rfl) ?_
    simp -implicitDefEqProofs [permL, cP, Rs.v]
    refine w_cut (MdK0 l cn cq x up wr add by9 M k) ?_ ?_
    · cases hk1 : ((k : Int) == 1)
      · simp -implicitDefEqProofs [a3md, hk1]
        refine ⟨_, _, l, cn, cq, .list 1 (iv cq), x, ?_, fun t ht => by (try simp only [tmL, upd]); (repeat rw [if_neg (by omega)]); (first | done | rfl | exact tmn t ht), ?_, ?_, ?_, ⟨hl, hs, hcq⟩, .inl rfl, rfl⟩ <;> simp
      · simp -implicitDefEqProofs [a3md, hk1]
        refine wk_take ?_
        simp -implicitDefEqProofs
        refine wc_of cMd (by simp) (by simp) ?_
        rintro _ rfl
        simp -implicitDefEqProofs [hj0, hj3, hget]
        refine wk_take ?_
        simp -implicitDefEqProofs
        refine wc_of cK (by simp) (by simp) ?_
        rintro _ rfl
        simp -implicitDefEqProofs [Rs.v]
        refine ⟨_, _, M, 3, e3, .own true 3 1 (iv e3), lk nm, ?_, fun t ht => by (try simp only [tmL, upd]); (repeat rw [if_neg (by omega)]); (first | done | rfl | exact tmn t ht), ?_, ?_, ?_, ⟨hM1, hMs, by decide⟩, .inr rfl, rfl⟩ <;> simp
    rintro S ⟨tm, e, L, n2, q2, cqc, xr, t8, tmn, t9, t20, t21, hLk, hcc, rfl⟩
    refine w_cut2 (MdL0 l cn cq x up wr add by9 M k) ?_ ?_
    · rcases hcc with rfl | rfl
      · simp -implicitDefEqProofs
        refine ⟨_, _, L, n2, q2, _, xr, ?_, fun t ht => by (try simp only [tmL, upd]); (repeat rw [if_neg (by omega)]); (first | done | rfl | exact tmn t ht), ?_, ?_, ?_, ?_, hLk, Cq.list q2, rfl⟩ <;> simp [t8, t9, t20, t21]
      · simp -implicitDefEqProofs
        refine ⟨_, _, L, n2, q2, _, xr, ?_, fun t ht => by (try simp only [tmL, upd]); (repeat rw [if_neg (by omega)]); (first | done | rfl | exact tmn t ht), ?_, ?_, ?_, ?_, hLk, Cq.own q2, rfl⟩ <;> simp [t8, t9, t20, t21]
    clear t8 tmn t9 t20 t21 hcc hLk
    rintro S ⟨tm, e, L, n2, q2, cqc, xr, t8, tmn, t9, t20, t21, t22, ⟨hL, hLs, hq2⟩, hQ, rfl⟩
    refine w_cut2 (MdO0 l cn cq x up wr add by9 M k L n2 cqc xr) ?_ ?_
    · cases L with
      | nil =>
        simp -implicitDefEqProofs [a3on, pl]
        refine ⟨_, _, Rp.z, .s (.slice none 0 0), ?_, fun t ht => by (try simp only [tmL, upd]); (repeat rw [if_neg (by omega)]); (first | done | rfl | exact tmn t ht), ?_, ?_, ?_, ?_, z_sm, .inr ⟨rfl, 4, rfl⟩, rfl⟩ <;> simp [t8, t9, t20, t21, t22]
      | cons y L =>
        have hy := hLs y (by simp)
        have h0 : (0 : Int) < ((L.length : Int) + 1) := by omega
        simp -implicitDefEqProofs [a3on, pl, h0, Rp.v, t22, tmn]
        refine ⟨_, _, y, .list 4 (rl y.cat), ?_, fun t ht => by (try simp only [tmL, upd]); (repeat rw [if_neg (by omega)]); (first | done | rfl | exact tmn t ht), ?_, ?_, ?_, ?_, hy, .inl rfl, rfl⟩ <;> simp [t8, t9, t20, t21, t22]
    clear t8 tmn t9 t20 t21 t22
    rintro S ⟨tm, e, one, c1, t8, tmn, t9, t20, t21, t22, h1, hcn, rfl⟩
    have d9 := made_pc wr
    have h2 := made_sm wr
    generalize made wr = two at d9 h2
    have d12 := Newest_pc L hL hLs
    have d13 := rNewest_pc L hL hLs
    have d14 := Change_pc one add xr h1
    have d15 := rChange_pc one add xr h1
    have d16 := Accept_pc one two h1 h2
    have d17 := rAccept_pc one two h1 h2
    have dN := rSame_pc (nwR L) (nwR L) (nwR_sm hLs)
    have dC := rSame_pc (chgR one add xr) (chgR one add xr) (chgR_sm _ _ _)
    have dA := rSame_pc (accR one two) (accR one two) (accR_sm h1 h2)
    have d19 := rpValid_pc one h1
    have d20 := rrpValid_pc one h1
    have d21 := Read_pc L n2 q2 up hL hLs hq2
    have d22 := rRead_pc L n2 q2 up hL hLs hq2
    have d23 := Write_pc L n2 q2 wr two hL hLs hq2 h2
    have d24 := rWrite_pc L n2 q2 wr two hL hLs hq2 h2
    have d25 := Update_pc L n2 q2 up wr add xr hL hLs hq2
    have d26 := rUpdate_pc L n2 q2 up wr add xr hL hLs hq2
    have dR := rSame_pc (rdR L n2 q2 up) (rdR L n2 q2 up) (rdR_sm hLs)
    have w1 := wrR_ok (n := n2) (q := q2) (up := wr) hLs hL h2
    have w2 := upR_ok (n := n2) (q := q2) (rd := up) (wr := wr) (add := add) (x := xr) hLs hL
    have dW := SameList_pc (wrR L n2 q2 wr two) (wrR L n2 q2 wr two) w1.1 w1.2
    have dU := SameList_pc (upR L n2 q2 up wr add xr) (upR L n2 q2 up wr add xr) w2.1 w2.2
    simp only [decide_true] at dN dC dA dR dW dU
    clear w1 w2 h1 h2 hL hLs hq2 hl hs hMs
    generalize nwR L = R1 at *
    generalize nwE L = E1 at *
    generalize chgR one add xr = R2 at *
    generalize chgE one add xr = E2 at *
    generalize accR one two = R3 at *
    generalize accE one two = E3 at *
    generalize rpOk one = B1 at *
    generalize rdR L n2 q2 up = R4 at *
    generalize rdE L n2 q2 up = E4 at *
    generalize wrR L n2 q2 wr two = R5 at *
    generalize wrE L n2 q2 wr two = E5 at *
    generalize upR L n2 q2 up wr add xr = R6 at *
    generalize upE L n2 q2 up wr add xr = E6 at *
    rcases hcn with hc1 | ⟨hc1, z0, hz0⟩
    · subst hc1
      simp -implicitDefEqProofs [t8, t9, t20, t21, t22, tmn, -isLent, -seenL, sn_s, sn_l, sn_a, isLent_s, isLent_l, isLent_o, ↓hQ.seen, ↓hQ.know, ↓hQ.lent]
      refine wk_take ?_
      simp -implicitDefEqProofs
      refine wc_of d9 (by simp [Rp.v, Rs.v, cP]) (by simp [Rp.v, Rs.v, cP]) ?_
      rintro _ rfl
      simp -implicitDefEqProofs [Rp.v, Rs.v, cP, -isLent, -seenL, sn_s, sn_l, sn_a, isLent_s, isLent_l, isLent_o, ↓hQ.seen, ↓hQ.know, ↓hQ.lent, t8, t9, t20, t21, t22, tmn]
      refine wk_take ?_
      simp -implicitDefEqProofs
      refine wc_of d12 (by simp [Rp.v, Rs.v, cP]) (by simp [Rp.v, Rs.v, cP]) ?_
      rintro _ rfl
      simp -implicitDefEqProofs [Rp.v, Rs.v, cP, -isLent, -seenL, sn_s, sn_l, sn_a, isLent_s, isLent_l, isLent_o, ↓hQ.seen, ↓hQ.know, ↓hQ.lent, t8, t9, t20, t21, t22, tmn]
      refine wk_take ?_
      simp -implicitDefEqProofs
      refine wc_of d13 (by simp [Rp.v, Rs.v, cP]) (by simp [Rp.v, Rs.v, cP]) ?_
      rintro _ rfl
      simp -implicitDefEqProofs [Rp.v, Rs.v, cP, -isLent, -seenL, sn_s, sn_l, sn_a, isLent_s, isLent_l, isLent_o, ↓hQ.seen, ↓hQ.know, ↓hQ.lent, t8, t9, t20, t21, t22, tmn]
      refine wk_take ?_
      simp -implicitDefEqProofs
      refine wc_of d14 (by simp [Rp.v, Rs.v, cP]) (by simp [Rp.v, Rs.v, cP]) ?_
      rintro _ rfl
      simp -implicitDefEqProofs [Rp.v, Rs.v, cP, -isLent, -seenL, sn_s, sn_l, sn_a, isLent_s, isLent_l, isLent_o, ↓hQ.seen, ↓hQ.know, ↓hQ.lent, t8, t9, t20, t21, t22, tmn]
      refine wk_take ?_
      simp -implicitDefEqProofs
      refine wc_of d15 (by simp [Rp.v, Rs.v, cP]) (by simp [Rp.v, Rs.v, cP]) ?_
      rintro _ rfl
      simp -implicitDefEqProofs [Rp.v, Rs.v, cP, -isLent, -seenL, sn_s, sn_l, sn_a, isLent_s, isLent_l, isLent_o, ↓hQ.seen, ↓hQ.know, ↓hQ.lent, t8, t9, t20, t21, t22, tmn]
      refine wk_take ?_
      simp -implicitDefEqProofs
      refine wc_of d16 (by simp [Rp.v, Rs.v, cP]) (by simp [Rp.v, Rs.v, cP]) ?_
      rintro _ rfl
      simp -implicitDefEqProofs [Rp.v, Rs.v, cP, -isLent, -seenL, sn_s, sn_l, sn_a, isLent_s, isLent_l, isLent_o, ↓hQ.seen, ↓hQ.know, ↓hQ.lent, t8, t9, t20, t21, t22, tmn]
      refine wk_take ?_
      simp -implicitDefEqProofs
      refine wc_of d17 (by simp [Rp.v, Rs.v, cP]) (by simp [Rp.v, Rs.v, cP]) ?_
      rintro _ rfl
      simp -implicitDefEqProofs [Rp.v, Rs.v, cP, -isLent, -seenL, sn_s, sn_l, sn_a, isLent_s, isLent_l, isLent_o, ↓hQ.seen, ↓hQ.know, ↓hQ.lent, t8, t9, t20, t21, t22, tmn]
      refine wkd_take ?_
      simp -implicitDefEqProofs
      refine wcd_of dN (by simp [Rp.v, Rs.v, cP]) (by simp [Rp.v, Rs.v, cP]) ?_
      simp -implicitDefEqProofs [Rp.v, Rs.v, cP, -isLent, -seenL, sn_s, sn_l, sn_a, isLent_s, isLent_l, isLent_o, ↓hQ.seen, ↓hQ.know, ↓hQ.lent, t8, t9, t20, t21, t22, tmn]
      refine wkd_take ?_
      simp -implicitDefEqProofs
      refine wcd_of dC (by simp [Rp.v, Rs.v, cP]) (by simp [Rp.v, Rs.v, cP]) ?_
      simp -implicitDefEqProofs [Rp.v, Rs.v, cP, -isLent, -seenL, sn_s, sn_l, sn_a, isLent_s, isLent_l, isLent_o, ↓hQ.seen, ↓hQ.know, ↓hQ.lent, t8, t9, t20, t21, t22, tmn]
      refine wkd_take ?_
      simp -implicitDefEqProofs
      refine wcd_of dA (by simp [Rp.v, Rs.v, cP]) (by simp [Rp.v, Rs.v, cP]) ?_
      simp -implicitDefEqProofs [Rp.v, Rs.v, cP, -isLent, -seenL, sn_s, sn_l, sn_a, isLent_s, isLent_l, isLent_o, ↓hQ.seen, ↓hQ.know, ↓hQ.lent, t8, t9, t20, t21, t22, tmn]
      refine wkd_take ?_
      simp -implicitDefEqProofs
      refine wcd_of d19 (by simp [Rp.v, Rs.v, cP]) (by simp [Rp.v, Rs.v, cP]) ?_
      simp -implicitDefEqProofs [Rp.v, Rs.v, cP, -isLent, -seenL, sn_s, sn_l, sn_a, isLent_s, isLent_l, isLent_o, ↓hQ.seen, ↓hQ.know, ↓hQ.lent, t8, t9, t20, t21, t22, tmn]
      refine wkd_take ?_
      simp -implicitDefEqProofs
      refine wcd_of d20 (by simp [Rp.v, Rs.v, cP]) (by simp [Rp.v, Rs.v, cP]) ?_
      simp -implicitDefEqProofs [Rp.v, Rs.v, cP, -isLent, -seenL, sn_s, sn_l, sn_a, isLent_s, isLent_l, isLent_o, ↓hQ.seen, ↓hQ.know, ↓hQ.lent, t8, t9, t20, t21, t22, tmn]
      refine wk_take ?_
      simp -implicitDefEqProofs
      refine wc_of d21 (by simp [Rp.v, Rs.v, cP]) (by simp [Rp.v, Rs.v, cP]) ?_
      rintro _ rfl
      simp -implicitDefEqProofs [Rp.v, Rs.v, cP, -isLent, -seenL, sn_s, sn_l, sn_a, isLent_s, isLent_l, isLent_o, ↓hQ.seen, ↓hQ.know, ↓hQ.lent, t8, t9, t20, t21, t22, tmn]
      refine wk_take ?_
      simp -implicitDefEqProofs
      refine wc_of d22 (by simp [Rp.v, Rs.v, cP]) (by simp [Rp.v, Rs.v, cP]) ?_
      rintro _ rfl
      simp -implicitDefEqProofs [Rp.v, Rs.v, cP, -isLent, -seenL, sn_s, sn_l, sn_a, isLent_s, isLent_l, isLent_o, ↓hQ.seen, ↓hQ.know, ↓hQ.lent, t8, t9, t20, t21, t22, tmn]
      refine wk_take ?_
      simp -implicitDefEqProofs
      refine wc_of d23 (by simp [Rp.v, Rs.v, cP]) (by simp [Rp.v, Rs.v, cP]) ?_
      rintro _ rfl
      simp -implicitDefEqProofs [Rp.v, Rs.v, cP, -isLent, -seenL, sn_s, sn_l, sn_a, isLent_s, isLent_l, isLent_o, ↓hQ.seen, ↓hQ.know, ↓hQ.lent, t8, t9, t20, t21, t22, tmn]
      refine wk_take ?_
      simp -implicitDefEqProofs
      refine wc_of d24 (by simp [Rp.v, Rs.v, cP]) (by simp [Rp.v, Rs.v, cP]) ?_
      rintro _ rfl
      simp -implicitDefEqProofs [Rp.v, Rs.v, cP, -isLent, -seenL, sn_s, sn_l, sn_a, isLent_s, isLent_l, isLent_o, ↓hQ.seen, ↓hQ.know, ↓hQ.lent, t8, t9, t20, t21, t22, tmn]
      refine wk_take ?_
      simp -implicitDefEqProofs
      refine wc_of d25 (by simp [Rp.v, Rs.v, cP]) (by simp [Rp.v, Rs.v, cP]) ?_
      rintro _ rfl
      simp -implicitDefEqProofs [Rp.v, Rs.v, cP, -isLent, -seenL, sn_s, sn_l, sn_a, isLent_s, isLent_l, isLent_o, ↓hQ.seen, ↓hQ.know, ↓hQ.lent, t8, t9, t20, t21, t22, tmn]
      refine wk_take ?_
      simp -implicitDefEqProofs
      refine wc_of d26 (by simp [Rp.v, Rs.v, cP]) (by simp [Rp.v, Rs.v, cP]) ?_
      rintro _ rfl
      simp -implicitDefEqProofs [Rp.v, Rs.v, cP, -isLent, -seenL, sn_s, sn_l, sn_a, isLent_s, isLent_l, isLent_o, ↓hQ.seen, ↓hQ.know, ↓hQ.lent, t8, t9, t20, t21, t22, tmn]
      refine wk_take ?_
      simp -implicitDefEqProofs
      refine wc_of dR (by simp [Rp.v, Rs.v, cP]) (by simp [Rp.v, Rs.v, cP]) ?_
      rintro _ rfl
      simp -implicitDefEqProofs [Rp.v, Rs.v, cP, -isLent, -seenL, sn_s, sn_l, sn_a, isLent_s, isLent_l, isLent_o, ↓hQ.seen, ↓hQ.know, ↓hQ.lent, t8, t9, t20, t21, t22, tmn]
      refine wk_take ?_
      simp -implicitDefEqProofs
      refine wc_of dW (by simp [Rp.v, Rs.v, cP]) (by simp [Rp.v, Rs.v, cP]) ?_
      rintro _ rfl
      simp -implicitDefEqProofs [Rp.v, Rs.v, cP, -isLent, -seenL, sn_s, sn_l, sn_a, isLent_s, isLent_l, isLent_o, ↓hQ.seen, ↓hQ.know, ↓hQ.lent, t8, t9, t20, t21, t22, tmn]
      refine wk_take ?_
      simp -implicitDefEqProofs
      refine wc_of dU (by simp [Rp.v, Rs.v, cP]) (by simp [Rp.v, Rs.v, cP]) ?_
      rintro _ rfl
      simp -implicitDefEqProofs [Rp.v, Rs.v, cP, -isLent, -seenL, sn_s, sn_l, sn_a, isLent_s, isLent_l, isLent_o, ↓hQ.seen, ↓hQ.know, ↓hQ.lent, t8, t9, t20, t21, t22, tmn, hwk]
      exact ⟨m2 - 1, by omega, k + 1, by omega, by simp [t8, t9, cP, Rs.v]⟩
    · subst hc1
      have hcz : rl one.cat = [] := by injection hz0
      simp -implicitDefEqProofs [t8, t9, t20, t21, t22, tmn, -isLent, -seenL, sn_s, sn_l, sn_a, isLent_s, isLent_l, isLent_o, ↓hQ.seen, ↓hQ.know, ↓hQ.lent]
      refine wk_take ?_
      simp -implicitDefEqProofs
      refine wc_of d9 (by simp [Rp.v, Rs.v, cP]) (by simp [Rp.v, Rs.v, cP]) ?_
      rintro _ rfl
      simp -implicitDefEqProofs [Rp.v, Rs.v, cP, -isLent, -seenL, sn_s, sn_l, sn_a, isLent_s, isLent_l, isLent_o, ↓hQ.seen, ↓hQ.know, ↓hQ.lent, t8, t9, t20, t21, t22, tmn]
      refine wk_take ?_
      simp -implicitDefEqProofs
      refine wc_of d12 (by simp [Rp.v, Rs.v, cP]) (by simp [Rp.v, Rs.v, cP]) ?_
      rintro _ rfl
      simp -implicitDefEqProofs [Rp.v, Rs.v, cP, -isLent, -seenL, sn_s, sn_l, sn_a, isLent_s, isLent_l, isLent_o, ↓hQ.seen, ↓hQ.know, ↓hQ.lent, t8, t9, t20, t21, t22, tmn]
      refine wk_take ?_
      simp -implicitDefEqProofs
      refine wc_of d13 (by simp [Rp.v, Rs.v, cP]) (by simp [Rp.v, Rs.v, cP]) ?_
      rintro _ rfl
      simp -implicitDefEqProofs [Rp.v, Rs.v, cP, -isLent, -seenL, sn_s, sn_l, sn_a, isLent_s, isLent_l, isLent_o, ↓hQ.seen, ↓hQ.know, ↓hQ.lent, t8, t9, t20, t21, t22, tmn]
      refine wk_take ?_
      simp -implicitDefEqProofs
      refine wc_nil d14 ?_ ?_ ?_ ?_
      · simp [Rp.v, Rs.v, nilAs, nilA, nilLs, nilL, hcz]
      · simp [Rp.v, Rs.v, immA, immC]
      · simp [immA, immC]
      rintro _ rfl
      simp -implicitDefEqProofs [Rp.v, Rs.v, cP, -isLent, -seenL, sn_s, sn_l, sn_a, isLent_s, isLent_l, isLent_o, ↓hQ.seen, ↓hQ.know, ↓hQ.lent, t8, t9, t20, t21, t22, tmn]
      refine wk_take ?_
      simp -implicitDefEqProofs
      refine wc_nil d15 ?_ ?_ ?_ ?_
      · simp [Rp.v, Rs.v, nilAs, nilA, nilLs, nilL, hcz]
      · simp [Rp.v, Rs.v, immA, immC]
      · simp [immA, immC]
      rintro _ rfl
      simp -implicitDefEqProofs [Rp.v, Rs.v, cP, -isLent, -seenL, sn_s, sn_l, sn_a, isLent_s, isLent_l, isLent_o, ↓hQ.seen, ↓hQ.know, ↓hQ.lent, t8, t9, t20, t21, t22, tmn]
      refine wk_take ?_
      simp -implicitDefEqProofs
      refine wc_nil d16 ?_ ?_ ?_ ?_
      · simp [Rp.v, Rs.v, nilAs, nilA, nilLs, nilL, hcz]
      · simp [Rp.v, Rs.v, immA, immC]
      · simp [immA, immC]
      rintro _ rfl
      simp -implicitDefEqProofs [Rp.v, Rs.v, cP, -isLent, -seenL, sn_s, sn_l, sn_a, isLent_s, isLent_l, isLent_o, ↓hQ.seen, ↓hQ.know, ↓hQ.lent, t8, t9, t20, t21, t22, tmn]
      refine wk_take ?_
      simp -implicitDefEqProofs
      refine wc_nil d17 ?_ ?_ ?_ ?_
      · simp [Rp.v, Rs.v, nilAs, nilA, nilLs, nilL, hcz]
      · simp [Rp.v, Rs.v, immA, immC]
      · simp [immA, immC]
      rintro _ rfl
      simp -implicitDefEqProofs [Rp.v, Rs.v, cP, -isLent, -seenL, sn_s, sn_l, sn_a, isLent_s, isLent_l, isLent_o, ↓hQ.seen, ↓hQ.know, ↓hQ.lent, t8, t9, t20, t21, t22, tmn]
      refine wkd_take ?_
      simp -implicitDefEqProofs
      refine wcd_of dN (by simp [Rp.v, Rs.v, cP]) (by simp [Rp.v, Rs.v, cP]) ?_
      simp -implicitDefEqProofs [Rp.v, Rs.v, cP, -isLent, -seenL, sn_s, sn_l, sn_a, isLent_s, isLent_l, isLent_o, ↓hQ.seen, ↓hQ.know, ↓hQ.lent, t8, t9, t20, t21, t22, tmn]
      refine wkd_take ?_
      simp -implicitDefEqProofs
      refine wcd_of dC (by simp [Rp.v, Rs.v, cP]) (by simp [Rp.v, Rs.v, cP]) ?_
      simp -implicitDefEqProofs [Rp.v, Rs.v, cP, -isLent, -seenL, sn_s, sn_l, sn_a, isLent_s, isLent_l, isLent_o, ↓hQ.seen, ↓hQ.know, ↓hQ.lent, t8, t9, t20, t21, t22, tmn]
      refine wkd_take ?_
      simp -implicitDefEqProofs
      refine wcd_of dA (by simp [Rp.v, Rs.v, cP]) (by simp [Rp.v, Rs.v, cP]) ?_
      simp -implicitDefEqProofs [Rp.v, Rs.v, cP, -isLent, -seenL, sn_s, sn_l, sn_a, isLent_s, isLent_l, isLent_o, ↓hQ.seen, ↓hQ.know, ↓hQ.lent, t8, t9, t20, t21, t22, tmn]
      refine wkd_take ?_
      simp -implicitDefEqProofs
      refine wcd_nil d19 ?_ ?_ ?_ ?_
      · simp [Rp.v, Rs.v, nilAs, nilA, nilLs, nilL, hcz]
      · simp [Rp.v, Rs.v, immA, immC]
      · simp [immA, immC]
      simp -implicitDefEqProofs [Rp.v, Rs.v, cP, -isLent, -seenL, sn_s, sn_l, sn_a, isLent_s, isLent_l, isLent_o, ↓hQ.seen, ↓hQ.know, ↓hQ.lent, t8, t9, t20, t21, t22, tmn]
      refine wkd_take ?_
      simp -implicitDefEqProofs
      refine wcd_nil d20 ?_ ?_ ?_ ?_
      · simp [Rp.v, Rs.v, nilAs, nilA, nilLs, nilL, hcz]
      · simp [Rp.v, Rs.v, immA, immC]
      · simp [immA, immC]
      simp -implicitDefEqProofs [Rp.v, Rs.v, cP, -isLent, -seenL, sn_s, sn_l, sn_a, isLent_s, isLent_l, isLent_o, ↓hQ.seen, ↓hQ.know, ↓hQ.lent, t8, t9, t20, t21, t22, tmn]
      refine wk_take ?_
      simp -implicitDefEqProofs
      refine wc_of d21 (by simp [Rp.v, Rs.v, cP]) (by simp [Rp.v, Rs.v, cP]) ?_
      rintro _ rfl
      simp -implicitDefEqProofs [Rp.v, Rs.v, cP, -isLent, -seenL, sn_s, sn_l, sn_a, isLent_s, isLent_l, isLent_o, ↓hQ.seen, ↓hQ.know, ↓hQ.lent, t8, t9, t20, t21, t22, tmn]
      refine wk_take ?_
      simp -implicitDefEqProofs
      refine wc_of d22 (by simp [Rp.v, Rs.v, cP]) (by simp [Rp.v, Rs.v, cP]) ?_
      rintro _ rfl
      simp -implicitDefEqProofs [Rp.v, Rs.v, cP, -isLent, -seenL, sn_s, sn_l, sn_a, isLent_s, isLent_l, isLent_o, ↓hQ.seen, ↓hQ.know, ↓hQ.lent, t8, t9, t20, t21, t22, tmn]
      refine wk_take ?_
      simp -implicitDefEqProofs
      refine wc_of d23 (by simp [Rp.v, Rs.v, cP]) (by simp [Rp.v, Rs.v, cP]) ?_
      rintro _ rfl
      simp -implicitDefEqProofs [Rp.v, Rs.v, cP, -isLent, -seenL, sn_s, sn_l, sn_a, isLent_s, isLent_l, isLent_o, ↓hQ.seen, ↓hQ.know, ↓hQ.lent, t8, t9, t20, t21, t22, tmn]
      refine wk_take ?_
      simp -implicitDefEqProofs
      refine wc_of d24 (by simp [Rp.v, Rs.v, cP]) (by simp [Rp.v, Rs.v, cP]) ?_
      rintro _ rfl
      simp -implicitDefEqProofs [Rp.v, Rs.v, cP, -isLent, -seenL, sn_s, sn_l, sn_a, isLent_s, isLent_l, isLent_o, ↓hQ.seen, ↓hQ.know, ↓hQ.lent, t8, t9, t20, t21, t22, tmn]
      refine wk_take ?_
      simp -implicitDefEqProofs
      refine wc_of d25 (by simp [Rp.v, Rs.v, cP]) (by simp [Rp.v, Rs.v, cP]) ?_
      rintro _ rfl
      simp -implicitDefEqProofs [Rp.v, Rs.v, cP, -isLent, -seenL, sn_s, sn_l, sn_a, isLent_s, isLent_l, isLent_o, ↓hQ.seen, ↓hQ.know, ↓hQ.lent, t8, t9, t20, t21, t22, tmn]
      refine wk_take ?_
      simp -implicitDefEqProofs
      refine wc_of d26 (by simp [Rp.v, Rs.v, cP]) (by simp [Rp.v, Rs.v, cP]) ?_
      rintro _ rfl
      simp -implicitDefEqProofs [Rp.v, Rs.v, cP, -isLent, -seenL, sn_s, sn_l, sn_a, isLent_s, isLent_l, isLent_o, ↓hQ.seen, ↓hQ.know, ↓hQ.lent, t8, t9, t20, t21, t22, tmn]
      refine wk_take ?_
      simp -implicitDefEqProofs
      refine wc_of dR (by simp [Rp.v, Rs.v, cP]) (by simp [Rp.v, Rs.v, cP]) ?_
      rintro _ rfl
      simp -implicitDefEqProofs [Rp.v, Rs.v, cP, -isLent, -seenL, sn_s, sn_l, sn_a, isLent_s, isLent_l, isLent_o, ↓hQ.seen, ↓hQ.know, ↓hQ.lent, t8, t9, t20, t21, t22, tmn]
      refine wk_take ?_
      simp -implicitDefEqProofs
      refine wc_of dW (by simp [Rp.v, Rs.v, cP]) (by simp [Rp.v, Rs.v, cP]) ?_
      rintro _ rfl
      simp -implicitDefEqProofs [Rp.v, Rs.v, cP, -isLent, -seenL, sn_s, sn_l, sn_a, isLent_s, isLent_l, isLent_o, ↓hQ.seen, ↓hQ.know, ↓hQ.lent, t8, t9, t20, t21, t22, tmn]
      refine wk_take ?_
      simp -implicitDefEqProofs
      refine wc_of dU (by simp [Rp.v, Rs.v, cP]) (by simp [Rp.v, Rs.v, cP]) ?_
      rintro _ rfl
      simp -implicitDefEqProofs [Rp.v, Rs.v, cP, -isLent, -seenL, sn_s, sn_l, sn_a, isLent_s, isLent_l, isLent_o, ↓hQ.seen, ↓hQ.know, ↓hQ.lent, t8, t9, t20, t21, t22, tmn, hwk]
      exact ⟨m2 - 1, by omega, k + 1, by omega, by simp [t8, t9, cP, Rs.v]⟩
  · refine wnm_perm [0, 1, 2, 4, 3, 5, 6, 7] ⟨[8, 9], [], [], [(5, 8, 1), (5, 9, 2), (6, 9, 2)]⟩ (by kernel_rfl) (by kernel_rfl) ?_
    simp -implicitDefEqProofs [permL, cP, Rs.v]
    refine w_cut (MdK1 l cn cq x up wr add by9 M k) ?_ ?_
    · cases hk1 : ((k : Int) == 1)
      · simp -implicitDefEqProofs [a3md, hk1]
        refine ⟨_, _, l, cn, cq, .list 1 (iv cq), x, ?_, fun t ht => by (try simp only [tmL, upd]); (repeat rw [if_neg (by omega)]); (first | done | rfl | exact tmn t ht), ?_, ?_, ?_, ⟨hl, hs, hcq⟩, .inl rfl, rfl⟩ <;> simp
      · simp -implicitDefEqProofs [a3md, hk1]
        refine wk_take ?_
        simp -implicitDefEqProofs
        refine wc_of cMd (by simp) (by simp) ?_
        rintro _ rfl
        simp -implicitDefEqProofs [hj0, hj3, hget]
        refine wk_take ?_
        simp -implicitDefEqProofs
        refine wc_of cK (by simp) (by simp) ?_
        rintro _ rfl
        simp -implicitDefEqProofs [Rs.v]
        refine ⟨_, _, M, 3, e3, .own true 3 1 (iv e3), lk nm, ?_, fun t ht => by (try simp only [tmL, upd]); (repeat rw [if_neg (by omega)]); (first | done | rfl | exact tmn t ht), ?_, ?_, ?_, ⟨hM1, hMs, by decide⟩, .inr rfl, rfl⟩ <;> simp
    rintro S ⟨tm, e, L, n2, q2, cqc, xr, t8, tmn, t9, t20, t21, hLk, hcc, rfl⟩
    refine w_cut2 (MdL1 l cn cq x up wr add by9 M k) ?_ ?_
    · rcases hcc with rfl | rfl
      · simp -implicitDefEqProofs
        refine ⟨_, _, L, n2, q2, _, xr, ?_, fun t ht => by (try simp only [tmL, upd]); (repeat rw [if_neg (by omega)]); (first | done | rfl | exact tmn t ht), ?_, ?_, ?_, ?_, hLk, Cq.list q2, rfl⟩ <;> simp [t8, t9, t20, t21]
      · simp -implicitDefEqProofs
        refine ⟨_, _, L, n2, q2, _, xr, ?_, fun t ht => by (try simp only [tmL, upd]); (repeat rw [if_neg (by omega)]); (first | done | rfl | exact tmn t ht), ?_, ?_, ?_, ?_, hLk, Cq.own q2, rfl⟩ <;> simp [t8, t9, t20, t21]
    clear t8 tmn t9 t20 t21 hcc hLk
    rintro S ⟨tm, e, L, n2, q2, cqc, xr, t8, tmn, t9, t20, t21, t22, ⟨hL, hLs, hq2⟩, hQ, rfl⟩
    refine w_cut2 (MdO1 l cn cq x up wr add by9 M k L n2 cqc xr) ?_ ?_
    · cases L with
      | nil =>
        simp -implicitDefEqProofs [a3on, pl]
        refine ⟨_, _, Rp.z, .s (.slice none 0 0), ?_, fun t ht => by (try simp only [tmL, upd]); (repeat rw [if_neg (by omega)]); (first | done | rfl | exact tmn t ht), ?_, ?_, ?_, ?_, z_sm, .inr ⟨rfl, 4, rfl⟩, rfl⟩ <;> simp [t8, t9, t20, t21, t22]
      | cons y L =>
        have hy := hLs y (by simp)
        have h0 : (0 : Int) < ((L.length : Int) + 1) := by omega
        simp -implicitDefEqProofs [a3on, pl, h0, Rp.v, t22, tmn]
        refine ⟨_, _, y, .list 4 (rl y.cat), ?_, fun t ht => by (try simp only [tmL, upd]); (repeat rw [if_neg (by omega)]); (first | done | rfl | exact tmn t ht), ?_, ?_, ?_, ?_, hy, .inl rfl, rfl⟩ <;> simp [t8, t9, t20, t21, t22]
    clear t8 tmn t9 t20 t21 t22
    rintro S ⟨tm, e, one, c1, t8, tmn, t9, t20, t21, t22, h1, hcn, rfl⟩
    have d9 := made_pc wr
    have h2 := made_sm wr
    generalize made wr = two at d9 h2
    have d12 := Newest_pc L hL hLs
    have d13 := rNewest_pc L hL hLs
    have d14 := Change_pc one add xr h1
    have d15 := rChange_pc one add xr h1
    have d16 := Accept_pc one two h1 h2
    have d17 := rAccept_pc one two h1 h2
    have dN := rSame_pc (nwR L) (nwR L) (nwR_sm hLs)
    have dC := rSame_pc (chgR one add xr) (chgR one add xr) (chgR_sm _ _ _)
    have dA := rSame_pc (accR one two) (accR one two) (accR_sm h1 h2)
    have d19 := rpValid_pc one h1
    have d20 := rrpValid_pc one h1
    have d21 := Read_pc L n2 q2 up hL hLs hq2
    have d22 := rRead_pc L n2 q2 up hL hLs hq2
    have d23 := Write_pc L n2 q2 wr two hL hLs hq2 h2
    have d24 := rWrite_pc L n2 q2 wr two hL hLs hq2 h2
    have d25 := Update_pc L n2 q2 up wr add xr hL hLs hq2
    have d26 := rUpdate_pc L n2 q2 up wr add xr hL hLs hq2
    have dR := rSame_pc (rdR L n2 q2 up) (rdR L n2 q2 up) (rdR_sm hLs)
    have w1 := wrR_ok (n := n2) (q := q2) (up := wr) hLs hL h2
    have w2 := upR_ok (n := n2) (q := q2) (rd := up) (wr := wr) (add := add) (x := xr) hLs hL
    have dW := SameList_pc (wrR L n2 q2 wr two) (wrR L n2 q2 wr two) w1.1 w1.2
    have dU := SameList_pc (upR L n2 q2 up wr add xr) (upR L n2 q2 up wr add xr) w2.1 w2.2
    simp only [decide_true] at dN dC dA dR dW dU
    clear w1 w2 h1 h2 hL hLs hq2 hl hs hMs
    generalize nwR L = R1 at *
    generalize nwE L = E1 at *
    generalize chgR one add xr = R2 at *
    generalize chgE one add xr = E2 at *
    generalize accR one two = R3 at *
    generalize accE one two = E3 at *
    generalize rpOk one = B1 at *
    generalize rdR L n2 q2 up = R4 at *
    generalize rdE L n2 q2 up = E4 at *
    generalize wrR L n2 q2 wr two = R5 at *
    generalize wrE L n2 q2 wr two = E5 at *
    generalize upR L n2 q2 up wr add xr = R6 at *
    generalize upE L n2 q2 up wr add xr = E6 at *
    rcases hcn with hc1 | ⟨hc1, z0, hz0⟩
    · subst hc1
      simp -implicitDefEqProofs [t8, t9, t20, t21, t22, tmn, -isLent, -seenL, sn_s, sn_l, sn_a, isLent_s, isLent_l, isLent_o, ↓hQ.seen, ↓hQ.know, ↓hQ.lent]
      refine wk_take ?_
      simp -implicitDefEqProofs
      refine wc_of d9 (by simp [Rp.v, Rs.v, cP]) (by simp [Rp.v, Rs.v, cP]) ?_
      rintro _ rfl
      simp -implicitDefEqProofs [Rp.v, Rs.v, cP, -isLent, -seenL, sn_s, sn_l, sn_a, isLent_s, isLent_l, isLent_o, ↓hQ.seen, ↓hQ.know, ↓hQ.lent, t8, t9, t20, t21, t22, tmn]
      refine wk_take ?_
      simp -implicitDefEqProofs
      refine wc_of d12 (by simp [Rp.v, Rs.v, cP]) (by simp [Rp.v, Rs.v, cP]) ?_
      rintro _ rfl
      simp -implicitDefEqProofs [Rp.v, Rs.v, cP, -isLent, -seenL, sn_s, sn_l, sn_a, isLent_s, isLent_l, isLent_o, ↓hQ.seen, ↓hQ.know, ↓hQ.lent, t8, t9, t20, t21, t22, tmn]
      refine wk_take ?_
      simp -implicitDefEqProofs
      refine wc_of d13 (by simp [Rp.v, Rs.v, cP]) (by simp [Rp.v, Rs.v, cP]) ?_
      rintro _ rfl
      simp -implicitDefEqProofs [Rp.v, Rs.v, cP, -isLent, -seenL, sn_s, sn_l, sn_a, isLent_s, isLent_l, isLent_o, ↓hQ.seen, ↓hQ.know, ↓hQ.lent, t8, t9, t20, t21, t22, tmn]
      refine wk_take ?_
      simp -implicitDefEqProofs
      refine wc_of d14 (by simp [Rp.v, Rs.v, cP]) (by simp [Rp.v, Rs.v, cP]) ?_
      rintro _ rfl
      simp -implicitDefEqProofs [Rp.v, Rs.v, cP, -isLent, -seenL, sn_s, sn_l, sn_a, isLent_s, isLent_l, isLent_o, ↓hQ.seen, ↓hQ.know, ↓hQ.lent, t8, t9, t20, t21, t22, tmn]
      refine wk_take ?_
      simp -implicitDefEqProofs
      refine wc_of d15 (by simp [Rp.v, Rs.v, cP]) (by simp [Rp.v, Rs.v, cP]) ?_
      rintro _ rfl
      simp -implicitDefEqProofs [Rp.v, Rs.v, cP, -isLent, -seenL, sn_s, sn_l, sn_a, isLent_s, isLent_l, isLent_o, ↓hQ.seen, ↓hQ.know, ↓hQ.lent, t8, t9, t20, t21, t22, tmn]
      refine wk_take ?_
      simp -implicitDefEqProofs
      refine wc_of d16 (by simp [Rp.v, Rs.v, cP]) (by simp [Rp.v, Rs.v, cP]) ?_
      rintro _ rfl
      simp -implicitDefEqProofs [Rp.v, Rs.v, cP, -isLent, -seenL, sn_s, sn_l, sn_a, isLent_s, isLent_l, isLent_o, ↓hQ.seen, ↓hQ.know, ↓hQ.lent, t8, t9, t20, t21, t22, tmn]
      refine wk_take ?_
      simp -implicitDefEqProofs
      refine wc_of d17 (by simp [Rp.v, Rs.v, cP]) (by simp [Rp.v, Rs.v, cP]) ?_
      rintro _ rfl
      simp -implicitDefEqProofs [Rp.v, Rs.v, cP, -isLent, -seenL, sn_s, sn_l, sn_a, isLent_s, isLent_l, isLent_o, ↓hQ.seen, ↓hQ.know, ↓hQ.lent, t8, t9, t20, t21, t22, tmn]
      refine wkd_take ?_
      simp -implicitDefEqProofs
      refine wcd_of dN (by simp [Rp.v, Rs.v, cP]) (by simp [Rp.v, Rs.v, cP]) ?_
      simp -implicitDefEqProofs [Rp.v, Rs.v, cP, -isLent, -seenL, sn_s, sn_l, sn_a, isLent_s, isLent_l, isLent_o, ↓hQ.seen, ↓hQ.know, ↓hQ.lent, t8, t9, t20, t21, t22, tmn]
      refine wkd_take ?_
      simp -implicitDefEqProofs
      refine wcd_of dC (by simp [Rp.v, Rs.v, cP]) (by simp [Rp.v, Rs.v, cP]) ?_
      simp -implicitDefEqProofs [Rp.v, Rs.v, cP, -isLent, -seenL, sn_s, sn_l, sn_a, isLent_s, isLent_l, isLent_o, ↓hQ.seen, ↓hQ.know, ↓hQ.lent, t8, t9, t20, t21, t22, tmn]
      refine wkd_take ?_
      simp -implicitDefEqProofs
      refine wcd_of dA (by simp [Rp.v, Rs.v, cP]) (by simp [Rp.v, Rs.v, cP]) ?_
      simp -implicitDefEqProofs [Rp.v, Rs.v, cP, -isLent, -seenL, sn_s, sn_l, sn_a, isLent_s, isLent_l, isLent_o, ↓hQ.seen, ↓hQ.know, ↓hQ.lent, t8, t9, t20, t21, t22, tmn]
      refine wkd_take ?_
      simp -implicitDefEqProofs
      refine wcd_of d19 (by simp [Rp.v, Rs.v, cP]) (by simp [Rp.v, Rs.v, cP]) ?_
      simp -implicitDefEqProofs [Rp.v, Rs.v, cP, -isLent, -seenL, sn_s, sn_l, sn_a, isLent_s, isLent_l, isLent_o, ↓hQ.seen, ↓hQ.know, ↓hQ.lent, t8, t9, t20, t21, t22, tmn]
      refine wkd_take ?_
      simp -implicitDefEqProofs
      refine wcd_of d20 (by simp [Rp.v, Rs.v, cP]) (by simp [Rp.v, Rs.v, cP]) ?_
      simp -implicitDefEqProofs [Rp.v, Rs.v, cP, -isLent, -seenL, sn_s, sn_l, sn_a, isLent_s, isLent_l, isLent_o, ↓hQ.seen, ↓hQ.know, ↓hQ.lent, t8, t9, t20, t21, t22, tmn]
      refine wk_take ?_
      simp -implicitDefEqProofs
      refine wc_of d21 (by simp [Rp.v, Rs.v, cP]) (by simp [Rp.v, Rs.v, cP]) ?_
      rintro _ rfl
      simp -implicitDefEqProofs [Rp.v, Rs.v, cP, -isLent, -seenL, sn_s, sn_l, sn_a, isLent_s, isLent_l, isLent_o, ↓hQ.seen, ↓hQ.know, ↓hQ.lent, t8, t9, t20, t21, t22, tmn]
      refine wk_take ?_
      simp -implicitDefEqProofs
      refine wc_of d22 (by simp [Rp.v, Rs.v, cP]) (by simp [Rp.v, Rs.v, cP]) ?_
      rintro _ rfl
      simp -implicitDefEqProofs [Rp.v, Rs.v, cP, -isLent, -seenL, sn_s, sn_l, sn_a, isLent_s, isLent_l, isLent_o, ↓hQ.seen, ↓hQ.know, ↓hQ.lent, t8, t9, t20, t21, t22, tmn]
      refine wk_take ?_
      simp -implicitDefEqProofs
      refine wc_of d23 (by simp [Rp.v, Rs.v, cP]) (by simp [Rp.v, Rs.v, cP]) ?_
      rintro _ rfl
      simp -implicitDefEqProofs [Rp.v, Rs.v, cP, -isLent, -seenL, sn_s, sn_l, sn_a, isLent_s, isLent_l, isLent_o, ↓hQ.seen, ↓hQ.know, ↓hQ.lent, t8, t9, t20, t21, t22, tmn]
      refine wk_take ?_
      simp -implicitDefEqProofs
      refine wc_of d24 (by simp [Rp.v, Rs.v, cP]) (by simp [Rp.v, Rs.v, cP]) ?_
      rintro _ rfl
      simp -implicitDefEqProofs [Rp.v, Rs.v, cP, -isLent, -seenL, sn_s, sn_l, sn_a, isLent_s, isLent_l, isLent_o, ↓hQ.seen, ↓hQ.know, ↓hQ.lent, t8, t9, t20, t21, t22, tmn]
      refine wk_take ?_
      simp -implicitDefEqProofs
      refine wc_of d25 (by simp [Rp.v, Rs.v, cP]) (by simp [Rp.v, Rs.v, cP]) ?_
      rintro _ rfl
      simp -implicitDefEqProofs [Rp.v, Rs.v, cP, -isLent, -seenL, sn_s, sn_l, sn_a, isLent_s, isLent_l, isLent_o, ↓hQ.seen, ↓hQ.know, ↓hQ.lent, t8, t9, t20, t21, t22, tmn]
      refine wk_take ?_
      simp -implicitDefEqProofs
      refine wc_of d26 (by simp [Rp.v, Rs.v, cP]) (by simp [Rp.v, Rs.v, cP]) ?_
      rintro _ rfl
      simp -implicitDefEqProofs [Rp.v, Rs.v, cP, -isLent, -seenL, sn_s, sn_l, sn_a, isLent_s, isLent_l, isLent_o, ↓hQ.seen, ↓hQ.know, ↓hQ.lent, t8, t9, t20, t21, t22, tmn]
      refine wk_take ?_
      simp -implicitDefEqProofs
      refine wc_of dR (by simp [Rp.v, Rs.v, cP]) (by simp [Rp.v, Rs.v, cP]) ?_
      rintro _ rfl
      simp -implicitDefEqProofs [Rp.v, Rs.v, cP, -isLent, -seenL, sn_s, sn_l, sn_a, isLent_s, isLent_l, isLent_o, ↓hQ.seen, ↓hQ.know, ↓hQ.lent, t8, t9, t20, t21, t22, tmn]
      refine wk_take ?_
      simp -implicitDefEqProofs
      refine wc_of dW (by simp [Rp.v, Rs.v, cP]) (by simp [Rp.v, Rs.v, cP]) ?_
      rintro _ rfl
      simp -implicitDefEqProofs [Rp.v, Rs.v, cP, -isLent, -seenL, sn_s, sn_l, sn_a, isLent_s, isLent_l, isLent_o, ↓hQ.seen, ↓hQ.know, ↓hQ.lent, t8, t9, t20, t21, t22, tmn]
      refine wk_take ?_
      simp -implicitDefEqProofs
      refine wc_of dU (by simp [Rp.v, Rs.v, cP]) (by simp [Rp.v, Rs.v, cP]) ?_
      rintro _ rfl
      simp -implicitDefEqProofs [Rp.v, Rs.v, cP, -isLent, -seenL, sn_s, sn_l, sn_a, isLent_s, isLent_l, isLent_o, ↓hQ.seen, ↓hQ.know, ↓hQ.lent, t8, t9, t20, t21, t22, tmn, hwk]
      exact ⟨m2 - 1, by omega, k + 1, by omega, by simp [t8, t9, cP, Rs.v]⟩
    · subst hc1
      have hcz : rl one.cat = [] := by injection hz0
      simp -implicitDefEqProofs [t8, t9, t20, t21, t22, tmn, -isLent, -seenL, sn_s, sn_l, sn_a, isLent_s, isLent_l, isLent_o, ↓hQ.seen, ↓hQ.know, ↓hQ.lent]
      refine wk_take ?_
      simp -implicitDefEqProofs
      refine wc_of d9 (by simp [Rp.v, Rs.v, cP]) (by simp [Rp.v, Rs.v, cP]) ?_
      rintro _ rfl
      simp -implicitDefEqProofs [Rp.v, Rs.v, cP, -isLent, -seenL, sn_s, sn_l, sn_a, isLent_s, isLent_l, isLent_o, ↓hQ.seen, ↓hQ.know, ↓hQ.lent, t8, t9, t20, t21, t22, tmn]
      refine wk_take ?_
      simp -implicitDefEqProofs
      refine wc_of d12 (by simp [Rp.v, Rs.v, cP]) (by simp [Rp.v, Rs.v, cP]) ?_
      rintro _ rfl
      simp -implicitDefEqProofs [Rp.v, Rs.v, cP, -isLent, -seenL, sn_s, sn_l, sn_a, isLent_s, isLent_l, isLent_o, ↓hQ.seen, ↓hQ.know, ↓hQ.lent, t8, t9, t20, t21, t22, tmn]
      refine wk_take ?_
      simp -implicitDefEqProofs
      refine wc_of d13 (by simp [Rp.v, Rs.v, cP]) (by simp [Rp.v, Rs.v, cP]) ?_
      rintro _ rfl
      simp -implicitDefEqProofs [Rp.v, Rs.v, cP, -isLent, -seenL, sn_s, sn_l, sn_a, isLent_s, isLent_l, isLent_o, ↓hQ.seen, ↓hQ.know, ↓hQ.lent, t8, t9, t20, t21, t22, tmn]
      refine wk_take ?_
      simp -implicitDefEqProofs
      refine wc_nil d14 ?_ ?_ ?_ ?_
      · simp [Rp.v, Rs.v, nilAs, nilA, nilLs, nilL, hcz]
      · simp [Rp.v, Rs.v, immA, immC]
      · simp [immA, immC]
      rintro _ rfl
      simp -implicitDefEqProofs [Rp.v, Rs.v, cP, -isLent, -seenL, sn_s, sn_l, sn_a, isLent_s, isLent_l, isLent_o, ↓hQ.seen, ↓hQ.know, ↓hQ.lent, t8, t9, t20, t21, t22, tmn]
      refine wk_take ?_
      simp -implicitDefEqProofs
      refine wc_nil d15 ?_ ?_ ?_ ?_
      · simp [Rp.v, Rs.v, nilAs, nilA, nilLs, nilL, hcz]
      · simp [Rp.v, Rs.v, immA, immC]
      · simp [immA, immC]
      rintro _ rfl
      simp -implicitDefEqProofs [Rp.v, Rs.v, cP, -isLent, -seenL, sn_s, sn_l, sn_a, isLent_s, isLent_l, isLent_o, ↓hQ.seen, ↓hQ.know, ↓hQ.lent, t8, t9, t20, t21, t22, tmn]
      refine wk_take ?_
      simp -implicitDefEqProofs
      refine wc_nil d16 ?_ ?_ ?_ ?_
      · simp [Rp.v, Rs.v, nilAs, nilA, nilLs, nilL, hcz]
      · simp [Rp.v, Rs.v, immA, immC]
      · simp [immA, immC]
      rintro _ rfl
      simp -implicitDefEqProofs [Rp.v, Rs.v, cP, -isLent, -seenL, sn_s, sn_l, sn_a, isLent_s, isLent_l, isLent_o, ↓hQ.seen, ↓hQ.know, ↓hQ.lent, t8, t9, t20, t21, t22, tmn]
      refine wk_take ?_
      simp -implicitDefEqProofs
      refine wc_nil d17 ?_ ?_ ?_ ?_
      · simp [Rp.v, Rs.v, nilAs, nilA, nilLs, nilL, hcz]
      · simp [Rp.v, Rs.v, immA, immC]
      · simp [immA, immC]
      rintro _ rfl
      simp -implicitDefEqProofs [Rp.v, Rs.v, cP, -isLent, -seenL, sn_s, sn_l, sn_a, isLent_s, isLent_l, isLent_o, ↓hQ.seen, ↓hQ.know, ↓hQ.lent, t8, t9, t20, t21, t22, tmn]
      refine wkd_take ?_
      simp -implicitDefEqProofs
      refine wcd_of dN (by simp [Rp.v, Rs.v, cP]) (by simp [Rp.v, Rs.v, cP]) ?_
      simp -implicitDefEqProofs [Rp.v, Rs.v, cP, -isLent, -seenL, sn_s, sn_l, sn_a, isLent_s, isLent_l, isLent_o, ↓hQ.seen, ↓hQ.know, ↓hQ.lent, t8, t9, t20, t21, t22, tmn]
      refine wkd_take ?_
      simp -implicitDefEqProofs
      refine wcd_of dC (by simp [Rp.v, Rs.v, cP]) (by simp [Rp.v, Rs.v, cP]) ?_
      simp -implicitDefEqProofs [Rp.v, Rs.v, cP, -isLent, -seenL, sn_s, sn_l, sn_a, isLent_s, isLent_l, isLent_o, ↓hQ.seen, ↓hQ.know, ↓hQ.lent, t8, t9, t20, t21, t22, tmn]
      refine wkd_take ?_
      simp -implicitDefEqProofs
      refine wcd_of dA (by simp [Rp.v, Rs.v, cP]) (by simp [Rp.v, Rs.v, cP]) ?_
      simp -implicitDefEqProofs [Rp.v, Rs.v, cP, -isLent, -seenL, sn_s, sn_l, sn_a, isLent_s, isLent_l, isLent_o, ↓hQ.seen, ↓hQ.know, ↓hQ.lent, t8, t9, t20, t21, t22, tmn]
      refine wkd_take ?_
      simp -implicitDefEqProofs
      refine wcd_nil d19 ?_ ?_ ?_ ?_
      · simp [Rp.v, Rs.v, nilAs, nilA, nilLs, nilL, hcz]
      · simp [Rp.v, Rs.v, immA, immC]
      · simp [immA, immC]
      simp -implicitDefEqProofs [Rp.v, Rs.v, cP, -isLent, -seenL, sn_s, sn_l, sn_a, isLent_s, isLent_l, isLent_o, ↓hQ.seen, ↓hQ.know, ↓hQ.lent, t8, t9, t20, t21, t22, tmn]
      refine wkd_take ?_
      simp -implicitDefEqProofs
      refine wcd_nil d20 ?_ ?_ ?_ ?_
      · simp [Rp.v, Rs.v, nilAs, nilA, nilLs, nilL, hcz]
      · simp [Rp.v, Rs.v, immA, immC]
      · simp [immA, immC]
      simp -implicitDefEqProofs [Rp.v, Rs.v, cP, -isLent, -seenL, sn_s, sn_l, sn_a, isLent_s, isLent_l, isLent_o, ↓hQ.seen, ↓hQ.know, ↓hQ.lent, t8, t9, t20, t21, t22, tmn]
      refine wk_take ?_
      simp -implicitDefEqProofs
      refine wc_of d21 (by simp [Rp.v, Rs.v, cP]) (by simp [Rp.v, Rs.v, cP]) ?_
      rintro _ rfl
      simp -implicitDefEqProofs [Rp.v, Rs.v, cP, -isLent, -seenL, sn_s, sn_l, sn_a, isLent_s, isLent_l, isLent_o, ↓hQ.seen, ↓hQ.know, ↓hQ.lent, t8, t9, t20, t21, t22, tmn]
      refine wk_take ?_
      simp -implicitDefEqProofs
      refine wc_of d22 (by simp [Rp.v, Rs.v, cP]) (by simp [Rp.v, Rs.v, cP]) ?_
      rintro _ rfl
      simp -implicitDefEqProofs [Rp.v, Rs.v, cP, -isLent, -seenL, sn_s, sn_l, sn_a, isLent_s, isLent_l, isLent_o, ↓hQ.seen, ↓hQ.know, ↓hQ.lent, t8, t9, t20, t21, t22, tmn]
      refine wk_take ?_
      simp -implicitDefEqProofs
      refine wc_of d23 (by simp [Rp.v, Rs.v, cP]) (by simp [Rp.v, Rs.v, cP]) ?_
      rintro _ rfl
      simp -implicitDefEqProofs [Rp.v, Rs.v, cP, -isLent, -seenL, sn_s, sn_l, sn_a, isLent_s, isLent_l, isLent_o, ↓hQ.seen, ↓hQ.know, ↓hQ.lent, t8, t9, t20, t21, t22, tmn]
      refine wk_take ?_
      simp -implicitDefEqProofs
      refine wc_of d24 (by simp [Rp.v, Rs.v, cP]) (by simp [Rp.v, Rs.v, cP]) ?_
      rintro _ rfl
      simp -implicitDefEqProofs [Rp.v, Rs.v, cP, -isLent, -seenL, sn_s, sn_l, sn_a, isLent_s, isLent_l, isLent_o, ↓hQ.seen, ↓hQ.know, ↓hQ.lent, t8, t9, t20, t21, t22, tmn]
      refine wk_take ?_
      simp -implicitDefEqProofs
      refine wc_of d25 (by simp [Rp.v, Rs.v, cP]) (by simp [Rp.v, Rs.v, cP]) ?_
      rintro _ rfl
      simp -implicitDefEqProofs [Rp.v, Rs.v, cP, -isLent, -seenL, sn_s, sn_l, sn_a, isLent_s, isLent_l, isLent_o, ↓hQ.seen, ↓hQ.know, ↓hQ.lent, t8, t9, t20, t21, t22, tmn]
      refine wk_take ?_
      simp -implicitDefEqProofs
      refine wc_of d26 (by simp [Rp.v, Rs.v, cP]) (by simp [Rp.v, Rs.v, cP]) ?_
      rintro _ rfl
      simp -implicitDefEqProofs [Rp.v, Rs.v, cP, -isLent, -seenL, sn_s, sn_l, sn_a, isLent_s, isLent_l, isLent_o, ↓hQ.seen, ↓hQ.know, ↓hQ.lent, t8, t9, t20, t21, t22, tmn]
      refine wk_take ?_
      simp -implicitDefEqProofs
      refine wc_of dR (by simp [Rp.v, Rs.v, cP]) (by simp [Rp.v, Rs.v, cP]) ?_
      rintro _ rfl
      simp -implicitDefEqProofs [Rp.v, Rs.v, cP, -isLent, -seenL, sn_s, sn_l, sn_a, isLent_s, isLent_l, isLent_o, ↓hQ.seen, ↓hQ.know, ↓hQ.lent, t8, t9, t20, t21, t22, tmn]
      refine wk_take ?_
      simp -implicitDefEqProofs
      refine wc_of dW (by simp [Rp.v, Rs.v, cP]) (by simp [Rp.v, Rs.v, cP]) ?_
      rintro _ rfl
      simp -implicitDefEqProofs [Rp.v, Rs.v, cP, -isLent, -seenL, sn_s, sn_l, sn_a, isLent_s, isLent_l, isLent_o, ↓hQ.seen, ↓hQ.know, ↓hQ.lent, t8, t9, t20, t21, t22, tmn]
      refine wk_take ?_
      simp -implicitDefEqProofs
      refine wc_of dU (by simp [Rp.v, Rs.v, cP]) (by simp [Rp.v, Rs.v, cP]) ?_
      rintro _ rfl
      simp -implicitDefEqProofs [Rp.v, Rs.v, cP, -isLent, -seenL, sn_s, sn_l, sn_a, isLent_s, isLent_l, isLent_o, ↓hQ.seen, ↓hQ.know, ↓hQ.lent, t8, t9, t20, t21, t22, tmn, hwk]
      exact ⟨m2 - 1, by omega, k + 1, by omega, by simp [t8, t9, cP, Rs.v]⟩
end Go.Proofs.Ytebibhmjmaomnaa
