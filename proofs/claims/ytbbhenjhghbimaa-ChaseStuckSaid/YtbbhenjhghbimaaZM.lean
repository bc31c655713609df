/- Texts put behind one another: K13, Sh. -/
import Derived.Test.YtbbhenjhghbimaaZG
import Derived.Test.YtbbhenjhghbimaaZL
import Derived.Test.YtbbhenjhghbimaaZC
import Derived.Test.YtbbhenjhghbimaaZK
set_option linter.unusedVariables false
set_option linter.unusedSimpArgs false
namespace Go.Proofs.Ytbbhenjhghbimaa
open Go.RowKit Go.Proofs

theorem gOk_next {g : List Nd} (h : gOk g = true) {n : Nd} (hn : n ∈ g) : n.next.length ≤ g.length := by
  simp only [gOk, Bool.and_eq_true, List.all_eq_true] at h
  have := h.2 n hn
  simp only [Nd.ok, Bool.and_eq_true] at this
  have := asc_len this.2 (by omega)
  omega
theorem nodeAt_next {g : List Nd} (h : gOk g = true) (i : Int) : (nodeAt g i).next.length ≤ g.length := by
  by_cases hi : i.toNat < g.length
  · rw [nodeAt, List.getD_eq_getElem?_getD, List.getElem?_eq_getElem hi]; exact gOk_next h (List.getElem_mem hi)
  · rw [nodeAt, List.getD_eq_getElem?_getD, List.getElem?_eq_none (by omega)]; simp
/-- a state of a chase on a graph, not too many probes -/
structure Few (G : List Nd) (b : Ch) (m : Nat) : Prop where
  g : b.g = G
  seen : b.seen.length = G.length
  ps : b.ps.length ≤ m
theorem Few.sm {G : List Nd} {b : Ch} {m : Nat} (h : Few G b m) (hG : gOk G = true) (hG8 : G.length ≤ 8) (hm : m ≤ 1000) : b.sm :=
  ⟨by rw [h.g]; omega, fun n hn => by rw [h.g] at hn; have := gOk_next hG hn; omega, by have := h.ps; omega, by rw [h.seen]; omega⟩
theorem Few.begin {G : List Nd} (i : Int) (hG : gOk G = true) (hG8 : G.length ≤ 8) : Few G (begC G i) 8 :=
  ⟨rfl, by simp [begC], by have := nodeAt_next hG i; simp [begC]; omega⟩
theorem Few.step {G : List Nd} {b : Ch} {m : Nat} (h : Few G b m) (hG : gOk G = true) (hG8 : G.length ≤ 8) (k : Nat) : Few G (stepC b k) (m + 8) := by
  have hp := h.ps
  have hc : (cut b.ps k).length ≤ b.ps.length := by simp only [cut, List.length_append, List.length_take, List.length_drop]; omega
  have hn := nodeAt_next (g := b.g) (by rw [h.g]; exact hG) (toAt b.ps k)
  rw [h.g] at hn
  unfold stepC
  split
  · exact ⟨h.g, h.seen, by simp; omega⟩
  · split
    · exact ⟨h.g, by simp [h.seen], by rw [h.g]; simp; omega⟩
    · exact ⟨h.g, h.seen, by simp; omega⟩
/-- what is returned, rows and nils as lists -/
def ch0 : Ch := ⟨[], 0, [], [], false⟩
def chE (e : Int) (c : Ch) : Ch := if e = 0 then c else ch0
def resP (e : Int) (c : Ch) : V := .tup [(chE e c).v, .s (.int .i64 e)]
theorem res_fr (e : Int) (c : Ch) : frT (res e c) (resP e c) := by
  unfold res resP chE
  by_cases h : e = 0
  · simp [h, frT, frAs, frA, frLs, frL, Ch.v, Ch.cells, immC]
  · simp [h, frT, frAs, frA, frLs, frL, Ch.v, Ch.cells, immC, zC, ch0, gv, pv, lv]
theorem resO_fr (e : Int) (c : Ch) : frT (resO e c) (resP e c) := by
  unfold resO resP chE
  by_cases h : e = 0
  · simp [h, frT, frAs, frA, frLs, frL, Ch.v, Ch.ow, Ch.cells, immC]
  · simp [h, frT, frAs, frA, frLs, frL, Ch.v, Ch.cells, immC, zC, ch0, gv, pv, lv]
theorem Begin_pl (g : List Nd) (s : Int) (hl : g.length ≤ 1000000) (hn : ∀ n ∈ g, n.next.length ≤ 1000000) : PC Try.prog 10 [.list 2 (gv g), .s (.int .i64 s)] (fun r => r = resP (begE g s) (begC g s)) :=
  pc_list (Begin_pc g s hl hn) fun x hx _ => ⟨_, hx ▸ res_fr _ _, rfl, rfl⟩
theorem rBegin_pl (g : List Nd) (s : Int) (hl : g.length ≤ 1000000) (hn : ∀ n ∈ g, n.next.length ≤ 1000000) : PC Try.prog 11 [.list 2 (gv g), .s (.int .i64 s)] (fun r => r = resP (begE g s) (begC g s)) :=
  pc_list (rBegin_pc g s hl hn) fun x hx _ => ⟨_, hx ▸ resO_fr _ _, rfl, rfl⟩
theorem Step_pl (c : Ch) (k : Int) (hs : c.sm) : PC Try.prog 14 [c.v, .s (.int .i64 k)] (fun r => r = resP (stepE c k) (stepC c k.toNat)) :=
  pc_list (Step_pc c k hs) fun x hx _ => ⟨_, hx ▸ res_fr _ _, rfl, rfl⟩
theorem rStep_pl (c : Ch) (k : Int) (hs : c.sm) : PC Try.prog 15 [c.v, .s (.int .i64 k)] (fun r => r = resP (stepE c k) (stepC c k.toNat)) :=
  pc_list (rStep_pc c k hs) fun x hx _ => ⟨_, hx ▸ res_fr _ _, rfl, rfl⟩
end Go.Proofs.Ytbbhenjhghbimaa

namespace Go.Proofs.Ytbbhenjhghbimaa
open Go.RowKit Go.Proofs

theorem sh_int0 {dep : Nat} {el : List V} (h : Shape Try.prog (dep + 1) 3 el) : ∃ n : Int, el = [.s (.int .i64 n)] := by
  unfold Shape at h
  rw [Try.underlying3] at h
  obtain ⟨n, _, hn⟩ := h
  exact ⟨n, by simpa using hn⟩
theorem sh_bool0 {dep : Nat} {el : List V} (h : Shape Try.prog (dep + 1) 4 el) : ∃ b : Bool, el = [.s (.bool b)] := by
  unfold Shape at h
  rw [Try.underlying4] at h
  obtain ⟨b, hb⟩ := h
  exact ⟨b, by simpa using hb⟩
/-- the elements of a slice -/
theorem sh_els {α : Type} {dep : Nat} {t : TypeId} {f : α → V} (hf : ∀ el, Shape Try.prog dep t el → ∃ a, elemD Try.prog t el = f a) : ∀ (els : List (List V)), (∀ el ∈ els, Shape Try.prog dep t el) → ∃ m : List α, els.map (elemD Try.prog t) = m.map f
  | [], _ => ⟨[], rfl⟩
  | x :: r, h => by
    obtain ⟨m, hm⟩ := sh_els hf r (fun el hel => h el (by simp [hel]))
    obtain ⟨a, ha⟩ := hf x (h x (by simp))
    exact ⟨a :: m, by rw [List.map_cons, hm, ha]; rfl⟩
theorem sh_ints0 {dep : Nat} {el : List V} (h : Shape Try.prog (dep + 2) 27 el) : ∃ l : List Int, el = [.list 1 (iv l)] := by
  unfold Shape at h
  rw [Try.underlying27] at h
  obtain ⟨els, hx, _, hb⟩ := h
  have e1 : Try.prog.cellsOf 3 = 1 := by kernel_rfl
  have e2 : aggT Try.prog 3 = some false := by kernel_rfl
  rw [e1] at hx
  obtain ⟨m, hm⟩ := sh_els (f := fun n : Int => V.s (.int .i64 n)) (fun el hel => by
    obtain ⟨n, rfl⟩ := sh_int0 hel
    exact ⟨n, by simp [elemD, e2]⟩) els hb
  rw [hm] at hx
  exact ⟨m, hx⟩
theorem sh_bools0 {dep : Nat} {el : List V} (h : Shape Try.prog (dep + 2) 24 el) : ∃ l : List Bool, el = [.list 1 (lv l)] := by
  unfold Shape at h
  rw [Try.underlying24] at h
  obtain ⟨els, hx, _, hb⟩ := h
  have e1 : Try.prog.cellsOf 4 = 1 := by kernel_rfl
  have e2 : aggT Try.prog 4 = some false := by kernel_rfl
  rw [e1] at hx
  obtain ⟨m, hm⟩ := sh_els (f := fun n : Bool => V.s (.bool n)) (fun el hel => by
    obtain ⟨n, rfl⟩ := sh_bool0 hel
    exact ⟨n, by simp [elemD, e2]⟩) els hb
  rw [hm] at hx
  exact ⟨m, hx⟩
theorem parts2 {P : Program} {dep : Nat} {fs : Array Field} {parts : List (List V)} {f0 f1 : Field} (e : fs = #[f0, f1]) (hl : parts.length = fs.size)
    (h : ∀ (i : Nat) (fl : Field) (p : List V), fs[i]? = some fl → parts[i]? = some p → Shape P dep fl.type p) :
    ∃ a b, parts = [a, b] ∧ Shape P dep f0.type a ∧ Shape P dep f1.type b := by
  subst e
  match parts, hl with
  | [a, b], _ => exact ⟨a, b, rfl, h 0 f0 a rfl rfl, h 1 f1 b rfl rfl⟩
theorem parts5 {P : Program} {dep : Nat} {fs : Array Field} {parts : List (List V)} {f0 f1 f2 f3 f4 : Field} (e : fs = #[f0, f1, f2, f3, f4]) (hl : parts.length = fs.size)
    (h : ∀ (i : Nat) (fl : Field) (p : List V), fs[i]? = some fl → parts[i]? = some p → Shape P dep fl.type p) :
    ∃ a b c d e, parts = [a, b, c, d, e] ∧ Shape P dep f0.type a ∧ Shape P dep f1.type b ∧ Shape P dep f2.type c ∧ Shape P dep f3.type d ∧ Shape P dep f4.type e := by
  subst e
  match parts, hl with
  | [a, b, c, d, e], _ => exact ⟨a, b, c, d, e, rfl, h 0 f0 a rfl rfl, h 1 f1 b rfl rfl, h 2 f2 c rfl rfl, h 3 f3 d rfl rfl, h 4 f4 e rfl rfl⟩
theorem sh_nd {dep : Nat} {el : List V} (h : Shape Try.prog (dep + 3) 42 el) : ∃ n : Nd, el = [.s (.int .i64 n.k), .list 1 (iv n.next)] := by
  unfold Shape at h
  rw [Try.underlying42] at h
  obtain ⟨parts, rfl, hl, hp⟩ := h
  obtain ⟨a, b, rfl, ha, hb⟩ := parts2 rfl hl hp
  obtain ⟨k, rfl⟩ := sh_int0 ha
  obtain ⟨l, rfl⟩ := sh_ints0 hb
  exact ⟨⟨k, l⟩, rfl⟩
theorem sh_pr {dep : Nat} {el : List V} (h : Shape Try.prog (dep + 2) 58 el) : ∃ p : Pr, el = [.s (.int .i64 p.frm), .s (.int .i64 p.to)] := by
  unfold Shape at h
  rw [Try.underlying58] at h
  obtain ⟨parts, rfl, hl, hp⟩ := h
  obtain ⟨a, b, rfl, ha, hb⟩ := parts2 rfl hl hp
  obtain ⟨k, rfl⟩ := sh_int0 ha
  obtain ⟨l, rfl⟩ := sh_int0 hb
  exact ⟨⟨k, l⟩, rfl⟩
theorem sh_graph0 {dep : Nat} {el : List V} (h : Shape Try.prog (dep + 4) 22 el) : ∃ g : List Nd, el = [.list 2 (gv g)] := by
  unfold Shape at h
  rw [Try.underlying22] at h
  obtain ⟨els, hx, _, hb⟩ := h
  have e1 : Try.prog.cellsOf 42 = 2 := by kernel_rfl
  have e2 : aggT Try.prog 42 = some true := by kernel_rfl
  rw [e1] at hx
  obtain ⟨m, hm⟩ := sh_els (f := Nd.v) (fun el hel => by
    obtain ⟨n, rfl⟩ := sh_nd hel
    exact ⟨n, by simp [elemD, e2, Nd.v]⟩) els hb
  rw [hm] at hx
  exact ⟨m, hx⟩
theorem sh_probes0 {dep : Nat} {el : List V} (h : Shape Try.prog (dep + 3) 23 el) : ∃ l : List Pr, el = [.list 2 (pv l)] := by
  unfold Shape at h
  rw [Try.underlying23] at h
  obtain ⟨els, hx, _, hb⟩ := h
  have e1 : Try.prog.cellsOf 58 = 2 := by kernel_rfl
  have e2 : aggT Try.prog 58 = some true := by kernel_rfl
  rw [e1] at hx
  obtain ⟨m, hm⟩ := sh_els (f := Pr.v) (fun el hel => by
    obtain ⟨n, rfl⟩ := sh_pr hel
    exact ⟨n, by simp [elemD, e2, Pr.v]⟩) els hb
  rw [hm] at hx
  exact ⟨m, hx⟩
theorem sh_int {dep : Nat} {x : V} (h : ArgShape Try.prog (dep + 1) 3 x) : ∃ n : Int, x = .s (.int .i64 n) := by
  unfold ArgShape at h
  rw [Try.underlying3] at h
  simp only at h
  obtain ⟨n, hn⟩ := sh_int0 h
  exact ⟨n, by simpa using hn⟩
theorem sh_byte {dep : Nat} {x : V} (h : ArgShape Try.prog (dep + 1) 5 x) : ∃ n : UInt8, x = .s (.int .u8 n.toNat) := by
  unfold ArgShape at h
  rw [Try.underlying5] at h
  simp only at h
  unfold Shape at h
  rw [Try.underlying5] at h
  obtain ⟨n, hn, hx⟩ := h
  have hb : 0 ≤ n ∧ n ≤ 255 := by simpa [Lit.wf, IntKind.min, IntKind.max, IntKind.signed, IntKind.bits] using hn
  have : ((UInt8.ofNat n.toNat).toNat : Int) = n := by rw [UInt8.toNat_ofNat_of_lt' (by simp; omega)]; omega
  exact ⟨UInt8.ofNat n.toNat, by rw [this]; simpa using hx⟩
theorem sh_ints {dep : Nat} {x : V} (h : ArgShape Try.prog (dep + 2) 27 x) : ∃ l : List Int, x = .list 1 (iv l) := by
  unfold ArgShape at h
  rw [Try.underlying27] at h
  simp only at h
  obtain ⟨l, hl⟩ := sh_ints0 h
  exact ⟨l, by simpa using hl⟩
theorem sh_graph {dep : Nat} {x : V} (h : ArgShape Try.prog (dep + 4) 22 x) : ∃ g : List Nd, x = .list 2 (gv g) := by
  unfold ArgShape at h
  rw [Try.underlying22] at h
  simp only at h
  obtain ⟨l, hl⟩ := sh_graph0 h
  exact ⟨l, by simpa using hl⟩
theorem sh_chase {dep : Nat} {x : V} (h : ArgShape Try.prog (dep + 5) 26 x) : ∃ c : Ch, x = c.v := by
  unfold ArgShape at h
  rw [Try.underlying26] at h
  simp only at h
  obtain ⟨xs, rfl, h⟩ := h
  unfold Shape at h
  rw [Try.underlying26] at h
  obtain ⟨parts, rfl, hl, hp⟩ := h
  obtain ⟨a, b, c, d, e, rfl, ha, hb, hc, hd, he⟩ := parts5 rfl hl hp
  obtain ⟨g, rfl⟩ := sh_graph0 ha
  obtain ⟨s, rfl⟩ := sh_int0 hb
  obtain ⟨ps, rfl⟩ := sh_probes0 hc
  obtain ⟨sn, rfl⟩ := sh_bools0 hd
  obtain ⟨dd, rfl⟩ := sh_bool0 he
  exact ⟨⟨g, s, ps, sn, dd⟩, rfl⟩
end Go.Proofs.Ytbbhenjhghbimaa
