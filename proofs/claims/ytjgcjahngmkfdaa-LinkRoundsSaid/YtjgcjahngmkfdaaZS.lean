/- Texts put behind one another: Sh, Sh3. -/
import Derived.Test.YtjgcjahngmkfdaaZC
import Derived.Test.YtjgcjahngmkfdaaZK
import Derived.Test.YtjgcjahngmkfdaaZU
set_option linter.unusedVariables false
set_option linter.unusedSimpArgs false
namespace Go.Proofs.Ytjgcjahngmkfdaa
open Go.RowKit Go.Proofs

theorem sh_bytes {dep : Nat} {el : List V} (h : Shape Try.prog (dep + 2) 25 el) : ∃ m : List UInt8, el = [.list 1 (bv m)] := by
  unfold Shape at h
  rw [Try.underlying25] at h
  obtain ⟨els, rfl, _, hb⟩ := h
  have e1 : Try.prog.cellsOf 5 = 1 := by kernel_rfl
  have e2 : aggT Try.prog 5 = some false := by kernel_rfl
  rw [e1]
  have : ∀ els : List (List V), (∀ el ∈ els, Shape Try.prog (dep + 1) 5 el) → ∃ m : List UInt8, els.map (elemD Try.prog 5) = bv m := by
    intro els
    induction els with
    | nil => intro _; exact ⟨[], rfl⟩
    | cons x r ih =>
      intro h
      obtain ⟨m, hm⟩ := ih (fun el hel => h el (by simp [hel]))
      have hx := h x (by simp)
      unfold Shape at hx
      rw [Try.underlying5] at hx
      obtain ⟨n, hn, rfl⟩ := hx
      have hb : 0 ≤ n ∧ n ≤ 255 := by simpa [Lit.wf, IntKind.min, IntKind.max, IntKind.signed, IntKind.bits] using hn
      refine ⟨UInt8.ofNat n.toNat :: m, ?_⟩
      rw [List.map_cons, hm]
      have : ((UInt8.ofNat n.toNat).toNat : Int) = n := by rw [UInt8.toNat_ofNat_of_lt' (by simp; omega)]; omega
      generalize UInt8.ofNat n.toNat = b at this
      subst this
      simp [elemD, e2, bv]
  obtain ⟨m, hm⟩ := this els hb
  exact ⟨m, by rw [hm]⟩
theorem sh_lists {dep : Nat} {el : List V} (h : Shape Try.prog (dep + 3) 22 el) : ∃ m : List (List UInt8), el = [.list 1 (cl m)] := by
  unfold Shape at h
  rw [Try.underlying22] at h
  obtain ⟨els, rfl, _, hb⟩ := h
  have e1 : Try.prog.cellsOf 25 = 1 := by kernel_rfl
  have e2 : aggT Try.prog 25 = some false := by kernel_rfl
  rw [e1]
  have : ∀ els : List (List V), (∀ el ∈ els, Shape Try.prog (dep + 2) 25 el) → ∃ m : List (List UInt8), els.map (elemD Try.prog 25) = cl m := by
    intro els
    induction els with
    | nil => intro _; exact ⟨[], rfl⟩
    | cons x r ih =>
      intro h
      obtain ⟨m, hm⟩ := ih (fun el hel => h el (by simp [hel]))
      obtain ⟨n, rfl⟩ := sh_bytes (h x (by simp))
      refine ⟨n :: m, ?_⟩
      rw [List.map_cons, hm]
      simp [elemD, e2, cl]
  obtain ⟨m, hm⟩ := this els hb
  exact ⟨m, by rw [hm]⟩
theorem sh_int {dep : Nat} {el : List V} (h : Shape Try.prog (dep + 1) 3 el) : ∃ n : Int, (Lit.int .i64 n).wf = true ∧ el = [.s (.int .i64 n)] := by
  unfold Shape at h
  rw [Try.underlying3] at h
  exact h
theorem parts3 {P : Program} {dep : Nat} {fs : Array Field} {parts : List (List V)} {f0 f1 f2 : Field} (e : fs = #[f0, f1, f2]) (hl : parts.length = fs.size)
    (h : ∀ (i : Nat) (fl : Field) (p : List V), fs[i]? = some fl → parts[i]? = some p → Shape P dep fl.type p) :
    ∃ a b c, parts = [a, b, c] ∧ Shape P dep f0.type a ∧ Shape P dep f1.type b ∧ Shape P dep f2.type c := by
  subst e
  match parts, hl with
  | [a, b, c], _ => exact ⟨a, b, c, rfl, h 0 f0 a rfl rfl, h 1 f1 b rfl rfl, h 2 f2 c rfl rfl⟩
theorem sh_link {dep : Nat} {x : V} (h : ArgShape Try.prog (dep + 4) 24 x) : ∃ l : Lnk, x = l.v := by
  unfold ArgShape at h
  rw [Try.underlying24] at h
  simp only at h
  obtain ⟨xs, rfl, h⟩ := h
  unfold Shape at h
  rw [Try.underlying24] at h
  obtain ⟨parts, rfl, hl, hp⟩ := h
  obtain ⟨a, b, c, rfl, ha, hb, hc⟩ := parts3 rfl hl hp
  obtain ⟨n, _, rfl⟩ := sh_int ha
  obtain ⟨o, rfl⟩ := sh_lists hb
  obtain ⟨g, _, rfl⟩ := sh_int hc
  exact ⟨⟨n, o, g⟩, rfl⟩
theorem sh_pkt {dep : Nat} {x : V} (h : ArgShape Try.prog (dep + 3) 27 x) : ∃ l : Pkt, x = l.v := by
  unfold ArgShape at h
  rw [Try.underlying27] at h
  simp only at h
  obtain ⟨xs, rfl, h⟩ := h
  unfold Shape at h
  rw [Try.underlying27] at h
  obtain ⟨parts, rfl, hl, hp⟩ := h
  obtain ⟨a, b, c, rfl, ha, hb, hc⟩ := parts3 rfl hl hp
  obtain ⟨n, _, rfl⟩ := sh_int ha
  obtain ⟨g, _, rfl⟩ := sh_int hb
  obtain ⟨o, rfl⟩ := sh_bytes hc
  exact ⟨⟨n, g, o⟩, rfl⟩
theorem sh_msg {dep : Nat} {x : V} (h : ArgShape Try.prog (dep + 2) 25 x) : ∃ l : List UInt8, x = .list 1 (bv l) := by
  unfold ArgShape at h
  rw [Try.underlying25] at h
  simp only at h
  obtain ⟨m, hm⟩ := sh_bytes h
  exact ⟨m, by simpa using hm⟩
end Go.Proofs.Ytjgcjahngmkfdaa

namespace Go.Proofs.Ytjgcjahngmkfdaa
open Go.RowKit Go.Proofs

theorem sh_els3 {α : Type} {dep : Nat} {t : TypeId} {f : α → V} (hf : ∀ el, Shape Try.prog dep t el → ∃ a, elemD Try.prog t el = f a) : ∀ (els : List (List V)), (∀ el ∈ els, Shape Try.prog dep t el) → ∃ m : List α, els.map (elemD Try.prog t) = m.map f
  | [], _ => ⟨[], rfl⟩
  | x :: r, h => by
    obtain ⟨m, hm⟩ := sh_els3 hf r (fun el hel => h el (by simp [hel]))
    obtain ⟨a, ha⟩ := hf x (h x (by simp))
    exact ⟨a :: m, by rw [List.map_cons, hm, ha]; rfl⟩
theorem sh_ints {dep : Nat} {x : V} (h : ArgShape Try.prog (dep + 2) 48 x) : ∃ l : List Int, x = .list 1 (iv l) := by
  unfold ArgShape at h
  rw [Try.underlying48] at h
  simp only at h
  unfold Shape at h
  rw [Try.underlying48] at h
  obtain ⟨els, hx, _, hb⟩ := h
  have e1 : Try.prog.cellsOf 3 = 1 := by kernel_rfl
  have e2 : aggT Try.prog 3 = some false := by kernel_rfl
  rw [e1] at hx
  obtain ⟨m, hm⟩ := sh_els3 (f := fun n : Int => V.s (.int .i64 n)) (fun el hel => by
    obtain ⟨n, _, rfl⟩ := sh_int hel
    exact ⟨n, by simp [elemD, e2]⟩) els hb
  rw [hm] at hx
  exact ⟨m, by simpa [iv] using hx⟩
end Go.Proofs.Ytjgcjahngmkfdaa
