/- From what a row hands over to what the walks take: slices of bytes. -/
import Derived.Test.YtehnbfokjkpgkaaMem
import Derived.ProofKit
import Derived.SizedLaws
import Derived.Below
namespace Go.Proofs.Ytehnbfokjkpgkaa
open Go.RowKit

theorem addr_of_cell {w : World} {x : Addr} {u : Value} (h : w.cell? x = some u) : x = ⟨x.block, x.off, none⟩ := by
  obtain ⟨b, o, s⟩ := x
  cases s with
  | none => rfl
  | some q =>
    unfold World.cell? at h
    split at h
    · simp at h
    · cases h

theorem bytes_of_ints {w : World} {x : Addr} {zs : List Int} {len : Nat} (hcell : ∀ i, i < zs.length → w.cell? (x.add i) = some (.int .u8 (zs.getD i 0)))
    (hwz : ∀ n ∈ zs, (Lit.int .u8 n).wf = true) (hlen : len ≤ zs.length) : ∃ l : List UInt8, l.length = len ∧ At w (some x) (bytesV l) := by
  refine ⟨(zs.take len).map fun n => UInt8.ofNat n.toNat, by simp; omega, fun j u hj => ?_⟩
  have hjl : j < len := by
    rcases Nat.lt_or_ge j len with h | h
    · exact h
    · rw [List.getElem?_eq_none (by simp [bytesV]; omega)] at hj
      cases hj
  have hjz : j < zs.length := by omega
  have h0 : w.cell? x = some (.int .u8 (zs.getD 0 0)) := by
    have := hcell 0 (by omega)
    simpa [Addr.add] using this
  have hx := addr_of_cell h0
  refine ⟨x.block, x.off, congrArg some hx, World.block_lt_of_cell? w x h0, ?_⟩
  have hc := hcell j hjz
  rw [hx, addr_add] at hc
  rw [hc]
  have hw := hwz zs[j] (List.getElem_mem hjz)
  have hb : 0 ≤ zs[j] ∧ zs[j] ≤ 255 := by simpa [Lit.wf, IntKind.min, IntKind.max, IntKind.signed, IntKind.bits] using hw
  have hu : u = byteV (UInt8.ofNat zs[j].toNat) := by
    simp only [bytesV, List.map_map, List.getElem?_map, List.getElem?_take, hjl, if_true, List.getElem?_eq_getElem hjz, Option.map_some] at hj
    exact (Option.some.inj hj).symm
  rw [hu]
  unfold byteV
  rw [UInt8.toNat_ofNat_of_lt' (by simp; omega)]
  rw [List.getD, List.getElem?_eq_getElem hjz]
  congr 2
  simp
  omega

/-- what the walks take of a slice of bytes -/
structure IsB (w : World) (A : Option Addr) (n c : Nat) (l : List UInt8) : Prop where
  nil : A = none → c = 0
  len : l.length = n
  le : n ≤ c
  reach : c ≤ 140737488351232
  at_ : At w A (bytesV l)
end Go.Proofs.Ytehnbfokjkpgkaa
