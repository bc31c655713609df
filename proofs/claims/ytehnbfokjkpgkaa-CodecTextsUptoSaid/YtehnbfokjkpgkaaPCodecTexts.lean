/- The law CodecTexts holds: for every input it returns true, and each argument reads behind the call as it read before. Condition: the arguments are of bulk at most 1048576 (the second form). -/
import Derived.Test.YtehnbfokjkpgkaaRows
import Derived.Test.YtehnbfokjkpgkaaLF
import Derived.WalkKit
import Derived.ProofKit
import Derived.OpenShut
import Derived.ShutString
import Derived.ChangeOld
import Derived.Below
import Derived.SizedLaws
import Derived.JoinedCond
import Derived.Deep.CondSized
namespace Go.Proofs.Ytehnbfokjkpgkaa.codecTexts
open Go.ChangeShapes Go.WideShapes Go.ChangeAt Go.RowKit
open Go.ChangeMaps (open_string shut_string)
set_option linter.unusedVariables false

theorem own : ownKnob Try.prog.godebug = none := by kernel_rfl
theorem laidOut : laidOutB Try.prog = true := by kernel_rfl
theorem bytes5 : Try.prog.bytesOf 5 = 1 := by kernel_rfl

set_option maxRecDepth 100000 in
theorem lifted (os : Os) (started : os.Started) (H : Type) (enc : TypeId × Value → H) (F : Stop.Interp) :
    ReturnsInHanded {} Try.checked os 9 .any ((Rows.OpenSpec.upto Rows.codecTextsSpec).pre6 enc Try.prog Try.f9 Rows.codecTextsUptoRow.domain false) (((Rows.OpenSpec.upto Rows.codecTextsSpec).at F).post enc Try.prog Try.f9 false true false false) := by
  refine returnsInHanded_of_cond_sized (C := Try.checked) (s := Rows.OpenSpec.upto Rows.codecTextsSpec) (k := Rows.uptoSmall) rfl own started (by kernel_rfl) Try.func9
    (OpenSpec.witness (enc := enc) (C := Try.checked) (s := Rows.OpenSpec.upto Rows.codecTextsSpec) (k := Rows.uptoSmall) rfl false ⟨#[], #[.string .empty, .slice none 0 0, .slice none 0 0], []⟩ 8 (by kernel_rfl) (by kernel_rfl) (by kernel_rfl)
      (x := ([.lit (.string []), .nil, .nil], [], [])) (by kernel_rfl) rfl (by kernel_rfl)) ?_
  intro W base args ds gs before hval0 hW hcnd hkk hsz0 _
  have hval : ∀ (j : Nat) t v, Try.f9.params[j]? = some t → args[j]? = some v → Value.okWide Try.prog W .any base t v := hval0
  have hsz : (DataW.weightsEach Try.prog (Try.f9.params.toList ++ (Rows.OpenSpec.upto Rows.codecTextsSpec).bare.plain.varTypes Try.prog) (ds ++ gs)).all (· ≤ reachBytes) = true := hsz0
  have hW' := hW
  obtain ⟨p, q, hA0, hV, rfl, hfz, hnd⟩ := hW
  have hA : DataW.TrodAll enc Try.prog W 0 (fun _ => true) true Try.f9.params.toList args.toList ds p := hA0
  rw [Try.params9] at hA hval hsz
  obtain ⟨v0, vs0, d0, ds0, p0, q0, hargs, rfl, rfl, h0, r0⟩ := trodAll_cons hA
  obtain ⟨v1, vs1, d1, ds1, p1, q1, rfl, rfl, rfl, h1, r1⟩ := trodAll_cons r0
  obtain ⟨v2, vs2, d2, ds2, p2, q2, rfl, rfl, rfl, h2, r2⟩ := trodAll_cons r1
  obtain ⟨rfl, rfl, rfl⟩ := trodAll_nil r2
  obtain rfl : args = #[v0, v1, v2] := by cases args; simp_all
  obtain ⟨rfl, rfl⟩ := trodVars_none hV
  have k0 := h0
  have lt0 : ∀ x ∈ p0, x.block < W.heap.size := by obtain ⟨m, hm⟩ := k0; exact DataW.trod_lt m _ _ _ hm
  obtain ⟨s0, rfl, rfl, rfl, hs0⟩ := open_string Try.underlying9 (hval 0 9 v0 rfl rfl) h0
  have rs0 := sized_string hsz (j := 0) (t := 9) rfl rfl
  simp only [reachBytes, Array.length_toList] at rs0
  have w0 : s0.size ≤ 140737488351232 := rs0
  have k1 := h1
  have lt1 : ∀ x ∈ p1, x.block < W.heap.size := by obtain ⟨m, hm⟩ := k1; exact DataW.trod_lt m _ _ _ hm
  obtain ⟨a1, len1, cap1, rfl⟩ := okWide_slice Try.underlying22 (hval 1 22 v1 rfl rfl)
  obtain ⟨l1, w1, bk1⟩ : ∃ l : List UInt8, IsB W a1 len1 cap1 l ∧ (∀ n, Rows.uptoBulk d1 ≤ n → l.length ≤ n) := by
    obtain ⟨fuel, hf⟩ := h1
    rcases open_ints Try.underlying22 Try.underlying5 (by kernel_rfl) hf with ⟨hcs, hx⟩ | ⟨x, l, c, zs, hcs, _, hl, hm, hz, hx, hcell, hwz⟩
    · simp [Value.cells] at hcs
      obtain ⟨rfl, rfl, rfl⟩ := hcs
      exact ⟨[], ⟨fun _ => rfl, rfl, Nat.le_refl _, by omega, At.nil _ _⟩, fun n h => Nat.zero_le _⟩
    · simp [Value.cells] at hcs
      obtain ⟨rfl, rfl, rfl⟩ := hcs
      have hz' : zs.length = cap1 := by simpa using hz
      have hd : d1 = .slice (lits .u8 (zs.take len1)) (lits .u8 (zs.drop len1)) := congrArg Prod.fst hx
      have hs := sized_slice hsz (j := 1) (t := 22) (e := 5) rfl (by rw [← hd]; rfl) Try.underlying22
      rw [bytes5] at hs
      simp only [lits, List.length_map, List.length_take, List.length_drop, reachBytes] at hs
      obtain ⟨l, hll, hat⟩ := bytes_of_ints hcell hwz (len := len1) (by omega)
      refine ⟨l, ⟨fun h => (by cases h), hll, hl, by omega, hat⟩, fun n h => ?_⟩
      rw [hd] at h; simp only [Rows.uptoBulk] at h; have := bulk_lits .u8 (zs.take len1) (H := H); rw [List.length_take] at this; omega
  have k2 := h2
  have lt2 : ∀ x ∈ p2, x.block < W.heap.size := by obtain ⟨m, hm⟩ := k2; exact DataW.trod_lt m _ _ _ hm
  obtain ⟨a2, len2, cap2, rfl⟩ := okWide_slice Try.underlying22 (hval 2 22 v2 rfl rfl)
  obtain ⟨l2, w2, bk2⟩ : ∃ l : List UInt8, IsB W a2 len2 cap2 l ∧ (∀ n, Rows.uptoBulk d2 ≤ n → l.length ≤ n) := by
    obtain ⟨fuel, hf⟩ := h2
    rcases open_ints Try.underlying22 Try.underlying5 (by kernel_rfl) hf with ⟨hcs, hx⟩ | ⟨x, l, c, zs, hcs, _, hl, hm, hz, hx, hcell, hwz⟩
    · simp [Value.cells] at hcs
      obtain ⟨rfl, rfl, rfl⟩ := hcs
      exact ⟨[], ⟨fun _ => rfl, rfl, Nat.le_refl _, by omega, At.nil _ _⟩, fun n h => Nat.zero_le _⟩
    · simp [Value.cells] at hcs
      obtain ⟨rfl, rfl, rfl⟩ := hcs
      have hz' : zs.length = cap2 := by simpa using hz
      have hd : d2 = .slice (lits .u8 (zs.take len2)) (lits .u8 (zs.drop len2)) := congrArg Prod.fst hx
      have hs := sized_slice hsz (j := 2) (t := 22) (e := 5) rfl (by rw [← hd]; rfl) Try.underlying22
      rw [bytes5] at hs
      simp only [lits, List.length_map, List.length_take, List.length_drop, reachBytes] at hs
      obtain ⟨l, hll, hat⟩ := bytes_of_ints hcell hwz (len := len2) (by omega)
      refine ⟨l, ⟨fun h => (by cases h), hll, hl, by omega, hat⟩, fun n h => ?_⟩
      rw [hd] at h; simp only [Rows.uptoBulk] at h; have := bulk_lits .u8 (zs.take len2) (H := H); rw [List.length_take] at this; omega
  clear hA0 hval0 hsz0
  have hbk : Rows.uptoBulkAll ([.lit (.string s0.data.toList), d1, d2] : List (DataW H)) ≤ 1048576 := by
    have h : Rows.uptoSmall H _ = true := hkk
    simp only [List.append_nil] at h
    exact of_decide_eq_true h
  simp only [Rows.uptoBulkAll, Rows.uptoBulk] at hbk
  have bb0 : s0.size ≤ 1048576 := by have e : s0.data.toList.length = s0.size := (by rw [Array.length_toList]; rfl); omega
  have bb1 : l1.length ≤ 1048576 := bk1 _ (by omega)
  have bb2 : l2.length ≤ 1048576 := bk2 _ (by omega)
  refine (law_texts s0 a1 len1 cap1 l1 a2 len2 cap2 l2 W w0 w1 w2 bb0 bb1 bb2).mono fun e W' ⟨he, bel⟩ => ?_
  subst he
  exact ⟨_, rfl, _, _, _, [], _, [], hW', trodAll_mk1 (shut_bool Try.underlying4 _), (trodAll_cons_mk (Below.trod laidOut (by kernel_rfl) (of_decide_eq_true (by kernel_rfl)) k0 bel lt0) (trodAll_cons_mk (Below.trod laidOut (by kernel_rfl) (of_decide_eq_true (by kernel_rfl)) k1 bel lt1) (trodAll_cons_mk (Below.trod laidOut (by kernel_rfl) (of_decide_eq_true (by kernel_rfl)) k2 bel lt2) trodAll_mk0))), rfl, bel.frame _, fun h => by cases h⟩

theorem proved : Rows.CodecTextsUptoSaid :=
  OpenClaim.holds_of_cond 9 Try.f9 rfl rfl rfl rfl rfl rfl rfl ⟨rfl, rfl, rfl, rfl, rfl⟩ rfl rfl rfl rfl rfl (by kernel_rfl) Try.func9 (by kernel_rfl)
    (of_decide_eq_true (by kernel_rfl)) (by unfold Func.isWrapper; first | (rw [if_pos (by decide +kernel)]; kernel_rfl) | (rw [if_neg (by decide +kernel)]; exact ⟨rfl, rfl⟩))
    (fun os started H enc _ F => lifted os started H enc F)
end Go.Proofs.Ytehnbfokjkpgkaa.codecTexts
