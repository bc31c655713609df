/- The walks of bytes.Equal, Text and PutText. -/
import Derived.Test.YtehnbfokjkpgkaaW3
namespace Go.Proofs.Ytehnbfokjkpgkaa
open Go.RowKit

theorem equal_any (A A' : Option Addr) (n n' c c' : Nat) (l l' : List UInt8) (w : World) (hn : l.length = n) (hn' : l'.length = n') (h : At w A (bytesV l)) (h' : At w A' (bytesV l')) :
    Calls Try.prog 22 #[.slice A n c, .slice A' n' c'] w fun e w' => e = .returned (.bool (l == l')) ∧ w = w' := by
  have e1 := run_b2s (P := Try.prog) w 22 5 9 Try.underlying22 Try.underlying5 Try.underlying9 A n c l hn h
  have e2 := run_b2s (P := Try.prog) w 22 5 9 Try.underlying22 Try.underlying5 Try.underlying9 A' n' c' l' hn' h'
  clear hn hn'
  go_enter Try.func22, Try.ntmps22
  go_wp2
  go_ret
  exact ⟨rfl, rfl⟩

theorem BR_of {w : World} {A : Option Addr} {l : List UInt8} (h : At w A (bytesV l)) : BR w A l := fun k hk => h k _ (bytesV_get l k hk)
theorem uint_at (A : Option Addr) (n c : Nat) (l : List UInt8) (w : World) (hn : l.length = n) (hm : n ≤ maxLen) (h : At w A (bytesV l)) {v k e : Nat} (hr : rdUint l = (v, k, e)) :
    Calls Try.prog 15 #[.slice A n c] w fun x w' => x = .returned (.tuple #[.int .u64 v, .int .i64 k, .int .i64 e]) ∧ w = w' := by
  have := uint_any A n c l w hn hm (BR_of h)
  rw [hr] at this
  exact this
theorem ruint_at (A : Option Addr) (n c : Nat) (l : List UInt8) (w : World) (hn : l.length = n) (hm : n ≤ maxLen) (h : At w A (bytesV l)) {v k e : Nat} (hr : rdUint l = (v, k, e)) :
    Calls Try.prog 16 #[.slice A n c] w fun x w' => x = .returned (.tuple #[.int .u64 v, .int .i64 k, .int .i64 e]) ∧ w = w' := by
  have := ruint_any A n c l w hn hm (BR_of h)
  rw [hr] at this
  exact this

def textVal (r : List UInt8 × Nat × Nat) : Value := .tuple #[.string ⟨r.1.toArray⟩, .int .i64 r.2.1, .int .i64 r.2.2]

theorem textVal_of {a b : Int} {s t : List UInt8} {n m : Nat} (h1 : s = t) (h2 : a = n) (h3 : b = m) : Value.tuple #[.string ⟨s.toArray⟩, .int .i64 a, .int .i64 b] = textVal (t, n, m) := by
  subst h1 h2 h3
  rfl

set_option maxRecDepth 100000 in
set_option maxHeartbeats 400000 in
theorem text_any (A : Option Addr) (n c : Nat) (l : List UInt8) (w : World) (hn : l.length = n) (hnc : n ≤ c) (hm : n ≤ 200000000000000) (h : At w A (bytesV l)) :
    Calls Try.prog 23 #[.slice A n c] w fun e w' => e = .returned (textVal (rdText l)) ∧ w = w' := by
  obtain ⟨v, k, er, hr⟩ : ∃ v k er, rdUint l = (v, k, er) := ⟨_, _, _, rfl⟩
  have hok := rdUint_cases hr
  have HU := Lib.hid (uint_at A n c l w hn (by unfold maxLen; omega) h hr)
  have HH := Lib.hid h
  by_cases h1 : er = 0
  · subst h1
    obtain ⟨hv, hk0, hkl, hk10⟩ : v < 18446744073709551616 ∧ 0 < k ∧ k ≤ n ∧ k ≤ 10 := by omega
    clear hok
    by_cases h2 : 1024 < v
    · have HT := Lib.hid (rdText_long hr h2)
      clear hr hn h
      go_enter Try.func23, Try.ntmps23
      go_wp2_with (go_at_call 15; refine HU.out.mono ?_; rintro e w' ⟨rfl, rfl⟩)
      go_ret3
      exact ⟨ret_val (by rw [HT.out]; rfl), rfl⟩
    · by_cases h3 : l.length - k < v
      · have HT := Lib.hid (rdText_short hr h2 h3)
        have h3' : n - k < v := by omega
        clear hr hn h h3
        go_enter Try.func23, Try.ntmps23
        go_wp2_with (go_at_call 15; refine HU.out.mono ?_; rintro e w' ⟨rfl, rfl⟩)
        go_ret3
        exact ⟨ret_val (by rw [HT.out]; rfl), rfl⟩
      · have HT := Lib.hid (rdText_ok hr h2 h3)
        have h3' : k + v ≤ n := by omega
        have hd := ((h.cut k (cap := c) (by rw [bytesV_length]; omega)).take v)
        rw [bytesV_drop, bytesV_take] at hd
        have e1 := run_b2s (P := Try.prog) w 22 5 9 Try.underlying22 Try.underlying5 Try.underlying9 _ v (c - k) ((l.drop k).take v) (by simp; omega) hd
        clear hr hn h h3 hd
        go_enter Try.func23, Try.ntmps23
        go_wp2_with (go_at_call 15; refine HU.out.mono ?_; rintro e w' ⟨rfl, rfl⟩)
        all_goals go_ret3
        all_goals exact ⟨ret_val (by rw [HT.out]; exact textVal_of rfl (by omega) rfl), rfl⟩
  · have HT := Lib.hid (rdText_e hr h1)
    obtain ⟨rfl, rfl, he⟩ : v = 0 ∧ k = 0 ∧ (er = 5 ∨ er = 6) := by omega
    clear hr hn h hok
    rcases he with rfl | rfl
    all_goals
      go_enter Try.func23, Try.ntmps23
      go_wp2_with (go_at_call 15; refine HU.out.mono ?_; rintro e w' ⟨rfl, rfl⟩)
      go_ret3
      exact ⟨ret_val (by rw [HT.out]; rfl), rfl⟩
set_option maxRecDepth 100000 in
set_option maxHeartbeats 400000 in
theorem rtext_any (A : Option Addr) (n c : Nat) (l : List UInt8) (w : World) (hn : l.length = n) (hnc : n ≤ c) (hm : n ≤ 200000000000000) (h : At w A (bytesV l)) :
    Calls Try.prog 24 #[.slice A n c] w fun e w' => e = .returned (textVal (rdText l)) ∧ w = w' := by
  obtain ⟨v, k, er, hr⟩ : ∃ v k er, rdUint l = (v, k, er) := ⟨_, _, _, rfl⟩
  have hok := rdUint_cases hr
  have HU := Lib.hid (ruint_at A n c l w hn (by unfold maxLen; omega) h hr)
  have HH := Lib.hid h
  by_cases h1 : er = 0
  · subst h1
    obtain ⟨hv, hk0, hkl, hk10⟩ : v < 18446744073709551616 ∧ 0 < k ∧ k ≤ n ∧ k ≤ 10 := by omega
    clear hok
    by_cases h2 : 1024 < v
    · have HT := Lib.hid (rdText_long hr h2)
      clear hr hn h
      go_enter Try.func24, Try.ntmps24
      go_wp2_with (go_at_call 16; refine HU.out.mono ?_; rintro e w' ⟨rfl, rfl⟩)
      go_ret3
      exact ⟨ret_val (by rw [HT.out]; rfl), rfl⟩
    · by_cases h3 : l.length - k < v
      · have HT := Lib.hid (rdText_short hr h2 h3)
        have h3' : n - k < v := by omega
        clear hr hn h h3
        go_enter Try.func24, Try.ntmps24
        go_wp2_with (go_at_call 16; refine HU.out.mono ?_; rintro e w' ⟨rfl, rfl⟩)
        go_ret3
        exact ⟨ret_val (by rw [HT.out]; rfl), rfl⟩
      · have HT := Lib.hid (rdText_ok hr h2 h3)
        have h3' : k + v ≤ n := by omega
        have hd := ((h.cut k (cap := c) (by rw [bytesV_length]; omega)).take v)
        rw [bytesV_drop, bytesV_take] at hd
        have e1 := run_b2s (P := Try.prog) w 22 5 9 Try.underlying22 Try.underlying5 Try.underlying9 _ v (c - k) ((l.drop k).take v) (by simp; omega) hd
        clear hr hn h h3 hd
        go_enter Try.func24, Try.ntmps24
        go_wp2_with (go_at_call 16; refine HU.out.mono ?_; rintro e w' ⟨rfl, rfl⟩)
        all_goals go_ret3
        all_goals exact ⟨ret_val (by rw [HT.out]; exact textVal_of rfl (by omega) rfl), rfl⟩
  · have HT := Lib.hid (rdText_e hr h1)
    obtain ⟨rfl, rfl, he⟩ : v = 0 ∧ k = 0 ∧ (er = 5 ∨ er = 6) := by omega
    clear hr hn h hok
    rcases he with rfl | rfl
    all_goals
      go_enter Try.func24, Try.ntmps24
      go_wp2_with (go_at_call 16; refine HU.out.mono ?_; rintro e w' ⟨rfl, rfl⟩)
      go_ret3
      exact ⟨ret_val (by rw [HT.out]; rfl), rfl⟩

/-- a row of bytes of the call's own -/
def OwnB (B : Nat) (w : World) (v : Value) (l : List UInt8) : Prop := w.ownsRow B 5 1 v l.length (bytesV l)
def MadeB (w : World) (l : List UInt8) (e : Ending) (w' : World) : Prop := ∃ v, e = .returned v ∧ OwnB w.heap.size w' v l ∧ Below w.heap.size w w'
theorem OwnB.slice {B : Nat} {w : World} {v : Value} {l : List UInt8} (h : OwnB B w v l) : ∃ A c, v = .slice A l.length c ∧ l.length ≤ c ∧ c ≤ maxLen ∧ At w A (bytesV l) := own_slice h

theorem put_at (A : Option Addr) (n c : Nat) (l : List UInt8) (x : Int) (y : Nat) (w : World) (hA : A = none → c = 0) (hn : l.length = n) (hnc : n ≤ c) (hm : n ≤ 140737488351232) (hx : x = y) (hy : y < 18446744073709551616) (hat : At w A (bytesV l)) :
    Calls Try.prog 20 #[.slice A n c, .int .u64 x] w (MadeB w (l ++ putUint y)) := by
  subst hx
  refine (put_any A n c l y w hA hn hnc hm hy hat).mono ?_
  rintro e w' ⟨v, rfl, h1, h2⟩
  refine ⟨v, rfl, ?_, h2⟩
  unfold OwnB
  rw [List.length_append, hn]
  exact h1
theorem rput_at (A : Option Addr) (n c : Nat) (l : List UInt8) (x : Int) (y : Nat) (w : World) (hn : l.length = n) (hm : n ≤ 140737488351232) (hx : x = y) (hy : y < 18446744073709551616) (hat : At w A (bytesV l)) :
    Calls Try.prog 21 #[.slice A n c, .int .u64 x] w (MadeB w (l ++ putUint y)) := by
  subst hx
  refine (rput_any A n c l y w hn hm hy hat).mono ?_
  rintro e w' ⟨v, rfl, h1, h2⟩
  refine ⟨v, rfl, ?_, h2⟩
  unfold OwnB
  rw [List.length_append, hn]
  exact h1

def strB (s : ByteArray) : List UInt8 := s.data.toList
theorem strB_cells (s : ByteArray) : Lib.strCells s = bytesV (strB s) := rfl
theorem strB_length (s : ByteArray) : (strB s).length = s.size := by unfold strB; rw [Array.length_toList]; rfl
theorem putU_length : ∀ (f x : Nat), (putU f x).length ≤ f
  | 0, _ => by simp [putU]
  | f + 1, x => by
    rw [putU]
    split
    · have := putU_length f (x / 128)
      simp
      omega
    · simp
theorem putUint_length (x : Nat) : (putUint x).length ≤ 10 := putU_length 10 x

set_option maxRecDepth 100000 in
set_option maxHeartbeats 400000 in
theorem puttext_any (A : Option Addr) (n c : Nat) (l : List UInt8) (s : ByteArray) (w : World) (hA : A = none → c = 0) (hn : l.length = n) (hnc : n ≤ c) (hm : n + s.size ≤ 140737488351232) (hat : At w A (bytesV l)) :
    Calls Try.prog 25 #[.slice A n c, .string s] w (MadeB w (l ++ putUint s.size ++ strB s)) := by
  obtain ⟨i0, hi, hz0, hz1, hz2⟩ := info_parts info5
  have HP := Lib.hid (put_at A n c l s.size s.size w hA hn hnc (by omega) rfl (by omega) hat)
  have hl := putUint_length s.size
  have HN := Lib.hid hn
  clear hA hn hat
  go_enter Try.func25, Try.ntmps25
  go_wp2_with (first
    | (go_at_call 20; refine HP.out.mono ?_; rintro e w1 ⟨v, rfl, h1, h2⟩; have H1 := Lib.hid h1; have H2 := Lib.hid h2; clear h1 h2)
    | (at_builtin; go_must (refine Lib.wpList_append_own_string _ rfl (.tmp 9) (.tmp 10) 22 9 rfl w.heap.size 5 i0 Try.underlying22 Try.underlying9 hi hz0 hz1 hz2 v _ _ rfl H1.out s rfl (by rw [List.length_append, HN.out]; unfold maxLen; omega) (by rw [List.length_append, HN.out]; omega) H2.out.size ?_); intro v' w2 h3 h4 _; have H3 := Lib.hid h3; have H4 := Lib.hid h4; clear h3 h4))
  go_ret
  refine ⟨v', rfl, ?_, H2.out.grown H4.out H2.out.size (fun k hk => (H1.out.lt k hk).1)⟩
  have := H3.out
  rw [strB_cells, bytesV_append, ← strB_length, ← List.length_append] at this
  exact this
set_option maxRecDepth 100000 in
set_option maxHeartbeats 400000 in
theorem rputtext_any (A : Option Addr) (n c : Nat) (l : List UInt8) (s : ByteArray) (w : World) (hn : l.length = n) (hm : n + s.size ≤ 140737488351232) (hat : At w A (bytesV l)) :
    Calls Try.prog 26 #[.slice A n c, .string s] w (MadeB w (l ++ putUint s.size ++ strB s)) := by
  obtain ⟨i0, hi, hz0, hz1, hz2⟩ := info_parts info5
  have HP := Lib.hid (rput_at A n c l s.size s.size w hn (by omega) rfl (by omega) hat)
  have hl := putUint_length s.size
  have HN := Lib.hid hn
  clear hn hat
  go_enter Try.func26, Try.ntmps26
  go_wp2_with (first
    | (go_at_call 21; refine HP.out.mono ?_; rintro e w1 ⟨v, rfl, h1, h2⟩; have H1 := Lib.hid h1; have H2 := Lib.hid h2; clear h1 h2)
    | (at_builtin; go_must (refine Lib.wpList_append_own_string _ rfl (.tmp 9) (.tmp 10) 22 9 rfl w.heap.size 5 i0 Try.underlying22 Try.underlying9 hi hz0 hz1 hz2 v _ _ rfl H1.out s rfl (by rw [List.length_append, HN.out]; unfold maxLen; omega) (by rw [List.length_append, HN.out]; omega) H2.out.size ?_); intro v' w2 h3 h4 _; have H3 := Lib.hid h3; have H4 := Lib.hid h4; clear h3 h4))
  go_ret
  refine ⟨v', rfl, ?_, H2.out.grown H4.out H2.out.size (fun k hk => (H1.out.lt k hk).1)⟩
  have := H3.out
  rw [strB_cells, bytesV_append, ← strB_length, ← List.length_append] at this
  exact this
end Go.Proofs.Ytehnbfokjkpgkaa
