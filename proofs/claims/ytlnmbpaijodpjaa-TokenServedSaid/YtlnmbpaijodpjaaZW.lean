/- Texts put behind one another: W00, W0, W1, W2, W3, K1, W4, W5. -/
import Derived.WalkKit
import Derived.Below
import Derived.OwnWalk
import Derived.Laws.NewBlocks
import Derived.Test.YtlnmbpaijodpjaaProg
import Derived.WalkSpells
import Derived.WalkLawsBesides
import Derived.WalkSmall
import Derived.Lib.Hide
import Derived.Deep.DeepMust
import Derived.BigQuiet
import Derived.Deep.QuietTactic
import Derived.Deep.RegionHeld3
import Derived.RegionTactic
import Derived.Laws.EntriesVeiled
import Derived.Test.YtlnmbpaijodpjaaZB
import Derived.Test.YtlnmbpaijodpjaaZL
import Derived.Test.YtlnmbpaijodpjaaZE
import Derived.Test.YtlnmbpaijodpjaaZK
set_option linter.unusedVariables false
set_option linter.unusedSimpArgs false
namespace Go.Proofs.Ytlnmbpaijodpjaa
open Go.RowKit Go.Proofs

theorem block_free {w : World} {b i : Nat} {cs : Array Value} {t : TypeId} (h : w.heap[b]? = some (.cells cs t (0, 0))) : w.frozen? ⟨b, i, none⟩ = false := by
  simp [World.frozen?, h]
theorem block_new (w : World) (cs : Array Value) (t : TypeId) : (w.alloc (.cells cs t)).heap[w.heap.size]? = some (.cells cs t (0, 0)) := heap_alloc_new w _
theorem block_old {w : World} {b : Nat} {o : Obj} (h : w.heap[b]? = some o) (o' : Obj) : (w.alloc o').heap[b]? = some o := by
  have hb : b < w.heap.size := (Array.getElem?_eq_some_iff.1 h).1
  rw [Below.heap_alloc w o' b hb]
  exact h
theorem block_below {w w' : World} {b B : Nat} {o : Obj} (h : w.heap[b]? = some o) (hb : Below B w w') (hlt : b < B) : w'.heap[b]? = some o := by
  rw [hb.block b hlt]
  exact h
theorem block_cells {w : World} {b : Nat} {cs : Array Value} {t : TypeId} (h : w.heap[b]? = some (.cells cs t (0, 0))) : ∀ i, w.cell? ⟨b, i, none⟩ = cs[i]? := fun i => cell_of_row w b i cs t (0, 0) h
theorem block_frees {w : World} {b : Nat} {cs : Array Value} {t : TypeId} (h : w.heap[b]? = some (.cells cs t (0, 0))) : ∀ i, w.frozen? ⟨b, i, none⟩ = false := fun _ => block_free h
/-- the boxes of a call, behind a call of another function -/
theorem frame1 {w w1 : World} {cs : Array Value} {t : TypeId} (hb : Below (w.alloc (.cells cs t)).heap.size (w.alloc (.cells cs t)) w1) : w1.heap[w.heap.size]? = some (.cells cs t (0, 0)) :=
  block_below (block_new w cs t) hb (by simp)
theorem frame2 {w w1 : World} {cs ds : Array Value} {t u : TypeId} (hb : Below ((w.alloc (.cells cs t)).alloc (.cells ds u)).heap.size ((w.alloc (.cells cs t)).alloc (.cells ds u)) w1) :
    w1.heap[w.heap.size]? = some (.cells cs t (0, 0)) ∧ w1.heap[w.heap.size + 1]? = some (.cells ds u (0, 0)) :=
  ⟨block_below (block_old (block_new w cs t) _) hb (by simp; omega), by
    have := block_below (block_new (w.alloc (.cells cs t)) ds u) hb (by simp)
    simpa using this⟩
theorem frame3 {w w1 : World} {cs ds es : Array Value} {t u s : TypeId} (hb : Below (((w.alloc (.cells cs t)).alloc (.cells ds u)).alloc (.cells es s)).heap.size (((w.alloc (.cells cs t)).alloc (.cells ds u)).alloc (.cells es s)) w1) :
    w1.heap[w.heap.size]? = some (.cells cs t (0, 0)) ∧ w1.heap[w.heap.size + 1]? = some (.cells ds u (0, 0)) ∧ w1.heap[w.heap.size + 2]? = some (.cells es s (0, 0)) :=
  ⟨block_below (block_old (block_old (block_new w cs t) _) _) hb (by simp; omega), by
    have := block_below (block_old (block_new (w.alloc (.cells cs t)) ds u) (.cells es s)) hb (by simp)
    simpa using this, by
    have := block_below (block_new ((w.alloc (.cells cs t)).alloc (.cells ds u)) es s) hb (by simp)
    simpa using this⟩
end Go.Proofs.Ytlnmbpaijodpjaa

namespace Go.Proofs.Ytlnmbpaijodpjaa
open Go.RowKit Go.Proofs

theorem below_new (w : World) (o : Obj) : Below w.heap.size w (w.alloc o) := (Below.refl _ _).alloc (Nat.le_refl _) _
/-- the cells of a message, of a post -/
def mc (k e s : Int) : List Value := [.int .i64 k, .int .i64 0, .int .i64 0, .int .i64 0, .int .i64 0, .string (ByteArray.mk #[]), .int .i64 0, .int .i64 0, .int .i64 0, .int .i64 0, .int .i64 0, .int .i64 e, .int .i64 s, .int .i64 0, .bool false, .slice none 0 0, .slice none 0 0, .slice none 0 0]
def pc (to k e s : Int) : List Value := .int .i64 to :: mc k e s

set_option maxRecDepth 100000 in
set_option maxHeartbeats 400000 in
theorem req_any (w : World) (to s e : Int) (b : Nat) (hb : w.cell? ⟨b, 0, none⟩ = some (.int .i64 e)) :
    Calls Try.prog 23 #[.int .i64 to, .int .i64 s, .pointer (some ⟨b, 0, none⟩)] w fun e' w' => e' = .returned (.slice (some ⟨w.heap.size, 0, none⟩) 1 1) ∧ w'.heap[w.heap.size]? = some (.cells (pc to 12 e s).toArray 55 (0, 0)) ∧ Below w.heap.size w w' := by
  go_enter Try.func23, Try.ntmps23
  go_wp2
  go_ret
  exact ⟨rfl, block_new w _ 55, below_new _ _⟩
set_option maxRecDepth 100000 in
set_option maxHeartbeats 400000 in
theorem tok_any (w : World) (to e : Int) (b : Nat) (hb : w.cell? ⟨b, 0, none⟩ = some (.int .i64 e)) :
    Calls Try.prog 24 #[.int .i64 to, .pointer (some ⟨b, 0, none⟩)] w fun e' w' => e' = .returned (.slice (some ⟨w.heap.size, 0, none⟩) 1 1) ∧ w'.heap[w.heap.size]? = some (.cells (pc to 13 e 0).toArray 55 (0, 0)) ∧ Below w.heap.size w w' := by
  go_enter Try.func24, Try.ntmps24
  go_wp2
  go_ret
  exact ⟨rfl, block_new w _ 55, below_new _ _⟩
set_option maxRecDepth 100000 in
set_option maxHeartbeats 400000 in
theorem maker_any (w : World) (e : Int) :
    Calls Try.prog 19 #[.int .i64 e] w fun e' w' => e' = .returned (.agg #[(Value.func (.func 23) #[] #[.pointer (some ⟨(w.heap.size), 0, none⟩)]), (Value.func (.func 24) #[] #[.pointer (some ⟨(w.heap.size), 0, none⟩)])]) ∧ w'.cell? ⟨w.heap.size, 0, none⟩ = some (.int .i64 e) ∧ w'.heap.size = w.heap.size + 2 ∧ Below w.heap.size w w' := by
  have hmf : ∀ (fn : Fn) (first cap : Array Value) (w : World), (Instr.makeFunc fn first cap).run Try.prog w = .ok (.func fn first cap) w := fun _ _ _ _ => rfl
  go_enter Try.func19, Try.ntmps19
  go_wp2
  refine bodyPost_ret (v := .agg #[(Value.func (.func 23) #[] #[.pointer (some ⟨(w.heap.size), 0, none⟩)]), (Value.func (.func 24) #[] #[.pointer (some ⟨(w.heap.size), 0, none⟩)])]) (by simp [results, Try.results19, go_sem]) rfl ⟨rfl, by simp, by simp, (below_new _ _).alloc (by simp) _⟩
theorem run_request (n b : Nat) (v : Value) (w : World) : (Instr.field 66 (.agg #[(Value.func (.func n) #[] #[.pointer (some ⟨b, 0, none⟩)]), v]) 0).run Try.prog w = .ok ((Value.func (.func n) #[] #[.pointer (some ⟨b, 0, none⟩)])) w := rfl
theorem run_token (n b : Nat) (v : Value) (w : World) : (Instr.field 66 (.agg #[v, (Value.func (.func n) #[] #[.pointer (some ⟨b, 0, none⟩)])]) 1).run Try.prog w = .ok ((Value.func (.func n) #[] #[.pointer (some ⟨b, 0, none⟩)])) w := rfl
end Go.Proofs.Ytlnmbpaijodpjaa

namespace Go.Proofs.Ytlnmbpaijodpjaa
open Go.RowKit Go.Proofs

def sv (h q u : Bool) (l x : Int) : Value := .agg #[.bool h, .bool q, .bool u, .int .i64 l, .int .i64 x]
theorem blk_keep {w w1 : World} {b : Nat} {o : Obj} (f : w.heap[b]? = some o) (q : Below w.heap.size w w1) : w1.heap[b]? = some o := block_below f q (Array.getElem?_eq_some_iff.1 f).1
theorem blk_keep' {w w1 : World} {b : Nat} {o : Obj} (q : Below w.heap.size w w1) (f : w.heap[b]? = some o) : w1.heap[b]? = some o := blk_keep f q
theorem below_two {w w1 : World} {a b : Obj} (q : Below ((w.alloc a).alloc b).heap.size ((w.alloc a).alloc b) w1) : Below w.heap.size w w1 := ((below_new w _).alloc (by simp) _).trans (q.mono (by simp; omega))
theorem below_next {B : Nat} {w w1 w2 : World} (h : Below B w w1) (hB : B ≤ w1.heap.size) (q : Below w1.heap.size w1 w2) : Below B w w2 := h.trans (q.mono hB)
theorem blk_set {w : World} {b : Nat} {o : Obj} {a : Addr} {v : Value} (h : w.heap[b]? = some o) (hne : b ≠ a.block) : (w.setCell a v).heap[b]? = some o := by
  obtain ⟨x, y, z⟩ := a
  cases z with
  | none => rw [Below.heap_setCell _ _ _ _ hne]; exact h
  | some z => rw [Below.heap_setCell _ _ _ _ hne]; exact h
/-- a call that answers yes -/
def Yes (f : FuncId) (args : Array Value) : Prop := ∀ w, Calls Try.prog f args w fun e' w' => e' = .returned (.bool true) ∧ Below w.heap.size w w'
/-- what Want, Hear, Done hand back: a state, at most one post, no error -/
def Bck (w : World) (h q u : Bool) (l x : Int) (ps : Option (List Value)) (e' : Ending) (w' : World) : Prop :=
  ∃ pv, e' = .returned (.tuple #[sv h q u l x, pv, .int .i64 0]) ∧ Below w.heap.size w w' ∧
    match ps with
    | none => pv = .slice none 0 0
    | some cs => ∃ b, pv = .slice (some ⟨b, 0, none⟩) 1 1 ∧ w.heap.size ≤ b ∧ w'.heap[b]? = some (.cells cs.toArray 55 (0, 0))

set_option maxRecDepth 100000 in
set_option maxHeartbeats 400000 in
theorem want_has (w : World) (i n l x : Int) (e : Int) (hV : Yes 14 #[sv true false false l x, .int .i64 i, .int .i64 n]) (hE : Yes 18 #[.int .i64 e]) :
    Calls Try.prog 12 #[sv true false false l x, .int .i64 i, .int .i64 n, .int .i64 e] w (Bck w true false true l x none) := by
  unfold sv at hV ⊢
  have HV := Lib.hid hV
  have HE := Lib.hid hE
  clear hV hE
  go_enter Try.func12, Try.ntmps12
  go_wp2_with (first
    | (go_at_call 14; go_must (refine (HV.out _).mono ?_); rintro e' w1 ⟨rfl, q1⟩; obtain ⟨f1, f2⟩ := frame2 q1; have C1 := block_cells f1; have C2 := block_cells f2; have R1 := block_frees f1; have R2 := block_frees f2; have HF1 := Lib.hid f1; have HF2 := Lib.hid f2; have HQ1 := Lib.hid (below_two q1); clear f1 f2 q1)
    | (go_at_call 18; go_must (refine (HE.out _).mono ?_); rintro e' w2 ⟨rfl, q2⟩; have f1 := blk_keep HF1.out q2; have f2 := blk_keep HF2.out q2; clear C1 C2 R1 R2; have C1 := block_cells f1; have C2 := block_cells f2; have R1 := block_frees f1; have R2 := block_frees f2; have HQ2 := Lib.hid (below_next HQ1.out HQ1.out.size q2); clear f1 f2 q2))
  refine bodyPost_ret (v := .tuple #[sv true false true l x, .slice none 0 0, .int .i64 0]) (by simp [results, Try.results12, go_sem, C2, sv]) rfl ⟨_, rfl, ?_, rfl⟩
  repeat (refine Below.setCell ?_ (by first | (simp; done) | (simp; omega) | omega) _)
  exact HQ2.out
set_option maxRecDepth 100000 in
set_option maxHeartbeats 400000 in
theorem want_ask (w : World) (i n l x : Int) (e : Int) (hV : Yes 14 #[sv false false false l x, .int .i64 i, .int .i64 n]) (hE : Yes 18 #[.int .i64 e]) :
    Calls Try.prog 12 #[sv false false false l x, .int .i64 i, .int .i64 n, .int .i64 e] w (Bck w false true false (-1) x (some (pc l 12 e i))) := by
  unfold sv at hV ⊢
  have HV := Lib.hid hV
  have HE := Lib.hid hE
  clear hV hE
  go_enter Try.func12, Try.ntmps12
  go_wp2_with (first
    | (go_at_call 14; go_must (refine (HV.out _).mono ?_); rintro e' w1 ⟨rfl, q1⟩; obtain ⟨f1, f2⟩ := frame2 q1; have C1 := block_cells f1; have C2 := block_cells f2; have R1 := block_frees f1; have R2 := block_frees f2; have HF1 := Lib.hid f1; have HF2 := Lib.hid f2; have HQ1 := Lib.hid (below_two q1); clear f1 f2 q1)
    | (go_at_call 18; go_must (refine (HE.out _).mono ?_); rintro e' w2 ⟨rfl, q2⟩; have f1 := blk_keep HF1.out q2; have f2 := blk_keep HF2.out q2; clear C1 C2 R1 R2; have C1 := block_cells f1; have C2 := block_cells f2; have R1 := block_frees f1; have R2 := block_frees f2; have HF3 := Lib.hid f1; have HF4 := Lib.hid f2; have HQ2 := Lib.hid (below_next HQ1.out HQ1.out.size q2); clear f1 f2 q2))
  have HR := fun (n b : Nat) (v : Value) (w : World) => run_request n b v w
  go_region_held3 (fun wx => wx.cell? ⟨w.heap.size, 3, none⟩ = some (.int .i64 l))
    (first | exact C1 3 | exact D1 3 | exact E1 3 | go_keep)
    (first
    | (go_at_call 19; refine (maker_any _ e).mono ?_; rintro e' w3 ⟨rfl, m1, m2, q3⟩;  have f1 := blk_keep' q3 HF3.out; have f2 := blk_keep' q3 HF4.out; have D1 := block_cells f1; have HF5 := Lib.hid f1; have HF6 := Lib.hid f2; have HM1 := Lib.hid m1; have b3 : Below w.heap.size w w3 := (by first | exact below_next HQ2.out (Below.size HQ2.out) q3 | exact below_next (Below.drew HQ2.out) (Below.size (Below.drew HQ2.out)) q3 | exact below_next (Below.drew (Below.drew HQ2.out)) (Below.size (Below.drew (Below.drew HQ2.out))) q3); have HQ3 := Lib.hid b3; clear b3; clear f1 f2 q3 m1 m2)
    | (go_at_call 23; refine (req_any _ l i e _ HM1.out).mono ?_; rintro e' w4 ⟨rfl, m1, q4⟩; have f1 := blk_keep' q4 HF5.out; have f2 := blk_keep' q4 HF6.out; have E1 := block_cells f1; have E2 := block_cells f2; have G1 := block_frees f1; have G2 := block_frees f2; have HM2 := Lib.hid m1; have b4 : Below w.heap.size w w4 := (by first | exact below_next HQ3.out (Below.size HQ3.out) q4 | exact below_next (Below.drew HQ3.out) (Below.size (Below.drew HQ3.out)) q4 | exact below_next (Below.drew (Below.drew HQ3.out)) (Below.size (Below.drew (Below.drew HQ3.out))) q4); have HQ4 := Lib.hid b4; clear b4; clear f1 f2 q4 m1))
  all_goals go_wp2
  refine bodyPost_ret (v := .tuple #[sv false true false (-1) x, .slice (some ⟨w3.heap.size, 0, none⟩) 1 1, .int .i64 0]) (by simp [results, Try.results12, go_sem, E2, sv]) rfl ⟨_, rfl, ?_, _, rfl, HQ3.out.size, ?_⟩
  · repeat (refine Below.setCell ?_ (by first | (simp; done) | (simp; omega) | omega) _)
    exact HQ4.out
  · have k1 := (Array.getElem?_eq_some_iff.1 HF6.out).1
    repeat (refine blk_set ?_ (by simp; omega))
    exact HM2.out
end Go.Proofs.Ytlnmbpaijodpjaa

namespace Go.Proofs.Ytlnmbpaijodpjaa
open Go.RowKit Go.Proofs

set_option maxRecDepth 100000 in
set_option maxHeartbeats 400000 in
theorem done_stop (w : World) (i n l : Int) (e : Int) (hV : Yes 14 #[sv true false true l (-1), .int .i64 i, .int .i64 n]) (hE : Yes 18 #[.int .i64 e]) :
    Calls Try.prog 8 #[sv true false true l (-1), .int .i64 i, .int .i64 n, .int .i64 e] w (Bck w true false false l (-1) none) := by
  unfold sv at hV ⊢
  have HV := Lib.hid hV
  have HE := Lib.hid hE
  clear hV hE
  go_enter Try.func8, Try.ntmps8
  go_wp2_with (first
    | (go_at_call 14; go_must (refine (HV.out _).mono ?_); rintro e' w1 ⟨rfl, q1⟩; obtain ⟨f1, f2⟩ := frame2 q1; have C1 := block_cells f1; have C2 := block_cells f2; have R1 := block_frees f1; have R2 := block_frees f2; have HF1 := Lib.hid f1; have HF2 := Lib.hid f2; have HQ1 := Lib.hid (below_two q1); clear f1 f2 q1)
    | (go_at_call 18; go_must (refine (HE.out _).mono ?_); rintro e' w2 ⟨rfl, q2⟩; have f1 := blk_keep HF1.out q2; have f2 := blk_keep HF2.out q2; clear C1 C2 R1 R2; have C1 := block_cells f1; have C2 := block_cells f2; have R1 := block_frees f1; have R2 := block_frees f2; have HF3 := Lib.hid f1; have HF4 := Lib.hid f2; have HQ2 := Lib.hid (below_next HQ1.out HQ1.out.size q2); clear f1 f2 q2))
  refine bodyPost_ret (v := .tuple #[sv true false false l (-1), .slice none 0 0, .int .i64 0]) (by simp [results, Try.results8, go_sem, C2, sv]) rfl ⟨_, rfl, ?_, rfl⟩
  repeat (refine Below.setCell ?_ (by first | (simp; done) | (simp; omega) | omega) _)
  exact HQ2.out
set_option maxRecDepth 100000 in
set_option maxHeartbeats 400000 in
theorem done_pass (w : World) (i n l x : Int) (e : Int) (hx : x ≠ -1) (hV : Yes 14 #[sv true false true l x, .int .i64 i, .int .i64 n]) (hE : Yes 18 #[.int .i64 e]) :
    Calls Try.prog 8 #[sv true false true l x, .int .i64 i, .int .i64 n, .int .i64 e] w (Bck w false false false l (-1) (some (pc x 13 e 0))) := by
  unfold sv at hV ⊢
  have hx1 : (x == -1) = false := by simpa using hx
  have HV := Lib.hid hV
  have HE := Lib.hid hE
  clear hV hE hx
  go_enter Try.func8, Try.ntmps8
  go_wp2_with (first
    | (go_at_call 14; go_must (refine (HV.out _).mono ?_); rintro e' w1 ⟨rfl, q1⟩; obtain ⟨f1, f2⟩ := frame2 q1; have C1 := block_cells f1; have C2 := block_cells f2; have R1 := block_frees f1; have R2 := block_frees f2; have HF1 := Lib.hid f1; have HF2 := Lib.hid f2; have HQ1 := Lib.hid (below_two q1); clear f1 f2 q1)
    | (go_at_call 18; go_must (refine (HE.out _).mono ?_); rintro e' w2 ⟨rfl, q2⟩; have f1 := blk_keep HF1.out q2; have f2 := blk_keep HF2.out q2; clear C1 C2 R1 R2; have C1 := block_cells f1; have C2 := block_cells f2; have R1 := block_frees f1; have R2 := block_frees f2; have HF3 := Lib.hid f1; have HF4 := Lib.hid f2; have HQ2 := Lib.hid (below_next HQ1.out HQ1.out.size q2); clear f1 f2 q2))
  have HR := fun (n b : Nat) (v : Value) (w : World) => run_token n b v w
  have CN : (w2.setCell ⟨w.heap.size, 2, none⟩ (.bool false)).cell? ⟨w.heap.size, 4, none⟩ = some (.int .i64 x) := by rw [World.cell?_setCell_other _ _ _ _ (by simp)]; exact C1 4
  have HF3' := Lib.hid (setCell_row (o := 2) (v := .bool false) HF3.out)
  have HF4' := Lib.hid (blk_set (a := ⟨w.heap.size, 2, none⟩) (v := .bool false) HF4.out (by simp))
  have HQ2' := Lib.hid (HQ2.out.setCell (p := ⟨w.heap.size, 2, none⟩) (by simp) (.bool false))
  go_region_held3 (fun wx => wx.cell? ⟨w.heap.size, 4, none⟩ = some (.int .i64 x))
    (first | exact CN | exact D1 4 | exact E1 4 | go_keep)
    (first
    | (go_at_call 19; refine (maker_any _ e).mono ?_; rintro e' w3 ⟨rfl, m1, m2, q3⟩; have f1 := blk_keep' q3 HF3'.out; have f2 := blk_keep' q3 HF4'.out; have D1 := block_cells f1; have HF5 := Lib.hid f1; have HF6 := Lib.hid f2; have HM1 : Hid (w3.cell? ⟨w2.heap.size, 0, none⟩ = some (.int .i64 e)) := Lib.hid (by simpa [World.drew] using m1); have b3 : Below w.heap.size w w3 := (by first | exact below_next HQ2'.out (Below.size HQ2'.out) q3 | exact below_next (Below.drew HQ2'.out) (Below.size (Below.drew HQ2'.out)) q3 | exact below_next (Below.drew (Below.drew HQ2'.out)) (Below.size (Below.drew (Below.drew HQ2'.out))) q3); have HQ3 := Lib.hid b3; clear b3; clear f1 f2 q3 m1 m2)
    | (go_at_call 24; refine (tok_any _ x e _ HM1.out).mono ?_; rintro e' w4 ⟨rfl, m1, q4⟩; have f1 := blk_keep' q4 HF5.out; have f2 := blk_keep' q4 HF6.out; have E1 := block_cells f1; have E2 := block_cells f2; have G1 := block_frees f1; have G2 := block_frees f2; have HM2 := Lib.hid m1; have b4 : Below w.heap.size w w4 := (by first | exact below_next HQ3.out (Below.size HQ3.out) q4 | exact below_next (Below.drew HQ3.out) (Below.size (Below.drew HQ3.out)) q4 | exact below_next (Below.drew (Below.drew HQ3.out)) (Below.size (Below.drew (Below.drew HQ3.out))) q4); have HQ4 := Lib.hid b4; clear b4; clear f1 f2 q4 m1))
  all_goals go_wp2
  refine bodyPost_ret (v := .tuple #[sv false false false l (-1), .slice (some ⟨w3.heap.size, 0, none⟩) 1 1, .int .i64 0]) (by simp [results, Try.results8, go_sem, E2, sv]) rfl ⟨_, rfl, ?_, _, rfl, HQ3.out.size, ?_⟩
  · repeat (refine Below.setCell ?_ (by first | (simp; done) | (simp; omega) | omega) _)
    exact HQ4.out
  · have k1 := (Array.getElem?_eq_some_iff.1 HF6.out).1
    repeat (refine blk_set ?_ (by simp; omega))
    exact HM2.out
end Go.Proofs.Ytlnmbpaijodpjaa

namespace Go.Proofs.Ytlnmbpaijodpjaa
open Go.RowKit Go.Proofs

theorem below_three {w w1 : World} {a b c : Obj} (q : Below (((w.alloc a).alloc b).alloc c).heap.size (((w.alloc a).alloc b).alloc c) w1) : Below w.heap.size w w1 := (((below_new w _).alloc (by simp) _).alloc (by simp; omega) _).trans (q.mono (by simp; omega))
set_option maxRecDepth 100000 in
set_option maxHeartbeats 400000 in
theorem hear_tok (w : World) (i n l x : Int) (e : Int) (hV : Yes 14 #[sv false true false l x, .int .i64 i, .int .i64 n]) (hE : Yes 18 #[.int .i64 e]) :
    Calls Try.prog 13 #[sv false true false l x, .int .i64 i, .int .i64 n, .int .i64 e, .agg (mc 13 e 0).toArray] w (Bck w true false true l x none) := by
  unfold sv at hV ⊢
  unfold mc
  have HV := Lib.hid hV
  have HE := Lib.hid hE
  clear hV hE
  go_enter Try.func13, Try.ntmps13
  go_wp2_with (first
    | (go_at_call 14; go_must (refine (HV.out _).mono ?_); rintro e' w1 ⟨rfl, q⟩; obtain ⟨f1, f2, f3⟩ := frame3 q; have C1 := block_cells f1; have C2 := block_cells f2; have C3 := block_cells f3; have R1 := block_frees f1; have R3 := block_frees f3; have HA1 := Lib.hid f1; have HA2 := Lib.hid f2; have HA3 := Lib.hid f3; have HAQ := Lib.hid (below_three q); clear f1 f2 f3 q)
    | (go_at_call 18; go_must (refine (HE.out _).mono ?_); rintro e' w2 ⟨rfl, q⟩; have f1 := blk_keep' q HA1.out; have f2 := blk_keep' q HA2.out; have f3 := blk_keep' q HA3.out; clear C1 C2 C3 R1 R3; have C1 := block_cells f1; have C2 := block_cells f2; have C3 := block_cells f3; have R1 := block_frees f1; have R3 := block_frees f3; have HB1 := Lib.hid f1; have HB2 := Lib.hid f2; have HB3 := Lib.hid f3; have HBQ := Lib.hid (below_next HAQ.out HAQ.out.size q); clear f1 f2 f3 q))
  refine bodyPost_ret (v := .tuple #[sv true false true l x, .slice none 0 0, .int .i64 0]) (by simp [results, Try.results13, go_sem, C3, sv]) rfl ⟨_, rfl, ?_, rfl⟩
  repeat (refine Below.setCell ?_ (by first | (simp; done) | (simp; omega) | omega) _)
  exact HBQ.out
set_option maxRecDepth 100000 in
set_option maxHeartbeats 400000 in
theorem hear_hold0 (w : World) (q u : Bool) (i n x : Int) (e s : Int) (hV : Yes 14 #[sv false q u (-1) x, .int .i64 i, .int .i64 n]) (hE : Yes 18 #[.int .i64 e]) (hO : Yes 21 #[.int .i64 s, .int .i64 i, .int .i64 n]) :
    Calls Try.prog 13 #[sv false q u (-1) x, .int .i64 i, .int .i64 n, .int .i64 e, .agg (mc 12 e s).toArray] w (Bck w false q u s s none) := by
  unfold sv at hV ⊢
  unfold mc
  have HV := Lib.hid hV
  have HE := Lib.hid hE
  have HO := Lib.hid hO
  clear hV hE hO
  go_enter Try.func13, Try.ntmps13
  go_wp2_with (first
    | (go_at_call 14; go_must (refine (HV.out _).mono ?_); rintro e' w1 ⟨rfl, q⟩; obtain ⟨f1, f2, f3⟩ := frame3 q; have C1 := block_cells f1; have C2 := block_cells f2; have C3 := block_cells f3; have R1 := block_frees f1; have R3 := block_frees f3; have HA1 := Lib.hid f1; have HA2 := Lib.hid f2; have HA3 := Lib.hid f3; have HAQ := Lib.hid (below_three q); clear f1 f2 f3 q)
    | (go_at_call 21; go_must (refine (HO.out _).mono ?_); rintro e' w2 ⟨rfl, q⟩; have f1 := blk_keep' q HA1.out; have f2 := blk_keep' q HA2.out; have f3 := blk_keep' q HA3.out; clear C1 C2 C3 R1 R3; have C1 := block_cells f1; have C2 := block_cells f2; have C3 := block_cells f3; have R1 := block_frees f1; have R3 := block_frees f3; have HB1 := Lib.hid f1; have HB2 := Lib.hid f2; have HB3 := Lib.hid f3; have HBQ := Lib.hid (below_next HAQ.out HAQ.out.size q); clear f1 f2 f3 q)
    | (go_at_call 18; go_must (refine (HE.out _).mono ?_); rintro e' w3 ⟨rfl, q⟩; have f1 := blk_keep' q HB1.out; have f2 := blk_keep' q HB2.out; have f3 := blk_keep' q HB3.out; clear C1 C2 C3 R1 R3; have C1 := block_cells f1; have C2 := block_cells f2; have C3 := block_cells f3; have R1 := block_frees f1; have R3 := block_frees f3; have HC1 := Lib.hid f1; have HC2 := Lib.hid f2; have HC3 := Lib.hid f3; have HCQ := Lib.hid (below_next HBQ.out HBQ.out.size q); clear f1 f2 f3 q)
    | (go_at_call 19; go_must (refine (maker_any _ e).mono ?_); rintro e' w4 ⟨rfl, m1, m2, q⟩; have f1 := blk_keep' q HC1.out; have f2 := blk_keep' q HC2.out; have f3 := blk_keep' q HC3.out; clear C1 C2 C3 R1 R3; have C1 := fun o => block_cells (block_old f1 o); have C2 := fun o => block_cells (block_old f2 o); have C3 := fun o => block_cells (block_old f3 o); have R1 := fun o => block_frees (block_old f1 o); have R3 := fun o => block_frees (block_old f3 o); have HD1 := Lib.hid f1; have HD2 := Lib.hid f2; have HD3 := Lib.hid f3; have HDQ := Lib.hid (below_next HCQ.out HCQ.out.size q); have HM1 : Hid (∀ o, (w4.alloc o).cell? ⟨w3.heap.size, 0, none⟩ = some (.int .i64 e)) := Lib.hid (fun o => by rw [World.cell?_alloc_past _ _ _ (by rw [m2]; simp)]; exact m1); clear m1 m2 f1 f2 f3 q))
  refine bodyPost_ret (v := .tuple #[sv false q u s s, .slice none 0 0, .int .i64 0]) (by simp [results, Try.results13, go_sem, C3, sv]) rfl ⟨_, rfl, ?_, rfl⟩
  repeat (refine Below.setCell ?_ (by first | (simp; done) | (simp; omega) | omega) _)
  exact HDQ.out.alloc HDQ.out.size _
set_option maxRecDepth 100000 in
set_option maxHeartbeats 400000 in
theorem hear_hold1 (w : World) (q : Bool) (i n x : Int) (e s : Int) (hV : Yes 14 #[sv true q true (-1) x, .int .i64 i, .int .i64 n]) (hE : Yes 18 #[.int .i64 e]) (hO : Yes 21 #[.int .i64 s, .int .i64 i, .int .i64 n]) :
    Calls Try.prog 13 #[sv true q true (-1) x, .int .i64 i, .int .i64 n, .int .i64 e, .agg (mc 12 e s).toArray] w (Bck w true q true s s none) := by
  unfold sv at hV ⊢
  unfold mc
  have HV := Lib.hid hV
  have HE := Lib.hid hE
  have HO := Lib.hid hO
  clear hV hE hO
  go_enter Try.func13, Try.ntmps13
  go_wp2_with (first
    | (go_at_call 14; go_must (refine (HV.out _).mono ?_); rintro e' w1 ⟨rfl, q⟩; obtain ⟨f1, f2, f3⟩ := frame3 q; have C1 := block_cells f1; have C2 := block_cells f2; have C3 := block_cells f3; have R1 := block_frees f1; have R3 := block_frees f3; have HA1 := Lib.hid f1; have HA2 := Lib.hid f2; have HA3 := Lib.hid f3; have HAQ := Lib.hid (below_three q); clear f1 f2 f3 q)
    | (go_at_call 21; go_must (refine (HO.out _).mono ?_); rintro e' w2 ⟨rfl, q⟩; have f1 := blk_keep' q HA1.out; have f2 := blk_keep' q HA2.out; have f3 := blk_keep' q HA3.out; clear C1 C2 C3 R1 R3; have C1 := block_cells f1; have C2 := block_cells f2; have C3 := block_cells f3; have R1 := block_frees f1; have R3 := block_frees f3; have HB1 := Lib.hid f1; have HB2 := Lib.hid f2; have HB3 := Lib.hid f3; have HBQ := Lib.hid (below_next HAQ.out HAQ.out.size q); clear f1 f2 f3 q)
    | (go_at_call 18; go_must (refine (HE.out _).mono ?_); rintro e' w3 ⟨rfl, q⟩; have f1 := blk_keep' q HB1.out; have f2 := blk_keep' q HB2.out; have f3 := blk_keep' q HB3.out; clear C1 C2 C3 R1 R3; have C1 := block_cells f1; have C2 := block_cells f2; have C3 := block_cells f3; have R1 := block_frees f1; have R3 := block_frees f3; have HC1 := Lib.hid f1; have HC2 := Lib.hid f2; have HC3 := Lib.hid f3; have HCQ := Lib.hid (below_next HBQ.out HBQ.out.size q); clear f1 f2 f3 q)
    | (go_at_call 19; go_must (refine (maker_any _ e).mono ?_); rintro e' w4 ⟨rfl, m1, m2, q⟩; have f1 := blk_keep' q HC1.out; have f2 := blk_keep' q HC2.out; have f3 := blk_keep' q HC3.out; clear C1 C2 C3 R1 R3; have C1 := fun o => block_cells (block_old f1 o); have C2 := fun o => block_cells (block_old f2 o); have C3 := fun o => block_cells (block_old f3 o); have R1 := fun o => block_frees (block_old f1 o); have R3 := fun o => block_frees (block_old f3 o); have HD1 := Lib.hid f1; have HD2 := Lib.hid f2; have HD3 := Lib.hid f3; have HDQ := Lib.hid (below_next HCQ.out HCQ.out.size q); have HM1 : Hid (∀ o, (w4.alloc o).cell? ⟨w3.heap.size, 0, none⟩ = some (.int .i64 e)) := Lib.hid (fun o => by rw [World.cell?_alloc_past _ _ _ (by rw [m2]; simp)]; exact m1); clear m1 m2 f1 f2 f3 q))
  refine bodyPost_ret (v := .tuple #[sv true q true s s, .slice none 0 0, .int .i64 0]) (by simp [results, Try.results13, go_sem, C3, sv]) rfl ⟨_, rfl, ?_, rfl⟩
  repeat (refine Below.setCell ?_ (by first | (simp; done) | (simp; omega) | omega) _)
  exact HDQ.out.alloc HDQ.out.size _
set_option maxRecDepth 100000 in
set_option maxHeartbeats 400000 in
theorem hear_give (w : World) (q : Bool) (i n x : Int) (e s : Int) (hV : Yes 14 #[sv true q false (-1) x, .int .i64 i, .int .i64 n]) (hE : Yes 18 #[.int .i64 e]) (hO : Yes 21 #[.int .i64 s, .int .i64 i, .int .i64 n]) :
    Calls Try.prog 13 #[sv true q false (-1) x, .int .i64 i, .int .i64 n, .int .i64 e, .agg (mc 12 e s).toArray] w (Bck w false q false s x (some (pc s 13 e 0))) := by
  unfold sv at hV ⊢
  unfold mc
  have HV := Lib.hid hV
  have HE := Lib.hid hE
  have HO := Lib.hid hO
  clear hV hE hO
  go_enter Try.func13, Try.ntmps13
  go_wp2_with (first
    | (go_at_call 14; go_must (refine (HV.out _).mono ?_); rintro e' w1 ⟨rfl, q⟩; obtain ⟨f1, f2, f3⟩ := frame3 q; have C1 := block_cells f1; have C2 := block_cells f2; have C3 := block_cells f3; have R1 := block_frees f1; have R3 := block_frees f3; have HA1 := Lib.hid f1; have HA2 := Lib.hid f2; have HA3 := Lib.hid f3; have HAQ := Lib.hid (below_three q); clear f1 f2 f3 q)
    | (go_at_call 21; go_must (refine (HO.out _).mono ?_); rintro e' w2 ⟨rfl, q⟩; have f1 := blk_keep' q HA1.out; have f2 := blk_keep' q HA2.out; have f3 := blk_keep' q HA3.out; clear C1 C2 C3 R1 R3; have C1 := block_cells f1; have C2 := block_cells f2; have C3 := block_cells f3; have R1 := block_frees f1; have R3 := block_frees f3; have HB1 := Lib.hid f1; have HB2 := Lib.hid f2; have HB3 := Lib.hid f3; have HBQ := Lib.hid (below_next HAQ.out HAQ.out.size q); clear f1 f2 f3 q)
    | (go_at_call 18; go_must (refine (HE.out _).mono ?_); rintro e' w3 ⟨rfl, q⟩; have f1 := blk_keep' q HB1.out; have f2 := blk_keep' q HB2.out; have f3 := blk_keep' q HB3.out; clear C1 C2 C3 R1 R3; have C1 := block_cells f1; have C2 := block_cells f2; have C3 := block_cells f3; have R1 := block_frees f1; have R3 := block_frees f3; have HC1 := Lib.hid f1; have HC2 := Lib.hid f2; have HC3 := Lib.hid f3; have HCQ := Lib.hid (below_next HBQ.out HBQ.out.size q); clear f1 f2 f3 q)
    | (go_at_call 19; go_must (refine (maker_any _ e).mono ?_); rintro e' w4 ⟨rfl, m1, m2, q⟩; have f1 := blk_keep' q HC1.out; have f2 := blk_keep' q HC2.out; have f3 := blk_keep' q HC3.out; clear C1 C2 C3 R1 R3; have C1 := fun o => block_cells (block_old f1 o); have C2 := fun o => block_cells (block_old f2 o); have C3 := fun o => block_cells (block_old f3 o); have R1 := fun o => block_frees (block_old f1 o); have R3 := fun o => block_frees (block_old f3 o); have HD1 := Lib.hid f1; have HD2 := Lib.hid f2; have HD3 := Lib.hid f3; have HDQ := Lib.hid (below_next HCQ.out HCQ.out.size q); have HM1 : Hid (∀ o, (w4.alloc o).cell? ⟨w3.heap.size, 0, none⟩ = some (.int .i64 e)) := Lib.hid (fun o => by rw [World.cell?_alloc_past _ _ _ (by rw [m2]; simp)]; exact m1); clear m1 m2 f1 f2 f3 q)
    | (go_at_call 24; go_must (refine (tok_any _ s e (b := w3.heap.size) ((World.cell?_setCell_other _ _ _ _ (by have := (Array.getElem?_eq_some_iff.1 HC1.out).1; intro hh; injection hh; omega)).trans (HM1.out _))).mono ?_); rintro e' w5 ⟨rfl, m1, q⟩; have f1 := blk_keep' q (setCell_row (block_old HD1.out _)); have f2 := blk_keep' q (blk_set (block_old HD2.out _) (by simp)); have f3 := blk_keep' q (blk_set (block_old HD3.out _) (by simp; try omega)); clear C1 C2 C3 R1 R3; have C1 := block_cells f1; have C2 := block_cells f2; have C3 := block_cells f3; have R1 := block_frees f1; have R3 := block_frees f3; have HE1 := Lib.hid f1; have HE2 := Lib.hid f2; have HE3 := Lib.hid f3; have HEQ := Lib.hid (below_next ((HDQ.out.alloc HDQ.out.size _).setCell (Nat.le_refl _) _) (by have := HDQ.out.size; simp; omega) q); have HM2 : Hid (w5.heap[w4.heap.size + 1]? = _) := Lib.hid (by simpa using m1); clear m1 f1 f2 f3 q))
  refine bodyPost_ret (v := .tuple #[sv false q false s x, .slice (some ⟨w4.heap.size + 1, 0, none⟩) 1 1, .int .i64 0]) (by simp [results, Try.results13, go_sem, C3, sv]) rfl ⟨_, rfl, ?_, _, rfl, ?_, ?_⟩
  · repeat (refine Below.setCell ?_ (by first | (simp; done) | (simp; omega) | omega) _)
    exact HEQ.out
  · exact Nat.le_trans HDQ.out.size (Nat.le_succ _)
  · have k1 := (Array.getElem?_eq_some_iff.1 HD3.out).1
    repeat (refine blk_set ?_ (by simp; omega))
    exact HM2.out
set_option maxRecDepth 100000 in
set_option maxHeartbeats 400000 in
theorem hear_fwd (w : World) (h q u : Bool) (i n l x : Int) (e s : Int) (hl : l ≠ -1) (hV : Yes 14 #[sv h q u l x, .int .i64 i, .int .i64 n]) (hE : Yes 18 #[.int .i64 e]) (hO : Yes 21 #[.int .i64 s, .int .i64 i, .int .i64 n]) :
    Calls Try.prog 13 #[sv h q u l x, .int .i64 i, .int .i64 n, .int .i64 e, .agg (mc 12 e s).toArray] w (Bck w h q u s x (some (pc l 12 e s))) := by
  unfold sv at hV ⊢
  unfold mc
  have HV := Lib.hid hV
  have HE := Lib.hid hE
  have HO := Lib.hid hO
  clear hV hE hO
  have hl1 : (l == -1) = false := by simpa using hl
  have hl2 : (l != -1) = true := by simpa using hl
  clear hl
  go_enter Try.func13, Try.ntmps13
  go_wp2_with (first
    | (go_at_call 14; go_must (refine (HV.out _).mono ?_); rintro e' w1 ⟨rfl, q⟩; obtain ⟨f1, f2, f3⟩ := frame3 q; have C1 := block_cells f1; have C2 := block_cells f2; have C3 := block_cells f3; have R1 := block_frees f1; have R3 := block_frees f3; have HA1 := Lib.hid f1; have HA2 := Lib.hid f2; have HA3 := Lib.hid f3; have HAQ := Lib.hid (below_three q); clear f1 f2 f3 q)
    | (go_at_call 21; go_must (refine (HO.out _).mono ?_); rintro e' w2 ⟨rfl, q⟩; have f1 := blk_keep' q HA1.out; have f2 := blk_keep' q HA2.out; have f3 := blk_keep' q HA3.out; clear C1 C2 C3 R1 R3; have C1 := block_cells f1; have C2 := block_cells f2; have C3 := block_cells f3; have R1 := block_frees f1; have R3 := block_frees f3; have HB1 := Lib.hid f1; have HB2 := Lib.hid f2; have HB3 := Lib.hid f3; have HBQ := Lib.hid (below_next HAQ.out HAQ.out.size q); clear f1 f2 f3 q)
    | (go_at_call 18; go_must (refine (HE.out _).mono ?_); rintro e' w3 ⟨rfl, q⟩; have f1 := blk_keep' q HB1.out; have f2 := blk_keep' q HB2.out; have f3 := blk_keep' q HB3.out; clear C1 C2 C3 R1 R3; have C1 := block_cells f1; have C2 := block_cells f2; have C3 := block_cells f3; have R1 := block_frees f1; have R3 := block_frees f3; have HC1 := Lib.hid f1; have HC2 := Lib.hid f2; have HC3 := Lib.hid f3; have HCQ := Lib.hid (below_next HBQ.out HBQ.out.size q); clear f1 f2 f3 q)
    | (go_at_call 19; go_must (refine (maker_any _ e).mono ?_); rintro e' w4 ⟨rfl, m1, m2, q⟩; have f1 := blk_keep' q HC1.out; have f2 := blk_keep' q HC2.out; have f3 := blk_keep' q HC3.out; clear C1 C2 C3 R1 R3; have C1 := fun o => block_cells (block_old f1 o); have C2 := fun o => block_cells (block_old f2 o); have C3 := fun o => block_cells (block_old f3 o); have R1 := fun o => block_frees (block_old f1 o); have R3 := fun o => block_frees (block_old f3 o); have HD1 := Lib.hid f1; have HD2 := Lib.hid f2; have HD3 := Lib.hid f3; have HDQ := Lib.hid (below_next HCQ.out HCQ.out.size q); have HM1 : Hid (∀ o, (w4.alloc o).cell? ⟨w3.heap.size, 0, none⟩ = some (.int .i64 e)) := Lib.hid (fun o => by rw [World.cell?_alloc_past _ _ _ (by rw [m2]; simp)]; exact m1); clear m1 m2 f1 f2 f3 q)
    | (go_at_call 23; go_must (refine (req_any _ l s e _ (HM1.out _)).mono ?_); rintro e' w5 ⟨rfl, m1, q⟩; have f1 := blk_keep' q (block_old HD1.out _); have f2 := blk_keep' q (block_old HD2.out _); have f3 := blk_keep' q (block_old HD3.out _); clear C1 C2 C3 R1 R3; have C1 := block_cells f1; have C2 := block_cells f2; have C3 := block_cells f3; have R1 := block_frees f1; have R3 := block_frees f3; have HE1 := Lib.hid f1; have HE2 := Lib.hid f2; have HE3 := Lib.hid f3; have HEQ := Lib.hid (below_next (HDQ.out.alloc HDQ.out.size _) (by have := HDQ.out.size; simp; omega) q); have HM2 : Hid (w5.heap[w4.heap.size + 1]? = _) := Lib.hid (by simpa using m1); clear m1 f1 f2 f3 q))
  refine bodyPost_ret (v := .tuple #[sv h q u s x, .slice (some ⟨w4.heap.size + 1, 0, none⟩) 1 1, .int .i64 0]) (by simp [results, Try.results13, go_sem, C3, sv]) rfl ⟨_, rfl, ?_, _, rfl, ?_, ?_⟩
  · repeat (refine Below.setCell ?_ (by first | (simp; done) | (simp; omega) | omega) _)
    exact HEQ.out
  · exact Nat.le_trans HDQ.out.size (Nat.le_succ _)
  · have k1 := (Array.getElem?_eq_some_iff.1 HD3.out).1
    repeat (refine blk_set ?_ (by simp; omega))
    exact HM2.out
end Go.Proofs.Ytlnmbpaijodpjaa

namespace Go.Proofs.Ytlnmbpaijodpjaa
open Go.RowKit Go.Proofs

theorem wrap64 {n : Int} (h : -9223372036854775808 ≤ n ∧ n < 9223372036854775808) : IntKind.i64.wrap n = n := by rw [IntKind.wrap_i64]; omega
def iv (xs : List Int) : List V := xs.map fun n => .s (.int .i64 n)
@[simp] theorem iv_length (xs : List Int) : (iv xs).length = xs.length := by simp [iv]
theorem iv_get {xs : List Int} {i : Nat} (h : i < xs.length) : (iv xs)[i]? = some (.s (.int .i64 xs[i])) := by simp [iv, h]
/-- a site's state, a post -/
def Tk.c (t : Tk) : List Value := [.bool t.has, .bool t.want, .bool t.using_, .int .i64 t.last, .int .i64 t.next]
def Tk.v (t : Tk) : V := .agg (t.c.map .s)
def Ms.k (m : Ms) : Int := if m.tok = true then 13 else 12
def Ms.s (m : Ms) : Int := if m.tok = true then 0 else m.org
/-- a message, a post, of an epoch -/
def Ms.mv (m : Ms) (e : Int) : V := .agg ((mc m.k e m.s).map .s)
def Ms.v (m : Ms) (e : Int) : V := .agg ((pc m.to m.k e m.s).map .s)
theorem proper_pc (i n : Int) (h : 1 ≤ n ∧ n ≤ 4 ∧ 0 ≤ i ∧ i < n) : PC Try.prog 20 [.s (.int .i64 i), .s (.int .i64 n)] (fun r => r = .s (.bool true)) := by
  refine pc_end c20 mixed rfl ?_
  obtain ⟨h1, h2, h3, h4⟩ := h
  have g1 : n ≥ 1 := h1
  have g3 : i ≥ 0 := h3
  simp -implicitDefEqProofs [a20, F20, g1, h2, g3, h4]
theorem other_pc (x i n : Int) (h : 0 ≤ x ∧ x < n ∧ x ≠ i) : PC Try.prog 21 [.s (.int .i64 x), .s (.int .i64 i), .s (.int .i64 n)] (fun r => r = .s (.bool true)) := by
  refine pc_end c21 mixed rfl ?_
  obtain ⟨h1, h2, h3⟩ := h
  have g1 : x ≥ 0 := h1
  have g3 : (x != i) = true := by simpa using h3
  simp -implicitDefEqProofs [a21, F21, g1, h2, g3]
theorem validEpoch_pc (e : Int) (h : 0 ≤ e ∧ e ≤ 1073741824) : PC Try.prog 18 [.s (.int .i64 e)] (fun r => r = .s (.bool true)) := by
  refine pc_end c18 mixed rfl ?_
  obtain ⟨h1, h2⟩ := h
  have g1 : e ≥ 0 := h1
  simp -implicitDefEqProofs [a18, F18, g1, h2]
theorem New_pc (i n : Int) (h : 1 ≤ n ∧ n ≤ 4 ∧ 0 ≤ i ∧ i < n) : PC Try.prog 11 [.s (.int .i64 i), .s (.int .i64 n)] (fun r => r = .tup [(newT i).v, .s (.int .i64 0)]) := by
  refine pc_end c11 mixed rfl ?_
  simp -implicitDefEqProofs [a11, F11]
  refine wk_take ?_
  simp -implicitDefEqProofs
  refine wc_of (proper_pc i n h) (by simp) (by simp) ?_
  rintro _ rfl
  by_cases hi : i = 0
  · subst hi
    simp -implicitDefEqProofs [newT, Tk.v, Tk.c]
  · have h' : (i == 0) = false := by simpa using hi
    simp -implicitDefEqProofs [newT, Tk.v, Tk.c, hi, h']
set_option maxHeartbeats 4000000 in
set_option maxRecDepth 10000 in
theorem Valid_pc {t : Tk} {n : Nat} {i : Int} (h : t.ok n i) : PC Try.prog 14 [t.v, .s (.int .i64 i), .s (.int .i64 n)] (fun r => r = .s (.bool true)) := by
  have hp := proper_pc i n ⟨by have := h.n1; omega, by have := h.n4; omega, h.ri.1, h.ri.2⟩
  have ho : ∀ x, Othr n i x → PC Try.prog 21 [.s (.int .i64 x), .s (.int .i64 i), .s (.int .i64 n)] (fun r => r = .s (.bool true)) := fun x hx => other_pc x i n hx
  have hl := h.l
  have hx := h.x
  have huh := h.uh
  have hwh := h.wh
  have hb := h.busy
  have hid := h.idle
  obtain ⟨has, want, us, last, next⟩ := t
  clear h
  simp only at hl hx huh hwh hb hid
  refine pc_end c14 mixed rfl ?_
  simp -implicitDefEqProofs [a14, F14, Tk.v, Tk.c]
  refine wk_take ?_
  simp -implicitDefEqProofs
  refine wc_of hp (by simp) (by simp) ?_
  rintro _ rfl
  have fin : ∀ b1 b2 : Bool, (last == -1) = b1 → (next == -1) = b2 → True := fun _ _ _ _ => trivial
  cases e1 : (last == -1) <;> cases e2 : (next == -1)
  · have g1 : last ≠ -1 := by simpa using e1
    have g2 : next ≠ -1 := by simpa using e2
    have f1 : (last != -1) = true := by simpa using e1
    have f2 : (next != -1) = true := by simpa using e2
    simp -implicitDefEqProofs [f1]
    refine wk_take ?_
    simp -implicitDefEqProofs
    refine wc_of (ho _ (hl g1)) (by simp) (by simp) ?_
    rintro _ rfl
    simp -implicitDefEqProofs [f2]
    refine wk_take ?_
    simp -implicitDefEqProofs
    refine wc_of (ho _ (hx g2)) (by simp) (by simp) ?_
    rintro _ rfl
    cases us <;> cases want <;> cases has <;> simp [g1, g2] at huh hwh hb hid <;> simp -implicitDefEqProofs [e1, e2]
  · have g1 : last ≠ -1 := by simpa using e1
    have g2 : next = -1 := by simpa using e2
    have f1 : (last != -1) = true := by simpa using e1
    have f2 : (next != -1) = false := by simpa using e2
    simp -implicitDefEqProofs [f1]
    refine wk_take ?_
    simp -implicitDefEqProofs
    refine wc_of (ho _ (hl g1)) (by simp) (by simp) ?_
    rintro _ rfl
    cases us <;> cases want <;> cases has <;> simp [g1, g2] at huh hwh hb hid <;> simp -implicitDefEqProofs [e1, e2, f2]
  · have g1 : last = -1 := by simpa using e1
    have g2 : next ≠ -1 := by simpa using e2
    have f1 : (last != -1) = false := by simpa using e1
    have f2 : (next != -1) = true := by simpa using e2
    simp -implicitDefEqProofs [f1, f2]
    refine wk_take ?_
    simp -implicitDefEqProofs
    refine wc_of (ho _ (hx g2)) (by simp) (by simp) ?_
    rintro _ rfl
    cases us <;> cases want <;> cases has <;> simp [g1, g2] at huh hwh hb hid <;> simp -implicitDefEqProofs [e1, e2]
  · have g1 : last = -1 := by simpa using e1
    have g2 : next = -1 := by simpa using e2
    have f1 : (last != -1) = false := by simpa using e1
    have f2 : (next != -1) = false := by simpa using e2
    cases us <;> cases want <;> cases has <;> simp [g1, g2] at huh hwh hb hid <;> simp -implicitDefEqProofs [e1, e2, f1, f2]
end Go.Proofs.Ytlnmbpaijodpjaa

namespace Go.Proofs.Ytlnmbpaijodpjaa
open Go.RowKit Go.Proofs

theorem calls_bool {P : Program} {f : FuncId} {args : List V} {vals : Array Value} {b : Bool} {g : Gh} {w : World} (hpc : PC P f args (fun r => r = .s (.bool b))) (hl : args.length = vals.size) (hi : ∀ x ∈ args, immA x = true) (hr : ∀ (i : Nat) (x : V) (v : Value), args[i]? = some x → vals[i]? = some v → Rep g w x v) (hlt : ∀ k, 0 < g.I k → k < w.heap.size) :
    Calls P f vals w fun e w' => e = .returned (.bool b) ∧ Below w.heap.size w w' := by
  obtain ⟨hbd, hno⟩ := bd_imm hl hi hr hlt
  refine (hpc _ w _ hbd).mono ?_
  rintro e w' ⟨v, r, bs', g', rfl, ⟨rfl, rfl⟩, _, hb, hex⟩
  have hrep := hb.rep (.l (.var 0)) _ v ⟨rfl, by simp [valAt, Frn, Act.tv]⟩
  have := hrep.of_s rfl
  subst this
  exact ⟨rfl, hex.os, hex.tape, hex.output, hex.size, fun k hk => (hex.same k hk (hno k)).1⟩
/-- a walk by hand that makes something that is never written again is a contract -/
theorem pc_imm {P : Program} {f : FuncId} {args : List V} {Q : V → Prop} (him : ∀ x ∈ args, immA x = true)
    (hw : ∀ (g : Gh) (w : World) (vs : Array Value), args.length = vs.size → (∀ (i : Nat) (x : V) (v : Value), args[i]? = some x → vs[i]? = some v → Rep g w x v) → (∀ k, 0 < g.I k → k < w.heap.size) →
      Calls P f vs w fun e' w' => ∃ (v : Value) (r : V) (I' : Nat → Nat), e' = .returned v ∧ Q r ∧ immT r = true ∧ okV r = true ∧ (∀ b, b < w.heap.size → I' b = g.I b) ∧ (∀ b, 0 < I' b → b < w'.heap.size) ∧ Rep ⟨I', g.φ⟩ w' r v ∧ Below w.heap.size w w') : PC P f args Q := by
  intro g w vs hb
  have hl : args.length = vs.size := by have := hb.sz; simp [Frn] at this; exact this.symm
  have hrep : ∀ (i : Nat) (x : V) (v : Value), args[i]? = some x → vs[i]? = some v → Rep g w x v := by
    intro i x v hx hv
    refine hb.rep (.l (.var i)) x v ⟨hx, ?_⟩
    have hi := (List.getElem?_eq_some_iff.1 hx).1
    have hi' : i < vs.size := by omega
    rw [Array.getElem?_eq_getElem hi'] at hv
    cases hv
    simp [valAt, Frn, Act.tv, hi, hl ▸ hi]
  refine (hw g w vs hl hrep hb.Ilt).mono ?_
  rintro e' w' ⟨v, r, I', rfl, hQ, hi, hok, h1, h2, hr, hbel⟩
  obtain ⟨q1, q2⟩ := bd_immT (g := ⟨I', g.φ⟩) (w := w') hi hr h2
  refine ⟨v, r, [], ⟨I', g.φ⟩, rfl, ⟨rfl, hQ⟩, hok, q1, ⟨hbel.os, hbel.tape, hbel.output, hbel.size, fun k hk' _ => ⟨hbel.block k hk', h1 k hk'⟩, fun k ho' => absurd ho' (q2 k), fun b hb' => by simp at hb'⟩⟩
/-- all cells of a block -/
def blkSize (w : World) (b : Nat) : Nat := match w.heap[b]? with | some (.cells cs _ _) => cs.size | _ => 0
theorem cell_lt {w : World} {b o : Nat} {u : Value} (h : w.cell? ⟨b, o, none⟩ = some u) : o < blkSize w b := by
  unfold World.cell? at h
  unfold blkSize
  split at h
  · next cs ty fz hh => simp at h; simp [hh]; exact (Array.getElem?_eq_some_iff.1 h).1
  · cases h
theorem blk_lt {w : World} {b : Nat} (h : 0 < blkSize w b) : b < w.heap.size := by
  unfold blkSize at h
  split at h
  · next cs ty fz hh => exact (Array.getElem?_eq_some_iff.1 hh).1
  · omega
def newI (g : Gh) (w w' : World) (b : Nat) : Nat := if b < w.heap.size then g.I b else blkSize w' b
/-- a tree that stands for one value alone -/
def One (x : V) (u : Value) : Prop := (∀ g w v, Rep g w x v → v = u) ∧ (∀ g w, Rep g w x u) ∧ immA x = true
theorem One.s {v : Value} (h : v.oneCell' = true) : One (.s v) v := ⟨fun _ _ _ hr => hr.of_s rfl, fun _ _ => .s h, rfl⟩
theorem rep_scal {g : Gh} {w : World} {l : List Value} (h : ∀ c ∈ l, c.oneCell' = true) : Rep g w (.agg (l.map .s)) (.agg l.toArray) := by
  refine .agg (by simp) (by simpa using h) fun j u c hu hc => ?_
  simp at hu hc
  obtain ⟨a, ha, rfl⟩ := hu
  rw [ha] at hc
  cases hc
  exact .s (h _ (List.mem_of_getElem? ha))
theorem One.agg {l : List Value} (h : ∀ c ∈ l, c.oneCell' = true) : One (.agg (l.map .s)) (.agg l.toArray) := by
  refine ⟨fun g w v hr => ?_, fun g w => rep_scal h, ?_⟩
  · cases hr with
    | agg hl h1 hh =>
      rename_i vs
      congr 1
      refine Array.ext (by simpa using hl.symm) fun i hi hi' => ?_
      have hi2 : i < l.length := by simpa using hi'
      have := (hh i (.s l[i]) vs[i] (by simp [hi2]) (Array.getElem?_eq_getElem hi)).of_s rfl
      rw [this]; simp
  · simp only [immA, List.all_eq_true]
    intro x hx
    simp only [List.mem_map] at hx
    obtain ⟨c, _, rfl⟩ := hx
    rfl
/-- arguments that stand for values alone -/
inductive Ones : List V → List Value → Prop
  | nil : Ones [] []
  | cons {x u xs us} (h : One x u) (hr : Ones xs us) : Ones (x :: xs) (u :: us)
theorem Ones.get {xs : List V} {us : List Value} (h : Ones xs us) : xs.length = us.length ∧ ∀ (i : Nat) (x : V), xs[i]? = some x → ∃ u, us[i]? = some u ∧ One x u := by
  induction h with
  | nil => exact ⟨rfl, fun i x hx => by simp at hx⟩
  | cons h hr ih =>
    refine ⟨by simp [ih.1], fun i x hx => ?_⟩
    cases i with
    | zero => simp at hx; subst hx; exact ⟨_, rfl, h⟩
    | succ i => simp at hx; simpa using ih.2 i x hx
theorem Ones.imm {xs : List V} {us : List Value} (h : Ones xs us) : ∀ x ∈ xs, immA x = true := fun x hx => by
  obtain ⟨i, hi⟩ := List.getElem?_of_mem hx
  obtain ⟨u, _, q⟩ := h.get.2 i x hi
  exact q.2.2
theorem Ones.eq {xs : List V} {us : List Value} {vs : Array Value} {g : Gh} {w : World} (h : Ones xs us) (hl : xs.length = vs.size) (hr : ∀ (i : Nat) (x : V) (v : Value), xs[i]? = some x → vs[i]? = some v → Rep g w x v) : vs = us.toArray := by
  obtain ⟨h1, h2⟩ := h.get
  refine Array.ext (by simp; omega) fun i hi hi' => ?_
  obtain ⟨u, hu, ho⟩ := h2 i xs[i] (List.getElem?_eq_getElem (by omega))
  have := ho.1 _ _ _ (hr i _ _ (List.getElem?_eq_getElem (by omega)) (Array.getElem?_eq_getElem hi))
  rw [this]
  have : i < us.length := by omega
  rw [List.getElem?_eq_getElem this] at hu
  cases hu
  simp
theorem yes_of {f : FuncId} {args : List V} {us : List Value} (h : Ones args us) (hpc : PC Try.prog f args (fun r => r = .s (.bool true))) : Yes f us.toArray := by
  intro w
  refine calls_bool (g := ⟨fun _ => 0, id⟩) hpc (by simpa using h.get.1) h.imm (fun i x v hx hv => ?_) (fun k hk => by simp at hk)
  obtain ⟨u, hu, ho⟩ := h.get.2 i x hx
  simp [hu] at hv
  subst hv
  exact ho.2.1 _ _
def psV : Option (List Value) → List V
  | none => []
  | some cs => [.agg (cs.map .s)]
theorem rep_posts {g : Gh} {w w' : World} {ps : Option (List Value)} {pv : Value} (h : match ps with | none => pv = .slice none 0 0 | some cs => ∃ b, pv = .slice (some ⟨b, 0, none⟩) 1 1 ∧ w.heap.size ≤ b ∧ w'.heap[b]? = some (.cells cs.toArray 55 (0, 0)))
    (hps : ∀ cs, ps = some cs → cs.length = 19 ∧ ∀ c ∈ cs, c.oneCell' = true) : Rep ⟨newI g w w', g.φ⟩ w' (.list 19 (psV ps)) pv := by
  cases ps with
  | none =>
    subst h
    exact .list (xs := []) (fun _ => undef) (Nat.le_refl _) (by simp) (fun _ => rfl) (by simp) (by simp [flat]) (by simp [flat]) (by simp [flat])
  | some cs =>
    obtain ⟨b, rfl, hb, hh⟩ := h
    obtain ⟨h19, h1⟩ := hps cs rfl
    have hfl : flat (psV (some cs)) = cs.map .s := by simp [psV, flat, cellsOf]
    refine .list (xs := psV (some cs)) (fun j => cs.getD j undef) (by simp [psV]) (by simp [maxLen]) (fun e => by cases e) ?_ ?_ ?_ ?_
    · intro x hx; simp [psV] at hx; subst hx; simp [cellsOf, h19]
    · intro u hu; rw [hfl] at hu; simp only [List.mem_map] at hu; obtain ⟨c, _, rfl⟩ := hu; rfl
    · intro j hj
      rw [hfl] at hj
      simp at hj
      refine ⟨b, 0, rfl, ?_, ?_⟩
      · simp only [newI]; rw [if_neg (by omega)]; simp [blkSize, hh]; exact hj
      · rw [Nat.zero_add, block_cells hh]; simp [List.getD_eq_getElem?_getD, List.getElem?_eq_getElem hj]
    · intro j u hu
      rw [hfl] at hu
      simp at hu
      obtain ⟨c, hc, rfl⟩ := hu
      simp only [List.getD_eq_getElem?_getD, hc, Option.getD_some]
      exact .s (h1 c (List.mem_of_getElem? hc))
theorem psV_imm (ps : Option (List Value)) : immA (.list 19 (psV ps)) = true := rfl
/-- a walk by hand that ends so is a contract -/
theorem back_pc {f : FuncId} {args : List V} {us : List Value} {h q u : Bool} {l x : Int} {ps : Option (List Value)} (hD : Ones args us) (hps : ∀ cs, ps = some cs → cs.length = 19 ∧ ∀ c ∈ cs, c.oneCell' = true)
    (hw : ∀ w, Calls Try.prog f us.toArray w (Bck w h q u l x ps)) : PC Try.prog f args (fun r => r = .tup [(Tk.mk h q u l x).v, .list 19 (psV ps), .s (.int .i64 0)]) := by
  refine pc_imm hD.imm fun g w vs hsz hrep hlt => ?_
  have hv := hD.eq hsz hrep
  subst hv
  refine (hw w).mono ?_
  rintro e' w' ⟨pv, rfl, hbel, hpv⟩
  refine ⟨_, _, newI g w w', rfl, rfl, rfl, rfl, fun b hb => by simp [newI, hb], fun b hb => ?_, ?_, hbel⟩
  · simp only [newI] at hb
    split at hb
    · have := hlt b hb
      have := hbel.size
      omega
    · exact blk_lt hb
  · refine .tup rfl fun j y c hy hc => ?_
    match j with
    | 0 =>
      simp at hy hc; subst hy; subst hc
      exact rep_scal (l := [.bool h, .bool q, .bool u, .int .i64 l, .int .i64 x]) (by intro c hc; simp at hc; rcases hc with rfl | rfl | rfl | rfl | rfl <;> rfl)
    | 1 => simp at hy hc; subst hy; subst hc; exact rep_posts hpv hps
    | 2 => simp at hy hc; subst hy; subst hc; exact .s rfl
    | j + 3 => simp at hy
end Go.Proofs.Ytlnmbpaijodpjaa

namespace Go.Proofs.Ytlnmbpaijodpjaa
open Go.RowKit Go.Proofs

theorem pc_scal (to k e s : Int) : (pc to k e s).length = 19 ∧ ∀ c ∈ pc to k e s, c.oneCell' = true := ⟨rfl, List.all_eq_true.1 rfl⟩
theorem mc_scal (k e s : Int) : ∀ c ∈ mc k e s, c.oneCell' = true := List.all_eq_true.1 rfl
theorem Tk.scal (t : Tk) : ∀ c ∈ t.c, c.oneCell' = true := List.all_eq_true.1 rfl
theorem Tk.one (t : Tk) : One t.v (.agg t.c.toArray) := One.agg t.scal
theorem one_int (x : Int) : One (.s (.int .i64 x)) (.int .i64 x) := One.s rfl
section
variable {t : Tk} {n : Nat} {i : Int} {e : Int}
theorem valid_yes (h : t.ok n i) : Yes 14 #[.agg t.c.toArray, .int .i64 i, .int .i64 n] := yes_of (us := [.agg t.c.toArray, .int .i64 i, .int .i64 n]) (.cons t.one (.cons (one_int _) (.cons (one_int _) .nil))) (Valid_pc h)
theorem epoch_yes (he : 0 ≤ e ∧ e ≤ 1073741824) : Yes 18 #[.int .i64 e] := yes_of (us := [.int .i64 e]) (.cons (one_int _) .nil) (validEpoch_pc e he)
theorem other_yes {x : Int} (h : Othr n i x) : Yes 21 #[.int .i64 x, .int .i64 i, .int .i64 n] := yes_of (us := [.int .i64 x, .int .i64 i, .int .i64 n]) (.cons (one_int _) (.cons (one_int _) (.cons (one_int _) .nil))) (other_pc x i n h)
theorem ones4 (t : Tk) (i n e : Int) : Ones [t.v, .s (.int .i64 i), .s (.int .i64 n), .s (.int .i64 e)] [.agg t.c.toArray, .int .i64 i, .int .i64 n, .int .i64 e] := .cons t.one (.cons (one_int _) (.cons (one_int _) (.cons (one_int _) .nil)))
theorem ones5 (t : Tk) (i n e k s : Int) : Ones [t.v, .s (.int .i64 i), .s (.int .i64 n), .s (.int .i64 e), .agg ((mc k e s).map .s)] [.agg t.c.toArray, .int .i64 i, .int .i64 n, .int .i64 e, .agg (mc k e s).toArray] := .cons t.one (.cons (one_int _) (.cons (one_int _) (.cons (one_int _) (.cons (One.agg (mc_scal _ _ _)) .nil))))
theorem none19 : ∀ cs : List Value, (none : Option (List Value)) = some cs → cs.length = 19 ∧ ∀ c ∈ cs, c.oneCell' = true := fun _ h => by cases h
theorem some19 (to k e s : Int) : ∀ cs : List Value, some (pc to k e s) = some cs → cs.length = 19 ∧ ∀ c ∈ cs, c.oneCell' = true := fun _ h => by cases h; exact pc_scal _ _ _ _
theorem Want_pc (h : t.ok n i) (he : 0 ≤ e ∧ e ≤ 1073741824) (hw : t.want = false) (hu : t.using_ = false) : PC Try.prog 12 [t.v, .s (.int .i64 i), .s (.int .i64 n), .s (.int .i64 e)] (fun r => r = .tup [(wantT t).v, .list 19 ((wantM t i).map (·.v e)), .s (.int .i64 0)]) := by
  have hV := valid_yes h
  have hE := epoch_yes he
  obtain ⟨has, want, us, last, next⟩ := t
  simp only at hw hu
  subst hw
  subst hu
  cases has
  · have := back_pc (ones4 ⟨false, false, false, last, next⟩ i n e) (some19 _ _ _ _) (fun w => want_ask w i n last next e hV hE)
    simpa [wantT, wantM, psV, Ms.v, Ms.k, Ms.s] using this
  · have := back_pc (ones4 ⟨true, false, false, last, next⟩ i n e) none19 (fun w => want_has w i n last next e hV hE)
    simpa [wantT, wantM, psV] using this
theorem Done_pc (h : t.ok n i) (he : 0 ≤ e ∧ e ≤ 1073741824) (hu : t.using_ = true) : PC Try.prog 8 [t.v, .s (.int .i64 i), .s (.int .i64 n), .s (.int .i64 e)] (fun r => r = .tup [(doneT t).v, .list 19 ((doneM t).map (·.v e)), .s (.int .i64 0)]) := by
  have hV := valid_yes h
  have hE := epoch_yes he
  have hh := h.uh hu
  have hw : t.want = false := by
    cases q : t.want
    · rfl
    · rw [h.wh q] at hh; cases hh
  clear h
  obtain ⟨has, want, us, last, next⟩ := t
  simp only at hw hu hh
  subst hw
  subst hu
  subst hh
  by_cases hx : next = -1
  · subst hx
    have := back_pc (ones4 ⟨true, false, true, last, -1⟩ i n e) none19 (fun w => done_stop w i n last e hV hE)
    simpa [doneT, doneM, psV] using this
  · have := back_pc (ones4 ⟨true, false, true, last, next⟩ i n e) (some19 _ _ _ _) (fun w => done_pass w i n last next e hx hV hE)
    simpa [doneT, doneM, psV, hx, Ms.v, Ms.k, Ms.s] using this
theorem Hear_pc {m : Ms} (h : t.ok n i) (he : 0 ≤ e ∧ e ≤ 1073741824) (htok : m.tok = true → t.want = true) (hreq : m.tok = false → Othr n i m.org) : PC Try.prog 13 [t.v, .s (.int .i64 i), .s (.int .i64 n), .s (.int .i64 e), m.mv e] (fun r => r = .tup [(hearT t m).v, .list 19 ((hearM t m).map (·.v e)), .s (.int .i64 0)]) := by
  have hV := valid_yes h
  have hE := epoch_yes he
  cases hm : m.tok
  · have hO := other_yes (hreq hm)
    have hmv : m.mv e = .agg ((mc 12 e m.org).map .s) := by simp [Ms.mv, Ms.k, Ms.s, hm]
    rw [hmv]
    clear h htok hreq
    obtain ⟨has, want, us, last, next⟩ := t
    by_cases hl : last = -1
    · subst hl
      cases has
      · have := back_pc (ones5 ⟨false, want, us, -1, next⟩ i n e 12 m.org) none19 (fun w => hear_hold0 w want us i n next e m.org hV hE hO)
        simpa [hearT, hearM, psV, hm] using this
      · cases us
        · have := back_pc (ones5 ⟨true, want, false, -1, next⟩ i n e 12 m.org) (some19 _ _ _ _) (fun w => hear_give w want i n next e m.org hV hE hO)
          simpa [hearT, hearM, psV, hm, Ms.v, Ms.k, Ms.s] using this
        · have := back_pc (ones5 ⟨true, want, true, -1, next⟩ i n e 12 m.org) none19 (fun w => hear_hold1 w want i n next e m.org hV hE hO)
          simpa [hearT, hearM, psV, hm] using this
    · have := back_pc (ones5 ⟨has, want, us, last, next⟩ i n e 12 m.org) (some19 _ _ _ _) (fun w => hear_fwd w has want us i n last next e m.org hl hV hE hO)
      simpa [hearT, hearM, psV, hm, hl, Ms.v, Ms.k, Ms.s] using this
  · have hw := htok hm
    have hh := h.wh hw
    have hu : t.using_ = false := by
      cases q : t.using_
      · rfl
      · rw [h.uh q] at hh; cases hh
    clear h htok hreq
    have hmv : m.mv e = .agg ((mc 13 e 0).map .s) := by simp [Ms.mv, Ms.k, Ms.s, hm]
    rw [hmv]
    obtain ⟨has, want, us, last, next⟩ := t
    simp only at hw hu hh
    subst hw
    subst hu
    subst hh
    have := back_pc (ones5 ⟨false, true, false, last, next⟩ i n e 13 0) none19 (fun w => hear_tok w i n last next e hV hE)
    simpa [hearT, hearM, psV, hm] using this
end
end Go.Proofs.Ytlnmbpaijodpjaa
