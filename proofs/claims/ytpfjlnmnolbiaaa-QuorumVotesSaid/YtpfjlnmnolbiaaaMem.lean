/- Slices in memory: what a slice reads as, and what may be appended to. Over any program. -/
import Derived.WalkKit
import Derived.ArgAppend
import Derived.Lib.AppendStr
import Derived.Laws.BytesArg
namespace Go.Proofs.Ytpfjlnmnolbiaaa
open Go.RowKit

def byteV (b : UInt8) : Value := .int .u8 b.toNat
def bytesV (l : List UInt8) : List Value := l.map byteV
theorem bytesV_snoc (l : List UInt8) (b : UInt8) : bytesV l ++ [byteV b] = bytesV (l ++ [b]) := by simp [bytesV]
theorem bytesV_append (l m : List UInt8) : bytesV l ++ bytesV m = bytesV (l ++ m) := by simp [bytesV]
theorem bytesV_length (l : List UInt8) : (bytesV l).length = l.length := by simp [bytesV]
theorem bytesV_take (l : List UInt8) (k : Nat) : (bytesV l).take k = bytesV (l.take k) := by simp [bytesV]
theorem bytesV_drop (l : List UInt8) (k : Nat) : (bytesV l).drop k = bytesV (l.drop k) := by simp [bytesV]
theorem bytesV_get (l : List UInt8) (k : Nat) (h : k < l.length) : (bytesV l)[k]? = some (.int .u8 l[k].toNat) := by simp [bytesV, byteV, List.getElem?_eq_getElem h]
theorem bytesV_one (l : List UInt8) : ∀ u ∈ bytesV l, u.oneCell' = true := by
  intro u hu
  simp only [bytesV, List.mem_map] at hu
  obtain ⟨b, _, rfl⟩ := hu
  rfl

/-- the cells xs lie at A, below the heap's end -/
def At (w : World) (A : Option Addr) (xs : List Value) : Prop :=
  ∀ j u, xs[j]? = some u → ∃ b o, A = some ⟨b, o, none⟩ ∧ b < w.heap.size ∧ w.cell? ⟨b, o + j, none⟩ = some u

theorem At.nil (w : World) (A : Option Addr) : At w A [] := fun j u h => by simp at h
theorem At.below {w w' : World} {A : Option Addr} {xs : List Value} {B : Nat} (h : At w A xs) (hb : Below B w w') (hB : w.heap.size ≤ B) : At w' A xs := fun j u hj => by
  obtain ⟨b, o, e, hlt, hc⟩ := h j u hj
  refine ⟨b, o, e, Nat.lt_of_lt_of_le hlt hb.size, ?_⟩
  rw [← hc]
  exact hb.cell (p := ⟨b, o + j, none⟩) (show b < B by omega)
theorem At.alloc {w : World} {A : Option Addr} {xs : List Value} (h : At w A xs) (o : Obj) : At (w.alloc o) A xs :=
  h.below ((Below.refl w.heap.size w).alloc (Nat.le_refl _) o) (Nat.le_refl _)
theorem At.drew {w : World} {A : Option Addr} {xs : List Value} (h : At w A xs) : At w.drew A xs := h
theorem addr_add (b o j : Nat) : (⟨b, o, none⟩ : Addr).add j = ⟨b, o + j, none⟩ := by
  unfold Addr.add
  split
  · next h => subst h; rfl
  · rfl
theorem At.cells {w : World} {ad : Addr} {xs : List Value} (h : At w (some ad) xs) : ∀ j u, xs[j]? = some u → w.cell? (ad.add j) = some u := fun j u hj => by
  obtain ⟨b, o, e, _, hc⟩ := h j u hj
  injection e with e
  subst e
  rw [addr_add]
  exact hc
theorem At.none_nil {w : World} {xs : List Value} (h : At w none xs) : xs = [] := by
  cases xs with
  | nil => rfl
  | cons x r => obtain ⟨b, o, e, _⟩ := h 0 x rfl; cases e
theorem At.take {w : World} {A : Option Addr} {xs : List Value} (h : At w A xs) (k : Nat) : At w A (xs.take k) := fun j u hj => by
  rw [List.getElem?_take] at hj
  split at hj
  · exact h j u hj
  · cases hj
theorem At.drop {w : World} {A : Option Addr} {xs : List Value} (h : At w A xs) (k : Nat) : At w (A.map (·.add k)) (xs.drop k) := fun j u hj => by
  rw [List.getElem?_drop] at hj
  obtain ⟨b, o, e, hlt, hc⟩ := h (k + j) u hj
  subst e
  exact ⟨b, o + k, by rw [Option.map_some, addr_add], hlt, by rw [Nat.add_assoc]; exact hc⟩
/-- 's[k:]' as the model has it: where nothing is left of the capacity the address stays -/
theorem At.cut {w : World} {A : Option Addr} {xs : List Value} {cap : Nat} (h : At w A xs) (k : Nat) (hc : xs.length ≤ cap) : At w (if cap = k then A else A.map (·.add k)) (xs.drop k) := by
  split
  · next he => rw [List.drop_eq_nil_of_le (by omega)]; exact At.nil w A
  · exact h.drop k
theorem At.of_own {w : World} {base : Nat} {e : TypeId} {size n c : Nat} {A : Option Addr} {xs : List Value} (h : w.ownsRow base e size (.slice A n c) n xs) : At w A xs := by
  rcases h.2 with ⟨hv, hn⟩ | ⟨g, cap, cur, hv, hb, hg, hnc, hcm, hcs, ht⟩
  · injection hv with h1 h2 h3
    subst h1
    have : xs = [] := List.eq_nil_of_length_eq_zero (by rw [h.1, hn]; simp)
    subst this
    exact At.nil w _
  · injection hv with h1 h2 h3
    subst h1
    intro j u hj
    refine ⟨g, 0, rfl, (Array.getElem?_eq_some_iff.1 hg).1, ?_⟩
    have := h.cells (g := g) rfl j u hj
    rw [addr_add] at this
    exact this

/-- v has n elements xs, and may be appended to: it is a row of the call's own, or has no room left -/
def Gr (w : World) (B : Nat) (e : TypeId) (size : Nat) (v : Value) (n : Nat) (xs : List Value) : Prop :=
  w.ownsRow B e size v n xs ∨ (∃ A, v = .slice A n n ∧ (A = none → n = 0) ∧ xs.length = n * size ∧ At w A xs)

theorem own_slice {w : World} {B : Nat} {e : TypeId} {size : Nat} {v : Value} {n : Nat} {xs : List Value} (h : w.ownsRow B e size v n xs) : ∃ A c, v = .slice A n c ∧ n ≤ c ∧ c ≤ maxLen ∧ At w A xs := by
  rcases h.2 with ⟨hv, hn⟩ | ⟨g, cap, cur, hv, hb, hg, hnc, hcm, hcs, ht⟩
  · subst hv
    subst hn
    exact ⟨none, 0, rfl, Nat.le_refl _, Nat.zero_le _, At.of_own h⟩
  · subst hv
    exact ⟨_, cap, rfl, hnc, hcm, At.of_own h⟩
theorem own_base {w : World} {B B' : Nat} {e : TypeId} {size : Nat} {v : Value} {n : Nat} {xs : List Value} (h : w.ownsRow B e size v n xs) (hB : B' ≤ B) : w.ownsRow B' e size v n xs := by
  refine ⟨h.1, ?_⟩
  rcases h.2 with h2 | ⟨g, cap, cur, hv, hb, r⟩
  · exact .inl h2
  · exact .inr ⟨g, cap, cur, hv, Nat.le_trans hB hb, r⟩
theorem own_below {w w' : World} {B B' : Nat} {e : TypeId} {size : Nat} {v : Value} {n : Nat} {xs : List Value} (h : w.ownsRow B e size v n xs) (hb : Below B' w w') (hB : w.heap.size ≤ B') : w'.ownsRow B e size v n xs := by
  refine ⟨h.1, ?_⟩
  rcases h.2 with h2 | ⟨g, cap, cur, hv, hg, hh, r⟩
  · exact .inl h2
  · refine .inr ⟨g, cap, cur, hv, hg, ?_, r⟩
    rw [hb.block g (Nat.lt_of_lt_of_le (Array.getElem?_eq_some_iff.1 hh).1 hB)]
    exact hh

theorem Gr.below {w w' : World} {B B' : Nat} {e : TypeId} {size : Nat} {v : Value} {n : Nat} {xs : List Value} (h : Gr w B e size v n xs) (hb : Below B' w w') (hB : w.heap.size ≤ B') : Gr w' B e size v n xs := by
  rcases h with h | ⟨A, h1, h2, h3, h4⟩
  · exact .inl (own_below h hb hB)
  · exact .inr ⟨A, h1, h2, h3, h4.below hb hB⟩
theorem Gr.alloc {w : World} {B : Nat} {e : TypeId} {size : Nat} {v : Value} {n : Nat} {xs : List Value} (h : Gr w B e size v n xs) (o : Obj) : Gr (w.alloc o) B e size v n xs :=
  h.below ((Below.refl w.heap.size w).alloc (Nat.le_refl _) o) (Nat.le_refl _)
theorem Gr.clip {w : World} {B : Nat} {e : TypeId} {n : Nat} {A : Option Addr} {xs : List Value} (hA : A = none → n = 0) (hl : xs.length = n) (h : At w A xs) : Gr w B e 1 (.slice A n n) n xs :=
  .inr ⟨A, rfl, hA, by simpa using hl, h⟩
theorem At.new (w : World) (cs : List Value) (e : TypeId) : At (w.alloc (.cells cs.toArray e)) (some ⟨w.heap.size, 0, none⟩) cs := fun j u hj => by
  refine ⟨w.heap.size, 0, rfl, by simp, ?_⟩
  rw [cell_of_row (w.alloc (.cells cs.toArray e)) w.heap.size (0 + j) cs.toArray e (0, 0) (heap_alloc_new w _)]
  simpa using hj

theorem At.newm (w : World) (cs : List Value) (e : TypeId) (m : Nat × Nat) : At (w.alloc (.cells cs.toArray e m)) (some ⟨w.heap.size, 0, none⟩) cs := fun j u hj => by
  refine ⟨w.heap.size, 0, rfl, by simp, ?_⟩
  rw [cell_of_row (w.alloc (.cells cs.toArray e m)) w.heap.size (0 + j) cs.toArray e m (heap_alloc_new w _)]
  simpa using hj

theorem growBy_le (newLen : Nat) : ∀ (r c : Nat), c ≤ newLen + (newLen + 768) / 4 → Builtin.growBy newLen r c ≤ newLen + (newLen + 768) / 4
  | 0, _, h => h
  | r + 1, c, h => by
    rw [Builtin.growBy]
    split
    · exact h
    · exact growBy_le newLen r _ (by omega)
theorem next_le {need old : Nat} (h : old < need) : Builtin.nextslicecap need old ≤ need + (need + 768) / 4 + 512 := by
  unfold Builtin.nextslicecap
  split
  · omega
  · split
    · omega
    · have := growBy_le need 4 old (by omega)
      omega
theorem next_fits {need old bytes : Nat} (h : old < need) (h16 : bytes ≤ 65536) (hb : need * bytes ≤ 140806207832064) : Builtin.nextslicecap need old * bytes ≤ 281474976710656 := by
  have h1 : Builtin.nextslicecap need old * bytes ≤ (need + (need + 768) / 4 + 512) * bytes := Nat.mul_le_mul_right _ (next_le h)
  have h2 : (need + (need + 768) / 4 + 512) * bytes ≤ need * bytes + (need * bytes) / 4 + 705 * bytes := by
    have e : (need + (need + 768) / 4 + 512) * bytes = need * bytes + ((need + 768) / 4) * bytes + 512 * bytes := by rw [Nat.add_mul, Nat.add_mul]
    have h3 : ((need + 768) / 4) * bytes ≤ (need * bytes) / 4 + 193 * bytes := by
      have h4 : 4 * (((need + 768) / 4) * bytes) ≤ need * bytes + 768 * bytes := by
        rw [← Nat.mul_assoc, ← Nat.add_mul]
        exact Nat.mul_le_mul_right _ (by omega)
      omega
    omega
  omega

section
variable {P : Program} (w : World)

/-- append to a row of the call's own -/
theorem run_app_own (base : Nat) (t ty e : TypeId) (i : TypeInfo) (z : Value) (size bytes : Nat) (ht : P.underlying t = some (.slice e)) (hi : P.info? e = some i) (hz : i.zero = some z)
    (hsize : i.size = size) (hby : i.bytes = bytes) (hzs : z.cells.size = size) (h16 : bytes ≤ 65536)
    (v : Value) (n : Nat) (xs : List Value) (hown : w.ownsRow base e size v n xs)
    (a : Addr) (m c : Nat) (news : List Value) (hl : news.length = m * size) (hnews : ∀ j u, news[j]? = some u → w.cell? (a.add j) = some u) (h1 : ∀ u ∈ news, u.oneCell' = true)
    (h63 : n + m ≤ maxLen) (hbytes : (n + m) * bytes ≤ 140806207832064) (hbase : base ≤ w.heap.size) :
    ∃ v' w', (Builtin.append_ #[t, t] ty #[v, .slice (some a) m c]).run P w = .ok v' w' ∧ w'.ownsRow base e size v' (n + m) (xs ++ news) ∧ w.grownBy w' v.ownBlock ∧ (∀ k, v'.ownBlock = some k → v.ownBlock = some k ∨ w.heap.size ≤ k) := by
  subst hsize
  subst hby
  have hlen : (xs ++ news).length = (n + m) * i.size := by rw [List.length_append, hown.1, hl, Nat.add_mul]
  have h63' : ((n + m : Nat) : Int) ≤ 9223372036854775807 := by simp only [maxLen] at h63; omega
  have made : ∀ (old : Nat), old < n + m →
      (w.drew.alloc (.cells (xs.toArray ++ news.toArray ++ Builtin.zeroCells z.cells (grownCap w (n + m) old e - (n + m))) e)).ownsRow base e i.size
        (.slice (some ⟨w.heap.size, 0, none⟩) (n + m) (grownCap w (n + m) old e)) (n + m) (xs ++ news) := by
    intro old _
    refine ⟨hlen, .inr ⟨w.heap.size, _, _, rfl, hbase, heap_alloc_new w.drew _, grownCap_ge w (n + m) old e, grownCap_le_maxLen w (n + m) old e h63, ?_, ?_⟩⟩
    · have hge := grownCap_ge w (n + m) old e
      simp only [Array.size_append, List.size_toArray, size_zeroCells, hzs]
      rw [hown.1, hl, ← Nat.add_mul, ← Nat.add_mul]
      congr 1
      omega
    · rw [← hlen]
      simp only [Array.toList_append, List.append_assoc]
      rw [← List.append_assoc]
      exact List.take_left
  have grew : ∀ (o : Obj) (row : Option Nat), w.grownBy (w.drew.alloc o) row := fun o row => ⟨rfl, rfl, rfl, by simp, fun k hk _ => Below.heap_alloc w.drew _ k hk⟩
  rcases hown.2 with ⟨rfl, rfl⟩ | ⟨g, cap, cur, rfl, hbg, hg, hnc, hcm, hcs, htake⟩
  · have hx : xs = [] := List.eq_nil_of_length_eq_zero (by simpa using hown.1)
    subst hx
    rcases Nat.eq_zero_or_pos m with hm | hm
    · subst hm
      have hn : news = [] := List.eq_nil_of_length_eq_zero (by simpa using hl)
      subst hn
      refine ⟨.slice none 0 0, w, ?_, World.ownsRow_nil w base e i.size, ⟨rfl, rfl, rfl, Nat.le_refl _, fun _ _ _ => rfl⟩, fun k hk => .inl hk⟩
      simp [Builtin.append_, run_underlying ht, sizeOf, typeInfo, hi, Builtin.lenOf, Builtin.firstCells, loadCells, loadCellsFrom]
    · have hr := run_append_nil (P := P) w t ty e i z ht hi hz a m c news hl hnews hm (by omega) (by have := hbytes; simp only [Nat.zero_add] at this; omega)
      have hm' := made 0 (by omega)
      simp only [Nat.zero_add, List.nil_append, Array.empty_append] at hm' ⊢
      exact ⟨_, _, hr, hm', grew _ _, fun k hk => .inr (by simp [Value.ownBlock] at hk; omega)⟩
  · by_cases hroom : n + m ≤ cap
    · have hfit : n * i.size + news.length ≤ cur.size := by rw [hl, hcs, ← Nat.add_mul]; exact Nat.mul_le_mul_right _ hroom
      have hr := run_append_room (P := P) w t ty e i ht hi g n cap cur hg a m c news hl hnews h1 hroom hfit
      refine ⟨_, _, hr, ⟨hlen, .inr ⟨g, cap, _, rfl, hbg, setRow_heap w g cur _ e _ hg, hroom, hcm, ?_, ?_⟩⟩, ⟨rfl, rfl, rfl, by simp, fun k _ hk => setRow_other w g k _ (fun e => hk (by simp [Value.ownBlock, e]))⟩, fun k hk => .inl hk⟩
      · simp only [List.size_toArray, List.length_append, List.length_take, List.length_drop, Array.length_toList]
        omega
      · rw [htake, ← hlen]
        exact List.take_left
    · have hr := run_append_grow (P := P) w t ty e i z ht hi hz ⟨g, 0, none⟩ n cap xs hown.1 (hown.cells (g := g) rfl) a m c news hl hnews (by omega) h63' (next_fits (by omega) h16 hbytes)
      exact ⟨_, _, hr, made cap (by omega), grew _ _, fun k hk => .inr (by simp [Value.ownBlock] at hk; omega)⟩

/-- append to a slice without room -/
theorem run_app_full (t ty e : TypeId) (i : TypeInfo) (z : Value) (size bytes : Nat) (ht : P.underlying t = some (.slice e)) (hi : P.info? e = some i) (hz : i.zero = some z)
    (hsize : i.size = size) (hby : i.bytes = bytes) (hzs : z.cells.size = size) (h16 : bytes ≤ 65536)
    (b : Addr) (n cap : Nat) (olds : List Value) (hlo : olds.length = n * size) (holds : ∀ j u, olds[j]? = some u → w.cell? (b.add j) = some u)
    (a : Addr) (m c : Nat) (news : List Value) (hl : news.length = m * size) (hnews : ∀ j u, news[j]? = some u → w.cell? (a.add j) = some u)
    (hg : cap < n + m) (h63 : n + m ≤ maxLen) (hbytes : (n + m) * bytes ≤ 140806207832064) :
    ∃ v' w', (Builtin.append_ #[t, t] ty #[.slice (some b) n cap, .slice (some a) m c]).run P w = .ok v' w' ∧ w'.ownsRow w.heap.size e size v' (n + m) (olds ++ news) ∧ w.grownBy w' none := by
  subst hsize
  subst hby
  have hlen : (olds ++ news).length = (n + m) * i.size := by rw [List.length_append, hlo, hl, Nat.add_mul]
  have hr := run_append_grow (P := P) w t ty e i z ht hi hz b n cap olds hlo holds a m c news hl hnews hg (by simp only [maxLen] at h63; omega) (next_fits hg h16 hbytes)
  have hge := grownCap_ge w (n + m) cap e
  refine ⟨_, _, hr, ⟨hlen, .inr ⟨w.heap.size, _, _, rfl, Nat.le_refl _, heap_alloc_new w.drew _, hge, grownCap_le_maxLen w (n + m) cap e h63, ?_, ?_⟩⟩, ⟨rfl, rfl, rfl, by simp, fun k hk _ => Below.heap_alloc w.drew _ k hk⟩⟩
  · simp only [Array.size_append, List.size_toArray, size_zeroCells, hzs]
    rw [hlo, hl, ← Nat.add_mul, ← Nat.add_mul]
    congr 1
    omega
  · rw [← hlen]
    simp only [Array.toList_append, List.append_assoc]
    rw [← List.append_assoc]
    exact List.take_left

theorem run_app_none (base : Nat) (t ty e : TypeId) (i : TypeInfo) (size : Nat) (ht : P.underlying t = some (.slice e)) (hi : P.info? e = some i)
    (v : Value) (n : Nat) (xs : List Value) (hown : w.ownsRow base e size v n xs) (c : Nat) : (Builtin.append_ #[t, t] ty #[v, .slice none 0 c]).run P w = .ok v w := by
  rcases hown.2 with ⟨rfl, rfl⟩ | ⟨g, cap, cur, rfl, _, _, hnc, _⟩
  · simp [Builtin.append_, run_underlying ht, sizeOf, typeInfo, hi, Builtin.lenOf, Builtin.firstCells]
  · simp [Builtin.append_, run_underlying ht, sizeOf, typeInfo, hi, Builtin.lenOf, Builtin.firstCells, hnc, storeCells]

theorem run_app_zero (t ty e : TypeId) (i : TypeInfo) (ht : P.underlying t = some (.slice e)) (hi : P.info? e = some i)
    (A A' : Option Addr) (n c : Nat) : (Builtin.append_ #[t, t] ty #[.slice A n n, .slice A' 0 c]).run P w = .ok (.slice A n n) w := by
  cases A <;> cases A' <;> simp [Builtin.append_, run_underlying ht, sizeOf, typeInfo, hi, Builtin.lenOf, Builtin.firstCells, loadCells, loadCellsFrom, storeCells]

/-- append, whatever is appended -/
theorem run_app (B : Nat) (t ty e : TypeId) (i : TypeInfo) (z : Value) (size bytes : Nat) (ht : P.underlying t = some (.slice e)) (hi : P.info? e = some i) (hz : i.zero = some z)
    (hsize : i.size = size) (hby : i.bytes = bytes) (hzs : z.cells.size = size) (hsz : 0 < size) (h16 : bytes ≤ 65536)
    (v : Value) (n : Nat) (xs : List Value) (hown : Gr w B e size v n xs)
    (A : Option Addr) (m c : Nat) (news : List Value) (hl : news.length = m * size) (hr : At w A news) (h1 : ∀ u ∈ news, u.oneCell' = true)
    (h63 : n + m ≤ maxLen) (hbytes : (n + m) * bytes ≤ 140806207832064) (hB : B ≤ w.heap.size) :
    ∃ v' w', (Builtin.append_ #[t, t] ty #[v, .slice A m c]).run P w = .ok v' w' ∧ Gr w' B e size v' (n + m) (xs ++ news) ∧ (0 < m → w'.ownsRow B e size v' (n + m) (xs ++ news)) ∧
      (w.ownsRow B e size v n xs → w'.ownsRow B e size v' (n + m) (xs ++ news)) ∧ (w.grownBy w' v.ownBlock) ∧ Below B w w' := by
  rcases hown with hown | ⟨A0, rfl, hA0, hx, hat⟩
  · have hb : ∀ w', w.grownBy w' v.ownBlock → Below B w w' := fun w' hg => (Below.refl B w).grown hg hB (fun k hk => (hown.lt k hk).1)
    cases A with
    | none =>
      have hn := hr.none_nil
      subst hn
      have hm : m = 0 := by
        rcases Nat.eq_zero_or_pos m with h | h
        · exact h
        · have := Nat.mul_pos h hsz
          simp at hl
          omega
      subst hm
      have hx : w.ownsRow B e size v (n + 0) (xs ++ []) := by simpa using hown
      exact ⟨v, w, run_app_none w B t ty e i size ht hi v n xs hown c, .inl hx, fun _ => hx, fun _ => hx, ⟨rfl, rfl, rfl, Nat.le_refl _, fun _ _ _ => rfl⟩, Below.refl _ _⟩
    | some ad =>
      obtain ⟨v', w', hrun, h2, h3, _⟩ := run_app_own (P := P) w B t ty e i z size bytes ht hi hz hsize hby hzs h16 v n xs hown ad m c news hl hr.cells h1 h63 hbytes hB
      exact ⟨v', w', hrun, .inl h2, fun _ => h2, fun _ => h2, h3, hb w' h3⟩
  · rcases Nat.eq_zero_or_pos m with hm | hm
    · subst hm
      have hn : news = [] := List.eq_nil_of_length_eq_zero (by simpa using hl)
      subst hn
      refine ⟨_, w, run_app_zero w t ty e i ht hi A0 A n c, .inr ⟨A0, rfl, hA0, by simpa using hx, by simpa using hat⟩, fun h => absurd h (by omega), fun h => by simpa using h, ⟨rfl, rfl, rfl, Nat.le_refl _, fun _ _ _ => rfl⟩, Below.refl _ _⟩
    · cases A with
      | none =>
        have hn := hr.none_nil
        subst hn
        have := Nat.mul_pos hm hsz
        simp at hl
        omega
      | some ad =>
        cases A0 with
        | none =>
          have hn0 := hA0 rfl
          subst hn0
          have hxs : xs = [] := List.eq_nil_of_length_eq_zero (by simpa using hx)
          subst hxs
          have hown : w.ownsRow B e size (.slice none 0 0) 0 [] := World.ownsRow_nil w B e size
          obtain ⟨v', w', hrun, h2, h3, _⟩ := run_app_own (P := P) w B t ty e i z size bytes ht hi hz hsize hby hzs h16 _ 0 [] hown ad m c news hl hr.cells h1 h63 hbytes hB
          exact ⟨v', w', hrun, .inl h2, fun _ => h2, fun _ => h2, h3, (Below.refl B w).grown h3 hB (fun k hk => (hown.lt k hk).1)⟩
        | some b0 =>
          obtain ⟨v', w', hrun, h2, h3⟩ := run_app_full (P := P) w t ty e i z size bytes ht hi hz hsize hby hzs h16 b0 n n xs hx hat.cells ad m c news hl hr.cells (by omega) h63 hbytes
          have h2' := own_base h2 hB
          exact ⟨v', w', hrun, .inl h2', fun _ => h2', fun _ => h2', ⟨h3.os, h3.tape, h3.output, h3.size, fun k hk _ => h3.block k hk (by simp)⟩, (Below.refl B w).grown h3 hB (fun k hk => by cases hk)⟩

theorem wp_app {o : Oper} {a : Act} {K : Act → World → Prop} {Q : Exit → Act → World → Prop} (s x : Operand) (t : TypeId)
    (ho : o.op = .call { callee := .builtin .append, args := #[s, x], argTypes := #[t, t] })
    (B : Nat) (e : TypeId) (i : TypeInfo) (z : Value) (size bytes : Nat) (ht : P.underlying t = some (.slice e)) (hi : P.info? e = some i) (hz : i.zero = some z)
    (hsize : i.size = size) (hby : i.bytes = bytes) (hzs : z.cells.size = size) (hsz : 0 < size) (h16 : bytes ≤ 65536)
    (v : Value) (n : Nat) (xs : List Value) (hs : a.eval s = v) (hown : Gr w B e size v n xs)
    (A : Option Addr) (m c : Nat) (news : List Value) (hx : a.eval x = .slice A m c) (hl : news.length = m * size) (hr : At w A news) (h1 : ∀ u ∈ news, u.oneCell' = true)
    (h63 : n + m ≤ maxLen) (hbytes : (n + m) * bytes ≤ 140806207832064) (hB : B ≤ w.heap.size)
    (h : ∀ v' w', Gr w' B e size v' (n + m) (xs ++ news) → (0 < m → w'.ownsRow B e size v' (n + m) (xs ++ news)) → (w.ownsRow B e size v n xs → w'.ownsRow B e size v' (n + m) (xs ++ news)) → (w.grownBy w' v.ownBlock) → Below B w w' → K (a.put o.dst v') w') : o.wp P a w K Q := by
  obtain ⟨v', w', hrun, h2, h3, h4, h5, h6⟩ := run_app (P := P) w B t o.type e i z size bytes ht hi hz hsize hby hzs hsz h16 v n xs hown A m c news hl hr h1 h63 hbytes hB
  unfold Oper.wp execOp
  simp only [ho, resolve, invoke, builtin, Sem.run_bind, Sem.run_pure, Result.andThen_ok, List.map_toArray, List.map_cons, List.map_nil, hs, hx, hrun]
  exact h v' w' h2 h3 h4 h5 h6

/-- append in a walk -/
theorem wpList_app {ops : Array Oper} {rest : List Oper} {o : Oper} {a : Act} {Q : Exit → Act → World → Prop} (hgd : o.guard = none) (s x : Operand) (t : TypeId)
    (ho : o.op = .call { callee := .builtin .append, args := #[s, x], argTypes := #[t, t] })
    (B : Nat) (e : TypeId) (i : TypeInfo) (z : Value) (size bytes : Nat) (ht : P.underlying t = some (.slice e)) (hi : P.info? e = some i) (hz : i.zero = some z)
    (hsize : i.size = size) (hby : i.bytes = bytes) (hzs : z.cells.size = size) (hsz : 0 < size) (h16 : bytes ≤ 65536)
    (v : Value) (n : Nat) (xs : List Value) (hs : a.eval s = v) (hown : Gr w B e size v n xs)
    (A : Option Addr) (m c : Nat) (news : List Value) (hx : a.eval x = .slice A m c) (hl : news.length = m * size) (hr : At w A news) (h1 : ∀ u ∈ news, u.oneCell' = true)
    (h63 : n + m ≤ maxLen) (hbytes : (n + m) * bytes ≤ 140806207832064) (hB : B ≤ w.heap.size)
    (h : ∀ v' w', Gr w' B e size v' (n + m) (xs ++ news) → (0 < m → w'.ownsRow B e size v' (n + m) (xs ++ news)) → (w.ownsRow B e size v n xs → w'.ownsRow B e size v' (n + m) (xs ++ news)) → (w.grownBy w' v.ownBlock) → Below B w w' → wpList P ops Q rest (a.put o.dst v') w') : wpList P ops Q (o :: rest) a w :=
  wpList_plain hgd fun _ hK => wp_app w s x t ho B e i z size bytes ht hi hz hsize hby hzs hsz h16 v n xs hs hown A m c news hx hl hr h1 h63 hbytes hB fun v' w' h2 h3 h4 h5 h6 => hK _ _ (h v' w' h2 h3 h4 h5 h6)

/-- append in a walk, behind a guard that is met -/
theorem wpList_app_g {ops : Array Oper} {rest : List Oper} {o : Oper} {a : Act} {Q : Exit → Act → World → Prop} (hgd : Region.wanted o (yielded ops a.tmps) = true) (s x : Operand) (t : TypeId)
    (ho : o.op = .call { callee := .builtin .append, args := #[s, x], argTypes := #[t, t] })
    (B : Nat) (e : TypeId) (i : TypeInfo) (z : Value) (size bytes : Nat) (ht : P.underlying t = some (.slice e)) (hi : P.info? e = some i) (hz : i.zero = some z)
    (hsize : i.size = size) (hby : i.bytes = bytes) (hzs : z.cells.size = size) (hsz : 0 < size) (h16 : bytes ≤ 65536)
    (v : Value) (n : Nat) (xs : List Value) (hs : a.eval s = v) (hown : Gr w B e size v n xs)
    (A : Option Addr) (m c : Nat) (news : List Value) (hx : a.eval x = .slice A m c) (hl : news.length = m * size) (hr : At w A news) (h1 : ∀ u ∈ news, u.oneCell' = true)
    (h63 : n + m ≤ maxLen) (hbytes : (n + m) * bytes ≤ 140806207832064) (hB : B ≤ w.heap.size)
    (h : ∀ v' w', Gr w' B e size v' (n + m) (xs ++ news) → (0 < m → w'.ownsRow B e size v' (n + m) (xs ++ news)) → (w.ownsRow B e size v n xs → w'.ownsRow B e size v' (n + m) (xs ++ news)) → (w.grownBy w' v.ownBlock) → Below B w w' → wpList P ops Q rest (a.put o.dst v') w') : wpList P ops Q (o :: rest) a w :=
  wpList_step fun K hK => by
    rw [if_pos hgd]
    exact wp_app w s x t ho B e i z size bytes ht hi hz hsize hby hzs hsz h16 v n xs hs hown A m c news hx hl hr h1 h63 hbytes hB fun v' w' h2 h3 h4 h5 h6 => hK _ _ (h v' w' h2 h3 h4 h5 h6)

/-- string(b) -/
theorem run_b2s (src e dst : TypeId) (hs : P.underlying src = some (.slice e)) (he : P.underlying e = some (.int .u8)) (hd : P.underlying dst = some .string) (A : Option Addr) (n c : Nat) (l : List UInt8) (hn : l.length = n) (h : At w A (bytesV l)) :
    (convert src dst (.slice A n c)).run P w = .ok (.string ⟨l.toArray⟩) w := by
  cases l with
  | nil =>
    simp at hn
    subst hn
    cases A with
    | none => exact run_convert_bytes_nil w src e hs he 0 c dst hd
    | some ad =>
      rw [run_convert_bytes_string w src dst e _ 0 c hs he hd]
      simp [Conv.bytesToString, loadCells, loadCellsFrom]
      rfl
  | cons x r =>
    obtain ⟨b, o, rfl, _, _⟩ := h 0 (byteV x) rfl
    have hc : ∀ i, i < n → w.cell? ⟨b, o + i, none⟩ = some (.int .u8 (((x :: r).map fun y : UInt8 => (y.toNat : Int)).getD i 0)) := by
      intro i hi
      have hi' : i < (x :: r).length := by omega
      obtain ⟨b', o', e', _, hc'⟩ := h i _ (bytesV_get _ i hi')
      injection e' with e'
      injection e' with e1 e2
      subst e1
      subst e2
      rw [hc']
      congr 2
      rw [List.getD, List.getElem?_map, List.getElem?_eq_getElem hi']
      rfl
    have := run_convert_bytes_arg (P := P) w src e hs he b o n c ((x :: r).map fun y : UInt8 => (y.toNat : Int)) (by simpa using hn) hc dst hd
    rw [this]
    congr 2
    simp [strOfNums]
    apply List.ext_getElem?
    intro i
    rw [List.getElem?_map]
    cases r[i]? <;> simp

end
end Go.Proofs.Ytpfjlnmnolbiaaa
