/- Words of this proof for memory that only grows, for slices that read as lists, and small laws of integers; over any program. -/
import Derived.WalkKit
import Derived.Deep.MidRow
import Derived.Deep.QuietTactic
import Derived.BigQuiet
import Derived.Deep.RegionWith
import Derived.Lib.Hide
import Derived.WalkSpells
import Derived.Lib.SlBytesConst
import Derived.Laws.BytesArg
import Derived.Deep.AppendSrc
namespace Go.Proofs.Ytaecdikglfdfnaa
open Go.RowKit

theorem getD_lt {α : Type} (l : List α) (i : Nat) (d : α) (h : i < l.length) : l.getD i d = l[i] := by simp [h]

theorem ret_bool {a b : Bool} (h : a = b) : Ending.returned (.bool a) = .returned (.bool b) := by rw [h]
theorem ret_int {k : IntKind} {a b : Int} (h : a = b) : Ending.returned (.int k a) = .returned (.int k b) := by rw [h]
theorem take_eq_snoc {α : Type} {xs ys : List α} {k : Nat} (h : xs.take k = ys.take k) (hx : k < xs.length) (hy : k < ys.length) (e : xs[k] = ys[k]) : xs.take (k + 1) = ys.take (k + 1) := by
  rw [List.take_succ_eq_append_getElem hx, List.take_succ_eq_append_getElem hy, h, e]

/-- Nothing that was there has changed. -/
def Grow (w w' : World) : Prop := Below w.heap.size w w'
theorem Grow.refl (w : World) : Grow w w := Below.refl _ _
theorem Grow.size {w w' : World} (h : Grow w w') : w.heap.size ≤ w'.heap.size := Below.size h
theorem Grow.trans {a b c : World} (h : Grow a b) (k : Grow b c) : Grow a c := Below.trans h (Below.mono k h.size)
theorem Grow.drew {a w : World} (h : Grow a w) : Grow a w.drew := Below.drew h
theorem Grow.alloc {a w : World} (h : Grow a w) (o : Obj) : Grow a (w.alloc o) := Below.alloc h h.size o
theorem Grow.setCell {a w : World} (h : Grow a w) {p : Addr} (hp : a.heap.size ≤ p.block) (u : Value) : Grow a (w.setCell p u) := Below.setCell h hp u
theorem Grow.cell {w w' : World} (h : Grow w w') {p : Addr} {v : Value} (hc : w.cell? p = some v) : w'.cell? p = some v := by
  have hb := World.block_lt_of_cell? w p hc
  rw [Below.cell h hb]; exact hc
theorem Grow.block {w w' : World} (h : Grow w w') {k : Nat} {o : Obj} (hc : w.heap[k]? = some o) : w'.heap[k]? = some o := by
  have hb : k < w.heap.size := (Array.getElem?_eq_some_iff.1 hc).1
  rw [Below.block h k hb]; exact hc
theorem Grow.grown {a w w' : World} {row : Option Nat} (h : Grow a w) (hg : w.grownBy w' row) (hr : ∀ k, row = some k → a.heap.size ≤ k) : Grow a w' :=
  Below.grown h hg h.size hr
theorem Grow.drewN {a w : World} (h : Grow a w) (n : Nat) : Grow a (w.drewN n) := h.trans ⟨rfl, rfl, rfl, Nat.le_refl _, fun _ _ => rfl⟩

/-- The n elements of sz cells each of a slice with this address, length and capacity read as the cells xs. -/
def Sl (w : World) (sz : Nat) (a : Option Addr) (n cap : Nat) (xs : List Value) : Prop :=
  xs.length = n * sz ∧ n ≤ cap ∧ cap ≤ maxLen ∧ (a = none → cap = 0) ∧ ∀ j v, xs[j]? = some v → ∃ b o, a = some ⟨b, o, none⟩ ∧ w.cell? ⟨b, o + j, none⟩ = some v
section
variable {w w' : World} {sz : Nat} {a : Option Addr} {n cap : Nat} {xs : List Value}
theorem Sl.grow (h : Sl w sz a n cap xs) (g : Grow w w') : Sl w' sz a n cap xs :=
  ⟨h.1, h.2.1, h.2.2.1, h.2.2.2.1, fun j v hv => let ⟨b, o, ha, hc⟩ := h.2.2.2.2 j v hv; ⟨b, o, ha, g.cell hc⟩⟩
theorem Sl.len (h : Sl w sz a n cap xs) : xs.length = n * sz := h.1
theorem Sl.lt63 (h : Sl w sz a n cap xs) : n ≤ 9223372036854775807 ∧ cap ≤ 9223372036854775807 ∧ n ≤ cap := by
  have h1 := h.2.1; have h2 := h.2.2.1; unfold maxLen at h2; omega
theorem Sl.nil (w : World) (sz : Nat) : Sl w sz none 0 0 [] := ⟨by simp, Nat.le_refl _, by simp [maxLen], fun _ => rfl, fun j v h => by simp at h⟩
theorem Sl.at (h : Sl w sz a n cap xs) {j : Nat} (hj : j < xs.length) : ∃ b o, a = some ⟨b, o, none⟩ ∧ ∀ i v, xs[i]? = some v → w.cell? ⟨b, o + i, none⟩ = some v := by
  obtain ⟨b, o, ha, _⟩ := h.2.2.2.2 j xs[j] (by simp [hj])
  refine ⟨b, o, ha, fun i v hv => ?_⟩
  obtain ⟨b', o', ha', hc⟩ := h.2.2.2.2 i v hv
  rw [ha] at ha'; cases ha'; exact hc
/-- The address of a slice that is cut. -/
def cutA (a : Option Addr) (m l s : Nat) : Option Addr := if m = l then a else a.map (·.add (l * s))
@[go_sem ↓ high] theorem sliced_cutA (a : Option Addr) (l h m s : Nat) : sliced a l h m s = .slice (cutA a m l s) (h - l) (m - l) := rfl
@[go_sem] theorem cutA_zero (a : Option Addr) (m s : Nat) : cutA a m 0 s = a := by
  unfold cutA; split
  · rfl
  · cases a <;> simp [Addr.add]
theorem Sl.cut3 (h : Sl w sz a n cap xs) (l r m : Nat) (hl : l ≤ r) (hr : r ≤ n) (hrm : r ≤ m) (hm : m ≤ cap) :
    Sl w sz (cutA a m l sz) (r - l) (m - l) ((xs.take (r * sz)).drop (l * sz)) := by
  unfold cutA
  obtain ⟨h1, h2, h3, h0, h4⟩ := h
  have hle : r * sz ≤ n * sz := Nat.mul_le_mul_right _ hr
  refine ⟨by rw [List.length_drop, List.length_take, h1, Nat.min_eq_left hle, Nat.sub_mul], by omega, by omega, fun e => ?_, fun j v hv => ?_⟩
  · have : a = none := by
      split at e
      · exact e
      · simpa using e
    have := h0 this; omega
  have hv' : xs[l * sz + j]? = some v ∧ l * sz + j < r * sz := by
    simp only [List.getElem?_drop, List.getElem?_take] at hv
    split at hv
    · exact ⟨hv, by assumption⟩
    · cases hv
  have hlr : l < r := by
    by_cases e : l = r
    · subst e; omega
    · omega
  obtain ⟨b, o, ha, hc⟩ := h4 _ _ hv'.1
  refine ⟨b, o + l * sz, ?_, ?_⟩
  · rw [if_neg (by omega), ha]; simp [Addr.add_mid]
  · rw [Nat.add_assoc]; exact hc
theorem Sl.cut (h : Sl w sz a n cap xs) (l r : Nat) (hl : l ≤ r) (hr : r ≤ n) : Sl w sz (cutA a cap l sz) (r - l) (cap - l) ((xs.take (r * sz)).drop (l * sz)) :=
  h.cut3 l r cap hl hr (Nat.le_trans hr h.2.1) (Nat.le_refl _)
end

abbrev U8 (c : UInt8) : Value := .int .u8 (c.toNat : Int)
/-- A slice of bytes. -/
def By (w : World) (a : Option Addr) (n cap : Nat) (bs : List UInt8) : Prop := Sl w 1 a n cap (bs.map U8)
section
variable {w w' : World} {a : Option Addr} {n cap : Nat} {bs : List UInt8}
theorem By.grow (h : By w a n cap bs) (g : Grow w w') : By w' a n cap bs := Sl.grow h g
theorem By.len (h : By w a n cap bs) : bs.length = n := by simpa using Sl.len h
theorem By.lt63 (h : By w a n cap bs) : n ≤ 9223372036854775807 ∧ cap ≤ 9223372036854775807 ∧ n ≤ cap := Sl.lt63 h
theorem By.nil (w : World) : By w none 0 0 [] := Sl.nil w 1
theorem By.at (h : By w a n cap bs) {j : Nat} (hj : j < n) :
    ∃ b o, a = some ⟨b, o, none⟩ ∧ ∀ i, i < n → w.cell? ⟨b, o + i, none⟩ = some (U8 (bs.getD i 0)) := by
  obtain ⟨b, o, ha, hc⟩ := Sl.at h (j := j) (by simp [h.len, hj])
  refine ⟨b, o, ha, fun i hi => hc i _ ?_⟩
  have hi' : i < bs.length := by rw [h.len]; exact hi
  simp [hi', List.getD]
theorem By.cut (h : By w a n cap bs) (l r : Nat) (hl : l ≤ r) (hr : r ≤ n) : By w (cutA a cap l 1) (r - l) (cap - l) ((bs.take r).drop l) := by
  have := Sl.cut h l r hl hr
  unfold By; simpa [List.map_drop, List.map_take] using this
theorem By.upto (h : By w a n cap bs) (r : Nat) (hr : r ≤ n) : By w a r cap (bs.take r) := by
  have := h.cut 0 r (by omega) hr
  simpa [cutA_zero] using this
theorem By.from (h : By w a n cap bs) (l : Nat) (hl : l ≤ n) : By w (cutA a cap l 1) (n - l) (cap - l) (bs.drop l) := by
  have := h.cut l n hl (Nat.le_refl _)
  rwa [List.take_of_length_le (by rw [h.len]; exact Nat.le_refl _)] at this
theorem By.full (h : By w a n cap bs) : By w a n n bs := by
  have := Sl.cut3 h 0 n n (by omega) (Nat.le_refl _) (Nat.le_refl _) h.lt63.2.2
  have hl := h.len
  unfold By
  simpa [cutA_zero, List.take_of_length_le, hl] using this
end

/-- A slice whose elements, of sz cells each, stand for the things of a list. R: which cells stand for a thing. -/
def Els {α : Type} (R : World → α → List Value → Prop) (w : World) (sz : Nat) (a : Option Addr) (n cap : Nat) (l : List α) : Prop :=
  ∃ css : List (List Value), Sl w sz a n cap css.flatten ∧ css.length = l.length ∧ l.length = n ∧
    ∀ (i : Nat) (x : α) (cs : List Value), l[i]? = some x → css[i]? = some cs → cs.length = sz ∧ R w x cs
/-- R holds on in memory that grows. -/
def Keeps {α : Type} (R : World → α → List Value → Prop) : Prop := ∀ {w w' : World} {x : α} {cs : List Value}, R w x cs → Grow w w' → R w' x cs
section
variable {α : Type} {R : World → α → List Value → Prop} {w w' : World} {sz : Nat} {a : Option Addr} {n cap : Nat} {l : List α}
theorem Els.grow (hR : Keeps R) (h : Els R w sz a n cap l) (g : Grow w w') : Els R w' sz a n cap l :=
  let ⟨css, h1, h2, h3, h4⟩ := h; ⟨css, h1.grow g, h2, h3, fun i x cs hx hc => ⟨(h4 i x cs hx hc).1, hR (h4 i x cs hx hc).2 g⟩⟩
theorem Els.len (h : Els R w sz a n cap l) : l.length = n := let ⟨_, _, _, h3, _⟩ := h; h3
theorem Els.lt63 (h : Els R w sz a n cap l) : n ≤ 9223372036854775807 ∧ cap ≤ 9223372036854775807 ∧ n ≤ cap := let ⟨_, h1, _⟩ := h; h1.lt63
theorem Els.nil (w : World) (sz : Nat) : Els R w sz none 0 0 ([] : List α) := ⟨[], Sl.nil w sz, rfl, rfl, fun i x cs h => by simp at h⟩
theorem flatten_get {β : Type} (sz : Nat) : ∀ (css : List (List β)), (∀ (i : Nat) (cs : List β), css[i]? = some cs → cs.length = sz) → ∀ (i j : Nat) (cs : List β) (v : β), css[i]? = some cs → cs[j]? = some v → css.flatten[i * sz + j]? = some v
  | [], _, i, j, cs, v, h, _ => by simp at h
  | c :: css, hl, 0, j, cs, v, h, hv => by
    simp at h; subst h
    have hj : j < c.length := (List.getElem?_eq_some_iff.1 hv).1
    simp only [List.flatten_cons, Nat.zero_mul, Nat.zero_add]
    rw [List.getElem?_append_left hj]; exact hv
  | c :: css, hl, i + 1, j, cs, v, h, hv => by
    have hc : c.length = sz := hl 0 c rfl
    simp at h
    simp only [List.flatten_cons]
    rw [List.getElem?_append_right (by rw [hc, Nat.add_mul]; omega)]
    have e : (i + 1) * sz + j - c.length = i * sz + j := by rw [hc, Nat.add_mul]; omega
    rw [e]
    exact flatten_get sz css (fun k cs hk => hl (k + 1) cs (by simpa using hk)) i j cs v h hv
theorem Els.at (h : Els R w sz a n cap l) (hs : 0 < sz) {i : Nat} (hi : i < n) : ∃ b o, a = some ⟨b, o, none⟩ ∧
    ∀ (j : Nat) (hj : j < l.length), ∃ cs, cs.length = sz ∧ R w l[j] cs ∧ ∀ k v, cs[k]? = some v → w.cell? ⟨b, o + j * sz + k, none⟩ = some v := by
  obtain ⟨css, h1, h2, h3, h4⟩ := h
  have hcl : ∀ (i : Nat) (cs : List Value), css[i]? = some cs → cs.length = sz := fun i cs hc => by
    have hi : i < css.length := (List.getElem?_eq_some_iff.1 hc).1
    exact (h4 i (l[i]'(by omega)) cs (by simp) hc).1
  have hlen : css.flatten.length = n * sz := h1.len
  have hpos : 0 < css.flatten.length := by rw [hlen]; exact Nat.mul_pos (by omega) hs
  obtain ⟨b, o, ha, hc⟩ := h1.at hpos
  refine ⟨b, o, ha, fun j hj => ?_⟩
  have hjc : j < css.length := by omega
  obtain ⟨k1, k2⟩ := h4 j l[j] css[j] (by simp) (by simp)
  refine ⟨css[j], k1, k2, fun k v hv => ?_⟩
  rw [Nat.add_assoc]
  exact hc _ _ (flatten_get sz css hcl j k css[j] v (by simp) hv)
theorem flatten_drop {β : Type} (sz : Nat) : ∀ (css : List (List β)) (k : Nat), (∀ (i : Nat) (cs : List β), css[i]? = some cs → cs.length = sz) → css.flatten.drop (k * sz) = (css.drop k).flatten
  | css, 0, _ => by simp
  | [], k + 1, _ => by simp
  | c :: css, k + 1, hl => by
    have hc : c.length = sz := hl 0 c rfl
    simp only [List.flatten_cons, List.drop_succ_cons]
    rw [show (k + 1) * sz = c.length + k * sz by rw [hc, Nat.add_mul]; omega, List.drop_append, List.drop_of_length_le (by omega), show c.length + k * sz - c.length = k * sz by omega, List.nil_append]
    exact flatten_drop sz css k (fun i cs hk => hl (i + 1) cs (by simpa using hk))
theorem flatten_take {β : Type} (sz : Nat) : ∀ (css : List (List β)) (k : Nat), (∀ (i : Nat) (cs : List β), css[i]? = some cs → cs.length = sz) → css.flatten.take (k * sz) = (css.take k).flatten
  | css, 0, _ => by simp
  | [], k + 1, _ => by simp
  | c :: css, k + 1, hl => by
    have hc : c.length = sz := hl 0 c rfl
    simp only [List.flatten_cons, List.take_succ_cons]
    rw [show (k + 1) * sz = c.length + k * sz by rw [hc, Nat.add_mul]; omega, List.take_append, List.take_of_length_le (by omega), show c.length + k * sz - c.length = k * sz by omega]
    rw [flatten_take sz css k (fun i cs hk => hl (i + 1) cs (by simpa using hk))]
theorem Els.cut3 (h : Els R w sz a n cap l) (i r m : Nat) (hl : i ≤ r) (hr : r ≤ n) (hrm : r ≤ m) (hm : m ≤ cap) :
    Els R w sz (cutA a m i sz) (r - i) (m - i) ((l.take r).drop i) := by
  obtain ⟨css, h1, h2, h3, h4⟩ := h
  have hcl : ∀ (i : Nat) (cs : List Value), css[i]? = some cs → cs.length = sz := fun i cs hc => by
    have hi : i < css.length := (List.getElem?_eq_some_iff.1 hc).1
    exact (h4 i (l[i]'(by omega)) cs (by simp) hc).1
  refine ⟨(css.take r).drop i, ?_, by simp [h2], by simp; omega, fun j x cs hx hc => ?_⟩
  · have := h1.cut3 i r m hl hr hrm hm
    rw [flatten_take sz css r hcl, flatten_drop sz (css.take r) i (fun k cs hk => hcl k cs (by
      rw [List.getElem?_take] at hk; split at hk
      · exact hk
      · cases hk))] at this
    exact this
  · simp only [List.getElem?_drop, List.getElem?_take] at hx hc
    split at hx
    · rename_i hlt
      rw [if_pos hlt] at hc
      exact h4 _ _ _ hx hc
    · cases hx
theorem Els.cut (h : Els R w sz a n cap l) (i r : Nat) (hl : i ≤ r) (hr : r ≤ n) : Els R w sz (cutA a cap i sz) (r - i) (cap - i) ((l.take r).drop i) :=
  h.cut3 i r cap hl hr (Nat.le_trans hr h.lt63.2.2) (Nat.le_refl _)
theorem Els.upto (h : Els R w sz a n cap l) (r : Nat) (hr : r ≤ n) : Els R w sz a r cap (l.take r) := by
  have := h.cut 0 r (by omega) hr
  simpa [cutA_zero] using this
theorem Els.from (h : Els R w sz a n cap l) (i : Nat) (hl : i ≤ n) : Els R w sz (cutA a cap i sz) (n - i) (cap - i) (l.drop i) := by
  have := h.cut i n hl (Nat.le_refl _)
  rwa [List.take_of_length_le (by rw [h.len]; exact Nat.le_refl _)] at this
end

/-- The one cell of a slice of bytes. -/
def IsBytes (w : World) (bs : List UInt8) (cs : List Value) : Prop := ∃ a cap, cs = [.slice a bs.length cap] ∧ By w a bs.length cap bs
theorem isBytes_keeps : Keeps IsBytes := fun ⟨a, cap, e, h⟩ g => ⟨a, cap, e, h.grow g⟩
/-- A slice of slices of bytes. -/
def Parts (w : World) (a : Option Addr) (n cap : Nat) (ps : List (List UInt8)) : Prop := Els IsBytes w 1 a n cap ps
section
variable {w w' : World} {a : Option Addr} {n cap : Nat} {ps : List (List UInt8)}
theorem Parts.grow (h : Parts w a n cap ps) (g : Grow w w') : Parts w' a n cap ps := Els.grow isBytes_keeps h g
theorem Parts.len (h : Parts w a n cap ps) : ps.length = n := Els.len h
theorem Parts.lt63 (h : Parts w a n cap ps) : n ≤ 9223372036854775807 ∧ cap ≤ 9223372036854775807 ∧ n ≤ cap := Els.lt63 h
theorem Parts.nil (w : World) : Parts w none 0 0 [] := Els.nil w 1
theorem Parts.at (h : Parts w a n cap ps) {j : Nat} (hj : j < n) :
    ∃ b o, a = some ⟨b, o, none⟩ ∧ ∀ i, i < n → ∃ a' c', w.cell? ⟨b, o + i, none⟩ = some (.slice a' (ps.getD i []).length c') ∧ By w a' (ps.getD i []).length c' (ps.getD i []) := by
  have hl := h.len
  obtain ⟨b, o, ha, hc⟩ := Els.at h (by omega) hj
  refine ⟨b, o, ha, fun i hi => ?_⟩
  have hip : i < ps.length := by omega
  obtain ⟨cs, _, ⟨a', c', rfl, hb⟩, hcell⟩ := hc i hip
  rw [getD_lt _ _ _ hip]
  have := hcell 0 _ rfl
  simp only [Nat.mul_one, Nat.add_zero] at this
  exact ⟨a', c', this, hb⟩
theorem Parts.one {bs : List UInt8} (h : By w a n cap bs) (T : TypeId) {g : Nat} (hg : g = w.heap.size := by simp) : Parts (w.alloc (.cells #[.slice a n cap] T)) (some ⟨g, 0, none⟩) 1 1 [bs] := by
  subst hg
  have hl := h.len
  subst hl
  refine ⟨[[.slice a bs.length cap]], ⟨by simp, Nat.le_refl _, by simp [maxLen], (fun e => by cases e), fun j v hv => ⟨w.heap.size, 0, rfl, ?_⟩⟩, rfl, rfl, fun i x cs hx hc => ?_⟩
  · rw [cell_of_row _ _ _ _ _ _ (heap_alloc_new w _)]
    simpa using hv
  · have : i = 0 := by
      have := (List.getElem?_eq_some_iff.1 hx).1
      simp at this; exact this
    subst this
    simp at hx hc
    subst hx hc
    exact ⟨rfl, a, cap, rfl, h.grow ((Grow.refl w).alloc _)⟩
end

/-- What a step that writes one row leaves. -/
structure Wrote (w w' : World) (g : Nat) (o : Obj) : Prop where
  at_ : w'.heap[g]? = some o
  by_ : w.grownBy w' (some g)
  size : w'.heap.size = w.heap.size
theorem Wrote.grow {a w w' : World} {g : Nat} {o : Obj} (h : Wrote w w' g o) (hg : Grow a w) (hb : a.heap.size ≤ g) : Grow a w' :=
  hg.grown h.by_ (fun k e => by cases e; exact hb)
theorem Wrote.other {w w' : World} {g : Nat} {o : Obj} (h : Wrote w w' g o) {k : Nat} {x : Obj} (hk : k ≠ g) (hx : w.heap[k]? = some x) : w'.heap[k]? = some x := by
  have hl : k < w.heap.size := (Array.getElem?_eq_some_iff.1 hx).1
  rw [h.by_.block k hl (by intro e; cases e; exact hk rfl)]; exact hx
theorem wrote_setRow (w : World) (g : Nat) (old cs : Array Value) (t : TypeId) (hg : w.heap[g]? = some (.cells old t (0, 0))) : Wrote w (w.setRow g cs) g (.cells cs t (0, 0)) :=
  ⟨setRow_heap w g old cs t _ hg, ⟨rfl, rfl, rfl, by simp, fun k _ hk => setRow_other w g k cs (fun e => hk (by rw [e]))⟩, by simp⟩
theorem wrote_setCell (w : World) (g i : Nat) (cs : Array Value) (t : TypeId) (v : Value) (hg : w.heap[g]? = some (.cells cs t (0, 0))) :
    Wrote w (w.setCell ⟨g, i, none⟩ v) g (.cells (cs.setIfInBounds i v) t (0, 0)) :=
  ⟨heap_setCell_same w g i cs t v hg, ⟨rfl, rfl, rfl, by simp [World.setCell], fun k _ hk => heap_setCell_other w _ k v (fun e => hk (by rw [e]))⟩, by simp [World.setCell]⟩
/-- A whole array or struct stored into a row of its own. -/
theorem store_row {P : Program} {ops : Array Oper} {rest : List Oper} {o : Oper} {a : Act} {w : World} {Q : Exit → Act → World → Prop} (hgd : o.guard = none) (ty : TypeId) (x y : Operand) (ho : o.op = .store ty x y)
    (g : Nat) (t : TypeId) (old cells : Array Value) (hx : a.eval x = .pointer (some ⟨g, 0, none⟩)) (hy : a.eval y = .agg cells)
    (hg : w.heap[g]? = some (.cells old t (0, 0))) (hi : (P.info? ty).map (·.size) = some cells.size) (hold : old.size = cells.size) (h1 : cells.all (·.oneCell') = true)
    (h : ∀ w', Wrote w w' g (.cells cells t (0, 0)) → wpList P ops Q rest (a.put o.dst undef) w') : wpList P ops Q (o :: rest) a w := by
  refine wpList_plain hgd fun K hK => ?_
  unfold Oper.wp execOp
  simp only [ho, hx, hy, Instr.storeAt, Instr.sureAddr, Sem.run_bind, Sem.run_pure, Result.andThen_ok, run_storeVar_row w g t ty old cells hg hi hold h1]
  exact hK _ _ (h _ (wrote_setRow w g old cells t hg))

/-! Unsigned words of 32 bits: N32 x is the number of the word x; the walk computes with words. -/
def N32 (x : BitVec 32) : Int := (x.toNat : Int)
abbrev U32 (x : BitVec 32) : Value := .int .u32 (N32 x)
theorem N32_le (x : BitVec 32) : 0 ≤ N32 x ∧ N32 x ≤ 4294967295 := by have := x.isLt; unfold N32; omega
theorem N32_ofInt (x : BitVec 32) : BitVec.ofInt 32 (N32 x) = x := by simp [N32]
theorem N32_wrap (x : BitVec 32) : IntKind.u32.wrap (x.toNat : Int) = N32 x := IntWalk.u32_in _ (N32_le x)
@[go_sem] theorem N32_xor (x y : BitVec 32) : bits .xor .u32 (N32 x) (N32 y) = N32 (x ^^^ y) := by
  simp only [bits, IntKind.bits]; rw [N32_ofInt, N32_ofInt]; exact N32_wrap _
@[go_sem] theorem N32_and (x y : BitVec 32) : bits .and .u32 (N32 x) (N32 y) = N32 (x &&& y) := by
  simp only [bits, IntKind.bits]; rw [N32_ofInt, N32_ofInt]; exact N32_wrap _
@[go_sem] theorem N32_or (x y : BitVec 32) : bits .or .u32 (N32 x) (N32 y) = N32 (x ||| y) := by
  simp only [bits, IntKind.bits]; rw [N32_ofInt, N32_ofInt]; exact N32_wrap _
@[go_sem] theorem N32_not (x : BitVec 32) : bits .xor .u32 IntKind.u32.max (N32 x) = N32 (~~~x) := by
  have : (IntKind.u32.max : Int) = N32 (BitVec.allOnes 32) := by decide
  rw [this, N32_xor, BitVec.allOnes_xor]
theorem N32_shr (x : BitVec 32) (k : Nat) : N32 x / ((2 ^ k : Nat) : Int) = N32 (x >>> k) := by
  unfold N32; rw [BitVec.toNat_ushiftRight, Nat.shiftRight_eq_div_pow]; rfl
@[go_sem] theorem N32_shr1 (x : BitVec 32) : N32 x / (2 : Int) = N32 (x >>> 1) := by have h := N32_shr x 1; simpa using h
@[go_sem] theorem N32_shr4 (x : BitVec 32) : N32 x / (16 : Int) = N32 (x >>> 4) := by have h := N32_shr x 4; simpa using h
@[go_sem] theorem N32_shr8 (x : BitVec 32) : N32 x / (256 : Int) = N32 (x >>> 8) := by have h := N32_shr x 8; simpa using h
@[go_sem] theorem N32_shr16 (x : BitVec 32) : N32 x / (65536 : Int) = N32 (x >>> 16) := by have h := N32_shr x 16; simpa using h
@[go_sem] theorem N32_shr24 (x : BitVec 32) : N32 x / (16777216 : Int) = N32 (x >>> 24) := by have h := N32_shr x 24; simpa using h
@[go_sem] theorem N32_neg (x : BitVec 32) : -N32 x % 4294967296 = N32 (-x) := by
  unfold N32; rw [BitVec.toNat_neg]; have := x.isLt; omega
@[go_sem] theorem N32_and1 (x : BitVec 32) : bits .and .u32 (N32 x) 1 = N32 (x &&& 1#32) := N32_and x 1#32
@[go_sem] theorem N32_and15 (x : BitVec 32) : bits .and .u32 (N32 x) 15 = N32 (x &&& 15#32) := N32_and x 15#32
theorem u8_wrap (c : UInt8) : IntKind.u8.wrap (c.toNat : Int) = c.toNat := IntWalk.u8_in _ (by have := c.toNat_lt; omega)
theorem u8_xor (c m : UInt8) : bits .xor .u8 (c.toNat : Int) (m.toNat : Int) = ((c ^^^ m).toNat : Int) := by
  simp only [bits, IntKind.bits]
  have h : ∀ x : UInt8, BitVec.ofInt 8 (x.toNat : Int) = x.toBitVec := fun x => by
    apply BitVec.eq_of_toNat_eq; simp
  rw [h, h]
  exact u8_wrap (c ^^^ m)
/-- The word of a byte. -/
def w8 (c : UInt8) : BitVec 32 := c.toBitVec.setWidth 32
theorem u8_N32 (c : UInt8) : (c.toNat : Int) = N32 (w8 c) := by
  have h : c.toNat < 256 := c.toNat_lt
  have h2 : c.toBitVec.toNat = c.toNat := rfl
  unfold N32 w8
  rw [BitVec.toNat_setWidth, h2]; omega
/-- The lowest byte of a word. -/
def lo8 (x : BitVec 32) : UInt8 := UInt8.ofNat x.toNat
@[go_sem] theorem N32_lo8 (x : BitVec 32) : N32 x % (256 : Int) = ((lo8 x).toNat : Int) := by
  unfold N32 lo8; rw [UInt8.toNat_ofNat']; omega
theorem U8_eq (c : UInt8) : U8 c = .int .u8 (N32 (w8 c)) := congrArg (Value.int .u8) (u8_N32 c)
theorem w8_le (c : UInt8) : 0 ≤ N32 (w8 c) ∧ N32 (w8 c) ≤ 255 := by
  have h : c.toNat < 256 := c.toNat_lt
  rw [← u8_N32]; omega
/-- The built-ins min and max of integers, under names of their own. -/
def imin (a b : Int) : Int := if b < a then b else a
def imax (a b : Int) : Int := if a < b then b else a
theorem imin_spec (a b : Int) : imin a b ≤ a ∧ imin a b ≤ b ∧ (imin a b = a ∨ imin a b = b) := by unfold imin; split <;> omega
theorem imax_spec (a b : Int) : a ≤ imax a b ∧ b ≤ imax a b ∧ (imax a b = a ∨ imax a b = b) := by unfold imax; split <;> omega
@[go_sem ↓ high] theorem run_imin2 {P : Program} (w : World) (ts : Array TypeId) (t : TypeId) (k k' : IntKind) (x y : Int) : (Builtin.min_ ts t #[.int k x, .int k' y]).run P w = .ok (.int k (imin x y)) w := by
  simp [Builtin.min_, Builtin.min2, imin]
@[go_sem ↓ high] theorem run_imin3 {P : Program} (w : World) (ts : Array TypeId) (t : TypeId) (k k' k'' : IntKind) (x y z : Int) : (Builtin.min_ ts t #[.int k x, .int k' y, .int k'' z]).run P w = .ok (.int k (imin (imin x y) z)) w := by
  simp only [Builtin.min_, Builtin.min2, imin]; rfl
@[go_sem ↓ high] theorem run_imax2 {P : Program} (w : World) (ts : Array TypeId) (t : TypeId) (k k' : IntKind) (x y : Int) : (Builtin.max_ ts t #[.int k x, .int k' y]).run P w = .ok (.int k (imax x y)) w := by
  simp [Builtin.max_, Builtin.max2, imax]
/-- Out of a literal in a new block. -/
theorem sl_lit (w : World) (sz : Nat) (cs : Array Value) (n : Nat) (t : TypeId) {fr : Nat × Nat} (hm : n ≤ maxLen) (hs : cs.size = n * sz) {g : Nat} (hg : g = w.heap.size := by simp) : Sl (w.alloc (.cells cs t fr)) sz (some ⟨g, 0, none⟩) n n cs.toList := by
  subst hg
  refine ⟨by simpa using hs, Nat.le_refl _, hm, (fun e => by cases e), fun j v hv => ⟨w.heap.size, 0, rfl, ?_⟩⟩
  rw [cell_of_row _ _ _ _ _ _ (heap_alloc_new w _), Nat.zero_add]
  simpa using hv
end Go.Proofs.Ytaecdikglfdfnaa
