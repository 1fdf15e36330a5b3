/- Part of what the laws need: plain words, the walker and its laws, the program's functions. -/
import Derived.Test.YtekpafdhgkocaaaGreatZMem
namespace Go.Proofs.YtekpafdhgkocaaaGreat
open Go.RowKit
def At (m : Mem) (b o : Nat) (cs : List Value) : Prop := ∀ k v, cs[k]? = some v → m.ok b (o + k) ∧ m.w.cell? ⟨b, o + k, none⟩ = some v
theorem At.mono {m m' : Mem} {b o : Nat} {cs : List Value} (h : At m b o cs) (l : Le m m') : At m' b o cs :=
 fun k v hv => let ⟨h1, h2⟩ := h k v hv; ⟨(l.same _ _ h1).1, ((l.same _ _ h1).2).trans h2⟩
def Sl (m : Mem) (sz : Nat) (a : Option Addr) (n cap : Nat) (xs : List Value) : Prop :=
 xs.length = n * sz ∧ n ≤ cap ∧ cap ≤ maxLen ∧ (a = none → cap = 0) ∧ ∀ j v, xs[j]? = some v → ∃ b o, a = some ⟨b, o, none⟩ ∧ m.ok b (o + j) ∧ m.w.cell? ⟨b, o + j, none⟩ = some v
section
variable {m m' : Mem} {sz : Nat} {a : Option Addr} {n cap : Nat} {xs ys : List Value}
theorem Sl.mono (h : Sl m sz a n cap xs) (l : Le m m') : Sl m' sz a n cap xs :=
 ⟨h.1, h.2.1, h.2.2.1, h.2.2.2.1, fun j v hv => let ⟨b, o, ha, h1, h2⟩ := h.2.2.2.2 j v hv; ⟨b, o, ha, (l.same _ _ h1).1, ((l.same _ _ h1).2).trans h2⟩⟩
theorem Sl.nil (m : Mem) (sz : Nat) : Sl m sz none 0 0 [] := ⟨by simp, Nat.le_refl _, by simp [maxLen], fun _ => rfl, fun j v h => by simp at h⟩
theorem Sl.nN (h : Sl m sz a n cap xs) : n ≤ 9223372036854775807 ∧ cap ≤ 9223372036854775807 ∧ n ≤ cap := by
 have h1 := h.2.1; have h2 := h.2.2.1; unfold maxLen at h2; omega
theorem Sl.at (h : Sl m sz a n cap xs) (hp : 0 < xs.length) : ∃ b o, a = some ⟨b, o, none⟩ ∧ At m b o xs := by
 obtain ⟨b, o, ha, _⟩ := h.2.2.2.2 0 xs[0] (by simp [hp])
 refine ⟨b, o, ha, fun i v hv => ?_⟩
 obtain ⟨b', o', ha', hc⟩ := h.2.2.2.2 i v hv
 rw [ha] at ha'; cases ha'; exact hc
def cW (a : Option Addr) (m l s : Nat) : Option Addr := if m = l then a else a.map (·.add (l * s))
theorem eU (a : Option Addr) (m s : Nat) : cW a m 0 s = a := by
 unfold cW; split
 · rfl
 · cases a <;> simp [Addr.add]
theorem Sl.JE (h : Sl m sz a n cap xs) (l r q : Nat) (hl : l ≤ r) (hr : r ≤ n) (hrm : r ≤ q) (hm : q ≤ cap) :
 Sl m sz (cW a q l sz) (r - l) (q - l) ((xs.take (r * sz)).drop (l * sz)) := by
 unfold cW
 obtain ⟨h1, h2, h3, h0, h4⟩ := h
 have hle : r * sz ≤ n * sz := Nat.mul_le_mul_right _ hr
 refine ⟨by rw [List.length_drop, List.length_take, h1, Nat.min_eq_left hle, Nat.sub_mul], by omega, by omega, fun e => ?_, fun j v hv => ?_⟩
 · have : a = none := by
    split at e
    · exact e
    · simpa using e
   have := h0 this; omega
 have hv' : xs[l * sz + j]? = some v ∧ l * sz + j < r * sz := by
  simp only [List.getElem?_drop, List.getElem?_take] at hv
  split at hv
  · exact ⟨hv, by assumption⟩
  · cases hv
 have hlr : l < r := by
  by_cases e : l = r
  · subst e; omega
  · omega
 obtain ⟨b, o, ha, hk, hc⟩ := h4 _ _ hv'.1
 refine ⟨b, o + l * sz, ?_, ?_, ?_⟩
 · rw [if_neg (by omega), ha]; simp [Addr.add_mid]
 · rw [Nat.add_assoc]; exact hk
 · rw [Nat.add_assoc]; exact hc
end
def cC {α : Type} (R : Mem → α → List Value → Prop) (m : Mem) (sz : Nat) (a : Option Addr) (cap : Nat) (l : List α) : Prop :=
 ∃ css : List (List Value), Sl m sz a l.length cap css.flatten ∧ css.length = l.length ∧
  ∀ (i : Nat) (x : α) (cs : List Value), l[i]? = some x → css[i]? = some cs → cs.length = sz ∧ R m x cs
structure lB {α : Type} (R : Mem → α → List Value → Prop) (sz : Nat) : Prop where
 mono : ∀ {m m' : Mem} {x : α} {cs : List Value}, R m x cs → Le m m' → R m' x cs
 size : ∀ {m : Mem} {x : α} {cs : List Value}, R m x cs → cs.length = sz
 one : ∀ {m : Mem} {x : α} {cs : List Value}, R m x cs → ∀ u ∈ cs, u.oneCell' = true
 pos : 0 < sz
section
variable {α : Type} {R : Mem → α → List Value → Prop} {m m' : Mem} {sz : Nat} {a : Option Addr} {cap : Nat} {l l' : List α}
theorem cC.mono (hR : lB R sz) (h : cC R m sz a cap l) (g : Le m m') : cC R m' sz a cap l :=
 let ⟨css, h1, h2, h4⟩ := h; ⟨css, h1.mono g, h2, fun i x cs hx hc => ⟨(h4 i x cs hx hc).1, hR.mono (h4 i x cs hx hc).2 g⟩⟩
theorem cC.nN (h : cC R m sz a cap l) : l.length ≤ 9223372036854775807 ∧ cap ≤ 9223372036854775807 ∧ l.length ≤ cap := let ⟨_, h1, _⟩ := h; h1.nN
theorem cC.nil (m : Mem) (sz : Nat) : cC R m sz none 0 ([] : List α) := ⟨[], Sl.nil m sz, rfl, fun i x cs h => by simp at h⟩
theorem fj {β : Type} (sz : Nat) : ∀ (css : List (List β)), (∀ (i : Nat) (cs : List β), css[i]? = some cs → cs.length = sz) → ∀ (i j : Nat) (cs : List β) (v : β), css[i]? = some cs → cs[j]? = some v → css.flatten[i * sz + j]? = some v
 | [], _, i, j, cs, v, h, _ => by simp at h
 | c :: css, hl, 0, j, cs, v, h, hv => by
   simp at h; subst h
   have hj : j < c.length := (List.getElem?_eq_some_iff.1 hv).1
   simp only [List.flatten_cons, Nat.zero_mul, Nat.zero_add]
   rw [List.getElem?_append_left hj]; exact hv
 | c :: css, hl, i + 1, j, cs, v, h, hv => by
   have hc : c.length = sz := hl 0 c rfl
   simp at h
   simp only [List.flatten_cons]
   rw [List.getElem?_append_right (by rw [hc, Nat.add_mul]; omega)]
   have e : (i + 1) * sz + j - c.length = i * sz + j := by rw [hc, Nat.add_mul]; omega
   rw [e]
   exact fj sz css (fun k cs hk => hl (k + 1) cs (by simpa using hk)) i j cs v h hv
theorem cC.lens {css : List (List Value)} (h2 : css.length = l.length) (h4 : ∀ (i : Nat) (x : α) (cs : List Value), l[i]? = some x → css[i]? = some cs → cs.length = sz ∧ R m x cs) :
 ∀ (i : Nat) (cs : List Value), css[i]? = some cs → cs.length = sz := fun i cs hc => by
 have hi : i < css.length := (List.getElem?_eq_some_iff.1 hc).1
 exact (h4 i (l[i]'(by omega)) cs (by simp) hc).1
theorem cC.get (h : cC R m sz a cap l) (hs : 0 < sz) {i : Nat} (hi : i < l.length) : ∃ b o cs, a = some ⟨b, o, none⟩ ∧ cs.length = sz ∧ R m l[i] cs ∧ At m b (o + i * sz) cs := by
 obtain ⟨css, h1, h2, h4⟩ := h
 have hcl := cC.lens h2 h4
 have hpos : 0 < css.flatten.length := by rw [h1.1]; exact Nat.mul_pos (by omega) hs
 obtain ⟨b, o, ha, hc⟩ := h1.at hpos
 have hjc : i < css.length := by omega
 obtain ⟨k1, k2⟩ := h4 i l[i] css[i] (by simp) (by simp)
 refine ⟨b, o, css[i], ha, k1, k2, fun k v hv => ?_⟩
 have := hc _ _ (fj sz css hcl i k css[i] v (by simp) hv)
 rw [Nat.add_assoc]; exact this
theorem ku {β : Type} (sz : Nat) : ∀ (css : List (List β)) (k : Nat), (∀ (i : Nat) (cs : List β), css[i]? = some cs → cs.length = sz) → css.flatten.drop (k * sz) = (css.drop k).flatten
 | css, 0, _ => by simp
 | [], k + 1, _ => by simp
 | c :: css, k + 1, hl => by
   have hc : c.length = sz := hl 0 c rfl
   simp only [List.flatten_cons, List.drop_succ_cons]
   rw [show (k + 1) * sz = c.length + k * sz by rw [hc, Nat.add_mul]; omega, List.drop_append, List.drop_of_length_le (by omega), show c.length + k * sz - c.length = k * sz by omega, List.nil_append]
   exact ku sz css k (fun i cs hk => hl (i + 1) cs (by simpa using hk))
theorem kz {β : Type} (sz : Nat) : ∀ (css : List (List β)) (k : Nat), (∀ (i : Nat) (cs : List β), css[i]? = some cs → cs.length = sz) → css.flatten.take (k * sz) = (css.take k).flatten
 | css, 0, _ => by simp
 | [], k + 1, _ => by simp
 | c :: css, k + 1, hl => by
   have hc : c.length = sz := hl 0 c rfl
   simp only [List.flatten_cons, List.take_succ_cons]
   rw [show (k + 1) * sz = c.length + k * sz by rw [hc, Nat.add_mul]; omega, List.take_append, List.take_of_length_le (by omega), show c.length + k * sz - c.length = k * sz by omega]
   rw [kz sz css k (fun i cs hk => hl (i + 1) cs (by simpa using hk))]
theorem cC.JE (h : cC R m sz a cap l) (i r q : Nat) (hl : i ≤ r) (hr : r ≤ l.length) (hrm : r ≤ q) (hm : q ≤ cap) :
 cC R m sz (cW a q i sz) (q - i) ((l.take r).drop i) := by
 obtain ⟨css, h1, h2, h4⟩ := h
 have hcl := cC.lens h2 h4
 refine ⟨(css.take r).drop i, ?_, by simp [h2], fun j x cs hx hc => ?_⟩
 · have := h1.JE i r q hl hr hrm hm
   rw [kz sz css r hcl, ku sz (css.take r) i (fun k cs hk => hcl k cs (by
    rw [List.getElem?_take] at hk; split at hk
    · exact hk
    · cases hk))] at this
   rw [show ((l.take r).drop i).length = r - i by simp; omega]
   exact this
 · simp only [List.getElem?_drop, List.getElem?_take] at hx hc
   split at hx
   · rename_i hlt
     rw [if_pos hlt] at hc
     exact h4 _ _ _ hx hc
   · cases hx
theorem cC.cut (h : cC R m sz a cap l) (i r : Nat) (hl : i ≤ r) (hr : r ≤ l.length) : cC R m sz (cW a cap i sz) (cap - i) ((l.take r).drop i) :=
 h.JE i r cap hl hr (Nat.le_trans hr h.nN.2.2) (Nat.le_refl _)
theorem cC.upto (h : cC R m sz a cap l) (r : Nat) (hr : r ≤ l.length) : cC R m sz a cap (l.take r) := by
 have := h.cut 0 r (by omega) hr
 simpa [eU] using this
theorem cC.from (h : cC R m sz a cap l) (i : Nat) (hl : i ≤ l.length) : cC R m sz (cW a cap i sz) (cap - i) (l.drop i) := by
 have := h.cut i l.length hl (Nat.le_refl _)
 rwa [List.take_of_length_le (Nat.le_refl _)] at this
theorem cC.OK (hR : lB R sz) {b o : Nat} {css : List (List Value)} (hlen : css.length = l.length) (hc : ∀ (i : Nat) (x : α) (cs : List Value), l[i]? = some x → css[i]? = some cs → R m x cs)
 (hat : At m b o css.flatten) (hcap : l.length ≤ cap) (hm : cap ≤ maxLen) : cC R m sz (some ⟨b, o, none⟩) cap l := by
 have hl : ∀ (i : Nat) (cs : List Value), css[i]? = some cs → cs.length = sz := fun i cs hci => by
  have hi : i < css.length := (List.getElem?_eq_some_iff.1 hci).1
  exact hR.size (hc i (l[i]'(by omega)) cs (by simp) hci)
 have hfl : ∀ (css : List (List Value)), (∀ (i : Nat) (cs : List Value), css[i]? = some cs → cs.length = sz) → css.flatten.length = css.length * sz := by
  intro css
  induction css with
  | nil => intro _; simp
  | cons c css ih =>
    intro h
    simp only [List.flatten_cons, List.length_append, List.length_cons]
    rw [h 0 c rfl, ih (fun i cs hi => h (i + 1) cs (by simpa using hi)), Nat.add_mul]; omega
 refine ⟨css, ⟨by rw [hfl css hl, hlen], hcap, hm, (fun e => by cases e), fun j v hv => ⟨b, o, rfl, (hat j v hv).1, (hat j v hv).2⟩⟩, hlen, fun i x cs hx hci => ⟨hl i cs hci, hc i x cs hx hci⟩⟩
end
structure cq (P : Program) (t e : TypeId) (z : Value) (sz bytes : Nat) : Prop where
 iE : P.underlying t = some (.slice e)
 info : (P.info? e).map (fun i => (i.zero, i.size, i.bytes)) = some (some z, sz, bytes)
 zs : z.cells.size = sz
 pos : 0 < sz
theorem info_parts {P : Program} {e : TypeId} {z : Value} {sz bytes : Nat} (h : (P.info? e).map (fun i => (i.zero, i.size, i.bytes)) = some (some z, sz, bytes)) :
 ∃ i, P.info? e = some i ∧ i.zero = some z ∧ i.size = sz ∧ i.bytes = bytes := by
 cases hi : P.info? e with
 | none => simp [hi] at h
 | some i => simp [hi] at h; exact ⟨i, rfl, h⟩
abbrev dW (g : Option Nat) : Option Addr := g.map fun b => ⟨b, 0, none⟩
def Mem.now (m : Mem) : Mem := ⟨m.w, fun _ _ => True⟩
theorem Sl.all {m : Mem} {sz n cap : Nat} {a : Option Addr} {xs : List Value} (h : Sl m sz a n cap xs) : Sl m.now sz a n cap xs :=
 ⟨h.1, h.2.1, h.2.2.1, h.2.2.2.1, fun j v hv => by obtain ⟨b, o, h1, h2, h3⟩ := h.2.2.2.2 j v hv; exact ⟨b, o, h1, ⟨trivial, h2.2⟩, h3⟩⟩
def Gy {α : Type} (R : Mem → α → List Value → Prop) (m : Mem) (sz : Nat) (a : Option Addr) (cap : Nat) (l : List α) : Prop :=
 ∃ css : List (List Value), Sl m.now sz a l.length cap css.flatten ∧ css.length = l.length ∧
  ∀ (i : Nat) (x : α) (cs : List Value), l[i]? = some x → css[i]? = some cs → cs.length = sz ∧ R m x cs
theorem cC.src {α : Type} {R : Mem → α → List Value → Prop} {m : Mem} {sz cap : Nat} {a : Option Addr} {l : List α} (h : cC R m sz a cap l) : Gy R m sz a cap l :=
 let ⟨css, h1, h2⟩ := h; ⟨css, h1.all, h2⟩
section
variable {P : Program} {m : Mem} {t ty e : TypeId} {z : Value} {sz bytes : Nat}
theorem qH (hT : cq P t e z sz bytes) (g : Option Nat) (n cap : Nat) (cur : Array Value) (hg : ∀ b, g = some b → m.w.heap[b]? = some (.cells cur e (0, 0))) (hcs : g ≠ none → cur.size = cap * sz) (hnil : g = none → cap = 0)
 (a2 : Option Addr) (k cap2 : Nat) (ys : List Value) (hy : Sl m.now sz a2 k cap2 ys) (h1 : ∀ u ∈ ys, u.oneCell' = true) (hroom : n + k ≤ cap) :
 (Builtin.append_ #[t, t] ty #[.slice (dW g) n cap, .slice a2 k cap2]).run P m.w =
  .ok (.slice (dW g) (n + k) cap) (match g with | none => m.w | some b => match a2 with | none => m.w | some _ => m.w.setRow b (cur.toList.take (n * sz) ++ ys ++ cur.toList.drop (n * sz + ys.length)).toArray) := by
 obtain ⟨i, hi, hz, hs, hb⟩ := info_parts hT.info
 cases g with
 | none =>
   have hc := hnil rfl
   have hk : k = 0 := by omega
   have hn : n = 0 := by omega
   subst hc hk hn
   cases a2 with
   | none => simp [Builtin.append_, run_underlying hT.iE, sizeOf, typeInfo, hi, Builtin.lenOf, Builtin.firstCells, dW]
   | some ad => simp [Builtin.append_, run_underlying hT.iE, sizeOf, typeInfo, hi, Builtin.lenOf, Builtin.firstCells, dW, loadCells, loadCellsFrom]
 | some b =>
   cases a2 with
   | none =>
     have hc := hy.2.2.2.1 rfl
     have hk : k = 0 := by have := hy.2.1; omega
     subst hk
     simp [Builtin.append_, run_underlying hT.iE, sizeOf, typeInfo, hi, Builtin.lenOf, Builtin.firstCells, dW, storeCells]
     omega
   | some ad =>
     have := run_append_room (P := P) m.w t ty e i hT.iE hi b n cap cur (hg b rfl) ad k cap2 ys (by rw [hs]; exact hy.1) (fun j u hu => by
      obtain ⟨b', o, ha, _, hc⟩ := hy.2.2.2.2 j u hu
      cases ha; rw [Addr.add_mid]; exact hc) h1 hroom (by rw [hs, hcs (by simp), hy.1, ← Nat.add_mul]; exact Nat.mul_le_mul_right _ hroom)
     rw [hs] at this
     exact this
theorem oI (hT : cq P t e z sz bytes) (a : Option Addr) (n cap : Nat) (xs : List Value) (hx : Sl m sz a n cap xs)
 (a2 : Option Addr) (k cap2 : Nat) (ys : List Value) (hy : Sl m.now sz a2 k cap2 ys) (h1 : ∀ u ∈ ys, u.oneCell' = true) (hlen : (n + k) * bytes ≤ 140737488355328) (h63 : n + k ≤ maxLen) (hg : cap < n + k) :
 ∃ cap' cur, (Builtin.append_ #[t, t] ty #[.slice a n cap, .slice a2 k cap2]).run P m.w = .ok (.slice (some ⟨m.w.heap.size, 0, none⟩) (n + k) cap') (m.w.drew.alloc (.cells cur e (0, 0))) ∧
  cur.size = cap' * sz ∧ n + k ≤ cap' ∧ cap' ≤ maxLen ∧ cur.toList.take ((n + k) * sz) = xs ++ ys := by
 obtain ⟨i, hi, hz, hs, hb⟩ := info_parts hT.info
 have h63' : n + k ≤ 9223372036854775807 := by unfold maxLen at h63; omega
 have hsrc : Src P i.size t (.slice a2 k cap2) k ys m.w := by
  rw [hs]
  cases a2 with
  | none =>
    have hc := hy.2.2.2.1 rfl
    have hm : k = 0 := by have := hy.2.1; omega
    subst hc hm
    have hye : ys = [] := List.eq_nil_of_length_eq_zero (by simpa using hy.1)
    subst hye
    exact Src.ofNil m.w hT.iE 0
  | some ad =>
    exact Src.ofSlice m.w hT.iE ad k cap2 ys hy.1 (fun j u hu => by
     obtain ⟨b, o, ha, _, hc⟩ := hy.2.2.2.2 j u hu
     cases ha; rw [Addr.add_mid]; exact hc) h1
 have hold : (Builtin.firstCells i.size n (.slice a n cap)).run P m.w.drew = .ok xs.toArray m.w.drew := by
  rw [hs]
  cases a with
  | none =>
    have hc := hx.2.2.2.1 rfl
    have hm : n = 0 := by have := hx.2.1; omega
    subst hc hm
    have hye : xs = [] := List.eq_nil_of_length_eq_zero (by simpa using hx.1)
    subst hye
    exact run_firstCells_none m.w.drew sz 0 0 0
  | some ad =>
    exact run_firstCells_some m.w.drew sz n ad n cap xs hx.1 (fun j u hu => by
     obtain ⟨b, o, ha, _, hc⟩ := hx.2.2.2.2 j u hu
     cases ha; rw [Addr.add_mid]; exact hc)
 have hr := run_append_grow_src (P := P) m.w t t ty e i z hT.iE hi hz a n cap xs hold _ k ys hsrc hg (by omega) (growslice_fits hg (by rw [hb]; exact hlen))
 have hge := grownCap_ge m.w (n + k) cap e
 have hcm := grownCap_le_maxLen m.w (n + k) cap e h63
 refine ⟨_, _, hr, ?_, hge, hcm, ?_⟩
 · simp only [Array.size_append, List.size_toArray, List.length_append, size_zeroCells, hT.zs, hx.1, hy.1, ← Nat.add_mul]
   congr 1
   omega
 · simp only [Array.toList_append]
   rw [show (n + k) * sz = (xs ++ ys).length by rw [List.length_append, hx.1, hy.1, Nat.add_mul]]
   exact List.take_left
end
abbrev rowOf {α : Type} (T : TypeId) (sz : Nat) (g : Option Nat) (cap : Nat) (l : List α) : az := .row g T (cap * sz) (l.length * sz)
section
variable {B : List Nat} {m0 m : Mem} {L : List az} {α : Type} {R : Mem → α → List Value → Prop} {P : Program} {t ty e : TypeId} {z : Value} {sz bytes : Nat}
theorem ud {css : List (List Value)} {l : List α} (hR : lB R sz) (h2 : css.length = l.length) (h4 : ∀ (i : Nat) (x : α) (cs : List Value), l[i]? = some x → css[i]? = some cs → cs.length = sz ∧ R m x cs) : ∀ u ∈ css.flatten, u.oneCell' = true := by
 intro u hu
 obtain ⟨cs, hcs, hu⟩ := List.mem_flatten.1 hu
 obtain ⟨i, hi⟩ := List.mem_iff_getElem?.1 hcs
 have hil : i < css.length := (List.getElem?_eq_some_iff.1 hi).1
 exact hR.one (h4 i (l[i]'(by omega)) cs (by simp) hi).2 u hu
theorem rn {css dss : List (List Value)} {l l' : List α} (h2 : css.length = l.length) (h4 : ∀ (i : Nat) (x : α) (cs : List Value), l[i]? = some x → css[i]? = some cs → cs.length = sz ∧ R m x cs)
 (k2 : dss.length = l'.length) (k4 : ∀ (i : Nat) (x : α) (cs : List Value), l'[i]? = some x → dss[i]? = some cs → cs.length = sz ∧ R m x cs) :
 (css ++ dss).length = (l ++ l').length ∧ ∀ (i : Nat) (x : α) (cs : List Value), (l ++ l')[i]? = some x → (css ++ dss)[i]? = some cs → cs.length = sz ∧ R m x cs := by
 refine ⟨by simp [h2, k2], fun i x cs hx hc => ?_⟩
 by_cases hi : i < l.length
 · rw [List.getElem?_append_left hi] at hx
   rw [List.getElem?_append_left (by omega)] at hc
   exact h4 i x cs hx hc
 · rw [List.getElem?_append_right (by omega)] at hx
   rw [List.getElem?_append_right (by omega), h2] at hc
   exact k4 _ x cs hx hc
theorem EE (hR : lB R sz) {b cap : Nat} {l l' : List α} (hS : St B m0 m (rowOf e sz (some b) cap l :: L)) (hx : cC R m sz (dW (some b)) cap l) {dss : List (List Value)} (k2 : dss.length = l'.length)
 (k4 : ∀ (i : Nat) (x : α) (cs : List Value), l'[i]? = some x → dss[i]? = some cs → cs.length = sz ∧ R m x cs) (hyl : dss.flatten.length = l'.length * sz) (hroom : l.length + l'.length ≤ cap) {cur : Array Value} (hcur : m.w.heap[b]? = some (.cells cur e (0, 0))) (hcs : cur.size = cap * sz) :
 ∃ m' : Mem, m'.w = m.w.setRow b (cur.toList.take (l.length * sz) ++ dss.flatten ++ cur.toList.drop (l.length * sz + dss.flatten.length)).toArray ∧ Le m m' ∧ St B m0 m' (rowOf e sz (some b) cap (l ++ l') :: L) ∧ cC R m' sz (dW (some b)) cap (l ++ l') := by
 obtain ⟨css, h1, h2, h4⟩ := hx
 obtain ⟨f2, f4⟩ := rn h2 h4 k2 k4
 have hll : (l ++ l').length = l.length + l'.length := by simp
 have hap := hS.ow.apart (rowOf e sz (some b) cap l) (by simp) b (by simp [rowOf, az.row])
 have hxl : css.flatten.length = l.length * sz := h1.1
 have htake : cur.toList.take (l.length * sz) = css.flatten := by
  apply List.ext_getElem?
  intro j
  by_cases hj : j < l.length * sz
  · rw [List.getElem?_take, if_pos hj]
    have hjl : j < css.flatten.length := by omega
    obtain ⟨b', o, ha, _, hc⟩ := h1.2.2.2.2 j _ (List.getElem?_eq_getElem hjl)
    cases ha
    rw [cell_of_row _ _ _ _ _ _ hcur, Nat.zero_add] at hc
    rw [List.getElem?_eq_getElem hjl]; simpa using hc
  · rw [List.getElem?_take, if_neg hj, List.getElem?_eq_none (by omega)]
 have hsum : l.length * sz + l'.length * sz ≤ cap * sz := by rw [← Nat.add_mul]; exact Nat.mul_le_mul_right _ hroom
 have hclen : cur.toList.length = cap * sz := by simpa using hcs
 generalize hnew : (cur.toList.take (l.length * sz) ++ dss.flatten ++ cur.toList.drop (l.length * sz + dss.flatten.length)).toArray = new
 have hnl : new.size = cap * sz := by rw [← hnew]; simp only [List.size_toArray, List.length_append, List.length_take, List.length_drop]; omega
 have hnt : new.toList.take ((l.length + l'.length) * sz) = css.flatten ++ dss.flatten := by
  rw [← hnew, htake]; simp only []
  rw [show (l.length + l'.length) * sz = (css.flatten ++ dss.flatten).length by rw [List.length_append, hxl, hyl, Nat.add_mul]]
  exact List.take_left
 have hb' := setRow_heap m.w b cur new e (0, 0) hcur
 have hlt := jE hcur
 let X : Nat → Nat → Prop := fun c o => c = b ∧ o < (l ++ l').length * sz
 refine ⟨⟨m.w.setRow b new, fun c o => m.ok c o ∨ X c o⟩, rfl, ?_, ?_, ?_⟩
 ·
  refine ⟨rfl, rfl, rfl, by simp, fun c o hc => ⟨⟨.inl hc, by simpa using hc.2⟩, ?_⟩⟩
  show (m.w.setRow b new).cell? _ = _
  by_cases hcb : c = b
  · subst hcb
    have hlo : o < l.length * sz := by
     refine Classical.byContradiction fun hn => ?_
     exact hap o (by show l.length * sz ≤ o; omega) hc
    rw [cell_of_row _ _ _ _ _ _ hb', cell_of_row _ _ _ _ _ _ hcur]
    have e1 : new.toList[o]? = (css.flatten)[o]? := by
     have : (new.toList.take ((l.length + l'.length) * sz))[o]? = (css.flatten ++ dss.flatten)[o]? := by rw [hnt]
     rw [List.getElem?_take, if_pos (by rw [Nat.add_mul]; omega), List.getElem?_append_left (by omega)] at this
     exact this
    have e2 : cur.toList[o]? = (css.flatten)[o]? := by
     rw [← htake, List.getElem?_take, if_pos hlo]
    rw [← Array.getElem?_toList, ← Array.getElem?_toList, e1, e2]
  · unfold World.cell?
    rw [setRow_other m.w b c new hcb]
 ·
  have k : St (ak [rowOf e sz (some b) cap l]) m ⟨m.w.setRow b new, fun c o => m.ok c o ∨ X c o⟩ [rowOf e sz (some b) cap (l ++ l')] := by
   refine ⟨?_, fun c hc hn => setRow_other m.w b c new (by simpa [rowOf, az.row] using hn), fun c o hc => ?_, ⟨by simp [rowOf, az.row], fun x hx => ?_, fun x hx c hc o ho hm => ?_⟩, fun c hc => ?_⟩
   · refine ⟨rfl, rfl, rfl, by simp, fun c o hc => ⟨⟨.inl hc, by simpa using hc.2⟩, ?_⟩⟩
     show (m.w.setRow b new).cell? _ = _
     by_cases hcb : c = b
     · subst hcb
       have hlo : o < l.length * sz := by
        refine Classical.byContradiction fun hn => ?_
        exact hap o (by show l.length * sz ≤ o; omega) hc
       rw [cell_of_row _ _ _ _ _ _ hb', cell_of_row _ _ _ _ _ _ hcur]
       have e1 : new.toList[o]? = (css.flatten)[o]? := by
        have : (new.toList.take ((l.length + l'.length) * sz))[o]? = (css.flatten ++ dss.flatten)[o]? := by rw [hnt]
        rw [List.getElem?_take, if_pos (by rw [Nat.add_mul]; omega), List.getElem?_append_left (by omega)] at this
        exact this
       have e2 : cur.toList[o]? = (css.flatten)[o]? := by
        rw [← htake, List.getElem?_take, if_pos hlo]
       rw [← Array.getElem?_toList, ← Array.getElem?_toList, e1, e2]
     · unfold World.cell?
       rw [setRow_other m.w b c new hcb]
   · rcases hc.1 with h | h
     · exact .inl h
     · exact .inr (.inr (by simp [rowOf, az.row, h.1]))
   · simp at hx; subst hx
     intro c hc; cases hc
     exact ⟨new, hb', hnl⟩
   · simp at hx; subst hx
     simp [rowOf, az.row] at hc; subst hc
     have ho' : (l ++ l').length * sz ≤ o := ho
     rcases hm.1 with h | h
     · exact hap o (by show l.length * sz ≤ o; rw [hll, Nat.add_mul] at ho'; omega) h
     · have h2 : o < (l ++ l').length * sz := h.2
       omega
   · simp [rowOf, az.row] at hc; subst hc; exact .inl (by simp [rowOf, az.row])
  exact St.frame (L := [rowOf e sz (some b) cap l]) hS k
 ·
  refine ⟨css ++ dss, ⟨?_, by simpa using hroom, h1.2.2.1, (fun h => by cases h), fun j v hv => ⟨b, 0, rfl, ⟨.inr ⟨rfl, ?_⟩, by simpa using hlt⟩, ?_⟩⟩, f2, fun i x cs hx hc => ⟨(f4 i x cs hx hc).1, ?_⟩⟩
  · simp only [List.flatten_append, List.length_append, hxl, hyl, Nat.add_mul]
  · have : j < (css ++ dss).flatten.length := (List.getElem?_eq_some_iff.1 hv).1
    simp only [List.flatten_append, List.length_append] at this
    rw [hll, Nat.add_mul]; omega
  · rw [cell_of_row _ _ _ _ _ _ hb', Nat.zero_add, ← Array.getElem?_toList]
    have hjl : j < (css ++ dss).flatten.length := (List.getElem?_eq_some_iff.1 hv).1
    simp only [List.flatten_append, List.length_append] at hjl
    have : (new.toList.take ((l.length + l'.length) * sz))[j]? = (css.flatten ++ dss.flatten)[j]? := by rw [hnt]
    rw [List.getElem?_take, if_pos (by rw [Nat.add_mul]; omega)] at this
    rw [this, ← List.flatten_append]; exact hv
  · refine hR.mono (f4 i x cs hx hc).2 ?_
    refine ⟨rfl, rfl, rfl, by simp, fun c o hc => ⟨⟨.inl hc, by simpa using hc.2⟩, ?_⟩⟩
    show (m.w.setRow b new).cell? _ = _
    by_cases hcb : c = b
    · subst hcb
      have hlo : o < l.length * sz := by
       refine Classical.byContradiction fun hn => ?_
       exact hap o (by show l.length * sz ≤ o; omega) hc
      rw [cell_of_row _ _ _ _ _ _ hb', cell_of_row _ _ _ _ _ _ hcur]
      have e1 : new.toList[o]? = (css.flatten)[o]? := by
       have : (new.toList.take ((l.length + l'.length) * sz))[o]? = (css.flatten ++ dss.flatten)[o]? := by rw [hnt]
       rw [List.getElem?_take, if_pos (by rw [Nat.add_mul]; omega), List.getElem?_append_left (by omega)] at this
       exact this
      have e2 : cur.toList[o]? = (css.flatten)[o]? := by
       rw [← htake, List.getElem?_take, if_pos hlo]
      rw [← Array.getElem?_toList, ← Array.getElem?_toList, e1, e2]
    · unfold World.cell?
      rw [setRow_other m.w b c new hcb]
theorem wF (hT : cq P t e z sz bytes) (hR : lB R sz) {g : Option Nat} {cap : Nat} {l l' : List α} (hS : St B m0 m (rowOf e sz g cap l :: L)) (hx : cC R m sz (dW g) cap l)
 {a2 : Option Addr} {cap2 : Nat} (hy : Gy R m sz a2 cap2 l') (hroom : l.length + l'.length ≤ cap) :
 ∃ m', (Builtin.append_ #[t, t] ty #[.slice (dW g) l.length cap, .slice a2 l'.length cap2]).run P m.w = .ok (.slice (dW g) (l ++ l').length cap) m'.w ∧
  Le m m' ∧ St B m0 m' (rowOf e sz g cap (l ++ l') :: L) ∧ cC R m' sz (dW g) cap (l ++ l') := by
 obtain ⟨css, h1, h2, h4⟩ := hx
 obtain ⟨dss, k1, k2, k4⟩ := hy
 have hone := ud hR k2 k4
 cases g with
 | none =>
   have hc := h1.2.2.2.1 rfl
   have e1 : l = [] := List.eq_nil_of_length_eq_zero (by omega)
   have e2 : l' = [] := List.eq_nil_of_length_eq_zero (by omega)
   subst e1 e2 hc
   have := qH (P := P) (ty := ty) hT none 0 0 #[] (fun b h => by cases h) (fun h => absurd rfl h) (fun _ => rfl) a2 0 cap2 _ k1 hone (by simp)
   exact ⟨m, by simpa using this, Le.refl m, by simpa using hS, ⟨css, h1, h2, h4⟩⟩
 | some b =>
   have hent := hS.ow.ok (rowOf e sz (some b) cap l) (by simp)
   obtain ⟨cur, hcur, hcs⟩ := hent b rfl
   have hrun := qH (P := P) (ty := ty) hT (some b) l.length cap cur (fun c h => by cases h; exact hcur) (fun _ => hcs) (fun h => by cases h) a2 l'.length cap2 _ k1 hone hroom
   cases a2 with
   | none =>
     have hc := k1.2.2.2.1 rfl
     have e2 : l' = [] := List.eq_nil_of_length_eq_zero (by have := k1.2.1; omega)
     subst e2
     have hE : cC R m sz (dW (some b)) cap (l ++ []) := by rw [List.append_nil]; exact ⟨css, h1, h2, h4⟩
     exact ⟨m, by simpa using hrun, Le.refl m, by simpa using hS, hE⟩
   | some ad =>
     obtain ⟨m', r1, r2, r3, r4⟩ := EE hR hS ⟨css, h1, h2, h4⟩ k2 k4 k1.1 hroom hcur hcs
     exact ⟨m', by rw [r1]; simpa using hrun, r2, r3, r4⟩
theorem E8 (hT : cq P t e z sz bytes) (hR : lB R sz) {g : Option Nat} {cap : Nat} {l l' : List α} (hS : St B m0 m (rowOf e sz g cap l :: L)) (hx : cC R m sz (dW g) cap l)
 {a2 : Option Addr} {cap2 : Nat} (hy : cC R m sz a2 cap2 l') (hroom : l.length + l'.length ≤ cap) :
 ∃ m', (Builtin.append_ #[t, t] ty #[.slice (dW g) l.length cap, .slice a2 l'.length cap2]).run P m.w = .ok (.slice (dW g) (l ++ l').length cap) m'.w ∧
  Le m m' ∧ St B m0 m' (rowOf e sz g cap (l ++ l') :: L) ∧ cC R m' sz (dW g) cap (l ++ l') := wF hT hR hS hx hy.src hroom
theorem wG (hT : cq P t e z sz bytes) (hR : lB R sz) {g : Option Nat} {cap : Nat} {l l' : List α} (hS : St B m0 m (rowOf e sz g cap l :: L)) (hx : cC R m sz (dW g) cap l)
 {a2 : Option Addr} {cap2 : Nat} (hy : cC R m sz a2 cap2 l') (hlen : (l.length + l'.length) * bytes ≤ 140737488355328) (h63 : l.length + l'.length ≤ maxLen) :
 ∃ g' cap' m', (Builtin.append_ #[t, t] ty #[.slice (dW g) l.length cap, .slice a2 l'.length cap2]).run P m.w = .ok (.slice (dW g') (l ++ l').length cap') m'.w ∧
  Le m m' ∧ St B m0 m' (rowOf e sz g' cap' (l ++ l') :: L) ∧ cC R m' sz (dW g') cap' (l ++ l') := by
 obtain ⟨css, h1, h2, h4⟩ := hx
 obtain ⟨dss, k1, k2, k4⟩ := hy
 have hone := ud hR k2 k4
 obtain ⟨f2, f4⟩ := rn h2 h4 k2 k4
 have hll : (l ++ l').length = l.length + l'.length := by simp
 have hcl := cC.lens f2 f4
 by_cases hroom : l.length + l'.length ≤ cap
 · obtain ⟨m', r1, r2, r3, r4⟩ := E8 (ty := ty) hT hR hS ⟨css, h1, h2, h4⟩ ⟨dss, k1, k2, k4⟩ hroom
   exact ⟨g, cap, m', r1, r2, r3, r4⟩
 ·
  obtain ⟨cap', cur, hrun, hcs, hge, hcm, htake⟩ := oI (P := P) (ty := ty) hT (dW g) l.length cap _ h1 a2 l'.length cap2 _ k1.all hone hlen h63 (by omega)
  have hS1 := hS.drop
  have hg : Below m.w.heap.size m.w (m.w.drew.alloc (.cells cur e (0, 0))) := ((Below.refl _ _).drew).alloc (Nat.le_refl _) _
  have hb' : (m.w.drew.alloc (.cells cur e (0, 0))).heap[m.w.heap.size]? = some (.cells cur e (0, 0)) := heap_alloc_new m.w.drew _
  let X : Nat → Nat → Prop := fun c o => c = m.w.heap.size ∧ o < (l ++ l').length * sz
  have hle : Le m ⟨m.w.drew.alloc (.cells cur e (0, 0)), fun c o => m.ok c o ∨ X c o⟩ :=
   ⟨rfl, rfl, rfl, Below.size hg, fun c o hc => ⟨⟨.inl hc, Nat.lt_of_lt_of_le hc.2 (Below.size hg)⟩, pA hg hc.2⟩⟩
  have k : St [] m ⟨m.w.drew.alloc (.cells cur e (0, 0)), fun c o => m.ok c o ∨ X c o⟩ [rowOf e sz (some m.w.heap.size) cap' (l ++ l')] := by
   refine ⟨hle, fun c hc _ => Below.block hg c hc, fun c o hc => ?_, ⟨by simp [rowOf, az.row], fun x hx => ?_, fun x hx c hc o ho hm => ?_⟩, fun c hc => ?_⟩
   · rcases hc.1 with h | h
     · exact .inl h
     · exact .inr (.inl (by rw [h.1]; exact Nat.le_refl _))
   · simp at hx; subst hx
     intro c hc; cases hc
     exact ⟨cur, hb', hcs⟩
   · simp at hx; subst hx
     simp [rowOf, az.row] at hc; subst hc
     have ho' : (l ++ l').length * sz ≤ o := ho
     rcases hm.1 with h | h
     · exact absurd h.2 (by simp)
     · have h2 : o < (l ++ l').length * sz := h.2
       omega
   · simp [rowOf, az.row] at hc; subst hc; exact .inr (Nat.le_refl _)
  refine ⟨some m.w.heap.size, cap', _, by simpa using hrun, hle, hS1.call k, ?_⟩
  refine ⟨css ++ dss, ⟨?_, by simpa using hge, hcm, (fun h => by cases h), fun j v hv => ⟨m.w.heap.size, 0, rfl, ⟨.inr ⟨rfl, ?_⟩, by simp⟩, ?_⟩⟩, f2, fun i x cs hx hc => ⟨(f4 i x cs hx hc).1, hR.mono (f4 i x cs hx hc).2 hle⟩⟩
  · simp only [List.flatten_append, List.length_append, h1.1, k1.1, Nat.add_mul]
  · have : j < (css ++ dss).flatten.length := (List.getElem?_eq_some_iff.1 hv).1
    simp only [List.flatten_append, List.length_append, h1.1, k1.1] at this
    rw [hll, Nat.add_mul]; omega
  · show (m.w.drew.alloc (.cells cur e (0, 0))).cell? _ = _
    rw [cell_of_row _ _ _ _ _ _ hb', Nat.zero_add, ← Array.getElem?_toList]
    have hjl : j < (css ++ dss).flatten.length := (List.getElem?_eq_some_iff.1 hv).1
    simp only [List.flatten_append, List.length_append, h1.1, k1.1] at hjl
    have : (cur.toList.take ((l.length + l'.length) * sz))[j]? = (css.flatten ++ dss.flatten)[j]? := by rw [htake]
    rw [List.getElem?_take, if_pos (by rw [Nat.add_mul]; omega)] at this
    rw [this, ← List.flatten_append]; exact hv
end
end Go.Proofs.YtekpafdhgkocaaaGreat
