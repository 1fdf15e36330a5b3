/- Part of what the laws need: plain words, the walker and its laws, the program's functions. -/
import Derived.Test.YthhmandpjlggcaaZMore
namespace Go.Proofs.Ythhmandpjlggcaa
open Go.RowKit G
def Ent.arr (g : Option Nat) (cs : Array Value) (T : TypeId) : Ent :=
  ⟨g.toList, fun _ _ => True, fun w => ∀ b, g = some b → w.heap[b]? = some (.cells cs T (0, 0)), fun w h c hc => by
      have : g = some c := by cases g <;> simp_all
      exact heap_lt (h c this),
    fun w w' h hs b hb => by rw [hs b (by rw [hb]; simp)]; exact h b hb⟩
def ArrS {α : Type} (R : Mem → α → List Value → Prop) (m : Mem) (sz : Nat) (g : Option Nat) (cs : Array Value) (ad : Option Addr) (cap : Nat) (l : List α) : Prop :=
  ∃ css : List (List Value), css.length = l.length ∧ (∀ (i : Nat) (x : α) (c : List Value), l[i]? = some x → css[i]? = some c → c.length = sz ∧ R m x c) ∧ l.length ≤ cap ∧ cap ≤ maxLen ∧ (ad = none → cap = 0) ∧
    (0 < cap → ∃ b o, g = some b ∧ ad = some ⟨b, o, none⟩ ∧ (∀ (j : Nat) (v : Value), css.flatten[j]? = some v → cs[o + j]? = some v))
section
variable {α : Type} {R : Mem → α → List Value → Prop} {m m' : Mem} {sz : Nat} {g : Option Nat} {cs : Array Value} {ad : Option Addr} {cap : Nat} {l l' : List α} {B : List Nat} {m0 : Mem} {L : List Ent}
theorem ArrS.mono (hR : Rep R sz) (h : ArrS R m sz g cs ad cap l) (k : Le m m') : ArrS R m' sz g cs ad cap l :=
  let ⟨css, h1, h2, h3⟩ := h; ⟨css, h1, fun i x c hx hc => ⟨(h2 i x c hx hc).1, hR.mono (h2 i x c hx hc).2 k⟩, h3⟩
theorem ArrS.lt63 (h : ArrS R m sz g cs ad cap l) : l.length ≤ 9223372036854775807 ∧ cap ≤ 9223372036854775807 ∧ l.length ≤ cap := by
  obtain ⟨_, _, _, h3, h4, _⟩ := h; unfold maxLen at h4; omega
theorem ArrS.nil (m : Mem) (sz : Nat) (cs : Array Value) : ArrS R m sz none cs none 0 ([] : List α) := ⟨[], rfl, fun i x c h => by simp at h, Nat.le_refl _, by simp [maxLen], fun _ => rfl, fun h => absurd h (Nat.lt_irrefl _)⟩
theorem St.addArr (hS : St B m0 m L) (cs : Array Value) (T : TypeId) : St B m0 m (.arr none cs T :: L) :=
  ⟨hS.le, hS.kept, hS.news, ⟨by rw [blocksOf_cons]; exact hS.ow.nodup, fun x hx => by
    rcases List.mem_cons.1 hx with rfl | hx
    · intro b hb; cases hb
    · exact hS.ow.ok x hx, fun x hx => by
    rcases List.mem_cons.1 hx with rfl | hx
    · intro b hb; simp [Ent.arr] at hb
    · exact hS.ow.apart x hx⟩, fun b hb => hS.blk b (by rw [blocksOf_cons] at hb; simpa [Ent.arr] using hb)⟩
theorem flatten_len {β : Type} (sz : Nat) : ∀ (css : List (List β)), (∀ (i : Nat) (c : List β), css[i]? = some c → c.length = sz) → css.flatten.length = css.length * sz
  | [], _ => by simp
  | c :: css, h => by
    have h0 := h 0 c rfl
    simp only [List.flatten_cons, List.length_append, List.length_cons]
    rw [h0, flatten_len sz css (fun i c hi => h (i + 1) c (by simpa using hi)), Nat.add_mul]; omega
theorem css_len {css : List (List Value)} (h1 : css.length = l.length) (h2 : ∀ (i : Nat) (x : α) (c : List Value), l[i]? = some x → css[i]? = some c → c.length = sz ∧ R m x c) : ∀ (i : Nat) (c : List Value), css[i]? = some c → c.length = sz := fun i c hc => by
  have hi : i < css.length := (List.getElem?_eq_some_iff.1 hc).1
  exact (h2 i (l[i]'(by omega)) c (by simp) hc).1
structure Elem {α : Type} (R : Mem → α → List Value → Prop) (m : Mem) (sz : Nat) (b : Nat) (cs : Array Value) (ad : Option Addr) (cap : Nat) (l : List α) (j p : Nat) (u : α) (ecs : List Value) : Prop where
  lt : j < l.length
  rel : R m u ecs
  len : ecs.length = sz
  get : ∀ (k : Nat) (v : Value), ecs[k]? = some v → cs[p + k]? = some v
  put : ∀ (m' : Mem) (u' : α) (ecs' : List Value) (cs' : Array Value), Rep R sz → Le m m' → R m' u' ecs' → (∀ i, cs'[i]? = if p ≤ i ∧ i < p + sz then ecs'[i - p]? else cs[i]?) → ArrS R m' sz (some b) cs' ad cap (l.set j u')
theorem ArrS.elem (hs : 0 < sz) (h : ArrS R m sz g cs ad cap l) {j : Nat} (hj : j < l.length) : ∃ b p ecs, g = some b ∧ ad.map (·.add (j * sz)) = some ⟨b, p, none⟩ ∧ Elem R m sz b cs ad cap l j p l[j] ecs := by
  obtain ⟨css, h1, h2, h3, h4, h5, h6⟩ := h
  obtain ⟨b, o, rfl, rfl, hg⟩ := h6 (by omega)
  have hcl := css_len h1 h2
  have hjc : j < css.length := by omega
  obtain ⟨k1, k2⟩ := h2 j l[j] css[j] (by simp) (by simp)
  refine ⟨b, o + j * sz, css[j], rfl, by simp [Addr.add_mid], hj, k2, k1, fun k v hv => ?_, fun m' u' ecs' cs' hR hle hr hput => ?_⟩
  · rw [Nat.add_assoc]; exact hg _ _ (flatten_get sz css hcl j k css[j] v (by simp) hv)
  · have hlen' : ecs'.length = sz := hR.size hr
    refine ⟨css.set j ecs', by simp [h1], fun i x c hx hc => ?_, by simpa using h3, h4, h5, fun _ => ⟨b, o, rfl, rfl, fun i v hv => ?_⟩⟩
    · rw [List.getElem?_set] at hx hc
      by_cases e : j = i
      · subst e
        rw [if_pos rfl, if_pos hj] at hx
        rw [if_pos rfl, if_pos hjc] at hc
        cases hx; cases hc
        exact ⟨hlen', hr⟩
      · rw [if_neg e] at hx hc
        obtain ⟨q1, q2⟩ := h2 i x c hx hc
        exact ⟨q1, hR.mono q2 hle⟩
    · have hcl' : ∀ (i : Nat) (c : List Value), (css.set j ecs')[i]? = some c → c.length = sz := fun i c hc => by
        rw [List.getElem?_set] at hc
        by_cases hji : j = i
        · rw [if_pos hji, if_pos hjc] at hc; cases hc; exact hlen'
        · rw [if_neg hji] at hc; exact hcl i c hc
      have hfl := flatten_len sz _ hcl'
      have hi : i < (css.set j ecs').flatten.length := (List.getElem?_eq_some_iff.1 hv).1
      rw [hfl, List.length_set] at hi
      have hq : i / sz < css.length := Nat.div_lt_of_lt_mul (by rw [Nat.mul_comm]; exact hi)
      have hdm : i / sz * sz + i % sz = i := Nat.div_add_mod' i sz
      have hmod : i % sz < sz := Nat.mod_lt _ hs
      rw [hput]
      by_cases e : i / sz = j
      · have hc : (css.set j ecs')[i / sz]? = some ecs' := by rw [e, List.getElem?_set, if_pos rfl, if_pos hjc]
        have := flatten_get sz _ hcl' (i / sz) (i % sz) ecs' (ecs'[i % sz]'(by omega)) hc (by simp)
        rw [hdm, hv] at this
        rw [if_pos (by rw [← e]; omega), show o + i - (o + j * sz) = i % sz by rw [← e]; omega, this]
        simp
      · have hne : ¬ (o + j * sz ≤ o + i ∧ o + i < o + j * sz + sz) := fun ⟨a1, a2⟩ => e (by
          have : i = j * sz + (i - j * sz) := by omega
          rw [this, Nat.add_comm, Nat.add_mul_div_right _ _ hs, Nat.div_eq_of_lt (by omega), Nat.zero_add])
        rw [if_neg hne]
        refine hg i v ?_
        have hc : (css.set j ecs')[i / sz]? = some css[i / sz] := by rw [List.getElem?_set, if_neg (fun h => e h.symm)]; simp
        have t1 := flatten_get sz _ hcl' (i / sz) (i % sz) css[i / sz] (css[i / sz]'hq)[i % sz]! hc (by
          have := hcl (i / sz) css[i / sz] (by simp)
          rw [getElem!_pos _ _ (by omega)]; simp)
        have t2 := flatten_get sz _ hcl (i / sz) (i % sz) css[i / sz] (css[i / sz]'hq)[i % sz]! (by simp) (by
          have := hcl (i / sz) css[i / sz] (by simp)
          rw [getElem!_pos _ _ (by omega)]; simp)
        rw [hdm] at t1 t2
        rw [hv] at t1
        rw [t2, ← t1]
theorem ArrS.cut (h : ArrS R m sz g cs ad cap l) (i r q : Nat) (hl : i ≤ r) (hr : r ≤ l.length) (hrm : r ≤ q) (hm : q ≤ cap) : ArrS R m sz g cs (cutA ad q i sz) (q - i) ((l.take r).drop i) := by
  obtain ⟨css, h1, h2, h3, h4, h5, h6⟩ := h
  have hcl := css_len h1 h2
  refine ⟨(css.take r).drop i, by simp [h1], fun j x c hx hc => ?_, by simp; omega, by omega, fun e => ?_, fun hp => ?_⟩
  · simp only [List.getElem?_drop, List.getElem?_take] at hx hc
    split at hx
    · rename_i hlt
      rw [if_pos hlt] at hc
      exact h2 _ _ _ hx hc
    · cases hx
  · unfold cutA at e
    split at e
    · omega
    · have : ad = none := by simpa using e
      have := h5 this; omega
  · obtain ⟨b, o, hg, rfl, ho⟩ := h6 (by omega)
    refine ⟨b, o + i * sz, hg, ?_, fun j v hv => ?_⟩
    · unfold cutA; rw [if_neg (by omega)]; simp [Addr.add_mid]
    · rw [← flatten_drop sz (css.take r) i (fun k c hk => hcl k c (by
        rw [List.getElem?_take] at hk; split at hk
        · exact hk
        · cases hk)), ← flatten_take sz css r hcl, List.getElem?_drop, List.getElem?_take] at hv
      split at hv
      · rw [Nat.add_assoc]; exact ho _ _ hv
      · cases hv
theorem St.freezeArr (hR : Rep R sz) {T : TypeId} (h : St B m0 m (.arr g cs T :: L)) (hA : ArrS R m sz g cs ad cap l) : ∃ m' : Mem, m'.w = m.w ∧ Le m m' ∧ St B m0 m' L ∧ Els R m' sz ad cap l := by
  have hb : ∀ b, g = some b → m.w.heap[b]? = some (.cells cs T (0, 0)) := h.ow.ok (.arr g cs T) (List.mem_cons_self ..)
  let X : Nat → Nat → Prop := fun c _ => g = some c
  have k := h.give (e' := .row none T 0 0) X (fun c o hc => by simp [Ent.arr]; exact hc) (fun c hc => by cases hc) (fun c hc => by simp [Ent.row] at hc) (by simp [Ent.row]) (fun c hc => by simp [Ent.row] at hc)
  refine ⟨m.give X, rfl, Le.give m X, k.drop, ?_⟩
  obtain ⟨css, h1, h2, h3, h4, h5, h6⟩ := hA
  have hcl := css_len h1 h2
  refine ⟨css, ⟨by rw [flatten_len sz css hcl, h1], h3, h4, h5, fun j v hv => ?_⟩, h1, fun i x c hx hc => ⟨(h2 i x c hx hc).1, hR.mono (h2 i x c hx hc).2 (Le.give m X)⟩⟩
  have hj : j < css.flatten.length := (List.getElem?_eq_some_iff.1 hv).1
  rw [flatten_len sz css hcl, h1] at hj
  have hc0 : 0 < cap := by
    refine Nat.pos_of_ne_zero fun h0 => ?_
    have : l.length = 0 := by omega
    rw [this] at hj; simp at hj
  obtain ⟨b, o, hg, ha, ho⟩ := h6 hc0
  refine ⟨b, o, ha, ⟨.inr hg, heap_lt (hb b hg)⟩, ?_⟩
  show m.w.cell? _ = _
  rw [cell_of_row _ _ _ _ _ _ (hb b hg)]; exact ho j v hv
end
section
variable {P : Program} {o : Oper} {a : Act} {K : Kt} {B : List Nat} {m0 m : Mem} {L : List Ent} {Post : Value → World → Prop} {x y : Operand} {t e : TypeId} {α : Type} {R : Mem → α → List Value → Prop} {sz bytes cap : Nat} {zv : Value} {ad : Option Addr} {l l' : List α} {g : Option Nat} {cs : Array Value} {u : α}
theorem St.toBox {b : Nat} {T : TypeId} (h : St B m0 m (.arr (some b) cs T :: L)) : St B m0 m (.box b cs T :: L) := by
  have hbl : blocksOf (.box b cs T :: L) = blocksOf (.arr (some b) cs T :: L) := by simp [Ent.box, Ent.arr]
  refine ⟨h.le, h.kept, h.news, ⟨by rw [hbl]; exact h.ow.nodup, fun x hx => ?_, fun x hx c hc o' hf => ?_⟩, fun c hc => h.blk c (by rw [← hbl]; exact hc)⟩
  · rcases List.mem_cons.1 hx with rfl | hx
    · exact h.ow.ok (.arr (some b) cs T) (by simp) b rfl
    · exact h.ow.ok x (by simp [hx])
  · rcases List.mem_cons.1 hx with rfl | hx
    · exact h.ow.apart (.arr (some b) cs T) (by simp) c (by simpa [Ent.box, Ent.arr] using hc) o' trivial
    · exact h.ow.apart x (by simp [hx]) c hc o' hf
theorem St.toArr {b : Nat} {T : TypeId} (h : St B m0 m (.box b cs T :: L)) : St B m0 m (.arr (some b) cs T :: L) := by
  have hbl : blocksOf (.box b cs T :: L) = blocksOf (.arr (some b) cs T :: L) := by simp [Ent.box, Ent.arr]
  refine ⟨h.le, h.kept, h.news, ⟨by rw [← hbl]; exact h.ow.nodup, fun x hx => ?_, fun x hx c hc o' hf => ?_⟩, fun c hc => h.blk c (by rw [hbl]; exact hc)⟩
  · rcases List.mem_cons.1 hx with rfl | hx
    · intro b' hb'; cases hb'; exact h.ow.ok (.box b cs T) (by simp)
    · exact h.ow.ok x (by simp [hx])
  · rcases List.mem_cons.1 hx with rfl | hx
    · exact h.ow.apart (.box b cs T) (by simp) c (by simpa [Ent.box, Ent.arr] using hc) o' trivial
    · exact h.ow.apart x (by simp [hx]) c hc o' hf
theorem putAt_if (cs : Array Value) (i : Nat) (vs : List Value) (h : i + vs.length ≤ cs.size) (q : Nat) : (putAt cs i vs)[q]? = if i ≤ q ∧ q < i + vs.length then vs[q - i]? else cs[q]? := by
  have hl : (cs.toList.take i).length = i := by simp; omega
  unfold putAt
  rw [List.getElem?_toArray, List.append_assoc]
  by_cases h1 : q < i
  · rw [if_neg (by omega), List.getElem?_append_left (by omega), List.getElem?_take, if_pos h1]; simp
  · rw [List.getElem?_append_right (by omega), hl]
    by_cases h2 : q < i + vs.length
    · rw [if_pos ⟨by omega, h2⟩, List.getElem?_append_left (by omega)]
    · rw [if_neg (by omega), List.getElem?_append_right (by omega), List.getElem?_drop, show i + vs.length + (q - i - vs.length) = q by omega]; simp
theorem s_storeE {b p k j : Nat} {v : Value} {T : TypeId} {ecs : List Value} (hR : Rep R sz) (hE : Elem R m sz b cs ad cap l j p u ecs) (hK : Ke a K) (q : Nat) (hS : St B m0 m L) (ho : o.op = .store t x y) (hx : evK K x = some (.pointer (some ⟨b, p + k, none⟩))) (hy : evK K y = some v) (hk : L[q]? = some (.box b cs T))
    (hT : (aggOf P t).map (·.2) = some v.cells.size) (h1 : v.cells.toList.all (·.oneCell') = true) (hfit : k + v.cells.size ≤ sz) (u' : α) (ecs' : List Value) (he : ecs' = ecs.take k ++ v.cells.toList ++ ecs.drop (k + v.cells.size)) (hr : ∀ m', Le m m' → R m' u' ecs')
    (hp : ∀ m' cs', Le m m' → St B m0 m' (.box b cs' T :: L.eraseIdx q) → cs'.size = cs.size → ArrS R m' sz (some b) cs' ad cap (l.set j u') → Post undef m'.w) : StepTo P o a m.w Post := by
  have hpos := hR.pos
  have hlen := hE.len
  have hbig : p + sz ≤ cs.size := by
    have h5 := hE.get (sz - 1) (ecs[sz - 1]'(by omega)) (List.getElem?_eq_getElem _)
    have h6 := (Array.getElem?_eq_some_iff.1 h5).1
    omega
  have hput := putAt_if cs (p + k) v.cells.toList (by rw [Array.length_toList]; omega)
  have hsize : (putAt cs (p + k) v.cells.toList).size = cs.size := by
    unfold putAt; rw [List.size_toArray]; simp only [List.length_append, List.length_take, List.length_drop, Array.length_toList]; omega
  refine s_store hK q hS ho hx hy hk hT (decide_eq_true (by omega)) h1 fun m' hl hS' => hp m' _ hl hS' hsize (hE.put m' u' ecs' _ hR hl (hr m' hl) fun i => ?_)
  rw [hput]
  simp only [Array.length_toList]
  by_cases c1 : p ≤ i ∧ i < p + sz
  · rw [if_pos c1, he]
    have t1 : (ecs.take k).length = k := by simp; omega
    by_cases c2 : p + k ≤ i ∧ i < p + k + v.cells.size
    · rw [if_pos c2, List.append_assoc, List.getElem?_append_right (by omega), List.getElem?_append_left (by rw [t1, Array.length_toList]; omega), t1]
      congr 1; omega
    · rw [if_neg c2]
      have hi : ecs[i - p]? = cs[i]? := by
        have := hE.get (i - p) ecs[i - p] (by simp)
        rw [show p + (i - p) = i by omega] at this
        rw [this]; simp
      by_cases c3 : i < p + k
      · rw [List.append_assoc, List.getElem?_append_left (by omega), List.getElem?_take, if_pos (by omega)]; exact hi.symm
      · rw [List.append_assoc, List.getElem?_append_right (by omega), List.getElem?_append_right (by rw [t1, Array.length_toList]; omega), List.getElem?_drop, t1, Array.length_toList]
        rw [show k + v.cells.size + (i - p - k - v.cells.size) = i - p by omega]; exact hi.symm
  · rw [if_neg c1, if_neg (by omega)]
theorem s_storeF {b p k j : Nat} {v : Value} {T : TypeId} {ecs : List Value} (hR : Rep R sz) (hE : Elem R m sz b cs ad cap l j p u ecs) (hK : Ke a K) (q : Nat) (hS : St B m0 m L) (ho : o.op = .store t x y) (hx : evK K x = some (.pointer (some ⟨b, p + k, none⟩))) (hy : evK K y = some v) (hk : L[q]? = some (.arr (some b) cs T))
    (hT : (aggOf P t).map (·.2) = some v.cells.size) (h1 : v.cells.toList.all (·.oneCell') = true) (hfit : decide (k + v.cells.size ≤ sz) = true) (u' : α) (ecs' : List Value) (he : ecs' = ecs.take k ++ v.cells.toList ++ ecs.drop (k + v.cells.size)) (hr : ∀ m', Le m m' → R m' u' ecs')
    (hp : ∀ m' cs', Le m m' → St B m0 m' (.arr (some b) cs' T :: L.eraseIdx q) → cs'.size = cs.size → ArrS R m' sz (some b) cs' ad cap (l.set j u') → Post undef m'.w) : StepTo P o a m.w Post :=
  s_storeE hR hE hK 0 (hS.front q hk).toBox ho hx hy rfl hT h1 (of_decide_eq_true hfit) u' ecs' he hr fun m' cs' hl hS' hsz hA => hp m' cs' hl (St.toArr hS') hsz hA
theorem Elem.mono {b j p : Nat} {ecs : List Value} (hR : Rep R sz) (h : Elem R m sz b cs ad cap l j p u ecs) {m' : Mem} (k : Le m m') : Elem R m' sz b cs ad cap l j p u ecs :=
  ⟨h.lt, hR.mono h.rel k, h.len, h.get, fun m'' u' e c hR' hl => h.put m'' u' e c hR' (k.trans hl)⟩
theorem s_storeG {b p k j : Nat} {v : Value} {T : TypeId} {ecs : List Value} (hR : Rep R sz) (hg : g = some b) (hE : Elem R m sz b cs ad cap l j p u ecs) (hK : Ke a K) (q : Nat) (hS : St B m0 m L) (ho : o.op = .store t x y) (hx : evK K x = some (.pointer (some ⟨b, p + k, none⟩))) (hy : evK K y = some v) (hk : L[q]? = some (.arr g cs T))
    (hT : (aggOf P t).map (·.2) = some v.cells.size) (h1 : v.cells.toList.all (·.oneCell') = true) (hfit : decide (k + v.cells.size ≤ sz) = true) (u' : α) (hr : ∀ m', Le m m' → R m' u' (ecs.take k ++ v.cells.toList ++ ecs.drop (k + v.cells.size)))
    (hp : ∀ m' cs', Le m m' → St B m0 m' (.arr g cs' T :: L.eraseIdx q) → ArrS R m' sz g cs' ad cap (l.set j u') → Post undef m'.w) : StepTo P o a m.w Post := by
  subst hg; exact s_storeF hR hE hK q hS ho hx hy hk hT h1 hfit u' _ rfl hr fun m' cs' h2 h3 _ h5 => hp m' cs' h2 h3 h5
structure Thaws {α : Type} (R : Mem → α → List Value → Prop) : Prop where
  move : ∀ {m m' : Mem} {x : α} {cs : List Value}, R m x cs → (∀ b o v, (∃ u, v = U8 u) → m.ok b o → m.w.cell? ⟨b, o, none⟩ = some v → m'.ok b o ∧ m'.w.cell? ⟨b, o, none⟩ = some v) → R m' x cs
  no : (∀ {m : Mem} {x : α} {cs : List Value}, R m x cs → ∀ v ∈ cs, ∀ u, v ≠ U8 u) ∨ (∀ {m m' : Mem} {x : α} {cs : List Value}, R m x cs → R m' x cs)
theorem s_slcFromA {k : IntKind} {i : Int} (hT : ElemT P t e zv sz bytes) (hE : ArrS R m sz g cs ad cap l) (hx : slcFrom l i = some l') (hK : Ke a K) (ho : o.op = .slice t x (some y) none none) (hxx : evK K x = some (.slice ad l.length cap)) (hy : evK K y = some (.int k i))
    (hp : ∀ a' c', ArrS R m sz g cs a' c' l' → Post (.slice a' l'.length c') m.w) : StepTo P o a m.w Post := by
  unfold slcFrom at hx
  split at hx
  · rename_i hi
    cases hx
    obtain ⟨j, rfl⟩ : ∃ j : Nat, i = (j : Int) := ⟨i.toNat, by omega⟩
    have hj : j ≤ l.length := by omega
    have hc := hE.lt63.2.2
    have := run_slice (P := P) (w := m.w) hT ad l.length cap j l.length (some (.int k j)) none (by simp only [Instr.sliceBounds, Sem.run_bind, Sem.run_pure, Result.andThen_ok, run_bound hj])
    unfold StepTo execOp
    simp only [ho, Option.map_some, Option.map_none, hK.ev hxx, hK.ev hy, Sem.run_bind, this, Result.andThen_ok, Sem.run_pure]
    have h2 := hE.cut j l.length cap hj (Nat.le_refl _) hc (Nat.le_refl _)
    rw [List.take_of_length_le (Nat.le_refl _)] at h2
    have h3 := hp (cutA ad cap j sz) (cap - j) (by simpa using h2)
    rw [List.length_drop, Int.toNat_natCast] at h3
    exact h3
  · cases hx
theorem s_appArr {cap2 : Nat} {l2 : List α} {a2 : Option Addr} (hT : ElemT P t e zv sz bytes) (hR : Rep R sz) (hx : app bytes l l2 = some l') (hK : Ke a K) (q : Nat) (hS : St B m0 m L) (hk : L[q]? = some (.arr g cs e)) (hsz : ∀ b, g = some b → cs.size = cap * sz) (hE : ArrS R m sz g cs (adr g) cap l) (hE2 : Els R m sz a2 cap2 l2)
    (ho : o.op = .call ⟨.builtin .append, #[x, y], #[t, t]⟩) (hxx : evK K x = some (.slice (adr g) l.length cap)) (hy : evK K y = some (.slice a2 l2.length cap2)) (hb : decide (1 ≤ bytes) = true)
    (hp : ∀ m' g' cs' cap', Le m m' → St B m0 m' (.arr g' cs' e :: L.eraseIdx q) → (∀ b, g' = some b → cs'.size = cap' * sz) → ArrS R m' sz g' cs' (adr g') cap' l' → Post (.slice (adr g') l'.length cap') m'.w) : StepTo P o a m.w Post := by
  obtain ⟨hlen, rfl⟩ := app_some hx
  have hmul : l.length + l2.length ≤ (l.length + l2.length) * bytes := Nat.le_mul_of_pos_right _ (of_decide_eq_true hb)
  have h1 := hS.front q hk
  let R0 : Mem → α → List Value → Prop := fun _ x c => R m x c
  have hR0 : Rep R0 sz := ⟨fun h _ => h, fun h => hR.size h, fun h => hR.one h, hR.pos⟩
  have hbk : ∀ b, g = some b → m.w.heap[b]? = some (.cells cs e (0, 0)) := h1.ow.ok (.arr g cs e) (List.mem_cons_self ..)
  let X : Nat → Nat → Prop := fun c o => g = some c ∧ o < l.length * sz
  have hO : Ow m [.arr g cs e] := Ow.left (L := [.arr g cs e]) h1.ow
  have hg1 := (St.refl hO).give (e' := rowOf e sz g cap l) X (fun c o hc => by simp [Ent.arr]; exact hc.1) (fun b hb => ⟨cs, hbk b hb, hsz b hb⟩) (fun c hc => by simpa [Ent.arr, rowOf, Ent.row] using hc) (by cases g <;> simp [rowOf, Ent.row])
    (fun c hc o' hf => ⟨trivial, fun hX => by simp only [rowOf, Ent.row] at hf; exact absurd hX.2 (by omega)⟩)
  have hl1 : Le m (m.give X) := Le.give m X
  obtain ⟨css, c1, c2, c3, c4, c5, c6⟩ := hE
  have hcl := css_len c1 c2
  have hE1 : Els R0 (m.give X) sz (adr g) cap l := by
    refine ⟨css, ⟨by rw [flatten_len sz css hcl, c1], c3, c4, c5, fun j v hv => ?_⟩, c1, fun i x c hx hc => c2 i x c hx hc⟩
    have hj : j < css.flatten.length := (List.getElem?_eq_some_iff.1 hv).1
    rw [flatten_len sz css hcl, c1] at hj
    have hc0 : 0 < cap := by
      refine Nat.pos_of_ne_zero fun h0 => ?_
      have : l.length = 0 := by omega
      rw [this] at hj; simp at hj
    obtain ⟨b, o', hgb, ha, ho'⟩ := c6 hc0
    have : o' = 0 := by rw [hgb] at ha; simpa using (by simpa using ha : (0 : Nat) = o').symm
    subst this
    refine ⟨b, 0, ha, ⟨.inr ⟨hgb, by omega⟩, heap_lt (hbk b hgb)⟩, ?_⟩
    show m.w.cell? _ = _
    rw [cell_of_row _ _ _ _ _ _ (hbk b hgb), Nat.zero_add]; simpa using ho' j v hv
  have hE2' : Els R0 (m.give X) sz a2 cap2 l2 := by
    obtain ⟨dss, d1, d2, d3⟩ := hE2
    exact ⟨dss, d1.mono hl1, d2, d3⟩
  obtain ⟨g', cap', m', hrun, hle', hS', hEl⟩ := append_own (P := P) (ty := o.type) hT hR0 (St.refl hg1.ow) hE1 hE2' hlen (by unfold maxLen; omega)
  have hle : Le m m' := hl1.trans hle'
  have hrow : ∀ b, g' = some b → ∃ cur, m'.w.heap[b]? = some (.cells cur e (0, 0)) ∧ cur.size = cap' * sz := hS'.ow.ok (rowOf e sz g' cap' (l ++ l2)) (by simp)
  obtain ⟨cs', hcs'⟩ : ∃ cs' : Array Value, ∀ b, g' = some b → m'.w.heap[b]? = some (.cells cs' e (0, 0)) ∧ cs'.size = cap' * sz := by
    cases g' with
    | none => exact ⟨#[], fun b h => by cases h⟩
    | some b => obtain ⟨cur, h2, h3⟩ := hrow b rfl; exact ⟨cur, fun b' h => by cases h; exact ⟨h2, h3⟩⟩
  let m2 : Mem := ⟨m'.w, m.ok⟩
  have hlm : Le m m2 := ⟨hle.os, hle.tape, hle.output, hle.size, fun b o' hb => ⟨⟨hb, Nat.lt_of_lt_of_le hb.2 hle.size⟩, (hle.same b o' hb).2⟩⟩
  have hblk : ∀ b, g' = some b → g = some b ∨ m.w.heap.size ≤ b := fun b hgb => by
    have := hS'.blk b (by simp [rowOf, Ent.row, hgb])
    rcases this with h | h
    · simp [rowOf, Ent.row] at h; exact .inl h
    · exact .inr h
  have k : St (blocksOf [Ent.arr g cs e]) m m2 [.arr g' cs' e] := by
    refine ⟨hlm, fun b hb hn => ?_, fun b o' hb => .inl hb.1, ⟨by cases g' <;> simp [Ent.arr], fun x hx => ?_, fun x hx c hc o' _ hm => ?_⟩, fun b hb => ?_⟩
    · have := hS'.kept b hb (by simpa [rowOf, Ent.row, Ent.arr] using hn)
      exact this
    · simp at hx; subst hx; exact fun b hb => (hcs' b hb).1
    · simp at hx; subst hx
      have hgc : g' = some c := by simpa [Ent.arr] using hc
      rcases hblk c hgc with h | h
      · exact hO.apart (.arr g cs e) (by simp) c (by simp [Ent.arr, h]) o' trivial hm.1
      · exact absurd hm.1.2 (by omega)
    · have hgc : g' = some b := by simpa [Ent.arr] using hb
      rcases hblk b hgc with h | h
      · exact .inl (by simp [Ent.arr, h])
      · exact .inr h
  have hfin := St.frame (L := [Ent.arr g cs e]) h1 k
  obtain ⟨ess, e1, e2, e3⟩ := hEl
  have hAS : ArrS R m2 sz g' cs' (adr g') cap' (l ++ l2) := by
    refine ⟨ess, e2, fun i x c hx hc => ⟨(e3 i x c hx hc).1, hR.mono (e3 i x c hx hc).2 hlm⟩, e1.2.1, e1.2.2.1, e1.2.2.2.1, fun hc0 => ?_⟩
    cases hgg : g' with
    | none => have := e1.2.2.2.1 (by rw [hgg]; rfl); omega
    | some b =>
      refine ⟨b, 0, rfl, rfl, fun j v hv => ?_⟩
      obtain ⟨b', o', ha, _, hc⟩ := e1.2.2.2.2 j v hv
      rw [hgg] at ha
      cases ha
      rw [cell_of_row _ _ _ _ _ _ (hcs' b hgg).1] at hc
      simpa using hc
  unfold StepTo execOp
  simp only [ho, resolve, invoke, builtin, Sem.run_bind, Sem.run_pure, Result.andThen_ok, List.map_toArray, List.map_cons, List.map_nil, hK.ev hxx, hK.ev hy]
  have hrun' : (Builtin.append_ #[t, t] o.type #[.slice (adr g) l.length cap, .slice a2 l2.length cap2]).run P m.w = .ok (.slice (adr g') (l ++ l2).length cap') m'.w := hrun
  rw [hrun']
  exact hp m2 g' cs' cap' hlm hfin (fun b hb => (hcs' b hb).2) hAS
theorem s_slcPart {k : IntKind} {i : Int} {n : Nat} (hT : ElemT P t e zv sz bytes) (hi : 0 ≤ i ∧ i ≤ (n : Int)) (hc : n ≤ cap) (hK : Ke a K) (ho : o.op = .slice t x (some y) none none) (hxx : evK K x = some (.slice ad n cap)) (hy : evK K y = some (.int k i))
    (hp : Post (.slice (cutA ad cap i.toNat sz) (n - i.toNat) (cap - i.toNat)) m.w) : StepTo P o a m.w Post := by
  obtain ⟨j, rfl⟩ : ∃ j : Nat, i = (j : Int) := ⟨i.toNat, by omega⟩
  have hj : j ≤ n := by omega
  have := run_slice (P := P) (w := m.w) hT ad n cap j n (some (.int k j)) none (by simp only [Instr.sliceBounds, Sem.run_bind, Sem.run_pure, Result.andThen_ok, run_bound hj])
  unfold StepTo execOp
  simp only [ho, Option.map_some, Option.map_none, hK.ev hxx, hK.ev hy, Sem.run_bind, this, Result.andThen_ok, Sem.run_pure]
  exact hp
def ArrF {α : Type} (R : Mem → α → List Value → Prop) (m : Mem) (sz : Nat) (g : Option Nat) (cs : Array Value) (cap : Nat) (l : List α) : Prop := ArrS R m sz g cs (adr g) cap l ∧ ∀ b, g = some b → cs.size = cap * sz
theorem ArrF.mono (hR : Rep R sz) (h : ArrF R m sz g cs cap l) {m' : Mem} (k : Le m m') : ArrF R m' sz g cs cap l := ⟨h.1.mono hR k, h.2⟩
theorem ArrF.nil (m : Mem) (sz : Nat) (cs : Array Value) : ArrF R m sz none cs 0 ([] : List α) := ⟨ArrS.nil m sz cs, fun b h => by cases h⟩
theorem s_storeGF {b p k j : Nat} {v : Value} {T : TypeId} {ecs : List Value} (hF : ArrF R m sz g cs cap l) (hR : Rep R sz) (hg : g = some b) (hE : Elem R m sz b cs (adr g) cap l j p u ecs) (hK : Ke a K) (q : Nat) (hS : St B m0 m L) (ho : o.op = .store t x y) (hx : evK K x = some (.pointer (some ⟨b, p + k, none⟩))) (hy : evK K y = some v) (hk : L[q]? = some (.arr g cs T))
    (hT : (aggOf P t).map (·.2) = some v.cells.size) (h1 : v.cells.toList.all (·.oneCell') = true) (hfit : decide (k + v.cells.size ≤ sz) = true) (u' : α) (hr : ∀ m', Le m m' → R m' u' (ecs.take k ++ v.cells.toList ++ ecs.drop (k + v.cells.size)))
    (hp : ∀ m' cs', Le m m' → St B m0 m' (.arr g cs' T :: L.eraseIdx q) → ArrF R m' sz g cs' cap (l.set j u') → Post undef m'.w) : StepTo P o a m.w Post := by
  subst hg; exact s_storeF hR hE hK q hS ho hx hy hk hT h1 hfit u' _ rfl hr fun m' cs' h2 h3 h4 h5 => hp m' cs' h2 h3 ⟨h5, fun b hb => by rw [h4]; exact hF.2 b hb⟩
theorem s_appF {cap2 : Nat} {l2 : List α} {a2 : Option Addr} (hT : ElemT P t e zv sz bytes) (hR : Rep R sz) (hx : app bytes l l2 = some l') (hK : Ke a K) (q : Nat) (hS : St B m0 m L) (hk : L[q]? = some (.arr g cs e)) (hE : ArrF R m sz g cs cap l) (hE2 : Els R m sz a2 cap2 l2)
    (ho : o.op = .call ⟨.builtin .append, #[x, y], #[t, t]⟩) (hxx : evK K x = some (.slice (adr g) l.length cap)) (hy : evK K y = some (.slice a2 l2.length cap2)) (hb : decide (1 ≤ bytes) = true)
    (hp : ∀ m' g' cs' cap', Le m m' → St B m0 m' (.arr g' cs' e :: L.eraseIdx q) → ArrF R m' sz g' cs' cap' l' → Post (.slice (adr g') l'.length cap') m'.w) : StepTo P o a m.w Post :=
  s_appArr hT hR hx hK q hS hk hE.2 hE.1 hE2 ho hxx hy hb fun m' g' cs' cap' h1 h2 h3 h4 => hp m' g' cs' cap' h1 h2 ⟨h4, h3⟩
end
section
variable {P : Program} {o : Oper} {a : Act} {K : Kt} {B : List Nat} {m0 m : Mem} {L : List Ent} {Post : Value → World → Prop} {x y : Operand} {t t2 e : TypeId} {zv : Value} {bytes : Nat} {g : Option Nat} {cs : Array Value} {ad : Option Addr} {cap off n c2 : Nat} {T : TypeId} {l x2 : List UInt8} {a2 : Option Addr}
theorem cpy_get {α : Type} {l x : List α} {o : Nat} (h : o + x.length ≤ l.length) (j : Nat) : (cpy l o x)[j]? = if o ≤ j ∧ j < o + x.length then x[j - o]? else l[j]? := by
  have hl : (l.take o).length = o := by simp; omega
  unfold cpy
  rw [List.take_of_length_le (l := x) (by omega)]
  by_cases h1 : j < o
  · rw [if_neg (by omega), List.getElem?_append_left (by omega), List.getElem?_take, if_pos h1]
  · rw [List.getElem?_append_right (by omega), hl]
    by_cases h2 : j < o + x.length
    · rw [if_pos ⟨by omega, h2⟩, List.getElem?_append_left (by omega)]
    · rw [if_neg (by omega), List.getElem?_append_right (by omega), List.getElem?_drop, show o + x.length + (j - o - x.length) = j by omega]
theorem flat_u8 : ∀ l : List UInt8, (l.map fun u => [U8 u]).flatten = l.map U8
  | [] => rfl
  | u :: l => by rw [List.map_cons, List.flatten_cons, flat_u8 l]; rfl
theorem ArrS.cells8 (h : ArrS isU8 m 1 g cs ad cap l) : 0 < cap → ∃ b o, g = some b ∧ ad = some ⟨b, o, none⟩ ∧ ∀ j u, l[j]? = some u → cs[o + j]? = some (U8 u) := by
  intro hc
  obtain ⟨css, h1, h2, _, _, _, h6⟩ := h
  obtain ⟨b, o, hg, ha, h7⟩ := h6 hc
  refine ⟨b, o, hg, ha, fun j u hu => h7 j _ ?_⟩
  have hj := (List.getElem?_eq_some_iff.1 hu).1
  have hcj : css[j]? = some (css[j]'(by omega)) := List.getElem?_eq_getElem _
  have e : css[j]'(by omega) = [U8 u] := (h2 j u _ hu hcj).2
  rw [e] at hcj
  have := flatten_get 1 css (fun i c hc => by
    have hi := (List.getElem?_eq_some_iff.1 hc).1
    exact (h2 i (l[i]'(by omega)) c (List.getElem?_eq_getElem _) hc).1) j 0 _ _ hcj rfl
  simpa using this
theorem ArrS.ofBytes {b ofs : Nat} (hl : l.length ≤ cap) (hm : cap ≤ maxLen) (h : ∀ j u, l[j]? = some u → cs[ofs + j]? = some (U8 u)) : ArrS isU8 m 1 (some b) cs (some ⟨b, ofs, none⟩) cap l := by
  refine ⟨l.map fun u => [U8 u], by simp, fun i u c hu hc => ?_, hl, hm, (fun h => by cases h), fun _ => ⟨b, ofs, rfl, rfl, fun j v hv => ?_⟩⟩
  · rw [List.getElem?_map, hu] at hc
    cases hc
    exact ⟨rfl, rfl⟩
  · rw [flat_u8, List.getElem?_map] at hv
    cases hu : l[j]? with
    | none => rw [hu] at hv; cases hv
    | some u => rw [hu] at hv; cases hv; exact h j u hu
theorem s_copyA (hT : ElemT P t e zv 1 bytes) (hK : Ke a K) (k : Nat) (hS : St B m0 m L) (hk : L[k]? = some (.arr g cs T)) (hA : ArrS isU8 m 1 g cs ad cap l) (hfit : off + n ≤ l.length)
    (hsrc : ∀ q, q ≤ x2.length → (Builtin.firstCells 1 q (.slice a2 x2.length c2)).run P m.w = .ok ((x2.take q).map U8).toArray m.w)
    (ho : o.op = .call ⟨.builtin .copy, #[x, y], #[t, t2]⟩) (hx : evK K x = some (.slice (cutA ad cap off 1) n (cap - off))) (hy : evK K y = some (.slice a2 x2.length c2))
    (hp : ∀ m' cs', Le m m' → St B m0 m' (.arr g cs' T :: L.eraseIdx k) → ArrS isU8 m' 1 g cs' ad cap (cpy l off (x2.take n)) → cs'.size = cs.size → Post (.int .i64 (imin x2.length n)) m'.w) : StepTo P o a m.w Post := by
  have hq : (imin (x2.length : Int) (n : Int)) = ((Nat.min x2.length n : Nat) : Int) := by
    unfold imin
    rcases Nat.lt_or_ge n x2.length with h | h
    · rw [if_pos (by omega), show Nat.min x2.length n = n from Nat.min_eq_right (by omega)]
    · rw [if_neg (by omega), show Nat.min x2.length n = x2.length from Nat.min_eq_left h]
  have hle : Nat.min x2.length n ≤ x2.length := Nat.min_le_left _ _
  have hle2 : Nat.min x2.length n ≤ n := Nat.min_le_right _ _
  have hf := hsrc (Nat.min x2.length n) hle
  have htk : x2.take (Nat.min x2.length n) = x2.take n := by
    rcases Nat.lt_or_ge n x2.length with h | h
    · rw [show Nat.min x2.length n = n from Nat.min_eq_right (by omega)]
    · rw [show Nat.min x2.length n = x2.length from Nat.min_eq_left h, List.take_length, List.take_of_length_le h]
  rw [htk] at hf
  have hlen : ((x2.take n).map U8).length = Nat.min x2.length n := by simp [Nat.min_comm]
  rw [hq] at hp
  by_cases hz : (x2.take n) = []
  · have hrun : (Builtin.copy_ #[t, t2] o.type #[.slice (cutA ad cap off 1) n (cap - off), .slice a2 x2.length c2]).run P m.w = .ok (.int .i64 (Nat.min x2.length n : Nat)) m.w := by
      rw [hz] at hf
      cases hc : cutA ad cap off 1 <;> simp [Builtin.copy_, run_underlying hT.und, Builtin.lenOf, sizeOf_of hT, hf, goInt, storeCells]
    unfold StepTo execOp
    simp only [ho, resolve, invoke, builtin, Sem.run_bind, Sem.run_pure, Result.andThen_ok, List.map_toArray, List.map_cons, List.map_nil, hK.ev hx, hK.ev hy, hrun]
    refine hp m cs (Le.refl m) (hS.front k hk) ?_ rfl
    rw [hz]
    have : cpy l off ([] : List UInt8) = l := by unfold cpy; simp
    rw [this]; exact hA
  · have hn0 : 0 < (x2.take n).length := List.length_pos_iff.2 hz
    have hlen2 : (x2.take n).length ≤ n := by simp; omega
    have h63 := hA.lt63
    obtain ⟨b, ofs, rfl, rfl, hcell⟩ := hA.cells8 (by omega)
    have hsz : ofs + l.length ≤ cs.size := by
      have := hcell (l.length - 1) (l[l.length - 1]'(by omega)) (List.getElem?_eq_getElem _)
      have := (Array.getElem?_eq_some_iff.1 this).1
      omega
    have hcut : cutA (some (⟨b, ofs, none⟩ : Addr)) cap off 1 = some ⟨b, ofs + off, none⟩ := by
      unfold cutA
      rw [if_neg (by omega), Nat.mul_one, Option.map_some, Addr.add_mid]
    rw [hcut] at hx
    have hS0 := hS.front k hk
    have hS1 := hS0.toBox
    have hb := hS1.boxAt 0 rfl
    have hst := run_storeCells_at P b (ofs + off) T ((x2.take n).map U8) 0 cs m.w hb (by rw [List.length_map]; omega) (fun u hu => by
      obtain ⟨c, _, rfl⟩ := List.mem_map.1 hu; rfl)
    simp only [Nat.add_zero] at hst
    have hput := putAt_if cs (ofs + off) ((x2.take n).map U8) (by rw [List.length_map]; omega)
    have hpsz : (putAt cs (ofs + off) ((x2.take n).map U8)).size = cs.size := by
      unfold putAt; rw [List.size_toArray]; simp only [List.length_append, List.length_take, List.length_drop, Array.length_toList, List.length_map]; simp only [List.length_take] at hlen2; omega
    have hrun : (Builtin.copy_ #[t, t2] o.type #[.slice (some ⟨b, ofs + off, none⟩) n (cap - off), .slice a2 x2.length c2]).run P m.w = .ok (.int .i64 (Nat.min x2.length n : Nat)) (m.w.setRow b (putAt cs (ofs + off) ((x2.take n).map U8))) := by
      generalize hxs : (x2.take n).map U8 = xs at *
      simp [Builtin.copy_, run_underlying hT.und, Builtin.lenOf, sizeOf_of hT, hf, hst, putAt, goInt]
    generalize hcs' : putAt cs (ofs + off) ((x2.take n).map U8) = cs' at *
    have hw : m.w.grownBy (m.w.setRow b cs') (some b) := ⟨rfl, rfl, rfl, by simp, fun k' _ hk' => setRow_other m.w b k' _ (fun e => hk' (by rw [e]))⟩
    have hS2 := hS1.write hw (by simp) (setRow_heap m.w b cs _ T _ hb)
    have hr := (St.refl hS1.ow).write hw (by simp) (setRow_heap m.w b cs _ T _ hb)
    unfold StepTo execOp
    simp only [ho, resolve, invoke, builtin, Sem.run_bind, Sem.run_pure, Result.andThen_ok, List.map_toArray, List.map_cons, List.map_nil, hK.ev hx, hK.ev hy, hrun]
    refine hp ⟨_, m.ok⟩ cs' hr.le hS2.toArr ?_ hpsz
    have hcl : (cpy l off (x2.take n)).length = l.length := cpy_length (by omega)
    obtain ⟨_, _, _, h3, h4, _⟩ := hA
    refine ArrS.ofBytes (by rw [hcl]; exact h3) h4 fun j u hu => ?_
    rw [cpy_get (by omega)] at hu
    rw [hput, List.length_map]
    by_cases hj : off ≤ j ∧ j < off + (x2.take n).length
    · rw [if_pos hj] at hu
      rw [if_pos ⟨by omega, by omega⟩, List.getElem?_map, show ofs + j - (ofs + off) = j - off by omega, hu]; rfl
    · rw [if_neg hj] at hu
      rw [if_neg (by omega)]; exact hcell j u hu
end
section
variable {P : Program} {B : List Nat} {m0 m : Mem} {L : List Ent} {g : Option Nat} {cs : Array Value} {ad : Option Addr} {cap off n c2 : Nat} {T : TypeId} {l : List UInt8} {a2 : Option Addr}
theorem src_els (hE : Els isU8 m 1 a2 c2 l) (q : Nat) (hq : q ≤ l.length) : (Builtin.firstCells 1 q (.slice a2 l.length c2)).run P m.w = .ok ((l.take q).map U8).toArray m.w := by
  have hsl := hE.sl_u8
  cases a2 with
  | none =>
    have : l = [] := hE.none_nil
    subst this
    simp [Builtin.firstCells]
  | some ad =>
    exact run_firstCells_some (P := P) m.w 1 q ad l.length c2 ((l.take q).map U8) (by rw [List.length_map, List.length_take]; omega) (fun j u hu => by
      have hu' : (l.map U8)[j]? = some u := by
        rw [List.getElem?_map, List.getElem?_take] at hu
        rw [List.getElem?_map]
        split at hu
        · exact hu
        · cases hu
      obtain ⟨b', o', ha, _, hc⟩ := hsl.2.2.2.2 j u hu'
      cases ha; rw [Addr.add_mid]; exact hc)
theorem src_part (k : Nat) (hS : St B m0 m L) (hk : L[k]? = some (.arr g cs T)) (hA : ArrS isU8 m 1 g cs ad cap l) (hfit : off + n ≤ l.length) (q : Nat) (hq : q ≤ n) : (Builtin.firstCells 1 q (.slice (cutA ad cap off 1) n c2)).run P m.w = .ok ((((l.drop off).take n).take q).map U8).toArray m.w := by
  by_cases hz : q = 0
  · subst hz
    cases cutA ad cap off 1 with
    | none => simp [Builtin.firstCells]
    | some z => exact run_firstCells_some (P := P) m.w 1 0 z n c2 [] rfl (fun j u hu => by simp at hu)
  · have h63 := hA.lt63
    obtain ⟨b, ofs, rfl, rfl, hcell⟩ := hA.cells8 (by omega)
    have hcut : cutA (some (⟨b, ofs, none⟩ : Addr)) cap off 1 = some ⟨b, ofs + off, none⟩ := by
      unfold cutA
      rw [if_neg (by omega), Nat.mul_one, Option.map_some, Addr.add_mid]
    rw [hcut]
    have hb := (hS.front k hk).toBox.boxAt 0 rfl
    refine run_firstCells_some (P := P) m.w 1 q ⟨b, ofs + off, none⟩ n c2 _ (by simp only [List.length_map, List.length_take, List.length_drop]; omega) (fun j u hu => ?_)
    rw [List.getElem?_map] at hu
    rw [Addr.add_mid, cell_of_row _ _ _ _ _ _ hb]
    cases hj : (((l.drop off).take n).take q)[j]? with
    | none => rw [hj] at hu; cases hu
    | some v =>
      rw [hj] at hu; cases hu
      rw [List.getElem?_take] at hj
      split at hj
      · rw [List.getElem?_take] at hj
        split at hj
        · rw [List.getElem?_drop] at hj
          have := hcell _ _ hj
          rw [Nat.add_assoc]; exact this
        · cases hj
      · cases hj
end
end Go.Proofs.Ythhmandpjlggcaa
