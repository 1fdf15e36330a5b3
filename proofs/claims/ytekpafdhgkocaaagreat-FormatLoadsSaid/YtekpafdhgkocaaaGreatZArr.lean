/- Part of what the laws need: plain words, the walker and its laws, the program's functions. -/
import Derived.Test.YtekpafdhgkocaaaGreatZMore
namespace Go.Proofs.YtekpafdhgkocaaaGreat
open Go.RowKit G
def az.arr (g : Option Nat) (cs : Array Value) (T : TypeId) : az :=
 ⟨g.toList, fun _ _ => True, fun w => ∀ b, g = some b → w.heap[b]? = some (.cells cs T (0, 0)), fun w h c hc => by
  have : g = some c := by cases g <;> simp_all
  exact jE (h c this),
  fun w w' h hs b hb => by rw [hs b (by rw [hb]; simp)]; exact h b hb⟩
def eh {α : Type} (R : Mem → α → List Value → Prop) (m : Mem) (sz : Nat) (g : Option Nat) (cs : Array Value) (ad : Option Addr) (cap : Nat) (l : List α) : Prop :=
 ∃ css : List (List Value), css.length = l.length ∧ (∀ (i : Nat) (x : α) (c : List Value), l[i]? = some x → css[i]? = some c → c.length = sz ∧ R m x c) ∧ l.length ≤ cap ∧ cap ≤ maxLen ∧ (ad = none → cap = 0) ∧
  (0 < cap → ∃ b o, g = some b ∧ ad = some ⟨b, o, none⟩ ∧ (∀ (j : Nat) (v : Value), css.flatten[j]? = some v → cs[o + j]? = some v))
section
variable {α : Type} {R : Mem → α → List Value → Prop} {m m' : Mem} {sz : Nat} {g : Option Nat} {cs : Array Value} {ad : Option Addr} {cap : Nat} {l l' : List α} {B : List Nat} {m0 : Mem} {L : List az}
theorem eh.mono (hR : lB R sz) (h : eh R m sz g cs ad cap l) (k : Le m m') : eh R m' sz g cs ad cap l :=
 let ⟨css, h1, h2, h3⟩ := h; ⟨css, h1, fun i x c hx hc => ⟨(h2 i x c hx hc).1, hR.mono (h2 i x c hx hc).2 k⟩, h3⟩
theorem eh.nN (h : eh R m sz g cs ad cap l) : l.length ≤ 9223372036854775807 ∧ cap ≤ 9223372036854775807 ∧ l.length ≤ cap := by
 obtain ⟨_, _, _, h3, h4, _⟩ := h; unfold maxLen at h4; omega
theorem eh.nil (m : Mem) (sz : Nat) (cs : Array Value) : eh R m sz none cs none 0 ([] : List α) := ⟨[], rfl, fun i x c h => by simp at h, Nat.le_refl _, by simp [maxLen], fun _ => rfl, fun h => absurd h (Nat.lt_irrefl _)⟩
theorem St.GQ (hS : St B m0 m L) (cs : Array Value) (T : TypeId) : St B m0 m (.arr none cs T :: L) :=
 ⟨hS.le, hS.kept, hS.news, ⟨by rw [cu]; exact hS.ow.nodup, fun x hx => by
  rcases List.mem_cons.1 hx with rfl | hx
  · intro b hb; cases hb
  · exact hS.ow.ok x hx, fun x hx => by
  rcases List.mem_cons.1 hx with rfl | hx
  · intro b hb; simp [az.arr] at hb
  · exact hS.ow.apart x hx⟩, fun b hb => hS.wJ b (by rw [cu] at hb; simpa [az.arr] using hb)⟩
theorem db {β : Type} (sz : Nat) : ∀ (css : List (List β)), (∀ (i : Nat) (c : List β), css[i]? = some c → c.length = sz) → css.flatten.length = css.length * sz
 | [], _ => by simp
 | c :: css, h => by
   have h0 := h 0 c rfl
   simp only [List.flatten_cons, List.length_append, List.length_cons]
   rw [h0, db sz css (fun i c hi => h (i + 1) c (by simpa using hi)), Nat.add_mul]; omega
theorem pq {css : List (List Value)} (h1 : css.length = l.length) (h2 : ∀ (i : Nat) (x : α) (c : List Value), l[i]? = some x → css[i]? = some c → c.length = sz ∧ R m x c) : ∀ (i : Nat) (c : List Value), css[i]? = some c → c.length = sz := fun i c hc => by
 have hi : i < css.length := (List.getElem?_eq_some_iff.1 hc).1
 exact (h2 i (l[i]'(by omega)) c (by simp) hc).1
structure A7 {α : Type} (R : Mem → α → List Value → Prop) (m : Mem) (sz : Nat) (b : Nat) (cs : Array Value) (ad : Option Addr) (cap : Nat) (l : List α) (j p : Nat) (u : α) (ecs : List Value) : Prop where
 lt : j < l.length
 rel : R m u ecs
 len : ecs.length = sz
 get : ∀ (k : Nat) (v : Value), ecs[k]? = some v → cs[p + k]? = some v
 put : ∀ (m' : Mem) (u' : α) (ecs' : List Value) (cs' : Array Value), lB R sz → Le m m' → R m' u' ecs' → (∀ i, cs'[i]? = if p ≤ i ∧ i < p + sz then ecs'[i - p]? else cs[i]?) → eh R m' sz (some b) cs' ad cap (l.set j u')
theorem eh.elem (hs : 0 < sz) (h : eh R m sz g cs ad cap l) {j : Nat} (hj : j < l.length) : ∃ b p ecs, g = some b ∧ ad.map (·.add (j * sz)) = some ⟨b, p, none⟩ ∧ A7 R m sz b cs ad cap l j p l[j] ecs := by
 obtain ⟨css, h1, h2, h3, h4, h5, h6⟩ := h
 obtain ⟨b, o, rfl, rfl, hg⟩ := h6 (by omega)
 have hcl := pq h1 h2
 have hjc : j < css.length := by omega
 obtain ⟨k1, k2⟩ := h2 j l[j] css[j] (by simp) (by simp)
 refine ⟨b, o + j * sz, css[j], rfl, by simp [Addr.add_mid], hj, k2, k1, fun k v hv => ?_, fun m' u' ecs' cs' hR hle hr hput => ?_⟩
 · rw [Nat.add_assoc]; exact hg _ _ (fj sz css hcl j k css[j] v (by simp) hv)
 · have hlen' : ecs'.length = sz := hR.size hr
   refine ⟨css.set j ecs', by simp [h1], fun i x c hx hc => ?_, by simpa using h3, h4, h5, fun _ => ⟨b, o, rfl, rfl, fun i v hv => ?_⟩⟩
   · rw [List.getElem?_set] at hx hc
     by_cases e : j = i
     · subst e
       rw [if_pos rfl, if_pos hj] at hx
       rw [if_pos rfl, if_pos hjc] at hc
       cases hx; cases hc
       exact ⟨hlen', hr⟩
     · rw [if_neg e] at hx hc
       obtain ⟨q1, q2⟩ := h2 i x c hx hc
       exact ⟨q1, hR.mono q2 hle⟩
   · have hcl' : ∀ (i : Nat) (c : List Value), (css.set j ecs')[i]? = some c → c.length = sz := fun i c hc => by
      rw [List.getElem?_set] at hc
      by_cases hji : j = i
      · rw [if_pos hji, if_pos hjc] at hc; cases hc; exact hlen'
      · rw [if_neg hji] at hc; exact hcl i c hc
     have hfl := db sz _ hcl'
     have hi : i < (css.set j ecs').flatten.length := (List.getElem?_eq_some_iff.1 hv).1
     rw [hfl, List.length_set] at hi
     have hq : i / sz < css.length := Nat.div_lt_of_lt_mul (by rw [Nat.mul_comm]; exact hi)
     have hdm : i / sz * sz + i % sz = i := Nat.div_add_mod' i sz
     have hmod : i % sz < sz := Nat.mod_lt _ hs
     rw [hput]
     by_cases e : i / sz = j
     · have hc : (css.set j ecs')[i / sz]? = some ecs' := by rw [e, List.getElem?_set, if_pos rfl, if_pos hjc]
       have := fj sz _ hcl' (i / sz) (i % sz) ecs' (ecs'[i % sz]'(by omega)) hc (by simp)
       rw [hdm, hv] at this
       rw [if_pos (by rw [← e]; omega), show o + i - (o + j * sz) = i % sz by rw [← e]; omega, this]
       simp
     · have hne : ¬ (o + j * sz ≤ o + i ∧ o + i < o + j * sz + sz) := fun ⟨a1, a2⟩ => e (by
        have : i = j * sz + (i - j * sz) := by omega
        rw [this, Nat.add_comm, Nat.add_mul_div_right _ _ hs, Nat.div_eq_of_lt (by omega), Nat.zero_add])
       rw [if_neg hne]
       refine hg i v ?_
       have hc : (css.set j ecs')[i / sz]? = some css[i / sz] := by rw [List.getElem?_set, if_neg (fun h => e h.symm)]; simp
       have t1 := fj sz _ hcl' (i / sz) (i % sz) css[i / sz] (css[i / sz]'hq)[i % sz]! hc (by
        have := hcl (i / sz) css[i / sz] (by simp)
        rw [getElem!_pos _ _ (by omega)]; simp)
       have t2 := fj sz _ hcl (i / sz) (i % sz) css[i / sz] (css[i / sz]'hq)[i % sz]! (by simp) (by
        have := hcl (i / sz) css[i / sz] (by simp)
        rw [getElem!_pos _ _ (by omega)]; simp)
       rw [hdm] at t1 t2
       rw [hv] at t1
       rw [t2, ← t1]
theorem eh.cut (h : eh R m sz g cs ad cap l) (i r q : Nat) (hl : i ≤ r) (hr : r ≤ l.length) (hrm : r ≤ q) (hm : q ≤ cap) : eh R m sz g cs (cW ad q i sz) (q - i) ((l.take r).drop i) := by
 obtain ⟨css, h1, h2, h3, h4, h5, h6⟩ := h
 have hcl := pq h1 h2
 refine ⟨(css.take r).drop i, by simp [h1], fun j x c hx hc => ?_, by simp; omega, by omega, fun e => ?_, fun hp => ?_⟩
 · simp only [List.getElem?_drop, List.getElem?_take] at hx hc
   split at hx
   · rename_i hlt
     rw [if_pos hlt] at hc
     exact h2 _ _ _ hx hc
   · cases hx
 · unfold cW at e
   split at e
   · omega
   · have : ad = none := by simpa using e
     have := h5 this; omega
 · obtain ⟨b, o, hg, rfl, ho⟩ := h6 (by omega)
   refine ⟨b, o + i * sz, hg, ?_, fun j v hv => ?_⟩
   · unfold cW; rw [if_neg (by omega)]; simp [Addr.add_mid]
   · rw [← ku sz (css.take r) i (fun k c hk => hcl k c (by
      rw [List.getElem?_take] at hk; split at hk
      · exact hk
      · cases hk)), ← kz sz css r hcl, List.getElem?_drop, List.getElem?_take] at hv
     split at hv
     · rw [Nat.add_assoc]; exact ho _ _ hv
     · cases hv
theorem St.ze (hR : lB R sz) {T : TypeId} (h : St B m0 m (.arr g cs T :: L)) (hA : eh R m sz g cs ad cap l) : ∃ m' : Mem, m'.w = m.w ∧ Le m m' ∧ St B m0 m' L ∧ cC R m' sz ad cap l := by
 have hb : ∀ b, g = some b → m.w.heap[b]? = some (.cells cs T (0, 0)) := h.ow.ok (.arr g cs T) (List.mem_cons_self ..)
 let X : Nat → Nat → Prop := fun c _ => g = some c
 have k := h.oq (e' := .row none T 0 0) X (fun c o hc => by simp [az.arr]; exact hc) (fun c hc => by cases hc) (fun c hc => by simp [az.row] at hc) (by simp [az.row]) (fun c hc => by simp [az.row] at hc)
 refine ⟨m.oq X, rfl, Le.oq m X, k.drop, ?_⟩
 obtain ⟨css, h1, h2, h3, h4, h5, h6⟩ := hA
 have hcl := pq h1 h2
 refine ⟨css, ⟨by rw [db sz css hcl, h1], h3, h4, h5, fun j v hv => ?_⟩, h1, fun i x c hx hc => ⟨(h2 i x c hx hc).1, hR.mono (h2 i x c hx hc).2 (Le.oq m X)⟩⟩
 have hj : j < css.flatten.length := (List.getElem?_eq_some_iff.1 hv).1
 rw [db sz css hcl, h1] at hj
 have hc0 : 0 < cap := by
  refine Nat.pos_of_ne_zero fun h0 => ?_
  have : l.length = 0 := by omega
  rw [this] at hj; simp at hj
 obtain ⟨b, o, hg, ha, ho⟩ := h6 hc0
 refine ⟨b, o, ha, ⟨.inr hg, jE (hb b hg)⟩, ?_⟩
 show m.w.cell? _ = _
 rw [cell_of_row _ _ _ _ _ _ (hb b hg)]; exact ho j v hv
end
section
variable {P : Program} {o : Oper} {a : Act} {K : Kt} {B : List Nat} {m0 m : Mem} {L : List az} {aL : Value → World → Prop} {x y : Operand} {t e : TypeId} {α : Type} {R : Mem → α → List Value → Prop} {sz bytes cap : Nat} {zv : Value} {ad : Option Addr} {l l' : List α} {g : Option Nat} {cs : Array Value} {u : α}
theorem St.toBox {b : Nat} {T : TypeId} (h : St B m0 m (.arr (some b) cs T :: L)) : St B m0 m (.box b cs T :: L) := by
 have hbl : ak (.box b cs T :: L) = ak (.arr (some b) cs T :: L) := by simp [az.box, az.arr]
 refine ⟨h.le, h.kept, h.news, ⟨by rw [hbl]; exact h.ow.nodup, fun x hx => ?_, fun x hx c hc o' hf => ?_⟩, fun c hc => h.wJ c (by rw [← hbl]; exact hc)⟩
 · rcases List.mem_cons.1 hx with rfl | hx
   · exact h.ow.ok (.arr (some b) cs T) (by simp) b rfl
   · exact h.ow.ok x (by simp [hx])
 · rcases List.mem_cons.1 hx with rfl | hx
   · exact h.ow.apart (.arr (some b) cs T) (by simp) c (by simpa [az.box, az.arr] using hc) o' trivial
   · exact h.ow.apart x (by simp [hx]) c hc o' hf
theorem St.toArr {b : Nat} {T : TypeId} (h : St B m0 m (.box b cs T :: L)) : St B m0 m (.arr (some b) cs T :: L) := by
 have hbl : ak (.box b cs T :: L) = ak (.arr (some b) cs T :: L) := by simp [az.box, az.arr]
 refine ⟨h.le, h.kept, h.news, ⟨by rw [← hbl]; exact h.ow.nodup, fun x hx => ?_, fun x hx c hc o' hf => ?_⟩, fun c hc => h.wJ c (by rw [hbl]; exact hc)⟩
 · rcases List.mem_cons.1 hx with rfl | hx
   · intro b' hb'; cases hb'; exact h.ow.ok (.box b cs T) (by simp)
   · exact h.ow.ok x (by simp [hx])
 · rcases List.mem_cons.1 hx with rfl | hx
   · exact h.ow.apart (.box b cs T) (by simp) c (by simpa [az.box, az.arr] using hc) o' trivial
   · exact h.ow.apart x (by simp [hx]) c hc o' hf
theorem oG (cs : Array Value) (i : Nat) (vs : List Value) (h : i + vs.length ≤ cs.size) (q : Nat) : (putAt cs i vs)[q]? = if i ≤ q ∧ q < i + vs.length then vs[q - i]? else cs[q]? := by
 have hl : (cs.toList.take i).length = i := by simp; omega
 unfold putAt
 rw [List.getElem?_toArray, List.append_assoc]
 by_cases h1 : q < i
 · rw [if_neg (by omega), List.getElem?_append_left (by omega), List.getElem?_take, if_pos h1]; simp
 · rw [List.getElem?_append_right (by omega), hl]
   by_cases h2 : q < i + vs.length
   · rw [if_pos ⟨by omega, h2⟩, List.getElem?_append_left (by omega)]
   · rw [if_neg (by omega), List.getElem?_append_right (by omega), List.getElem?_drop, show i + vs.length + (q - i - vs.length) = q by omega]; simp
theorem IG {b p k j : Nat} {v : Value} {T : TypeId} {ecs : List Value} (hR : lB R sz) (hE : A7 R m sz b cs ad cap l j p u ecs) (hK : Ke a K) (q : Nat) (hS : St B m0 m L) (ho : o.op = .store t x y) (hx : ed K x = some (.pointer (some ⟨b, p + k, none⟩))) (hy : ed K y = some v) (hk : L[q]? = some (.box b cs T))
 (hT : (gR P t).map (·.2) = some v.cells.size) (h1 : v.cells.toList.all (·.oneCell') = true) (hfit : k + v.cells.size ≤ sz) (u' : α) (ecs' : List Value) (he : ecs' = ecs.take k ++ v.cells.toList ++ ecs.drop (k + v.cells.size)) (hr : ∀ m', Le m m' → R m' u' ecs')
 (hp : ∀ m' cs', Le m m' → St B m0 m' (.box b cs' T :: L.eraseIdx q) → cs'.size = cs.size → eh R m' sz (some b) cs' ad cap (l.set j u') → aL undef m'.w) : ab P o a m.w aL := by
 have hpos := hR.pos
 have hlen := hE.len
 have hbig : p + sz ≤ cs.size := by
  have h5 := hE.get (sz - 1) (ecs[sz - 1]'(by omega)) (List.getElem?_eq_getElem _)
  have h6 := (Array.getElem?_eq_some_iff.1 h5).1
  omega
 have hput := oG cs (p + k) v.cells.toList (by rw [Array.length_toList]; omega)
 have hsize : (putAt cs (p + k) v.cells.toList).size = cs.size := by
  unfold putAt; rw [List.size_toArray]; simp only [List.length_append, List.length_take, List.length_drop, Array.length_toList]; omega
 refine EJ hK q hS ho hx hy hk hT (decide_eq_true (by omega)) h1 fun m' hl hS' => hp m' _ hl hS' hsize (hE.put m' u' ecs' _ hR hl (hr m' hl) fun i => ?_)
 rw [hput]
 simp only [Array.length_toList]
 by_cases c1 : p ≤ i ∧ i < p + sz
 · rw [if_pos c1, he]
   have t1 : (ecs.take k).length = k := by simp; omega
   by_cases c2 : p + k ≤ i ∧ i < p + k + v.cells.size
   · rw [if_pos c2, List.append_assoc, List.getElem?_append_right (by omega), List.getElem?_append_left (by rw [t1, Array.length_toList]; omega), t1]
     congr 1; omega
   · rw [if_neg c2]
     have hi : ecs[i - p]? = cs[i]? := by
      have := hE.get (i - p) ecs[i - p] (by simp)
      rw [show p + (i - p) = i by omega] at this
      rw [this]; simp
     by_cases c3 : i < p + k
     · rw [List.append_assoc, List.getElem?_append_left (by omega), List.getElem?_take, if_pos (by omega)]; exact hi.symm
     · rw [List.append_assoc, List.getElem?_append_right (by omega), List.getElem?_append_right (by rw [t1, Array.length_toList]; omega), List.getElem?_drop, t1, Array.length_toList]
       rw [show k + v.cells.size + (i - p - k - v.cells.size) = i - p by omega]; exact hi.symm
 · rw [if_neg c1, if_neg (by omega)]
theorem Ch {b p k j : Nat} {v : Value} {T : TypeId} {ecs : List Value} (hR : lB R sz) (hE : A7 R m sz b cs ad cap l j p u ecs) (hK : Ke a K) (q : Nat) (hS : St B m0 m L) (ho : o.op = .store t x y) (hx : ed K x = some (.pointer (some ⟨b, p + k, none⟩))) (hy : ed K y = some v) (hk : L[q]? = some (.arr (some b) cs T))
 (hT : (gR P t).map (·.2) = some v.cells.size) (h1 : v.cells.toList.all (·.oneCell') = true) (hfit : decide (k + v.cells.size ≤ sz) = true) (u' : α) (ecs' : List Value) (he : ecs' = ecs.take k ++ v.cells.toList ++ ecs.drop (k + v.cells.size)) (hr : ∀ m', Le m m' → R m' u' ecs')
 (hp : ∀ m' cs', Le m m' → St B m0 m' (.arr (some b) cs' T :: L.eraseIdx q) → cs'.size = cs.size → eh R m' sz (some b) cs' ad cap (l.set j u') → aL undef m'.w) : ab P o a m.w aL :=
 IG hR hE hK 0 (hS.front q hk).toBox ho hx hy rfl hT h1 (of_decide_eq_true hfit) u' ecs' he hr fun m' cs' hl hS' hsz hA => hp m' cs' hl (St.toArr hS') hsz hA
theorem A7.mono {b j p : Nat} {ecs : List Value} (hR : lB R sz) (h : A7 R m sz b cs ad cap l j p u ecs) {m' : Mem} (k : Le m m') : A7 R m' sz b cs ad cap l j p u ecs :=
 ⟨h.lt, hR.mono h.rel k, h.len, h.get, fun m'' u' e c hR' hl => h.put m'' u' e c hR' (k.trans hl)⟩
theorem IH {b p k j : Nat} {v : Value} {T : TypeId} {ecs : List Value} (hR : lB R sz) (hg : g = some b) (hE : A7 R m sz b cs ad cap l j p u ecs) (hK : Ke a K) (q : Nat) (hS : St B m0 m L) (ho : o.op = .store t x y) (hx : ed K x = some (.pointer (some ⟨b, p + k, none⟩))) (hy : ed K y = some v) (hk : L[q]? = some (.arr g cs T))
 (hT : (gR P t).map (·.2) = some v.cells.size) (h1 : v.cells.toList.all (·.oneCell') = true) (hfit : decide (k + v.cells.size ≤ sz) = true) (u' : α) (hr : ∀ m', Le m m' → R m' u' (ecs.take k ++ v.cells.toList ++ ecs.drop (k + v.cells.size)))
 (hp : ∀ m' cs', Le m m' → St B m0 m' (.arr g cs' T :: L.eraseIdx q) → eh R m' sz g cs' ad cap (l.set j u') → aL undef m'.w) : ab P o a m.w aL := by
 subst hg; exact Ch hR hE hK q hS ho hx hy hk hT h1 hfit u' _ rfl hr fun m' cs' h2 h3 _ h5 => hp m' cs' h2 h3 h5
structure QV {α : Type} (R : Mem → α → List Value → Prop) : Prop where
 move : ∀ {m m' : Mem} {x : α} {cs : List Value}, R m x cs → (∀ b o v, (∃ u, v = U8 u) → m.ok b o → m.w.cell? ⟨b, o, none⟩ = some v → m'.ok b o ∧ m'.w.cell? ⟨b, o, none⟩ = some v) → R m' x cs
 no : (∀ {m : Mem} {x : α} {cs : List Value}, R m x cs → ∀ v ∈ cs, ∀ u, v ≠ U8 u) ∨ (∀ {m m' : Mem} {x : α} {cs : List Value}, R m x cs → R m' x cs)
theorem DG {k : IntKind} {i : Int} (hT : cq P t e zv sz bytes) (hE : eh R m sz g cs ad cap l) (hx : fY l i = some l') (hK : Ke a K) (ho : o.op = .slice t x (some y) none none) (hxx : ed K x = some (.slice ad l.length cap)) (hy : ed K y = some (.int k i))
 (hp : ∀ a' c', eh R m sz g cs a' c' l' → aL (.slice a' l'.length c') m.w) : ab P o a m.w aL := by
 unfold fY at hx
 split at hx
 · rename_i hi
   cases hx
   obtain ⟨j, rfl⟩ : ∃ j : Nat, i = (j : Int) := ⟨i.toNat, by omega⟩
   have hj : j ≤ l.length := by omega
   have hc := hE.nN.2.2
   have := iw (P := P) (w := m.w) hT ad l.length cap j l.length (some (.int k j)) none (by simp only [Instr.sliceBounds, Sem.run_bind, Sem.run_pure, Result.andThen_ok, cN hj])
   unfold ab execOp
   simp only [ho, Option.map_some, Option.map_none, hK.ev hxx, hK.ev hy, Sem.run_bind, this, Result.andThen_ok, Sem.run_pure]
   have h2 := hE.cut j l.length cap hj (Nat.le_refl _) hc (Nat.le_refl _)
   rw [List.take_of_length_le (Nat.le_refl _)] at h2
   have h3 := hp (cW ad cap j sz) (cap - j) (by simpa using h2)
   rw [List.length_drop, Int.toNat_natCast] at h3
   exact h3
 · cases hx
theorem IE {k : IntKind} {i : Int} (hT : cq P t e zv sz bytes) (hE : eh R m sz g cs ad cap l) (hx : jg l i = some l') (hK : Ke a K) (ho : o.op = .slice t x none (some y) none) (hxx : ed K x = some (.slice ad l.length cap)) (hy : ed K y = some (.int k i))
 (hp : eh R m sz g cs ad cap l' → aL (.slice ad l'.length cap) m.w) : ab P o a m.w aL := by
 obtain ⟨j, rfl, hj, rfl⟩ := rD hx
 have hc := hE.nN.2.2
 have := iw (P := P) (w := m.w) hT ad l.length cap 0 j none (some (.int k j)) (by simp only [Instr.sliceBounds, Sem.run_bind, Sem.run_pure, Result.andThen_ok, cN (Nat.le_trans hj hc)])
 unfold ab execOp
 simp only [ho, Option.map_some, Option.map_none, hK.ev hxx, hK.ev hy, Sem.run_bind, this, Result.andThen_ok, Sem.run_pure, eU, Nat.sub_zero]
 have h2 := hE.cut 0 j cap (Nat.zero_le _) hj (Nat.le_trans hj hc) (Nat.le_refl _)
 rw [eU, Nat.sub_zero, List.drop_zero] at h2
 have h3 := hp h2
 rw [List.length_take, Nat.min_eq_left hj] at h3
 exact h3
theorem Iv {cap2 : Nat} {l2 : List α} {a2 : Option Addr} (hT : cq P t e zv sz bytes) (hR : lB R sz) (hx : app bytes l l2 = some l') (hK : Ke a K) (q : Nat) (hS : St B m0 m L) (hk : L[q]? = some (.arr g cs e)) (hsz : ∀ b, g = some b → cs.size = cap * sz) (hE : eh R m sz g cs (dW g) cap l) (hE2 : cC R m sz a2 cap2 l2)
 (ho : o.op = .call ⟨.builtin .append, #[x, y], #[t, t]⟩) (hxx : ed K x = some (.slice (dW g) l.length cap)) (hy : ed K y = some (.slice a2 l2.length cap2)) (hb : decide (1 ≤ bytes) = true)
 (hp : ∀ m' g' cs' cap', Le m m' → St B m0 m' (.arr g' cs' e :: L.eraseIdx q) → (∀ b, g' = some b → cs'.size = cap' * sz) → eh R m' sz g' cs' (dW g') cap' l' → aL (.slice (dW g') l'.length cap') m'.w) : ab P o a m.w aL := by
 obtain ⟨hlen, rfl⟩ := mC hx
 have hmul : l.length + l2.length ≤ (l.length + l2.length) * bytes := Nat.le_mul_of_pos_right _ (of_decide_eq_true hb)
 have h1 := hS.front q hk
 let R0 : Mem → α → List Value → Prop := fun _ x c => R m x c
 have hR0 : lB R0 sz := ⟨fun h _ => h, fun h => hR.size h, fun h => hR.one h, hR.pos⟩
 have hbk : ∀ b, g = some b → m.w.heap[b]? = some (.cells cs e (0, 0)) := h1.ow.ok (.arr g cs e) (List.mem_cons_self ..)
 let X : Nat → Nat → Prop := fun c o => g = some c ∧ o < l.length * sz
 have hO : Ow m [.arr g cs e] := Ow.left (L := [.arr g cs e]) h1.ow
 have hg1 := (St.refl hO).oq (e' := rowOf e sz g cap l) X (fun c o hc => by simp [az.arr]; exact hc.1) (fun b hb => ⟨cs, hbk b hb, hsz b hb⟩) (fun c hc => by simpa [az.arr, rowOf, az.row] using hc) (by cases g <;> simp [rowOf, az.row])
  (fun c hc o' hf => ⟨trivial, fun hX => by simp only [rowOf, az.row] at hf; exact absurd hX.2 (by omega)⟩)
 have hl1 : Le m (m.oq X) := Le.oq m X
 obtain ⟨css, c1, c2, c3, c4, c5, c6⟩ := hE
 have hcl := pq c1 c2
 have hE1 : cC R0 (m.oq X) sz (dW g) cap l := by
  refine ⟨css, ⟨by rw [db sz css hcl, c1], c3, c4, c5, fun j v hv => ?_⟩, c1, fun i x c hx hc => c2 i x c hx hc⟩
  have hj : j < css.flatten.length := (List.getElem?_eq_some_iff.1 hv).1
  rw [db sz css hcl, c1] at hj
  have hc0 : 0 < cap := by
   refine Nat.pos_of_ne_zero fun h0 => ?_
   have : l.length = 0 := by omega
   rw [this] at hj; simp at hj
  obtain ⟨b, o', hgb, ha, ho'⟩ := c6 hc0
  have : o' = 0 := by rw [hgb] at ha; simpa using (by simpa using ha : (0 : Nat) = o').symm
  subst this
  refine ⟨b, 0, ha, ⟨.inr ⟨hgb, by omega⟩, jE (hbk b hgb)⟩, ?_⟩
  show m.w.cell? _ = _
  rw [cell_of_row _ _ _ _ _ _ (hbk b hgb), Nat.zero_add]; simpa using ho' j v hv
 have hE2' : cC R0 (m.oq X) sz a2 cap2 l2 := by
  obtain ⟨dss, d1, d2, d3⟩ := hE2
  exact ⟨dss, d1.mono hl1, d2, d3⟩
 obtain ⟨g', cap', m', hrun, hle', hS', hEl⟩ := wG (P := P) (ty := o.type) hT hR0 (St.refl hg1.ow) hE1 hE2' hlen (by unfold maxLen; omega)
 have hle : Le m m' := hl1.trans hle'
 have hrow : ∀ b, g' = some b → ∃ cur, m'.w.heap[b]? = some (.cells cur e (0, 0)) ∧ cur.size = cap' * sz := hS'.ow.ok (rowOf e sz g' cap' (l ++ l2)) (by simp)
 obtain ⟨cs', hcs'⟩ : ∃ cs' : Array Value, ∀ b, g' = some b → m'.w.heap[b]? = some (.cells cs' e (0, 0)) ∧ cs'.size = cap' * sz := by
  cases g' with
  | none => exact ⟨#[], fun b h => by cases h⟩
  | some b => obtain ⟨cur, h2, h3⟩ := hrow b rfl; exact ⟨cur, fun b' h => by cases h; exact ⟨h2, h3⟩⟩
 let m2 : Mem := ⟨m'.w, m.ok⟩
 have hlm : Le m m2 := ⟨hle.os, hle.tape, hle.output, hle.size, fun b o' hb => ⟨⟨hb, Nat.lt_of_lt_of_le hb.2 hle.size⟩, (hle.same b o' hb).2⟩⟩
 have hblk : ∀ b, g' = some b → g = some b ∨ m.w.heap.size ≤ b := fun b hgb => by
  have := hS'.wJ b (by simp [rowOf, az.row, hgb])
  rcases this with h | h
  · simp [rowOf, az.row] at h; exact .inl h
  · exact .inr h
 have k : St (ak [az.arr g cs e]) m m2 [.arr g' cs' e] := by
  refine ⟨hlm, fun b hb hn => ?_, fun b o' hb => .inl hb.1, ⟨by cases g' <;> simp [az.arr], fun x hx => ?_, fun x hx c hc o' _ hm => ?_⟩, fun b hb => ?_⟩
  · have := hS'.kept b hb (by simpa [rowOf, az.row, az.arr] using hn)
    exact this
  · simp at hx; subst hx; exact fun b hb => (hcs' b hb).1
  · simp at hx; subst hx
    have hgc : g' = some c := by simpa [az.arr] using hc
    rcases hblk c hgc with h | h
    · exact hO.apart (.arr g cs e) (by simp) c (by simp [az.arr, h]) o' trivial hm.1
    · exact absurd hm.1.2 (by omega)
  · have hgc : g' = some b := by simpa [az.arr] using hb
    rcases hblk b hgc with h | h
    · exact .inl (by simp [az.arr, h])
    · exact .inr h
 have hfin := St.frame (L := [az.arr g cs e]) h1 k
 obtain ⟨ess, e1, e2, e3⟩ := hEl
 have hAS : eh R m2 sz g' cs' (dW g') cap' (l ++ l2) := by
  refine ⟨ess, e2, fun i x c hx hc => ⟨(e3 i x c hx hc).1, hR.mono (e3 i x c hx hc).2 hlm⟩, e1.2.1, e1.2.2.1, e1.2.2.2.1, fun hc0 => ?_⟩
  cases hgg : g' with
  | none => have := e1.2.2.2.1 (by rw [hgg]; rfl); omega
  | some b =>
    refine ⟨b, 0, rfl, rfl, fun j v hv => ?_⟩
    obtain ⟨b', o', ha, _, hc⟩ := e1.2.2.2.2 j v hv
    rw [hgg] at ha
    cases ha
    rw [cell_of_row _ _ _ _ _ _ (hcs' b hgg).1] at hc
    simpa using hc
 unfold ab execOp
 simp only [ho, resolve, invoke, builtin, Sem.run_bind, Sem.run_pure, Result.andThen_ok, List.map_toArray, List.map_cons, List.map_nil, hK.ev hxx, hK.ev hy]
 have hrun' : (Builtin.append_ #[t, t] o.type #[.slice (dW g) l.length cap, .slice a2 l2.length cap2]).run P m.w = .ok (.slice (dW g') (l ++ l2).length cap') m'.w := hrun
 rw [hrun']
 exact hp m2 g' cs' cap' hlm hfin (fun b hb => (hcs' b hb).2) hAS
theorem Gd {k : IntKind} {i : Int} {n : Nat} (hT : cq P t e zv sz bytes) (hi : 0 ≤ i ∧ i ≤ (n : Int)) (hc : n ≤ cap) (hK : Ke a K) (ho : o.op = .slice t x (some y) none none) (hxx : ed K x = some (.slice ad n cap)) (hy : ed K y = some (.int k i))
 (hp : aL (.slice (cW ad cap i.toNat sz) (n - i.toNat) (cap - i.toNat)) m.w) : ab P o a m.w aL := by
 obtain ⟨j, rfl⟩ : ∃ j : Nat, i = (j : Int) := ⟨i.toNat, by omega⟩
 have hj : j ≤ n := by omega
 have := iw (P := P) (w := m.w) hT ad n cap j n (some (.int k j)) none (by simp only [Instr.sliceBounds, Sem.run_bind, Sem.run_pure, Result.andThen_ok, cN hj])
 unfold ab execOp
 simp only [ho, Option.map_some, Option.map_none, hK.ev hxx, hK.ev hy, Sem.run_bind, this, Result.andThen_ok, Sem.run_pure]
 exact hp
def qL {α : Type} (R : Mem → α → List Value → Prop) (m : Mem) (sz : Nat) (g : Option Nat) (cs : Array Value) (cap : Nat) (l : List α) : Prop := eh R m sz g cs (dW g) cap l ∧ ∀ b, g = some b → cs.size = cap * sz
theorem qL.mono (hR : lB R sz) (h : qL R m sz g cs cap l) {m' : Mem} (k : Le m m') : qL R m' sz g cs cap l := ⟨h.1.mono hR k, h.2⟩
theorem qL.nil (m : Mem) (sz : Nat) (cs : Array Value) : qL R m sz none cs 0 ([] : List α) := ⟨eh.nil m sz cs, fun b h => by cases h⟩
theorem Gf {b p k j : Nat} {v : Value} {T : TypeId} {ecs : List Value} (hF : qL R m sz g cs cap l) (hR : lB R sz) (hg : g = some b) (hE : A7 R m sz b cs (dW g) cap l j p u ecs) (hK : Ke a K) (q : Nat) (hS : St B m0 m L) (ho : o.op = .store t x y) (hx : ed K x = some (.pointer (some ⟨b, p + k, none⟩))) (hy : ed K y = some v) (hk : L[q]? = some (.arr g cs T))
 (hT : (gR P t).map (·.2) = some v.cells.size) (h1 : v.cells.toList.all (·.oneCell') = true) (hfit : decide (k + v.cells.size ≤ sz) = true) (u' : α) (hr : ∀ m', Le m m' → R m' u' (ecs.take k ++ v.cells.toList ++ ecs.drop (k + v.cells.size)))
 (hp : ∀ m' cs', Le m m' → St B m0 m' (.arr g cs' T :: L.eraseIdx q) → qL R m' sz g cs' cap (l.set j u') → aL undef m'.w) : ab P o a m.w aL := by
 subst hg; exact Ch hR hE hK q hS ho hx hy hk hT h1 hfit u' _ rfl hr fun m' cs' h2 h3 h4 h5 => hp m' cs' h2 h3 ⟨h5, fun b hb => by rw [h4]; exact hF.2 b hb⟩
theorem Iy {cap2 : Nat} {l2 : List α} {a2 : Option Addr} (hT : cq P t e zv sz bytes) (hR : lB R sz) (hx : app bytes l l2 = some l') (hK : Ke a K) (q : Nat) (hS : St B m0 m L) (hk : L[q]? = some (.arr g cs e)) (hE : qL R m sz g cs cap l) (hE2 : cC R m sz a2 cap2 l2)
 (ho : o.op = .call ⟨.builtin .append, #[x, y], #[t, t]⟩) (hxx : ed K x = some (.slice (dW g) l.length cap)) (hy : ed K y = some (.slice a2 l2.length cap2)) (hb : decide (1 ≤ bytes) = true)
 (hp : ∀ m' g' cs' cap', Le m m' → St B m0 m' (.arr g' cs' e :: L.eraseIdx q) → qL R m' sz g' cs' cap' l' → aL (.slice (dW g') l'.length cap') m'.w) : ab P o a m.w aL :=
 Iv hT hR hx hK q hS hk hE.2 hE.1 hE2 ho hxx hy hb fun m' g' cs' cap' h1 h2 h3 h4 => hp m' g' cs' cap' h1 h2 ⟨h4, h3⟩
end
section
variable {P : Program} {o : Oper} {a : Act} {K : Kt} {B : List Nat} {m0 m : Mem} {L : List az} {aL : Value → World → Prop} {x y : Operand} {t t2 e : TypeId} {zv : Value} {bytes : Nat} {g : Option Nat} {cs : Array Value} {ad : Option Addr} {cap off n c2 : Nat} {T : TypeId} {l x2 : List UInt8} {a2 : Option Addr}
theorem JC {α : Type} {l x : List α} {o : Nat} (h : o + x.length ≤ l.length) (j : Nat) : (Jg l o x)[j]? = if o ≤ j ∧ j < o + x.length then x[j - o]? else l[j]? := by
 have hl : (l.take o).length = o := by simp; omega
 unfold Jg
 rw [List.take_of_length_le (l := x) (by omega)]
 by_cases h1 : j < o
 · rw [if_neg (by omega), List.getElem?_append_left (by omega), List.getElem?_take, if_pos h1]
 · rw [List.getElem?_append_right (by omega), hl]
   by_cases h2 : j < o + x.length
   · rw [if_pos ⟨by omega, h2⟩, List.getElem?_append_left (by omega)]
   · rw [if_neg (by omega), List.getElem?_append_right (by omega), List.getElem?_drop, show o + x.length + (j - o - x.length) = j by omega]
theorem wa : ∀ l : List UInt8, (l.map fun u => [U8 u]).flatten = l.map U8
 | [] => rfl
 | u :: l => by rw [List.map_cons, List.flatten_cons, wa l]; rfl
theorem eh.G3 (h : eh nM m 1 g cs ad cap l) : 0 < cap → ∃ b o, g = some b ∧ ad = some ⟨b, o, none⟩ ∧ ∀ j u, l[j]? = some u → cs[o + j]? = some (U8 u) := by
 intro hc
 obtain ⟨css, h1, h2, _, _, _, h6⟩ := h
 obtain ⟨b, o, hg, ha, h7⟩ := h6 hc
 refine ⟨b, o, hg, ha, fun j u hu => h7 j _ ?_⟩
 have hj := (List.getElem?_eq_some_iff.1 hu).1
 have hcj : css[j]? = some (css[j]'(by omega)) := List.getElem?_eq_getElem _
 have e : css[j]'(by omega) = [U8 u] := (h2 j u _ hu hcj).2
 rw [e] at hcj
 have := fj 1 css (fun i c hc => by
  have hi := (List.getElem?_eq_some_iff.1 hc).1
  exact (h2 i (l[i]'(by omega)) c (List.getElem?_eq_getElem _) hc).1) j 0 _ _ hcj rfl
 simpa using this
theorem eh.ofBytes {b ofs : Nat} (hl : l.length ≤ cap) (hm : cap ≤ maxLen) (h : ∀ j u, l[j]? = some u → cs[ofs + j]? = some (U8 u)) : eh nM m 1 (some b) cs (some ⟨b, ofs, none⟩) cap l := by
 refine ⟨l.map fun u => [U8 u], by simp, fun i u c hu hc => ?_, hl, hm, (fun h => by cases h), fun _ => ⟨b, ofs, rfl, rfl, fun j v hv => ?_⟩⟩
 · rw [List.getElem?_map, hu] at hc
   cases hc
   exact ⟨rfl, rfl⟩
 · rw [wa, List.getElem?_map] at hv
   cases hu : l[j]? with
   | none => rw [hu] at hv; cases hv
   | some u => rw [hu] at hv; cases hv; exact h j u hu
theorem KD (hT : cq P t e zv 1 bytes) (hK : Ke a K) (k : Nat) (hS : St B m0 m L) (hk : L[k]? = some (.arr g cs T)) (hA : eh nM m 1 g cs ad cap l) (hfit : off + n ≤ l.length)
 (hsrc : ∀ q, q ≤ x2.length → (Builtin.firstCells 1 q (.slice a2 x2.length c2)).run P m.w = .ok ((x2.take q).map U8).toArray m.w)
 (ho : o.op = .call ⟨.builtin .copy, #[x, y], #[t, t2]⟩) (hx : ed K x = some (.slice (cW ad cap off 1) n (cap - off))) (hy : ed K y = some (.slice a2 x2.length c2))
 (hp : ∀ m' cs', Le m m' → St B m0 m' (.arr g cs' T :: L.eraseIdx k) → eh nM m' 1 g cs' ad cap (Jg l off (x2.take n)) → cs'.size = cs.size → aL (.int .i64 (dr x2.length n)) m'.w) : ab P o a m.w aL := by
 have hq : (dr (x2.length : Int) (n : Int)) = ((Nat.min x2.length n : Nat) : Int) := by
  unfold dr
  rcases Nat.lt_or_ge n x2.length with h | h
  · rw [if_pos (by omega), show Nat.min x2.length n = n from Nat.min_eq_right (by omega)]
  · rw [if_neg (by omega), show Nat.min x2.length n = x2.length from Nat.min_eq_left h]
 have hle : Nat.min x2.length n ≤ x2.length := Nat.min_le_left _ _
 have hle2 : Nat.min x2.length n ≤ n := Nat.min_le_right _ _
 have hf := hsrc (Nat.min x2.length n) hle
 have htk : x2.take (Nat.min x2.length n) = x2.take n := by
  rcases Nat.lt_or_ge n x2.length with h | h
  · rw [show Nat.min x2.length n = n from Nat.min_eq_right (by omega)]
  · rw [show Nat.min x2.length n = x2.length from Nat.min_eq_left h, List.take_length, List.take_of_length_le h]
 rw [htk] at hf
 have hlen : ((x2.take n).map U8).length = Nat.min x2.length n := by simp [Nat.min_comm]
 rw [hq] at hp
 by_cases hz : (x2.take n) = []
 · have hrun : (Builtin.copy_ #[t, t2] o.type #[.slice (cW ad cap off 1) n (cap - off), .slice a2 x2.length c2]).run P m.w = .ok (.int .i64 (Nat.min x2.length n : Nat)) m.w := by
    rw [hz] at hf
    cases hc : cW ad cap off 1 <;> simp [Builtin.copy_, run_underlying hT.iE, Builtin.lenOf, iz hT, hf, goInt, storeCells]
   unfold ab execOp
   simp only [ho, resolve, invoke, builtin, Sem.run_bind, Sem.run_pure, Result.andThen_ok, List.map_toArray, List.map_cons, List.map_nil, hK.ev hx, hK.ev hy, hrun]
   refine hp m cs (Le.refl m) (hS.front k hk) ?_ rfl
   rw [hz]
   have : Jg l off ([] : List UInt8) = l := by unfold Jg; simp
   rw [this]; exact hA
 · have hn0 : 0 < (x2.take n).length := List.length_pos_iff.2 hz
   have hlen2 : (x2.take n).length ≤ n := by simp; omega
   have h63 := hA.nN
   obtain ⟨b, ofs, rfl, rfl, hcell⟩ := hA.G3 (by omega)
   have hsz : ofs + l.length ≤ cs.size := by
    have := hcell (l.length - 1) (l[l.length - 1]'(by omega)) (List.getElem?_eq_getElem _)
    have := (Array.getElem?_eq_some_iff.1 this).1
    omega
   have hcut : cW (some (⟨b, ofs, none⟩ : Addr)) cap off 1 = some ⟨b, ofs + off, none⟩ := by
    unfold cW
    rw [if_neg (by omega), Nat.mul_one, Option.map_some, Addr.add_mid]
   rw [hcut] at hx
   have hS0 := hS.front k hk
   have hS1 := hS0.toBox
   have hb := hS1.wK 0 rfl
   have hst := run_storeCells_at P b (ofs + off) T ((x2.take n).map U8) 0 cs m.w hb (by rw [List.length_map]; omega) (fun u hu => by
    obtain ⟨c, _, rfl⟩ := List.mem_map.1 hu; rfl)
   simp only [Nat.add_zero] at hst
   have hput := oG cs (ofs + off) ((x2.take n).map U8) (by rw [List.length_map]; omega)
   have hpsz : (putAt cs (ofs + off) ((x2.take n).map U8)).size = cs.size := by
    unfold putAt; rw [List.size_toArray]; simp only [List.length_append, List.length_take, List.length_drop, Array.length_toList, List.length_map]; simp only [List.length_take] at hlen2; omega
   have hrun : (Builtin.copy_ #[t, t2] o.type #[.slice (some ⟨b, ofs + off, none⟩) n (cap - off), .slice a2 x2.length c2]).run P m.w = .ok (.int .i64 (Nat.min x2.length n : Nat)) (m.w.setRow b (putAt cs (ofs + off) ((x2.take n).map U8))) := by
    generalize hxs : (x2.take n).map U8 = xs at *
    simp [Builtin.copy_, run_underlying hT.iE, Builtin.lenOf, iz hT, hf, hst, putAt, goInt]
   generalize hcs' : putAt cs (ofs + off) ((x2.take n).map U8) = cs' at *
   have hw : m.w.grownBy (m.w.setRow b cs') (some b) := ⟨rfl, rfl, rfl, by simp, fun k' _ hk' => setRow_other m.w b k' _ (fun e => hk' (by rw [e]))⟩
   have hS2 := hS1.write hw (by simp) (setRow_heap m.w b cs _ T _ hb)
   have hr := (St.refl hS1.ow).write hw (by simp) (setRow_heap m.w b cs _ T _ hb)
   unfold ab execOp
   simp only [ho, resolve, invoke, builtin, Sem.run_bind, Sem.run_pure, Result.andThen_ok, List.map_toArray, List.map_cons, List.map_nil, hK.ev hx, hK.ev hy, hrun]
   refine hp ⟨_, m.ok⟩ cs' hr.le hS2.toArr ?_ hpsz
   have hcl : (Jg l off (x2.take n)).length = l.length := wX (by omega)
   obtain ⟨_, _, _, h3, h4, _⟩ := hA
   refine eh.ofBytes (by rw [hcl]; exact h3) h4 fun j u hu => ?_
   rw [JC (by omega)] at hu
   rw [hput, List.length_map]
   by_cases hj : off ≤ j ∧ j < off + (x2.take n).length
   · rw [if_pos hj] at hu
     rw [if_pos ⟨by omega, by omega⟩, List.getElem?_map, show ofs + j - (ofs + off) = j - off by omega, hu]; rfl
   · rw [if_neg hj] at hu
     rw [if_neg (by omega)]; exact hcell j u hu
end
section
variable {α : Type} {R : Mem → α → List Value → Prop} {sz : Nat} {P : Program} {o : Oper} {a : Act} {K : Kt} {B : List Nat} {m0 m : Mem} {L : List az} {aL : Value → World → Prop} {x : Operand} {t e : TypeId} {zv : Value} {bytes : Nat} {g : Option Nat} {cs : Array Value} {ad : Option Addr} {cap off n : Nat} {T : TypeId} {l : List α} {z : α}
theorem zc {β : Type} (c : List β) : ∀ (n j : Nat), (List.replicate n c).flatten[j]? = if j < n * c.length then c[j % c.length]? else none
 | 0, j => by simp
 | n + 1, j => by
   rw [List.replicate_succ, List.flatten_cons]
   by_cases h : j < c.length
   · rw [List.getElem?_append_left h, Nat.mod_eq_of_lt h, if_pos (by rw [Nat.succ_mul]; omega)]
   · rw [List.getElem?_append_right (by omega), zc c n, Nat.succ_mul]
     by_cases h2 : j < n * c.length + c.length
     · rw [if_pos (by omega), if_pos h2, Nat.mod_eq_sub_mod (a := j) (by omega)]
     · rw [if_neg (by omega), if_neg h2]
theorem Cd {β : Type} {sz : Nat} {c : List β} (h : c.length = sz) (n : Nat) : ∀ (i : Nat) (d : List β), (List.replicate n c)[i]? = some d → d.length = sz := fun i d hd => by
 rw [List.getElem?_replicate] at hd
 split at hd
 · cases hd; exact h
 · cases hd
theorem jx {β : Type} {l : List β} {n i : Nat} {d : β} (h : (l.take n)[i]? = some d) : l[i]? = some d := by
 rw [List.getElem?_take] at h
 split at h
 · exact h
 · cases h
theorem DW (c : Array Value) (n : Nat) : (Builtin.zeroCells c n).toList = (List.replicate n c.toList).flatten := by
 refine List.ext_getElem? fun j => ?_
 rw [zc, Array.length_toList]
 unfold Builtin.zeroCells
 rw [Array.toList_map, List.getElem?_map, Array.toList_range]
 by_cases h : j < n * c.size
 · rw [if_pos h, List.getElem?_range h, Option.map_some, Array.getElem?_toList]
   have hp : 0 < c.size := Nat.pos_of_ne_zero fun e => by rw [e, Nat.mul_zero] at h; omega
   have hm := Nat.mod_lt j hp
   rw [getElem?_pos c _ hm, getElem!_pos c _ hm]
 · rw [if_neg h, List.getElem?_eq_none (by simp; omega)]; rfl
theorem eh.P6 (hA : eh R m sz g cs ad cap l) {m' : Mem} (hmo : ∀ x c, R m x c → R m' x c) {c : List Value} (hc : c.length = sz) (hz : R m' z c) {b ofs : Nat} (hg : g = some b) (had : ad = some ⟨b, ofs, none⟩) (hfit : off + n ≤ l.length) {cs' : Array Value} (hcs : ∀ q, cs'[q]? = if ofs + off * sz ≤ q ∧ q < ofs + off * sz + n * sz then (List.replicate n c).flatten[q - (ofs + off * sz)]? else cs[q]?) :
 eh R m' sz g cs' ad cap (yk l off n z) := by
 unfold yk
 obtain ⟨css, h1, h2, h3, h4, h5, h6⟩ := hA
 have hcl := pq h1 h2
 have e1 : (css.take off).length = off := by simp; omega
 have e2 : (l.take off).length = off := by simp; omega
 refine ⟨css.take off ++ (List.replicate n c ++ css.drop (off + n)), by simp; omega, fun i x d hx hd => ?_, by simp; omega, h4, h5, fun hp => ?_⟩
 · by_cases c1 : i < off
   · rw [List.getElem?_append_left (by omega), List.getElem?_take, if_pos c1] at hx hd
     exact ⟨(h2 i x d hx hd).1, hmo _ _ (h2 i x d hx hd).2⟩
   · rw [List.getElem?_append_right (by omega), e1] at hd
     rw [List.getElem?_append_right (by omega), e2] at hx
     by_cases c2 : i - off < n
     · rw [List.getElem?_append_left (by simpa using c2), List.getElem?_replicate, if_pos c2] at hx hd
       cases hx; cases hd; exact ⟨hc, hz⟩
     · rw [List.getElem?_append_right (by simp; omega), List.length_replicate, List.getElem?_drop] at hx hd
       exact ⟨(h2 _ x d hx hd).1, hmo _ _ (h2 _ x d hx hd).2⟩
 · obtain ⟨b', o', hg', ha', hcc⟩ := h6 hp
   rw [hg] at hg'; cases hg'
   rw [had] at ha'; cases ha'
   refine ⟨b, ofs, hg, had, fun j v hv => ?_⟩
   have f1 : (css.take off).flatten.length = off * sz := by
    rw [db sz _ fun k d hk => hcl k d (jx hk), e1]
   have f2 : (List.replicate n c).flatten.length = n * sz := by
    rw [db sz _ (Cd hc n), List.length_replicate]
   rw [List.flatten_append, List.flatten_append] at hv
   rw [hcs]
   by_cases c1 : j < off * sz
   · rw [List.getElem?_append_left (by omega), ← kz sz css off hcl, List.getElem?_take, if_pos c1] at hv
     rw [if_neg (by omega)]; exact hcc j v hv
   · rw [List.getElem?_append_right (by omega), f1] at hv
     by_cases c2 : j - off * sz < n * sz
     · rw [List.getElem?_append_left (by omega)] at hv
       rw [if_pos ⟨by omega, by omega⟩, show ofs + j - (ofs + off * sz) = j - off * sz by omega]; exact hv
     · rw [List.getElem?_append_right (by omega), f2, ← ku sz css (off + n) hcl, List.getElem?_drop] at hv
       rw [if_neg (by omega)]
       exact hcc j v (by rw [show (off + n) * sz + (j - off * sz - n * sz) = j by rw [Nat.add_mul]; omega] at hv; exact hv)
theorem IB (hR : lB R sz) (hT : cq P t e zv sz bytes) (hK : Ke a K) (k : Nat) (hS : St B m0 m L) (hk : L[k]? = some (.arr g cs T)) (hA : eh R m sz g cs ad cap l) (hfit : off + n ≤ l.length) (hz : R m z zv.cells.toList) (h1 : ∀ u ∈ zv.cells.toList, u.oneCell' = true)
 (ho : o.op = .call ⟨.builtin .clear, #[x], #[t]⟩) (hx : ed K x = some (.slice (cW ad cap off sz) n (cap - off)))
 (hp : ∀ m' cs', Le m m' → St B m0 m' (.arr g cs' T :: L.eraseIdx k) → eh R m' sz g cs' ad cap (yk l off n z) → cs'.size = cs.size → aL (.tuple #[]) m'.w) : ab P o a m.w aL := by
 by_cases hz0 : n = 0
 · subst hz0
   have hrun : (Builtin.clear_ #[t] o.type #[.slice (cW ad cap off sz) 0 (cap - off)]).run P m.w = .ok (.tuple #[]) m.w := by
    cases hc : cW ad cap off sz <;> simp [Builtin.clear_, run_underlying hT.iE]
   unfold ab execOp
   simp only [ho, resolve, invoke, builtin, Sem.run_bind, Sem.run_pure, Result.andThen_ok, List.map_toArray, List.map_cons, List.map_nil, hK.ev hx, hrun]
   refine hp m cs (Le.refl m) (hS.front k hk) ?_ rfl
   simpa [yk] using hA
 · have hcap := hA.nN
   have hpos := hR.pos
   have hA0 := hA
   obtain ⟨css, q1, q2, q3, q4, q5, q6⟩ := hA0
   have hcl := pq q1 q2
   obtain ⟨b, ofs, hg, had, hcell⟩ := q6 (by omega)
   have hfl : css.flatten.length = l.length * sz := by rw [db sz css hcl, q1]
   have hlp : 0 < l.length * sz := Nat.mul_pos (by omega) hpos
   have hsz : ofs + l.length * sz ≤ cs.size := by
    have := hcell (l.length * sz - 1) (css.flatten[l.length * sz - 1]'(by omega)) (List.getElem?_eq_getElem _)
    have := (Array.getElem?_eq_some_iff.1 this).1
    omega
   have hcut : cW ad cap off sz = some ⟨b, ofs + off * sz, none⟩ := by
    unfold cW
    rw [if_neg (by omega), had, Option.map_some, Addr.add_mid]
   rw [hcut] at hx
   have hS0 := hS.front k hk
   rw [hg] at hS0
   have hS1 := hS0.toBox
   have hb := hS1.wK 0 rfl
   have hzl : zv.cells.toList.length = sz := by rw [Array.length_toList]; exact hT.zs
   have hrl : (List.replicate n zv.cells.toList).flatten.length = n * sz := by
    rw [db sz _ (Cd hzl n), List.length_replicate]
   have hle2 : (off + n) * sz ≤ l.length * sz := Nat.mul_le_mul_right _ hfit
   rw [Nat.add_mul] at hle2
   have hst := run_storeCells_at P b (ofs + off * sz) T (List.replicate n zv.cells.toList).flatten 0 cs m.w hb (by rw [hrl]; omega) (fun u hu => by
    obtain ⟨c, hc, hu⟩ := List.mem_flatten.1 hu
    rw [List.eq_of_mem_replicate hc] at hu; exact h1 u hu)
   simp only [Nat.add_zero] at hst
   have hput := oG cs (ofs + off * sz) (List.replicate n zv.cells.toList).flatten (by rw [hrl]; omega)
   have hpsz : (putAt cs (ofs + off * sz) (List.replicate n zv.cells.toList).flatten).size = cs.size := by
    unfold putAt; rw [List.size_toArray]; simp only [List.length_append, List.length_take, List.length_drop, Array.length_toList, hrl]; omega
   have hzr : (zeroValue e).run P m.w = .ok zv m.w := by
    obtain ⟨i, h1, h2, h3, h4⟩ := info_parts hT.info
    simp [zeroValue, typeInfo, h1, h2]
   have hrun : (Builtin.clear_ #[t] o.type #[.slice (some ⟨b, ofs + off * sz, none⟩) n (cap - off)]).run P m.w = .ok (.tuple #[]) (m.w.setRow b (putAt cs (ofs + off * sz) (List.replicate n zv.cells.toList).flatten)) := by
    have hzf := DW zv.cells n
    generalize (List.replicate n zv.cells.toList).flatten = xs at *
    obtain ⟨n', rfl⟩ : ∃ n', n = n' + 1 := ⟨n - 1, by omega⟩
    simp [Builtin.clear_, run_underlying hT.iE, hzr, hzf, hst, putAt]
   generalize hcs' : putAt cs (ofs + off * sz) (List.replicate n zv.cells.toList).flatten = cs' at *
   have hw : m.w.grownBy (m.w.setRow b cs') (some b) := ⟨rfl, rfl, rfl, by simp, fun k' _ hk' => setRow_other m.w b k' _ (fun e => hk' (by rw [e]))⟩
   have hS2 := hS1.write hw (by simp) (setRow_heap m.w b cs _ T _ hb)
   have hr := (St.refl hS1.ow).write hw (by simp) (setRow_heap m.w b cs _ T _ hb)
   unfold ab execOp
   simp only [ho, resolve, invoke, builtin, Sem.run_bind, Sem.run_pure, Result.andThen_ok, List.map_toArray, List.map_cons, List.map_nil, hK.ev hx, hrun]
   refine hp ⟨_, m.ok⟩ cs' hr.le (by rw [hg]; exact hS2.toArr) ?_ hpsz
   refine hA.P6 (fun _ _ hh => hR.mono hh hr.le) hzl (hR.mono hz hr.le) hg had hfit fun q => ?_
   rw [hput, hrl]
end
section
variable {P : Program} {B : List Nat} {m0 m : Mem} {L : List az} {g : Option Nat} {cs : Array Value} {ad : Option Addr} {cap off n c2 : Nat} {T : TypeId} {l : List UInt8} {a2 : Option Addr}
theorem EM (hE : cC nM m 1 a2 c2 l) (q : Nat) (hq : q ≤ l.length) : (Builtin.firstCells 1 q (.slice a2 l.length c2)).run P m.w = .ok ((l.take q).map U8).toArray m.w := by
 have hsl := hE.LF
 cases a2 with
 | none =>
   have : l = [] := hE.sP
   subst this
   simp [Builtin.firstCells]
 | some ad =>
   exact run_firstCells_some (P := P) m.w 1 q ad l.length c2 ((l.take q).map U8) (by rw [List.length_map, List.length_take]; omega) (fun j u hu => by
    have hu' : (l.map U8)[j]? = some u := by
     rw [List.getElem?_map, List.getElem?_take] at hu
     rw [List.getElem?_map]
     split at hu
     · exact hu
     · cases hu
    obtain ⟨b', o', ha, _, hc⟩ := hsl.2.2.2.2 j u hu'
    cases ha; rw [Addr.add_mid]; exact hc)
theorem IM (k : Nat) (hS : St B m0 m L) (hk : L[k]? = some (.arr g cs T)) (hA : eh nM m 1 g cs ad cap l) (hfit : off + n ≤ l.length) (q : Nat) (hq : q ≤ n) : (Builtin.firstCells 1 q (.slice (cW ad cap off 1) n c2)).run P m.w = .ok ((((l.drop off).take n).take q).map U8).toArray m.w := by
 by_cases hz : q = 0
 · subst hz
   cases cW ad cap off 1 with
   | none => simp [Builtin.firstCells]
   | some z => exact run_firstCells_some (P := P) m.w 1 0 z n c2 [] rfl (fun j u hu => by simp at hu)
 · have h63 := hA.nN
   obtain ⟨b, ofs, rfl, rfl, hcell⟩ := hA.G3 (by omega)
   have hcut : cW (some (⟨b, ofs, none⟩ : Addr)) cap off 1 = some ⟨b, ofs + off, none⟩ := by
    unfold cW
    rw [if_neg (by omega), Nat.mul_one, Option.map_some, Addr.add_mid]
   rw [hcut]
   have hb := (hS.front k hk).toBox.wK 0 rfl
   refine run_firstCells_some (P := P) m.w 1 q ⟨b, ofs + off, none⟩ n c2 _ (by simp only [List.length_map, List.length_take, List.length_drop]; omega) (fun j u hu => ?_)
   rw [List.getElem?_map] at hu
   rw [Addr.add_mid, cell_of_row _ _ _ _ _ _ hb]
   cases hj : (((l.drop off).take n).take q)[j]? with
   | none => rw [hj] at hu; cases hu
   | some v =>
     rw [hj] at hu; cases hu
     rw [List.getElem?_take] at hj
     split at hj
     · rw [List.getElem?_take] at hj
       split at hj
       · rw [List.getElem?_drop] at hj
         have := hcell _ _ hj
         rw [Nat.add_assoc]; exact this
       · cases hj
     · cases hj
end
end Go.Proofs.YtekpafdhgkocaaaGreat
