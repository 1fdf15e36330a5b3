/- Part of what the laws need: plain words, the walker and its laws, the program's functions. -/
import Derived.Test.YtekpafdhgkocaaaGreatZRule
namespace Go.Proofs.YtekpafdhgkocaaaGreat
open Go.RowKit
namespace D
def writer (ops : Array Oper) (t : Tmp) : Option Nat := (List.range ops.size).find? fun i => (ops[i]?).bind (·.dst) == some t
inductive K4 (ops : Array Oper) (i : Nat) : Nat → Prop
 | at_ {j : Nat} {o : Oper} {e : Edge} : ops[j]? = some o → e ∈ o.after → Region.binds .any e = true → e.on = i → K4 ops i j
 | step {j : Nat} {o : Oper} {e : Edge} : ops[j]? = some o → e ∈ o.after → Region.binds .any e = true → K4 ops i e.on → K4 ops i j
def Bp (i : Nat) : List Oper → Nat → Nat → Nat
 | [], _, acc => acc
 | o :: os, j, acc => cond (o.after.any fun e => Region.binds .any e && (Nat.beq e.on i || acc.testBit e.on)) (Bp i os (j + 1) (acc ||| 1 <<< j)) (Bp i os (j + 1) acc)
def CP (ops : Array Oper) (i j : Nat) : Bool := (Bp i ops.toList 0 0).testBit j
theorem Jp {α : Type} {xs : Array α} {p : α → Bool} (h : xs.any p = true) : ∃ e, e ∈ xs ∧ p e = true := by
 rw [← Array.any_toList, List.any_eq_true] at h
 obtain ⟨e, he, hp⟩ := h
 exact ⟨e, by simpa using he, hp⟩
theorem nW {ops : Array Oper} {i : Nat} : ∀ (os : List Oper) (j acc : Nat), os = ops.toList.drop j → (∀ k, acc.testBit k = true → K4 ops i k) → ∀ k, (Bp i os j acc).testBit k = true → K4 ops i k
 | [], _, _, _, h, k, hk => h k hk
 | o :: os, j, acc, hd, h, k, hk => by
   have ho : ops[j]? = some o := by
    have h1 : (o :: os)[0]? = (ops.toList.drop j)[0]? := by rw [hd]
    rw [List.getElem?_drop] at h1
    simpa using h1.symm
   have hd' : os = ops.toList.drop (j + 1) := by rw [← List.drop_drop, ← hd]; rfl
   unfold Bp at hk
   cases hc : (o.after.any fun e => Region.binds .any e && (Nat.beq e.on i || acc.testBit e.on)) with
   | false => rw [hc] at hk; exact nW os (j + 1) acc hd' h k hk
   | true =>
     rw [hc] at hk
     refine nW os (j + 1) _ hd' (fun q hq => ?_) k hk
     rw [Nat.testBit_or, Bool.or_eq_true] at hq
     rcases hq with hq | hq
     · exact h q hq
     · have : q = j := by
        simp only [Nat.testBit_shiftLeft, Bool.and_eq_true, decide_eq_true_eq, ge_iff_le, Nat.testBit_one_eq_true_iff_self_eq_zero] at hq
        omega
       subst this
       obtain ⟨e, he, hee⟩ := Jp hc
       simp only [Bool.and_eq_true, Bool.or_eq_true, Nat.beq_eq] at hee
       rcases hee.2 with h2 | h2
       · exact .at_ ho he hee.1 h2
       · exact .step ho he hee.1 (h _ h2)
theorem tJ {ops : Array Oper} {i j : Nat} (h : CP ops i j = true) : K4 ops i j := nW ops.toList 0 0 rfl (fun k hk => by simp at hk) j h
def I4 (ops : Array Oper) (n i : Nat) : Bool :=
 match ops[i]? with
 | none => true
 | some o =>
   (match o.dst with | some d => writer ops d == some i && decide (d < n) | none => true) &&
   (o.after.all fun e => !Region.binds .any e || decide (e.on < i)) &&
   ((o.looksAt ops).all fun t => match writer ops t with | none => true | some j => CP ops j i || CP ops i j || j == i)
def tidy (ops : Array Oper) (n : Nat) : Bool := (List.range ops.size).all (I4 ops n)
section
variable {ops : Array Oper} {n : Nat}
theorem NT {t : Tmp} {j : Nat} (h : writer ops t = some j) : ∃ o, ops[j]? = some o ∧ o.dst = some t := by
 have := List.find?_some h
 simp only [beq_iff_eq] at this
 cases ho : ops[j]? with
 | none => simp [ho] at this
 | some o => exact ⟨o, rfl, by simpa [ho] using this⟩
def kC (l : Array Bool) (i : Nat) : Prop := l.getD i false = true
theorem xf {l : Array Bool} {i : Nat} (hi : i < l.size) : l.getD i true = false ↔ ¬ kC l i := by
 unfold kC; simp [hi]
theorem yD (n i : Nat) : ¬ kC (Array.replicate n false) i := by
 unfold kC
 by_cases h : i < n <;> simp [h]
def left (ops : Array Oper) (l : Array Bool) : Nat := (List.range ops.size).countP fun i => l.getD i true == false
theorem KH {l : Array Bool} {i : Nat} (hi : i < l.size) (k : Nat) : kC (l.setIfInBounds i true) k ↔ k = i ∨ kC l k := by
 unfold kC
 by_cases h : i = k
 · subst h; simp [hi]
 · rw [Go.getD_set_ne false h]; simp [Ne.symm h]
theorem yV {p q : Nat → Bool} : ∀ (L : List Nat) (i : Nat), i ∈ L → (∀ x, q x = true → p x = true) → p i = true → q i = false → L.countP q < L.countP p
 | [], i, h, _, _, _ => by cases h
 | x :: L, i, h, hpq, hp, hq => by
   by_cases hx : x = i
   · subst hx
     rw [List.countP_cons_of_pos hp, List.countP_cons_of_neg (by simp [hq])]
     exact Nat.lt_succ_of_le (List.countP_mono_left fun y _ hy => hpq y hy)
   · have hm : i ∈ L := by cases h with | head => exact absurd rfl hx | tail _ h => exact h
     have := yV L i hm hpq hp hq
     by_cases hqx : q x = true
     · rw [List.countP_cons_of_pos hqx, List.countP_cons_of_pos (hpq x hqx)]; omega
     · rw [List.countP_cons_of_neg hqx]
       by_cases hpx : p x = true
       · rw [List.countP_cons_of_pos hpx]; omega
       · rw [List.countP_cons_of_neg hpx]; omega
theorem BP {l : Array Bool} {i : Nat} (hl : l.size = ops.size) (hi : i < ops.size) (h : ¬ kC l i) : left ops (l.setIfInBounds i true) < left ops l := by
 refine yV _ i (List.mem_range.2 hi) (fun x hx => ?_) ?_ ?_
 · by_cases e : i = x
   · subst e; simp [hl, hi] at hx
   · rw [Go.getD_set_ne true e] at hx; exact hx
 · simp only [beq_iff_eq]; exact (xf (by omega)).2 h
 · simp [hl, hi]
theorem fK {a : Act} {d : Tmp} {v : Value} (h : d < a.tmps.size) : (a.put (some d) v).eval (.tmp d) = v := by
 simp [Act.eval, Act.put, h]
theorem pP (h : tidy ops n = true) {i : Nat} {o : Oper} (ho : ops[i]? = some o) :
 (∀ d, o.dst = some d → writer ops d = some i ∧ d < n) ∧ (∀ e ∈ o.after, Region.binds .any e = true → e.on < i) ∧
 (∀ t ∈ o.looksAt ops, ∀ j, writer ops t = some j → CP ops j i = true ∨ CP ops i j = true ∨ j = i) := by
 have hi : i < ops.size := (Array.getElem?_eq_some_iff.1 ho).1
 have h1 := List.all_eq_true.1 h i (List.mem_range.2 hi)
 simp only [I4, ho, Bool.and_eq_true] at h1
 obtain ⟨⟨h1, h2⟩, h3⟩ := h1
 refine ⟨fun d hd => ?_, fun e he hb => ?_, fun t ht j hj => ?_⟩
 · simp only [hd, Bool.and_eq_true, beq_iff_eq, decide_eq_true_eq] at h1; exact h1
 · have := Array.all_eq_true_iff_forall_mem.1 h2 e he
   simpa [hb] using this
 · have := List.all_eq_true.1 h3 t ht
   simp only [hj, Bool.or_eq_true, beq_iff_eq] at this
   rcases this with (h | h) | h
   · exact .inl h
   · exact .inr (.inl h)
   · exact .inr (.inr h)
theorem GS (ht : tidy ops n = true) {l : Array Bool} (hl : l.size = ops.size) (hr : Region.ready .any ops l = []) : ∀ i, i < ops.size → kC l i := by
 intro i
 induction i using Nat.strongRecOn with
 | _ i ih =>
   intro hi
   refine Classical.byContradiction fun hn => ?_
   have ho : ops[i]? = some ops[i] := by simp [hi]
   have : i ∈ Region.ready .any ops l := Go.mem_ready.2 ⟨(xf (by omega)).2 hn, ops[i], ho, fun e he hb => ih e.on ((pP ht ho).2.1 e he hb) (by have := (pP ht ho).2.1 e he hb; omega)⟩
   rw [hr] at this; cases this
theorem Jo {l : Array Bool} (hc : ∀ j o, ops[j]? = some o → kC l j → ∀ e ∈ o.after, Region.binds .any e = true → kC l e.on) {i j : Nat} (h : K4 ops i j) : (∀ o, ops[j]? = some o → ∀ e ∈ o.after, Region.binds .any e = true → kC l e.on) → kC l i := by
 induction h with
 | at_ ho he hb h => intro hall; exact h ▸ hall _ ho _ he hb
 | step ho he hb _ ih => intro hall; exact ih fun o' ho' => hc _ o' ho' (hall _ ho _ he hb)
theorem wE {l : Array Bool} (hc : ∀ j o, ops[j]? = some o → kC l j → ∀ e ∈ o.after, Region.binds .any e = true → kC l e.on) (i j : Nat) (o : Oper) (ho : ops[j]? = some o)
 (hall : ∀ e ∈ o.after, Region.binds .any e = true → kC l e.on) (h : CP ops i j = true) : kC l i :=
 Jo hc (tJ h) fun o' ho' => by rw [ho] at ho'; cases ho'; exact hall
end
abbrev Rs := List (Value → World → Prop)
def at_ (rs : Rs) (i : Nat) : Value → World → Prop := if i < rs.length then rs.getD (rs.length - 1 - i) (fun _ _ => True) else fun _ _ => True
abbrev Qg := List (List (Tmp × Option Nat) × Nat × Nat × Bool)
def NU (ops : Array Oper) (rs : Rs) (a0 : Act) (t : Tmp) (v : Value) (w : World) : Prop :=
 match writer ops t with
 | none => v = a0.eval (.tmp t)
 | some j => if j < rs.length then at_ rs j v w else v = a0.eval (.tmp t)
structure Ends (ops : Array Oper) (rs : Rs) (a0 : Act) (a : Act) (w : World) : Prop where
 size : a.tmps.size = a0.tmps.size
 defers : a.defers = a0.defers
 OV : ∀ t, NU ops rs a0 t (a.eval (.tmp t)) w
def low (lo : Nat) (m : Bool) : Nat := if m then lo + 1 else lo
abbrev G (m : Mem) (w w' : World) : Prop := Le (m.up w) (m.up w')
section
variable {P : Program} {ops : Array Oper} {Q : Exit → Act → World → Prop} {rr : Option Nat} {a0 : Act} {Gr : World → World → Prop} {S : Nat → World → Prop} {N : Nat} {tail : List Oper}
structure Inv (ops : Array Oper) (k0 : Nat) (muts : List Nat) (plan : Qg) (S : Nat → World → Prop) (rs : Rs) (a0 : Act) (l : Array Bool) (a : Act) (w : World) : Prop where
 sO : l.size = ops.size
 pre : ∀ i, i < ops.size → kC l i → i < k0
 size : a.tmps.size = a0.tmps.size
 defers : a.defers = a0.defers
 done : ∀ i o d, ops[i]? = some o → kC l i → o.dst = some d → at_ rs i (a.eval (.tmp d)) w
 rest : ∀ t, (∀ i o, ops[i]? = some o → kC l i → o.dst ≠ some t) → a.eval (.tmp t) = a0.eval (.tmp t)
 closed : ∀ j o, ops[j]? = some o → kC l j → ∀ e ∈ o.after, Region.binds .any e = true → kC l e.on
 OW : ∃ k, k ≤ muts.length ∧ S k w ∧ (∀ j m, muts[j]? = some m → (kC l m ↔ j < k)) ∧ (∀ j p, plan[j]? = some p → j < ops.size → kC l j → low p.2.1 p.2.2.2 ≤ k)
end
theorem LQ (m : Mem) (w : World) : G m w w := Le.refl _
def SL (B : List Nat) (m0 m : Mem) (L : Nat → List az) : Nat → World → Prop := fun k w => Le m (m.up w) ∧ St B m0 (m.up w) (L k)
theorem xp {m m' : Mem} (h : Le m m') : Le m (m.up m'.w) :=
 ⟨h.os, h.tape, h.output, h.size, fun b o hb => ⟨⟨.inl hb, Nat.lt_of_lt_of_le hb.2 h.size⟩, (h.same b o hb).2⟩⟩
theorem Ot {m m' : Mem} {w : World} (h : Le (m.up w) m') : G m w m'.w :=
 ⟨h.os, h.tape, h.output, h.size, fun b o hb => ⟨⟨hb.1, Nat.lt_of_lt_of_le hb.2 h.size⟩, (h.same b o hb).2⟩⟩
section
variable {B : List Nat} {m0 m m' : Mem} {L L' : List az} {w : World}
theorem OM (h : St B m0 m L) (h' : St B m0 m' L') (hl : Le m m') (hlt : ∀ b ∈ ak L', b < m.w.heap.size) : St B m0 (m.up m'.w) L' := by
 refine ⟨h.le.trans (xp hl), fun b hb hB => h'.kept b hb hB, fun b o ho => ?_, ⟨h'.ow.nodup, fun e he => h'.ow.ok e he, fun e he b hb o hf hm => ?_⟩, h'.wJ⟩
 · rcases ho.1 with h1 | h1
   · exact h.news b o h1
   · exact .inr (.inl (Nat.le_trans h.le.size h1))
 · rcases hm.1 with h1 | h1
   · exact h'.ow.apart e he b hb o hf (hl.same b o h1).1
   · have := hlt b (bH.2 ⟨e, he, hb⟩); omega
theorem start (h : St B m0 m L) : Le m (m.up m.w.drew) ∧ St B m0 (m.up m.w.drew) L := by
 have h1 := h.drew
 exact ⟨Le.up m (Below.refl _ _).drew, h1⟩
theorem Hy {L'' : List az} (h : St [] (m.up w) m' L'') (hl : m.w.heap.size ≤ w.heap.size) : Le m' (m.up m'.w) :=
 ⟨rfl, rfl, rfl, Nat.le_refl _, fun b o ho => ⟨⟨(h.news b o ho).elim (fun h1 => h1.1) (fun h1 => h1.elim (fun h1 => .inr (Nat.le_trans hl h1)) (fun h1 => absurd h1 (by simp))), ho.2⟩, rfl⟩⟩
end
theorem fin {B : List Nat} {m0 m : Mem} {Lk : Nat → List az} {N : Nat} {ops : Array Oper} {rs : Rs} {a0 : Act} {X : Act → World → Prop}
 (h : ∀ a m1, m.up m1.w = m1 → Le m m1 → St B m0 m1 (Lk N) → Ends ops rs a0 a m1.w → X a m1.w) : ∀ a w, SL B m0 m Lk N w → Ends ops rs a0 a w → X a w :=
 fun a w hb hE => h a (m.up w) rfl hb.1 hb.2 hE
section
variable {P : Program} {o : Oper} {a : Act} {K : Kt} {ds : List Deferred} {B : List Nat} {m0 m : Mem} {Lk : Nat → List az} {k : Nat} {w : World} {f : FuncId} {R : Value → World → Prop}
theorem val {v : Value} {S : World → Prop} (hb : S w) (h : ∀ aL : Value → World → Prop, aL v w → ab P o a w aL) (hR : R v w) : ab P o a w fun v w' => R v w' ∧ G m w w' ∧ S w' :=
 h _ ⟨hR, LQ m w, hb⟩
theorem call {c : Callee} {xs : Array Operand} {ats : Array TypeId} {g : Operand} {first cap : Array Value} {vs : List Value} {Q : Value → Mem → List az → Prop} (h0 : St B m0 m (Lk 0)) (hlt : ∀ b ∈ ak (Lk k), b < m.w.heap.size) (hb : SL B m0 m Lk k w) (hK : Ke a K) (hf : tH P f) (ho : o.op = .call ⟨c, xs, ats⟩) (hc : c = .value g) (hg : ed K g = some (.func (.func f) first cap)) (hv : wZ K xs.toList = some vs)
 {args : Array Value} (hs : Spec P f args (m.up w) [] Q) (ha : first ++ vs.toArray ++ cap = args)
 (hR : ∀ v m' L', Le m' (m.up m'.w) → Le (m.up w) m' → Q v m' L' → R v m'.w) : ab P o a w fun v w' => R v w' ∧ G m w w' ∧ SL B m0 m Lk k w' := by
 subst ha
 unfold ab
 have := Iq (m := m.up w) hK hf ho hc hg hv
 rw [show (m.up w).w = w from rfl] at this
 rw [this]
 refine Calls.mono hs fun e w' ⟨v, m', L', h1, h2, h3, h4⟩ => ⟨v, h1, ?_⟩
 subst h2
 have hl : Le m m' := hb.1.trans h3.le
 have hS : St B m0 m' (Lk k) := by
  have := hb.2.call (L' := L') h3
  exact ⟨this.le, this.kept, this.news, Ow.right this.ow, fun b hb' => this.wJ b (by rw [bF]; exact List.mem_append_right _ hb')⟩
 exact ⟨hR v m' L' (Hy (L'' := L') h3 hb.1.size) h3.le h4, Ot h3.le, xp hl, OM h0 hS hl hlt⟩
theorem lit {t elem : TypeId} {len : Nat} {parts : Array (Nat × Operand)} (cells : Array Value) (h0 : St B m0 m (Lk 0)) (hlt : ∀ b ∈ ak (Lk k), b < m.w.heap.size) (hb : SL B m0 m Lk k w) (hK : Ke a K) (ho : o.op = .buildSlice t len parts) (hk : known K o.op = true)
 (hrun : (execOp (Qq K) o).run P w = .ok (.value (.slice (some ⟨w.heap.size, 0, none⟩) len len)) (w.alloc (.cells cells elem (0, 0))))
 (hR : ∀ w' b, Le (m.up w) (m.up w') → At (m.up w') b 0 cells.toList → R (.slice (some ⟨b, 0, none⟩) len len) w') : ab P o a w fun v w' => R v w' ∧ G m w w' ∧ SL B m0 m Lk k w' := by
 unfold ab
 rw [C7 hK hk, hrun]
 have hg : Below w.heap.size w (w.alloc (.cells cells elem (0, 0))) := (Below.refl _ _).alloc (Nat.le_refl _) _
 have h1 : Le (m.up w) ((m.up w).up (w.alloc (.cells cells elem (0, 0)))) := Le.up (m.up w) hg
 have hl : Le (m.up w) (m.up (w.alloc (.cells cells elem (0, 0)))) := Ot h1
 have hS := hb.2.HO (.cells cells elem (0, 0))
 refine ⟨hR _ _ hl fun k v hv => ⟨⟨.inr hb.1.size, by simp [Mem.up]⟩, ?_⟩, hl, xp (hb.1.trans h1), OM h0 hS (hb.1.trans h1) hlt⟩
 show (w.alloc _).cell? _ = _
 rw [cell_of_row _ _ _ _ _ _ (cI _ _), Nat.zero_add]; simpa using hv
end
def Q9 (T : TypeId) (w : World) (b : Nat) : Prop := ∃ cs c, w.heap[b]? = some (.cells cs T c)
end D
end Go.Proofs.YtekpafdhgkocaaaGreat
