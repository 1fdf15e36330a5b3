/- A region that draws its order: one obligation for each operation serves every order; what must come behind everything else is walked in its order. Over any program. -/
import Derived.Test.YthnhjibbkleneaaRule
namespace Go.Proofs.Ythnhjibbkleneaa
open Go.RowKit
namespace D
/-- The operation that writes slot t. -/
def writer (ops : Array Oper) (t : Tmp) : Option Nat := (List.range ops.size).find? fun i => (ops[i]?).bind (·.dst) == some t
/-- Operation i must come before operation j. -/
inductive Anc (ops : Array Oper) (i : Nat) : Nat → Prop
  | at_ {j : Nat} {o : Oper} {e : Edge} : ops[j]? = some o → e ∈ o.after → Region.binds .any e = true → e.on = i → Anc ops i j
  | step {j : Nat} {o : Oper} {e : Edge} : ops[j]? = some o → e ∈ o.after → Region.binds .any e = true → Anc ops i e.on → Anc ops i j
/-- The operations that operation i must come before, as the bits of a number. -/
def befGo (i : Nat) : List Oper → Nat → Nat → Nat
  | [], _, acc => acc
  | o :: os, j, acc => cond (o.after.any fun e => Region.binds .any e && (Nat.beq e.on i || acc.testBit e.on)) (befGo i os (j + 1) (acc ||| 1 <<< j)) (befGo i os (j + 1) acc)
def bef (ops : Array Oper) (i j : Nat) : Bool := (befGo i ops.toList 0 0).testBit j
theorem any_mem {α : Type} {xs : Array α} {p : α → Bool} (h : xs.any p = true) : ∃ e, e ∈ xs ∧ p e = true := by
  rw [← Array.any_toList, List.any_eq_true] at h
  obtain ⟨e, he, hp⟩ := h
  exact ⟨e, by simpa using he, hp⟩
theorem befGo_sound {ops : Array Oper} {i : Nat} : ∀ (os : List Oper) (j acc : Nat), os = ops.toList.drop j → (∀ k, acc.testBit k = true → Anc ops i k) → ∀ k, (befGo i os j acc).testBit k = true → Anc ops i k
  | [], _, _, _, h, k, hk => h k hk
  | o :: os, j, acc, hd, h, k, hk => by
    have ho : ops[j]? = some o := by
      have h1 : (o :: os)[0]? = (ops.toList.drop j)[0]? := by rw [hd]
      rw [List.getElem?_drop] at h1
      simpa using h1.symm
    have hd' : os = ops.toList.drop (j + 1) := by rw [← List.drop_drop, ← hd]; rfl
    unfold befGo at hk
    cases hc : (o.after.any fun e => Region.binds .any e && (Nat.beq e.on i || acc.testBit e.on)) with
    | false => rw [hc] at hk; exact befGo_sound os (j + 1) acc hd' h k hk
    | true =>
      rw [hc] at hk
      refine befGo_sound os (j + 1) _ hd' (fun q hq => ?_) k hk
      rw [Nat.testBit_or, Bool.or_eq_true] at hq
      rcases hq with hq | hq
      · exact h q hq
      · have : q = j := by
          simp only [Nat.testBit_shiftLeft, Bool.and_eq_true, decide_eq_true_eq, ge_iff_le, Nat.testBit_one_eq_true_iff_self_eq_zero] at hq
          omega
        subst this
        obtain ⟨e, he, hee⟩ := any_mem hc
        simp only [Bool.and_eq_true, Bool.or_eq_true, Nat.beq_eq] at hee
        rcases hee.2 with h2 | h2
        · exact .at_ ho he hee.1 h2
        · exact .step ho he hee.1 (h _ h2)
theorem bef_sound {ops : Array Oper} {i j : Nat} (h : bef ops i j = true) : Anc ops i j := befGo_sound ops.toList 0 0 rfl (fun k hk => by simp at hk) j h
def tidyOp (ops : Array Oper) (n i : Nat) : Bool :=
  match ops[i]? with
  | none => true
  | some o =>
    (match o.dst with | some d => writer ops d == some i && decide (d < n) | none => true) &&
    (o.after.all fun e => !Region.binds .any e || decide (e.on < i)) &&
    ((o.looksAt ops).all fun t => match writer ops t with | none => true | some j => bef ops j i || bef ops i j || j == i)
def tidy (ops : Array Oper) (n : Nat) : Bool := (List.range ops.size).all (tidyOp ops n)
section
variable {ops : Array Oper} {n : Nat}
theorem writer_of {t : Tmp} {j : Nat} (h : writer ops t = some j) : ∃ o, ops[j]? = some o ∧ o.dst = some t := by
  have := List.find?_some h
  simp only [beq_iff_eq] at this
  cases ho : ops[j]? with
  | none => simp [ho] at this
  | some o => exact ⟨o, rfl, by simpa [ho] using this⟩
theorem writer_some {t : Tmp} {i : Nat} {o : Oper} (ho : ops[i]? = some o) (hd : o.dst = some t) : writer ops t ≠ none := by
  intro h
  have hi : i < ops.size := (Array.getElem?_eq_some_iff.1 ho).1
  have := List.find?_eq_none.1 h i (List.mem_range.2 hi)
  simp [ho, hd] at this

def isL (l : Array Bool) (i : Nat) : Prop := l.getD i false = true
theorem isL_of {l : Array Bool} {i : Nat} (hi : i < l.size) : l.getD i true = false ↔ ¬ isL l i := by
  unfold isL; simp [hi]

theorem not_isL_start (n i : Nat) : ¬ isL (Array.replicate n false) i := by
  unfold isL
  by_cases h : i < n <;> simp [h]
def left (ops : Array Oper) (l : Array Bool) : Nat := (List.range ops.size).countP fun i => l.getD i true == false
theorem set_isL {l : Array Bool} {i : Nat} (hi : i < l.size) (k : Nat) : isL (l.setIfInBounds i true) k ↔ k = i ∨ isL l k := by
  unfold isL
  by_cases h : i = k
  · subst h; simp [hi]
  · rw [Go.getD_set_ne false h]; simp [Ne.symm h]
theorem countP_lt {p q : Nat → Bool} : ∀ (L : List Nat) (i : Nat), i ∈ L → (∀ x, q x = true → p x = true) → p i = true → q i = false → L.countP q < L.countP p
  | [], i, h, _, _, _ => by cases h
  | x :: L, i, h, hpq, hp, hq => by
    by_cases hx : x = i
    · subst hx
      rw [List.countP_cons_of_pos hp, List.countP_cons_of_neg (by simp [hq])]
      exact Nat.lt_succ_of_le (List.countP_mono_left fun y _ hy => hpq y hy)
    · have hm : i ∈ L := by cases h with | head => exact absurd rfl hx | tail _ h => exact h
      have := countP_lt L i hm hpq hp hq
      by_cases hqx : q x = true
      · rw [List.countP_cons_of_pos hqx, List.countP_cons_of_pos (hpq x hqx)]; omega
      · rw [List.countP_cons_of_neg hqx]
        by_cases hpx : p x = true
        · rw [List.countP_cons_of_pos hpx]; omega
        · rw [List.countP_cons_of_neg hpx]; omega
theorem left_set {l : Array Bool} {i : Nat} (hl : l.size = ops.size) (hi : i < ops.size) (h : ¬ isL l i) : left ops (l.setIfInBounds i true) < left ops l := by
  refine countP_lt _ i (List.mem_range.2 hi) (fun x hx => ?_) ?_ ?_
  · by_cases e : i = x
    · subst e; simp [hl, hi] at hx
    · rw [Go.getD_set_ne true e] at hx; exact hx
  · simp only [beq_iff_eq]; exact (isL_of (by omega)).2 h
  · simp [hl, hi]
theorem put_eval_same {a : Act} {d : Tmp} {v : Value} (h : d < a.tmps.size) : (a.put (some d) v).eval (.tmp d) = v := by
  simp [Act.eval, Act.put, h]

theorem tidy_op (h : tidy ops n = true) {i : Nat} {o : Oper} (ho : ops[i]? = some o) :
    (∀ d, o.dst = some d → writer ops d = some i ∧ d < n) ∧ (∀ e ∈ o.after, Region.binds .any e = true → e.on < i) ∧
    (∀ t ∈ o.looksAt ops, ∀ j, writer ops t = some j → bef ops j i = true ∨ bef ops i j = true ∨ j = i) := by
  have hi : i < ops.size := (Array.getElem?_eq_some_iff.1 ho).1
  have h1 := List.all_eq_true.1 h i (List.mem_range.2 hi)
  simp only [tidyOp, ho, Bool.and_eq_true] at h1
  obtain ⟨⟨h1, h2⟩, h3⟩ := h1
  refine ⟨fun d hd => ?_, fun e he hb => ?_, fun t ht j hj => ?_⟩
  · simp only [hd, Bool.and_eq_true, beq_iff_eq, decide_eq_true_eq] at h1; exact h1
  · have := Array.all_eq_true_iff_forall_mem.1 h2 e he
    simpa [hb] using this
  · have := List.all_eq_true.1 h3 t ht
    simp only [hj, Bool.or_eq_true, beq_iff_eq] at this
    rcases this with (h | h) | h
    · exact .inl h
    · exact .inr (.inl h)
    · exact .inr (.inr h)
theorem all_done (ht : tidy ops n = true) {l : Array Bool} (hl : l.size = ops.size) (hr : Region.ready .any ops l = []) : ∀ i, i < ops.size → isL l i := by
  intro i
  induction i using Nat.strongRecOn with
  | _ i ih =>
    intro hi
    refine Classical.byContradiction fun hn => ?_
    have ho : ops[i]? = some ops[i] := by simp [hi]
    have : i ∈ Region.ready .any ops l := Go.mem_ready.2 ⟨(isL_of (by omega)).2 hn, ops[i], ho, fun e he hb => ih e.on ((tidy_op ht ho).2.1 e he hb) (by have := (tidy_op ht ho).2.1 e he hb; omega)⟩
    rw [hr] at this; cases this
/-- What is done holds all that must come before it. -/
theorem anc_all {l : Array Bool} (hc : ∀ j o, ops[j]? = some o → isL l j → ∀ e ∈ o.after, Region.binds .any e = true → isL l e.on) {i j : Nat} (h : Anc ops i j) : (∀ o, ops[j]? = some o → ∀ e ∈ o.after, Region.binds .any e = true → isL l e.on) → isL l i := by
  induction h with
  | at_ ho he hb h => intro hall; exact h ▸ hall _ ho _ he hb
  | step ho he hb _ ih => intro hall; exact ih fun o' ho' => hc _ o' ho' (hall _ ho _ he hb)
theorem anc_listed {l : Array Bool} (hc : ∀ j o, ops[j]? = some o → isL l j → ∀ e ∈ o.after, Region.binds .any e = true → isL l e.on) (i j : Nat) (o : Oper) (ho : ops[j]? = some o)
    (hall : ∀ e ∈ o.after, Region.binds .any e = true → isL l e.on) (h : bef ops i j = true) : isL l i :=
  anc_all hc (bef_sound h) fun o' ho' => by rw [ho] at ho'; cases ho'; exact hall
end


abbrev Rs := List (Value → World → Prop)
def at_ (rs : Rs) (i : Nat) : Value → World → Prop := if i < rs.length then rs.getD (rs.length - 1 - i) (fun _ _ => True) else fun _ _ => True
theorem at_append (rs : Rs) (R : Value → World → Prop) (i : Nat) (h : i < rs.length) : at_ (R :: rs) i = at_ rs i := by
  unfold at_
  rw [if_pos h, if_pos (by simp; omega)]
  obtain ⟨k, hk⟩ : ∃ k, rs.length - 1 - i = k := ⟨_, rfl⟩
  rw [hk, List.length_cons, show rs.length + 1 - 1 - i = k + 1 by omega]
  simp
theorem at_last (rs : Rs) (R : Value → World → Prop) : at_ (R :: rs) rs.length = R := by
  unfold at_
  rw [if_pos (by simp), List.length_cons, show rs.length + 1 - 1 - rs.length = 0 by omega]
  simp
/-- For each operation: the slots that it looks at, each with the distance to its writer; the stages in which it may come up; is it a mutator? -/
abbrev Plan := List (List (Tmp × Option Nat) × Nat × Nat × Bool)
def slotOk (ops : Array Oper) (i : Nat) (o : Oper) (p : Tmp × Option Nat) : Bool :=
  (o.looksAt ops).contains p.1 && (match writer ops p.1, p.2 with
      | none, none => true
      | some j, some k => decide (j + k + 1 = i) && bef ops j i
      | some j, none => !bef ops j i
      | none, some _ => false)
def planOk (ops : Array Oper) (muts : List Nat) (i : Nat) (o : Oper) (p : List (Tmp × Option Nat) × Nat × Nat × Bool) : Bool :=
  p.1.all (slotOk ops i o) && (muts.take p.2.1).all (fun m => bef ops m i) && (match muts[p.2.2.1]? with | some m => bef ops i m || i == m | none => true) &&
  (if p.2.2.2 then p.2.1 == p.2.2.1 && muts[p.2.1]? == some i else !muts.contains i) && decide (p.2.1 ≤ muts.length)
def goodPlan (ops : Array Oper) (k0 : Nat) (muts : List Nat) (plan : Plan) : Bool :=
  ((List.range k0).all fun i => match ops[i]?, plan[i]? with
    | some o, some p => planOk ops muts i o p
    | _, _ => false) && (muts.all fun m => decide (m < k0)) && ((List.range muts.length).all fun j => (muts.take j).all fun m => bef ops m (muts.getD j 0)) && decide (k0 ≤ ops.size) && plan.length == k0 &&
  ((List.range ops.size).all fun j => decide (j < k0) || (List.range j).all fun i => bef ops i j)

/-- What is known of the slots of one operation. -/
def Ks (a0 : Act) (rs : Rs) (a : Act) (w : World) : List (Tmp × Option Nat) → Prop
  | [] => True
  | (t, none) :: r => a.eval (.tmp t) = a0.eval (.tmp t) ∧ Ks a0 rs a w r
  | (t, some k) :: r => rs.getD k (fun _ _ => True) (a.eval (.tmp t)) w ∧ Ks a0 rs a w r
def After (ops : Array Oper) (rs : Rs) (a0 : Act) (t : Tmp) (v : Value) (w : World) : Prop :=
  match writer ops t with
  | none => v = a0.eval (.tmp t)
  | some j => if j < rs.length then at_ rs j v w else v = a0.eval (.tmp t)
structure Ends (ops : Array Oper) (rs : Rs) (a0 : Act) (a : Act) (w : World) : Prop where
  size : a.tmps.size = a0.tmps.size
  defers : a.defers = a0.defers
  slots : ∀ t, After ops rs a0 t (a.eval (.tmp t)) w
def low (lo : Nat) (m : Bool) : Nat := if m then lo + 1 else lo
/-- How memory may change. -/
abbrev G (m : Mem) (w w' : World) : Prop := Le (m.up w) (m.up w')
def MonoG (Gr : World → World → Prop) (R : Value → World → Prop) : Prop := ∀ v w w', R v w → Gr w w' → R v w'
/-- The walk in the order of the text, over the operations that may come in any order. S k: what holds of memory once k mutators are done. -/
def Walk {rr : Option Nat} (P : Program) (ops : Array Oper) (Gr : World → World → Prop) (S : Nat → World → Prop) (N : Nat) (a0 : Act) (Q : Exit → Act → World → Prop) (tail : List Oper) : List Oper → Plan → Rs → Prop
  | [], _, rs => ∀ a w, S N w → Ends ops rs a0 a w → wpListIn (FW rr) 0 P ops Q tail a w
  | _ :: _, [], _ => False
  | o :: rest, (ps, lo, hi, mt) :: plan, rs => ∃ R, MonoG Gr R ∧ (∀ a w k, lo ≤ k → k ≤ hi → S k w → Ks a0 rs a w ps →
      if Region.wanted o (yielded ops a.tmps) = true then StepTo P o a w (fun v w' => R v w' ∧ Gr w w' ∧ S (if mt then k + 1 else k) w') else R undef w ∧ mt = false) ∧ Walk (rr := rr) P ops Gr S N a0 Q tail rest plan (R :: rs)

section
variable {P : Program} {ops : Array Oper} {Q : Exit → Act → World → Prop} {rr : Option Nat} {a0 : Act} {Gr : World → World → Prop} {S : Nat → World → Prop} {N : Nat} {tail : List Oper}
theorem walk_rs : ∀ (rest : List Oper) (plan : Plan) (rs : Rs), Walk (rr := rr) P ops Gr S N a0 Q tail rest plan rs →
    ∃ rs' : Rs, rs'.length = rs.length + rest.length ∧ (∀ i, i < rs.length → at_ rs' i = at_ rs i) ∧ (∀ a w, S N w → Ends ops rs' a0 a w → wpListIn (FW rr) 0 P ops Q tail a w) ∧
      ∀ (k : Nat) (o : Oper), rest[k]? = some o → ∃ p, plan[k]? = some p ∧ MonoG Gr (at_ rs' (rs.length + k)) ∧
        ∀ a w q, p.2.1 ≤ q → q ≤ p.2.2.1 → S q w → (∀ (rsm : Rs), rsm.length = rs.length + k → (∀ i, i < rs.length + k → at_ rsm i = at_ rs' i) → Ks a0 rsm a w p.1) →
          if Region.wanted o (yielded ops a.tmps) = true then StepTo P o a w (fun v w' => at_ rs' (rs.length + k) v w' ∧ Gr w w' ∧ S (if p.2.2.2 then q + 1 else q) w') else at_ rs' (rs.length + k) undef w ∧ p.2.2.2 = false
  | [], plan, rs, h => ⟨rs, by simp, fun _ _ => rfl, h, fun k o hk => by simp at hk⟩
  | o :: rest, [], rs, h => h.elim
  | o :: rest, (ps, lo, hi, mt) :: plan, rs, h => by
    obtain ⟨R, hm, hs, hw⟩ := h
    obtain ⟨rs', hl, hat, he, hk⟩ := walk_rs rest plan (R :: rs) hw
    have hlen : (R :: rs).length = rs.length + 1 := by simp
    have hR : at_ rs' rs.length = R := by rw [hat _ (by rw [hlen]; omega), at_last]
    have hat' : ∀ i, i < rs.length → at_ rs' i = at_ rs i := fun i hi => by rw [hat i (by rw [hlen]; omega), at_append _ _ _ hi]
    refine ⟨rs', by rw [hl, hlen]; simp; omega, hat', he, fun k o' hko => ?_⟩
    cases k with
    | zero =>
      simp at hko; subst hko
      refine ⟨(ps, lo, hi, mt), rfl, by rw [Nat.add_zero, hR]; exact hm, fun a w q h1 h2 hS hks => ?_⟩
      rw [Nat.add_zero, hR]
      exact hs a w q h1 h2 hS (hks rs (by omega) (fun i hi => (hat' i (by omega)).symm))
    | succ k =>
      obtain ⟨p', h1, h2, h3⟩ := hk k o' (by simpa using hko)
      rw [hlen] at h2 h3
      refine ⟨p', by simpa using h1, by rw [show rs.length + (k + 1) = rs.length + 1 + k by omega]; exact h2, fun a w q g1 g2 hS hks => ?_⟩
      rw [show rs.length + (k + 1) = rs.length + 1 + k by omega]
      exact h3 a w q g1 g2 hS (fun rsm hm1 hm2 => hks rsm (by omega) (fun i hi => hm2 i (by omega)))

/-- What is left is walked in its order. -/
theorem run_tail (k0 : Nat) (hb : ∀ j, k0 ≤ j → j < ops.size → ∀ i, i < j → bef ops i j = true) : ∀ (fuel : Nat) (l : Array Bool) (a : Act) (w : World) (i : Nat), l.size = ops.size → left ops l ≤ fuel → k0 ≤ i → (∀ j, j < ops.size → (isL l j ↔ j < i)) →
    (∀ j o, ops[j]? = some o → isL l j → ∀ e ∈ o.after, Region.binds .any e = true → isL l e.on) → tidy ops a0.tmps.size = true →
    wpListIn (FW rr) 0 P ops Q (ops.toList.drop i) a w → wpAnyIn (FW rr) 0 P .any ops Q fuel l a w := by
  have fin : ∀ (l : Array Bool) (a : Act) (w : World) (i : Nat), l.size = ops.size → (∀ j, j < ops.size → (isL l j ↔ j < i)) → tidy ops a0.tmps.size = true → wpListIn (FW rr) 0 P ops Q (ops.toList.drop i) a w → Region.ready .any ops l = [] → Q .normal a w := by
    intro l a w i hl hi ht h hr
    have hd := all_done ht hl hr
    have : ops.size ≤ i := by
      refine Classical.byContradiction fun hn => ?_
      have := (hi i (by omega)).1 (hd i (by omega)); omega
    rw [List.drop_of_length_le (by simpa using this)] at h
    exact h
  intro fuel
  induction fuel with
  | zero =>
    intro l a w i hl hf hki hi hc ht h
    have hr : Region.ready .any ops l = [] := by
      refine Classical.byContradiction fun hne => ?_
      obtain ⟨i, hi⟩ := List.exists_mem_of_ne_nil _ hne
      obtain ⟨h0, o, ho, _⟩ := Go.mem_ready.1 hi
      have hlt : i < ops.size := (Array.getElem?_eq_some_iff.1 ho).1
      have := left_set (ops := ops) hl hlt ((isL_of (by omega)).1 h0)
      omega
    exact ⟨hr, fin l a w i hl hi ht h hr⟩
  | succ fuel ih =>
    intro l a w i hl hf hki hi hc ht h
    refine ⟨fin l a w i hl hi ht h, fun j hj => ?_⟩
    obtain ⟨h0, o, ho, hall⟩ := Go.mem_ready.1 hj
    have hlt : j < ops.size := (Array.getElem?_eq_some_iff.1 ho).1
    have hnl : ¬ isL l j := (isL_of (by omega)).1 h0
    have hall' : ∀ e ∈ o.after, Region.binds .any e = true → isL l e.on := hall
    have hge : i ≤ j := by
      refine Nat.le_of_not_lt fun hlt' => hnl ((hi j hlt).2 hlt')
    have hji : j = i := by
      refine Classical.byContradiction fun hne => ?_
      have := anc_listed hc i j o ho hall' (hb j (by omega) hlt i (by omega))
      have := (hi i (by omega)).1 this; omega
    subst hji
    have hdrop : ops.toList.drop j = o :: ops.toList.drop (j + 1) := by
      rw [List.drop_eq_getElem_cons (by simpa using hlt)]
      congr 1
      have := Array.getElem?_eq_some_iff.1 ho
      obtain ⟨_, h2⟩ := this
      simpa using h2
    rw [hdrop] at h
    unfold wpListIn at h
    have next : ∀ a' w', wpListIn (FW rr) 0 P ops Q (ops.toList.drop (j + 1)) a' w' → wpAnyIn (FW rr) 0 P .any ops Q fuel (l.setIfInBounds j true) a' w' := fun a' w' h' =>
      ih (l.setIfInBounds j true) a' w' (j + 1) (by simpa using hl) (by have := left_set (ops := ops) hl hlt hnl; omega) (by omega) (fun x hx => by
        rw [set_isL (by omega), hi x hx]; omega) (fun x ox hox hxl e he hbd => by
        rw [set_isL (by omega)] at hxl ⊢
        rcases hxl with rfl | hxl
        · rw [ho] at hox; cases hox; exact .inr (hall e he hbd)
        · exact .inr (hc x ox hox hxl e he hbd)) ht h'
    unfold wpOpIn
    simp only [ho]
    split at h
    · rename_i hw
      rw [if_pos hw]
      exact Oper.wpIn_mono next h
    · rename_i hw
      rw [if_neg hw]
      exact ⟨fun _ _ => trivial, next _ _ h.2⟩
structure Inv (ops : Array Oper) (k0 : Nat) (muts : List Nat) (plan : Plan) (S : Nat → World → Prop) (rs : Rs) (a0 : Act) (l : Array Bool) (a : Act) (w : World) : Prop where
  lsize : l.size = ops.size
  pre : ∀ i, i < ops.size → isL l i → i < k0
  size : a.tmps.size = a0.tmps.size
  defers : a.defers = a0.defers
  done : ∀ i o d, ops[i]? = some o → isL l i → o.dst = some d → at_ rs i (a.eval (.tmp d)) w
  rest : ∀ t, (∀ i o, ops[i]? = some o → isL l i → o.dst ≠ some t) → a.eval (.tmp t) = a0.eval (.tmp t)
  closed : ∀ j o, ops[j]? = some o → isL l j → ∀ e ∈ o.after, Region.binds .any e = true → isL l e.on
  stage : ∃ k, k ≤ muts.length ∧ S k w ∧ (∀ j m, muts[j]? = some m → (isL l m ↔ j < k)) ∧ (∀ j p, plan[j]? = some p → j < ops.size → isL l j → low p.2.1 p.2.2.2 ≤ k)

theorem wp_draw {id n : Nat} {w0 : World} (k0 : Nat) (muts : List Nat) (plan : Plan) (hsz : a0.tmps.size = n) (hm : P.follows .mixedOrders = true) (ht : tidy ops n = true) (hp : goodPlan ops k0 muts plan = true)
    (hN : muts.length = N) (hS0 : S 0 w0.drew) (h : Walk (rr := rr) P ops Gr S N a0 Q (ops.toList.drop k0) (ops.toList.take k0) plan []) : (Code.region id ops true).wpIn (FW rr) 0 P Q a0 w0 := by
  subst hN
  subst hsz
  obtain ⟨rs', hl, _, he, hk⟩ := walk_rs (ops.toList.take k0) plan [] h
  simp only [goodPlan, Bool.and_eq_true, decide_eq_true_eq, beq_iff_eq] at hp
  obtain ⟨⟨⟨⟨⟨hp1, hp2⟩, hp3⟩, hk0⟩, hpl⟩, hpt⟩ := hp
  simp only [List.length_nil, Nat.zero_add, List.length_take, Array.length_toList, Nat.min_eq_left hk0] at hl hk
  have hbt : ∀ j, k0 ≤ j → j < ops.size → ∀ i, i < j → bef ops i j = true := fun j hj hjs i hij => by
    have := List.all_eq_true.1 hpt j (List.mem_range.2 hjs)
    simp only [Bool.or_eq_true, decide_eq_true_eq] at this
    exact List.all_eq_true.1 (this.resolve_left (by omega)) i (List.mem_range.2 hij)
  have mut_lt : ∀ j m, muts[j]? = some m → m < k0 := fun j m hm => by
    have := List.all_eq_true.1 hp2 m (List.mem_of_getElem? hm)
    simpa using this
  have mut_chain : ∀ j m i m', muts[j]? = some m → muts[i]? = some m' → i < j → bef ops m' m = true := fun j m i m' hj hi hij => by
    have hjl : j < muts.length := (List.getElem?_eq_some_iff.1 hj).1
    have h1 := List.all_eq_true.1 hp3 j (List.mem_range.2 hjl)
    have h2 := List.all_eq_true.1 h1 m' (List.mem_of_getElem? (i := i) (by rw [List.getElem?_take, if_pos hij]; exact hi))
    rw [List.getD_eq_getElem?_getD, hj] at h2
    exact h2
  have go : ∀ (fuel : Nat) (l : Array Bool) (a : Act) (w : World), left ops l ≤ fuel → Inv ops k0 muts plan S rs' a0 l a w → wpAnyIn (FW rr) 0 P .any ops Q fuel l a w := by
    have last : ∀ (l : Array Bool) (a : Act) (w : World), Inv ops k0 muts plan S rs' a0 l a w → (∀ i, i < k0 → isL l i) → wpListIn (FW rr) 0 P ops Q (ops.toList.drop k0) a w := by
      intro l a w I hd
      obtain ⟨k, hkl, hSk, hst, _⟩ := I.stage
      have hkN : k = muts.length := by
        refine Classical.byContradiction fun hne => ?_
        have hlt : k < muts.length := by omega
        have hmk : muts[k]? = some muts[k] := by simp [hlt]
        have := (hst k _ hmk).1 (hd _ (mut_lt k _ hmk))
        omega
      subst hkN
      refine he a w hSk ⟨I.size, I.defers, fun t => ?_⟩
      unfold After
      cases hw : writer ops t with
      | none => exact I.rest t fun i o ho _ hdt => writer_some ho hdt hw
      | some j =>
        obtain ⟨o, ho, hdt⟩ := writer_of hw
        have hjs := (Array.getElem?_eq_some_iff.1 ho).1
        simp only [hl]
        by_cases hjk : j < k0
        · rw [if_pos hjk]; exact I.done j o t ho (hd j hjk) hdt
        · rw [if_neg hjk]
          refine I.rest t fun i oi hoi hil hdi => ?_
          have h1 := ((tidy_op ht hoi).1 t hdi).1
          rw [hw] at h1; cases h1
          exact hjk (I.pre j hjs hil)
    have fin : ∀ (l : Array Bool) (a : Act) (w : World), Inv ops k0 muts plan S rs' a0 l a w → Region.ready .any ops l = [] → Q .normal a w := by
      intro l a w I hr
      have hd := all_done ht I.lsize hr
      have hk : k0 = ops.size := by
        refine Classical.byContradiction fun hn => ?_
        have := I.pre k0 (by omega) (hd k0 (by omega)); omega
      have := last l a w I (fun i hi => hd i (by omega))
      rw [List.drop_of_length_le (by simp [hk])] at this
      exact this
    intro fuel
    induction fuel with
    | zero =>
      intro l a w hf I
      have hr : Region.ready .any ops l = [] := by
        refine Classical.byContradiction fun hne => ?_
        obtain ⟨i, hi⟩ := List.exists_mem_of_ne_nil _ hne
        obtain ⟨h0, o, ho, _⟩ := Go.mem_ready.1 hi
        have hlt : i < ops.size := (Array.getElem?_eq_some_iff.1 ho).1
        have := left_set (ops := ops) I.lsize hlt ((isL_of (by have := I.lsize; omega)).1 h0)
        omega
      exact ⟨hr, fin l a w I hr⟩
    | succ fuel ih =>
      intro l a w hf I
      refine ⟨fin l a w I, fun i hi => ?_⟩
      obtain ⟨h0, o, ho, hall⟩ := Go.mem_ready.1 hi
      have hlt : i < ops.size := (Array.getElem?_eq_some_iff.1 ho).1
      have hll : i < l.size := by have := I.lsize; omega
      have hnl : ¬ isL l i := (isL_of hll).1 h0
      have hall' : ∀ e ∈ o.after, Region.binds .any e = true → isL l e.on := hall
      obtain ⟨t1, t2, t3⟩ := tidy_op ht ho
      have before : ∀ j, bef ops j i = true → isL l j := fun j hj => anc_listed I.closed j i o ho hall' hj
      have behind : ∀ j oj, ops[j]? = some oj → bef ops i j = true → ¬ isL l j := fun j oj hoj hj hl' => hnl (anc_listed I.closed i j oj hoj (I.closed j oj hoj hl') hj)
      by_cases hik : k0 ≤ i
      · have hd : ∀ j, j < i → isL l j := fun j hj => before j (hbt i hik hlt j hj)
        have hie : i = k0 := by
          refine Classical.byContradiction fun hne => ?_
          have := I.pre k0 (by omega) (hd k0 (by omega)); omega
        subst hie
        have hw := run_tail (Q := Q) (a0 := a0) i hbt (fuel + 1) l a w i I.lsize hf (Nat.le_refl _) (fun j hj => ⟨fun h => I.pre j hj h, fun h => hd j h⟩) I.closed ht (last l a w I hd)
        exact hw.2 i hi
      replace hik : i < k0 := by omega
      obtain ⟨p, hpi, hmono, hst⟩ := hk i o (by rw [List.getElem?_take, if_pos hik, Array.getElem?_toList]; exact ho)
      have hpo : planOk ops muts i o p = true := by
        have := List.all_eq_true.1 hp1 i (List.mem_range.2 hik)
        simpa only [ho, hpi] using this
      simp only [planOk, Bool.and_eq_true] at hpo
      obtain ⟨⟨⟨⟨q1, q2⟩, q3⟩, q4⟩, q5⟩ := hpo
      have q5 : p.2.1 ≤ muts.length := by simpa using q5
      obtain ⟨k, hkl, hSk, hsg, hlw⟩ := I.stage
      have hlo : p.2.1 ≤ k := by
        refine Classical.byContradiction fun hn => ?_
        by_cases hkm : k < muts.length
        · have hmk : muts[k]? = some muts[k] := by simp [hkm]
          have hb := List.all_eq_true.1 q2 muts[k] (List.mem_of_getElem? (i := k) (by rw [List.getElem?_take, if_pos (by omega)]; exact hmk))
          have := (hsg k _ hmk).1 (before _ hb)
          omega
        · omega
      have hhi : k ≤ p.2.2.1 := by
        refine Classical.byContradiction fun hn => ?_
        cases hmh : muts[p.2.2.1]? with
        | none =>
          have : muts.length ≤ p.2.2.1 := List.getElem?_eq_none_iff.1 hmh
          omega
        | some m =>
          simp only [hmh, Bool.or_eq_true, beq_iff_eq] at q3
          have hml := (hsg _ _ hmh).2 (by omega)
          rcases q3 with h3 | h3
          · have hmlt : m < ops.size := Nat.lt_of_lt_of_le (mut_lt _ _ hmh) hk0
            exact behind m ops[m] (by simp [hmlt]) h3 hml
          · subst h3; exact hnl hml
      have hks : ∀ (rsm : Rs), rsm.length = i → (∀ j, j < i → at_ rsm j = at_ rs' j) → Ks a0 rsm a w p.1 := by
        intro rsm hrl hri
        have key : ∀ x ∈ p.1, Ks a0 rsm a w [x] := by
          intro x hxm
          have h1 := List.all_eq_true.1 q1 x hxm
          simp only [slotOk, Bool.and_eq_true] at h1
          obtain ⟨hc, hmt⟩ := h1
          have hlook : x.1 ∈ o.looksAt ops := by simpa using hc
          obtain ⟨t, j⟩ := x
          cases hw : writer ops t with
          | none =>
            simp only [hw] at hmt
            cases j with
            | none => exact ⟨I.rest t fun k ok hok _ hdt => writer_some hok hdt hw, trivial⟩
            | some j => cases hmt
          | some z =>
            simp only [hw] at hmt
            obtain ⟨oz, hoz, hdz⟩ := writer_of hw
            cases j with
            | none =>
              simp only [Bool.not_eq_true'] at hmt
              refine ⟨I.rest t fun y oy hoy hyl hdt => ?_, trivial⟩
              have hyz : writer ops t = some y := ((tidy_op ht hoy).1 t hdt).1
              rw [hw] at hyz; cases hyz
              rcases t3 t hlook z hw with h | h | h
              · rw [hmt] at h; cases h
              · exact behind z oz hoz h hyl
              · subst h; exact hnl hyl
            | some j =>
              simp only [Bool.and_eq_true, decide_eq_true_eq] at hmt
              obtain ⟨hji, hbz⟩ := hmt
              have hzl := before z hbz
              refine ⟨?_, trivial⟩
              have e : rsm.getD j (fun _ _ => True) = at_ rsm z := by
                unfold at_; rw [if_pos (by omega), show rsm.length - 1 - z = j by omega]
              rw [e, hri z (by omega)]
              exact I.done z oz t hoz hzl hdz
        have : ∀ qs : List (Tmp × Option Nat), (∀ x ∈ qs, Ks a0 rsm a w [x]) → Ks a0 rsm a w qs := by
          intro qs
          induction qs with
          | nil => intro _; trivial
          | cons x qs ih =>
            intro h
            have hp1 := h x (List.mem_cons_self ..)
            have hq := ih (fun q hq => h q (List.mem_cons_of_mem _ hq))
            obtain ⟨t, j⟩ := x
            cases j with
            | none => exact ⟨hp1.1, hq⟩
            | some j => exact ⟨hp1.1, hq⟩
        exact this p.1 key
      have hs := hst a w k hlo hhi hSk hks
      have next : ∀ v w', at_ rs' i v w' → Gr w w' ∨ w' = w → S (if p.2.2.2 then k + 1 else k) w' → wpAnyIn (FW rr) 0 P .any ops Q fuel (l.setIfInBounds i true) (a.put o.dst v) w' := by
        intro v w' hv hg hS'
        have hG : ∀ j v', j < ops.size → isL l j → at_ rs' j v' w → at_ rs' j v' w' := by
          intro j v' hj hjl hv'
          rcases hg with hg | rfl
          · have hjk := I.pre j hj hjl
            obtain ⟨pj, hpj, hmj, _⟩ := hk j ops[j] (by rw [List.getElem?_take, if_pos hjk]; simp [hj])
            exact hmj _ _ _ hv' hg
          · exact hv'
        refine ih (l.setIfInBounds i true) (a.put o.dst v) w' (by have := left_set (ops := ops) I.lsize hlt hnl; omega) ?_
        refine ⟨by simpa using I.lsize, fun x hx hxl => ?_, ?_, ?_, ?_, ?_, ?_, ?_⟩
        · rw [set_isL hll] at hxl
          rcases hxl with rfl | hxl
          · exact hik
          · exact I.pre x hx hxl
        · cases o.dst <;> simp [Act.put, I.size]
        · cases o.dst <;> simp [Act.put, I.defers]
        · intro y oy d hoy hyl hd
          rw [set_isL hll] at hyl
          by_cases hyi : y = i
          · subst hyi
            rw [ho] at hoy; cases hoy
            rw [hd, put_eval_same (a := a) (d := d) (v := v) (by rw [I.size]; exact (t1 d hd).2)]; exact hv
          · have hyl' : isL l y := hyl.resolve_left hyi
            rw [Act.eval_put (fun d' hd' e => by
              cases e
              have h1 := (t1 d hd').1
              have h2 := ((tidy_op ht hoy).1 d hd).1
              rw [h1] at h2; cases h2; exact hyi rfl)]
            exact hG y _ (Array.getElem?_eq_some_iff.1 hoy).1 hyl' (I.done y oy d hoy hyl' hd)
        · intro t hno
          rw [Act.eval_put (fun d' hd' e => by
            cases e
            exact hno i o ho ((set_isL hll i).2 (.inl rfl)) hd')]
          exact I.rest t fun y oy hoy hyl => hno y oy hoy ((set_isL hll y).2 (.inr hyl))
        · intro j oj hoj hjl e he' hb
          rw [set_isL hll] at hjl ⊢
          rcases hjl with rfl | hjl
          · rw [ho] at hoj; cases hoj
            exact .inr (hall e he' hb)
          · exact .inr (I.closed j oj hoj hjl e he' hb)
        · by_cases hz : p.2.2.2 = true
          · rw [if_pos hz] at q4 hS'
            simp only [Bool.and_eq_true, beq_iff_eq] at q4
            have hkk : p.2.1 = k := by omega
            have hmi : muts[k]? = some i := by rw [← hkk]; exact q4.2
            refine ⟨k + 1, by have := (List.getElem?_eq_some_iff.1 hmi).1; omega, hS', fun j m hj => ?_, fun j pj hpj hj hjl => ?_⟩
            rotate_left
            · rw [set_isL hll] at hjl
              rcases hjl with rfl | hjl
              · rw [hpi] at hpj; cases hpj; unfold low; rw [if_pos hz]; omega
              · have := hlw j pj hpj hj hjl; omega
            rw [set_isL hll, hsg j m hj]
            constructor
            · rintro (rfl | h)
              · -- m = i = muts[k]: then j = k
                refine Classical.byContradiction fun hn => ?_
                have hch := mut_chain j m k m hj hmi (by omega)
                have hself : ¬ isL l m := hnl
                exact hself (before m hch)
              · omega
            · intro h
              by_cases hjk : j = k
              · subst hjk; rw [hmi] at hj; cases hj; exact .inl rfl
              · exact .inr (by omega)
          · have hz' : p.2.2.2 = false := by simpa using hz
            rw [hz'] at q4 hS'
            simp only [Bool.false_eq_true, if_false] at q4 hS'
            refine ⟨k, hkl, hS', fun j m hj => ?_, fun j pj hpj hj hjl => ?_⟩
            rotate_left
            · rw [set_isL hll] at hjl
              rcases hjl with rfl | hjl
              · rw [hpi] at hpj; cases hpj; unfold low; rw [if_neg hz]; omega
              · exact hlw j pj hpj hj hjl
            rw [set_isL hll, hsg j m hj]
            constructor
            · rintro (rfl | h)
              · have : m ∈ muts := List.mem_of_getElem? hj
                simp [this] at q4
              · exact h
            · exact fun h => .inr h
      unfold wpOpIn
      simp only [ho]
      split
      · rename_i hw
        rw [if_pos hw] at hs
        exact hs.wp fun v w' ⟨h1, h2, h3⟩ => next v w' h1 (.inl h2) h3
      · rename_i hw
        rw [if_neg hw] at hs
        obtain ⟨h1, h2⟩ := hs
        exact ⟨fun _ _ => trivial, next undef w h1 (.inr rfl) (by rw [h2]; exact hSk)⟩
  refine wpIn_region_any hm ?_
  refine go _ _ _ _ (by unfold left; exact Nat.le_trans (List.countP_le_length) (by simp)) ?_
  refine ⟨by simp, fun i _ h => absurd h (not_isL_start _ _), rfl, rfl, ?_, fun _ _ => rfl, ?_, 0, Nat.zero_le _, hS0, fun j m hj => ⟨fun h => absurd h (not_isL_start _ _), fun h => by omega⟩, fun j p _ _ h => absurd h (not_isL_start _ _)⟩
  · intro i o d ho hl; exact absurd hl (not_isL_start _ _)
  · intro i o ho hl; exact absurd hl (not_isL_start _ _)
end
/-- One operation. -/
theorem on_op {rr : Option Nat} {P : Program} {ops : Array Oper} {Q : Exit → Act → World → Prop} {a0 : Act} {Gr : World → World → Prop} {S : Nat → World → Prop} {N : Nat} {tail : List Oper} {o : Oper} {rest : List Oper} {ps : List (Tmp × Option Nat)} {lo hi : Nat} {mt : Bool} {plan : Plan} {rs : Rs}
    (R : Value → World → Prop) (hm : MonoG Gr R) (h : ∀ a w k, lo ≤ k → k ≤ hi → S k w → Ks a0 rs a w ps → Region.wanted o (yielded ops a.tmps) = true ∧ StepTo P o a w (fun v w' => R v w' ∧ Gr w w' ∧ S (if mt then k + 1 else k) w'))
    (hr : Walk (rr := rr) P ops Gr S N a0 Q tail rest plan (R :: rs)) : Walk (rr := rr) P ops Gr S N a0 Q tail (o :: rest) ((ps, lo, hi, mt) :: plan) rs :=
  ⟨R, hm, fun a w k h1 h2 hS hk => by
    obtain ⟨hw, hs⟩ := h a w k h1 h2 hS hk
    rw [if_pos hw]; exact hs, hr⟩
theorem on_skip {rr : Option Nat} {P : Program} {ops : Array Oper} {Q : Exit → Act → World → Prop} {a0 : Act} {Gr : World → World → Prop} {S : Nat → World → Prop} {N : Nat} {tail : List Oper} {o : Oper} {rest : List Oper} {ps : List (Tmp × Option Nat)} {lo hi : Nat} {plan : Plan} {rs : Rs}
    (h : ∀ a w k, lo ≤ k → k ≤ hi → S k w → Ks a0 rs a w ps → Region.wanted o (yielded ops a.tmps) = false)
    (hr : Walk (rr := rr) P ops Gr S N a0 Q tail rest plan ((fun u _ => u = undef) :: rs)) : Walk (rr := rr) P ops Gr S N a0 Q tail (o :: rest) ((ps, lo, hi, false) :: plan) rs :=
  ⟨_, fun _ _ _ h _ => h, fun a w k h1 h2 hS hk => by rw [if_neg (by rw [h a w k h1 h2 hS hk]; simp)]; exact ⟨rfl, rfl⟩, hr⟩
def covers (ops : Array Oper) (k0 : Nat) (vs : Kt) : Bool := (List.range k0).all fun i => match (ops[i]?).bind (·.dst) with | some d => (lk vs d).isSome | none => true
theorem lk_append : ∀ (A K : Kt) (t : Nat), lk (A ++ K) t = match lk A t with | some v => some v | none => lk K t
  | [], K, t => by simp [lk]
  | (s, v) :: A, K, t => by
    simp only [List.cons_append, lk]
    cases Nat.beq s t
    · exact lk_append A K t
    · rfl
theorem kn_ends {ops : Array Oper} {rs : Rs} {a0 a : Act} {w : World} {n k0 : Nat} {K : Kt} {ds : List Deferred} (vs : Kt) (hK : Kn n a0 K ds) (hE : Ends ops rs a0 a w) (hk : rs.length = k0) (hc : covers ops k0 vs = true) (hv : Ke a vs) : Kn n a (vs ++ K) ds := by
  refine ⟨hE.size.trans hK.size, hE.defers.trans hK.defers, fun t v ht => ?_⟩
  rw [lk_append] at ht
  cases hl : lk vs t with
  | some u => rw [hl] at ht; cases ht; exact hv t _ hl
  | none =>
    rw [hl] at ht
    have hs := hE.slots t
    unfold After at hs
    have hz := hK.at_ t v ht
    cases hw : writer ops t with
    | none => rw [hw] at hs; exact hs.trans hz
    | some j =>
      rw [hw] at hs
      obtain ⟨o, ho, hd⟩ := writer_of hw
      by_cases hj : j < rs.length
      · have := List.all_eq_true.1 hc j (List.mem_range.2 (by omega))
        simp [ho, hd, hl] at this
      · simp only [hj, if_false] at hs; exact hs.trans hz
/-! What is said of memory in such a region: nothing of what is given away has changed, and the call owns what is said for the stage. -/
theorem G_refl (m : Mem) (w : World) : G m w w := Le.refl _
def SL (B : List Nat) (m0 m : Mem) (L : Nat → List Ent) : Nat → World → Prop := fun k w => Le m (m.up w) ∧ St B m0 (m.up w) (L k)
theorem le_up_of {m m' : Mem} (h : Le m m') : Le m (m.up m'.w) :=
  ⟨h.os, h.tape, h.output, h.size, fun b o hb => ⟨⟨.inl hb, Nat.lt_of_lt_of_le hb.2 h.size⟩, (h.same b o hb).2⟩⟩
theorem g_of {m m' : Mem} {w : World} (h : Le (m.up w) m') : G m w m'.w :=
  ⟨h.os, h.tape, h.output, h.size, fun b o hb => ⟨⟨hb.1, Nat.lt_of_lt_of_le hb.2 h.size⟩, (h.same b o hb).2⟩⟩
section
variable {B : List Nat} {m0 m m' : Mem} {L L' : List Ent} {w : World}
theorem reup (h : St B m0 m L) (h' : St B m0 m' L') (hl : Le m m') (hlt : ∀ b ∈ blocksOf L', b < m.w.heap.size) : St B m0 (m.up m'.w) L' := by
  refine ⟨h.le.trans (le_up_of hl), fun b hb hB => h'.kept b hb hB, fun b o ho => ?_, ⟨h'.ow.nodup, fun e he => h'.ow.ok e he, fun e he b hb o hf hm => ?_⟩, h'.blk⟩
  · rcases ho.1 with h1 | h1
    · exact h.news b o h1
    · exact .inr (.inl (Nat.le_trans h.le.size h1))
  · rcases hm.1 with h1 | h1
    · exact h'.ow.apart e he b hb o hf (hl.same b o h1).1
    · have := hlt b (mem_blocksOf.2 ⟨e, he, hb⟩); omega
theorem start (h : St B m0 m L) : Le m (m.up m.w.drew) ∧ St B m0 (m.up m.w.drew) L := by
  have h1 := h.drew
  exact ⟨Le.up m (Below.refl _ _).drew, h1⟩
/-- What a callee that was given nothing gives back, seen so. -/
theorem le_up_up {L'' : List Ent} (h : St [] (m.up w) m' L'') (hl : m.w.heap.size ≤ w.heap.size) : Le m' (m.up m'.w) :=
  ⟨rfl, rfl, rfl, Nat.le_refl _, fun b o ho => ⟨⟨(h.news b o ho).elim (fun h1 => h1.1) (fun h1 => h1.elim (fun h1 => .inr (Nat.le_trans hl h1)) (fun h1 => absurd h1 (by simp))), ho.2⟩, rfl⟩⟩
end
theorem le_upM {B : List Nat} {m0 m m' : Mem} {L : List Ent} {b : Nat} {cs cs' : Array Value} {T T' : TypeId} (hnw : ∀ b' o, m'.ok b' o → m.ok b' o ∨ m.w.heap.size ≤ b' ∨ b' ∈ blocksOf [Ent.box b cs T]) (hS : St B m0 m' (Ent.box b cs' T' :: L)) : Le m' (m.up m'.w) :=
  ⟨rfl, rfl, rfl, Nat.le_refl _, fun b' o ho => ⟨⟨(hnw b' o ho).elim .inl (fun h => h.elim .inr (fun h => absurd ho (by
    simp [Ent.box] at h; subst h
    exact hS.ow.apart (.box b' cs' T') (by simp) b' (by simp [Ent.box]) o trivial))), ho.2⟩, rfl⟩⟩
theorem fin {B : List Nat} {m0 m : Mem} {Lk : Nat → List Ent} {N : Nat} {ops : Array Oper} {rs : Rs} {a0 : Act} {X : Act → World → Prop}
    (h : ∀ a m1, m.up m1.w = m1 → Le m m1 → St B m0 m1 (Lk N) → Ends ops rs a0 a m1.w → X a m1.w) : ∀ a w, SL B m0 m Lk N w → Ends ops rs a0 a w → X a w :=
  fun a w hb hE => h a (m.up w) rfl hb.1 hb.2 hE
section
variable {P : Program} {o : Oper} {a : Act} {K : Kt} {ds : List Deferred} {B : List Nat} {m0 m : Mem} {Lk : Nat → List Ent} {k : Nat} {w : World} {f : FuncId} {R : Value → World → Prop}
theorem val {v : Value} {S : World → Prop} (hb : S w) (h : ∀ Post : Value → World → Prop, Post v w → StepTo P o a w Post) (hR : R v w) : StepTo P o a w fun v w' => R v w' ∧ G m w w' ∧ S w' :=
  h _ ⟨hR, G_refl m w, hb⟩
theorem call {c : Callee} {xs : Array Operand} {ats : Array TypeId} {g : Operand} {first cap : Array Value} {vs : List Value} {Q : Value → Mem → List Ent → Prop} (h0 : St B m0 m (Lk 0)) (hlt : ∀ b ∈ blocksOf (Lk k), b < m.w.heap.size) (hb : SL B m0 m Lk k w) (hK : Ke a K) (hf : Enters P f) (ho : o.op = .call ⟨c, xs, ats⟩) (hc : c = .value g) (hg : evK K g = some (.func (.func f) first cap)) (hv : evAll K xs.toList = some vs)
    {args : Array Value} (hs : Spec P f args (m.up w) [] Q) (ha : first ++ vs.toArray ++ cap = args)
    (hR : ∀ v m' L', Le m' (m.up m'.w) → Le (m.up w) m' → Q v m' L' → R v m'.w) : StepTo P o a w fun v w' => R v w' ∧ G m w w' ∧ SL B m0 m Lk k w' := by
  subst ha
  unfold StepTo
  have := run_call (m := m.up w) hK hf ho hc hg hv
  rw [show (m.up w).w = w from rfl] at this
  rw [this]
  refine Calls.mono hs fun e w' ⟨v, m', L', h1, h2, h3, h4⟩ => ⟨v, h1, ?_⟩
  subst h2
  have hl : Le m m' := hb.1.trans h3.le
  have hS : St B m0 m' (Lk k) := by
    have := hb.2.call (L' := L') h3
    exact ⟨this.le, this.kept, this.news, Ow.right this.ow, fun b hb' => this.blk b (by rw [blocksOf_append]; exact List.mem_append_right _ hb')⟩
  exact ⟨hR v m' L' (le_up_up (L'' := L') h3 hb.1.size) h3.le h4, g_of h3.le, le_up_of hl, reup h0 hS hl hlt⟩
/-- A call that is given some of what the call owns: the next stage. -/
theorem callM {Rr Ll : List Ent} {c : Callee} {xs : Array Operand} {ats : Array TypeId} {g : Operand} {first cap : Array Value} {vs : List Value} {Q : Value → Mem → List Ent → Prop} (h0 : St B m0 m (Lk 0)) (hlt : ∀ b ∈ blocksOf (Lk (k + 1)), b < m.w.heap.size) (hb : Le m (m.up w) ∧ St B m0 (m.up w) (Rr ++ Ll)) (hK : Ke a K) (hf : Enters P f) (ho : o.op = .call ⟨c, xs, ats⟩) (hc : c = .value g) (hg : evK K g = some (.func (.func f) first cap)) (hv : evAll K xs.toList = some vs)
    {args : Array Value} (hs : Spec P f args (m.up w) Rr Q) (ha : first ++ vs.toArray ++ cap = args)
    (hR : ∀ v m' R', Le (m.up w) m' → (∀ b o, m'.ok b o → m.ok b o ∨ m.w.heap.size ≤ b ∨ b ∈ blocksOf Rr) → St B m0 m' (R' ++ Ll) → Q v m' R' → R v m'.w ∧ St B m0 m' (Lk (k + 1))) : StepTo P o a w fun v w' => R v w' ∧ G m w w' ∧ SL B m0 m Lk (k + 1) w' := by
  subst ha
  unfold StepTo
  have := run_call (m := m.up w) hK hf ho hc hg hv
  rw [show (m.up w).w = w from rfl] at this
  rw [this]
  refine Calls.mono hs fun e w' ⟨v, m', L', h1, h2, h3, h4⟩ => ⟨v, h1, ?_⟩
  subst h2
  have hl : Le m m' := hb.1.trans h3.le
  obtain ⟨hr, hS⟩ := hR v m' L' h3.le (fun b o ho => by
    rcases h3.news b o ho with h5 | h5 | h5
    · exact h5.1.imp id .inl
    · exact .inr (.inl (Nat.le_trans hb.1.size h5))
    · exact .inr (.inr h5)) (hb.2.frame h3) h4
  exact ⟨hr, g_of h3.le, le_up_of hl, reup h0 hS hl hlt⟩
theorem lit {t elem : TypeId} {len : Nat} {parts : Array (Nat × Operand)} (cells : Array Value) (h0 : St B m0 m (Lk 0)) (hlt : ∀ b ∈ blocksOf (Lk k), b < m.w.heap.size) (hb : SL B m0 m Lk k w) (hK : Ke a K) (ho : o.op = .buildSlice t len parts) (hk : known K o.op = true)
    (hrun : (execOp (evD K) o).run P w = .ok (.value (.slice (some ⟨w.heap.size, 0, none⟩) len len)) (w.alloc (.cells cells elem (0, 0))))
    (hR : ∀ w' b, Le (m.up w) (m.up w') → At (m.up w') b 0 cells.toList → R (.slice (some ⟨b, 0, none⟩) len len) w') : StepTo P o a w fun v w' => R v w' ∧ G m w w' ∧ SL B m0 m Lk k w' := by
  unfold StepTo
  rw [exec_known hK hk, hrun]
  have hg : Below w.heap.size w (w.alloc (.cells cells elem (0, 0))) := (Below.refl _ _).alloc (Nat.le_refl _) _
  have h1 : Le (m.up w) ((m.up w).up (w.alloc (.cells cells elem (0, 0)))) := Le.up (m.up w) hg
  have hl : Le (m.up w) (m.up (w.alloc (.cells cells elem (0, 0)))) := g_of h1
  have hS := hb.2.newGiven (.cells cells elem (0, 0))
  refine ⟨hR _ _ hl fun k v hv => ⟨⟨.inr hb.1.size, by simp [Mem.up]⟩, ?_⟩, hl, le_up_of (hb.1.trans h1), reup h0 hS (hb.1.trans h1) hlt⟩
  show (w.alloc _).cell? _ = _
  rw [cell_of_row _ _ _ _ _ _ (alloc_heap _ _), Nat.zero_add]; simpa using hv
end
/-! The same where the region makes a block of the type T for itself. -/
def isT (T : TypeId) (w : World) (b : Nat) : Prop := ∃ cs c, w.heap[b]? = some (.cells cs T c)
@[reducible] def _root_.Go.Proofs.Ythnhjibbkleneaa.Mem.upX (m : Mem) (T : TypeId) (w' : World) : Mem := ⟨w', fun b o => m.ok b o ∨ (m.w.heap.size ≤ b ∧ ¬ isT T w' b)⟩
abbrev GX (m : Mem) (T : TypeId) (w w' : World) : Prop := Le (m.upX T w) (m.upX T w') ∧ ∀ b, m.w.heap.size ≤ b → b < w.heap.size → w'.heap[b]? = w.heap[b]?
theorem GX_refl (m : Mem) (T : TypeId) (w : World) : GX m T w w := ⟨Le.refl _, fun _ _ _ => rfl⟩
def SLX (T : TypeId) (B : List Nat) (m0 m : Mem) (L : Nat → List Ent) : Nat → World → Prop := fun k w => Le m (m.upX T w) ∧ St B m0 (m.upX T w) (L k)
section
variable {T : TypeId} {B : List Nat} {m0 m m' : Mem} {L L' : List Ent} {w : World}
theorem le_upX_of (h : Le m m') : Le m (m.upX T m'.w) :=
  ⟨h.os, h.tape, h.output, h.size, fun b o hb => ⟨⟨.inl hb, Nat.lt_of_lt_of_le hb.2 h.size⟩, (h.same b o hb).2⟩⟩
theorem reupX (h : St B m0 m L) (h' : St B m0 m' L') (hl : Le m m') (hlt : ∀ b ∈ blocksOf L', b < m.w.heap.size) : St B m0 (m.upX T m'.w) L' := by
  refine ⟨h.le.trans (le_upX_of hl), fun b hb hB => h'.kept b hb hB, fun b o ho => ?_, ⟨h'.ow.nodup, fun e he => h'.ow.ok e he, fun e he b hb o hf hm => ?_⟩, h'.blk⟩
  · rcases ho.1 with h1 | h1
    · exact h.news b o h1
    · exact .inr (.inl (Nat.le_trans h.le.size h1.1))
  · rcases hm.1 with h1 | h1
    · exact h'.ow.apart e he b hb o hf (hl.same b o h1).1
    · have := hlt b (mem_blocksOf.2 ⟨e, he, hb⟩); omega
theorem startX (h : St B m0 m L) : Le m (m.upX T m.w.drew) ∧ St B m0 (m.upX T m.w.drew) L := by
  obtain ⟨h1, h2⟩ := start h
  exact ⟨le_upX_of h1, reupX h h2 h1 fun b hb => h.ow.lt hb⟩
theorem gx_of (h : Le (m.upX T w) m') (hk : ∀ b, m.w.heap.size ≤ b → b < w.heap.size → m'.w.heap[b]? = w.heap[b]?) : GX m T w m'.w :=
  ⟨⟨h.os, h.tape, h.output, h.size, fun b o hb => ⟨⟨hb.1.imp id fun h1 => ⟨h1.1, fun ⟨cs, c, hc⟩ => h1.2 ⟨cs, c, by rw [← hk b h1.1 hb.2]; exact hc⟩⟩, Nat.lt_of_lt_of_le hb.2 h.size⟩, (h.same b o hb).2⟩⟩, hk⟩
end
theorem finX {T : TypeId} {B : List Nat} {m0 m : Mem} {Lk : Nat → List Ent} {N : Nat} {ops : Array Oper} {rs : Rs} {a0 : Act} {X : Act → World → Prop}
    (h : ∀ a m1, m.upX T m1.w = m1 → Le m m1 → St B m0 m1 (Lk N) → Ends ops rs a0 a m1.w → X a m1.w) : ∀ a w, SLX T B m0 m Lk N w → Ends ops rs a0 a w → X a w :=
  fun a w hb hE => h a (m.upX T w) rfl hb.1 hb.2 hE
/-- The block is the call's own. -/
theorem addX {T : TypeId} {B : List Nat} {m0 m m1 : Mem} {L0 L : List Ent} {b : Nat} {z : Array Value} (h0 : St B m0 m L0) (hm : m.upX T m1.w = m1) (hlt : ∀ b ∈ blocksOf L, b < m.w.heap.size) (h : St B m0 m1 L) (hb : m.w.heap.size ≤ b ∧ m1.w.heap[b]? = some (.cells z T (0, 0))) : St B m0 m1 (.box b z T :: L) := by
  refine ⟨h.le, h.kept, h.news, ⟨?_, fun e he => ?_, fun e he c hc o ho hok => ?_⟩, fun c hc => ?_⟩
  · rw [blocksOf_cons]; simp only [Ent.box, List.singleton_append, List.nodup_cons]
    exact ⟨fun hm => by have := hlt b hm; omega, h.ow.nodup⟩
  · simp at he
    rcases he with rfl | he
    · exact hb.2
    · exact h.ow.ok e he
  · simp at he
    rcases he with rfl | he
    · simp [Ent.box] at hc; subst hc
      rw [← hm] at hok
      rcases hok.1 with h1 | h1
      · have := h1.2; omega
      · exact h1.2 ⟨z, (0, 0), hb.2⟩
    · exact h.ow.apart e he c hc o ho hok
  · rw [blocksOf_cons] at hc
    simp [Ent.box] at hc
    rcases hc with rfl | hc
    · exact .inr (Nat.le_trans h0.le.size hb.1)
    · exact h.blk c hc
theorem newX_mono {m : Mem} {T : TypeId} {w w' : World} {b : Nat} {o : Obj} (h : m.w.heap.size ≤ b ∧ (m.upX T w).w.heap[b]? = some o) (g : GX m T w w') : m.w.heap.size ≤ b ∧ (m.upX T w').w.heap[b]? = some o :=
  ⟨h.1, (g.2 b h.1 (heap_lt h.2)).trans h.2⟩
section
variable {P : Program} {o : Oper} {a : Act} {K : Kt} {ds : List Deferred} {B : List Nat} {m0 m : Mem} {Lk : Nat → List Ent} {k : Nat} {w : World} {f : FuncId} {R : Value → World → Prop} {T : TypeId}
theorem valX {v : Value} {S : World → Prop} (hb : S w) (h : ∀ Post : Value → World → Prop, Post v w → StepTo P o a w Post) (hR : R v w) : StepTo P o a w fun v w' => R v w' ∧ GX m T w w' ∧ S w' :=
  h _ ⟨hR, GX_refl m T w, hb⟩
theorem callX {c : Callee} {xs : Array Operand} {ats : Array TypeId} {g : Operand} {first cap : Array Value} {vs : List Value} {Q : Value → Mem → List Ent → Prop} (h0 : St B m0 m (Lk 0)) (hlt : ∀ b ∈ blocksOf (Lk k), b < m.w.heap.size) (hb : SLX T B m0 m Lk k w) (hK : Ke a K) (hf : Enters P f) (ho : o.op = .call ⟨c, xs, ats⟩) (hc : c = .value g) (hg : evK K g = some (.func (.func f) first cap)) (hv : evAll K xs.toList = some vs)
    {args : Array Value} (hs : Spec P f args (m.upX T w) [] Q) (ha : first ++ vs.toArray ++ cap = args)
    (hR : ∀ v m' L', GX m T w m'.w → Q v m' L' → R v m'.w) : StepTo P o a w fun v w' => R v w' ∧ GX m T w w' ∧ SLX T B m0 m Lk k w' := by
  subst ha
  unfold StepTo
  have := run_call (m := m.upX T w) hK hf ho hc hg hv
  rw [show (m.upX T w).w = w from rfl] at this
  rw [this]
  refine Calls.mono hs fun e w' ⟨v, m', L', h1, h2, h3, h4⟩ => ⟨v, h1, ?_⟩
  subst h2
  have hl : Le m m' := hb.1.trans h3.le
  have hg' : GX m T w m'.w := gx_of h3.le fun b _ hb' => h3.kept b hb' (by simp)
  have hS : St B m0 m' (Lk k) := by
    have := hb.2.call (L' := L') h3
    exact ⟨this.le, this.kept, this.news, Ow.right this.ow, fun b hb' => this.blk b (by rw [blocksOf_append]; exact List.mem_append_right _ hb')⟩
  exact ⟨hR v m' L' hg' h4, hg', hb.1.trans hg'.1, reupX h0 hS hl hlt⟩
theorem callMX {Rr Ll : List Ent} {c : Callee} {xs : Array Operand} {ats : Array TypeId} {g : Operand} {first cap : Array Value} {vs : List Value} {Q : Value → Mem → List Ent → Prop} (h0 : St B m0 m (Lk 0)) (hlt : ∀ b ∈ blocksOf (Lk (k + 1)), b < m.w.heap.size) (hltR : ∀ b ∈ blocksOf Rr, b < m.w.heap.size) (hb : Le m (m.upX T w) ∧ St B m0 (m.upX T w) (Rr ++ Ll)) (hK : Ke a K) (hf : Enters P f) (ho : o.op = .call ⟨c, xs, ats⟩) (hc : c = .value g) (hg : evK K g = some (.func (.func f) first cap)) (hv : evAll K xs.toList = some vs)
    {args : Array Value} (hs : Spec P f args (m.upX T w) Rr Q) (ha : first ++ vs.toArray ++ cap = args)
    (hR : ∀ v m' R', Le (m.upX T w) m' → True → St B m0 m' (R' ++ Ll) → Q v m' R' → R v m'.w ∧ St B m0 m' (Lk (k + 1))) : StepTo P o a w fun v w' => R v w' ∧ GX m T w w' ∧ SLX T B m0 m Lk (k + 1) w' := by
  subst ha
  unfold StepTo
  have := run_call (m := m.upX T w) hK hf ho hc hg hv
  rw [show (m.upX T w).w = w from rfl] at this
  rw [this]
  refine Calls.mono hs fun e w' ⟨v, m', L', h1, h2, h3, h4⟩ => ⟨v, h1, ?_⟩
  subst h2
  have hl : Le m m' := hb.1.trans h3.le
  have hg' : GX m T w m'.w := gx_of h3.le fun b hm hb' => h3.kept b hb' (fun h => by have := hltR b h; omega)
  obtain ⟨hr, hS⟩ := hR v m' L' h3.le trivial (hb.2.frame h3) h4
  exact ⟨hr, hg', hb.1.trans hg'.1, reupX h0 hS hl hlt⟩
theorem allocX (z : Value) (h0 : St B m0 m (Lk 0)) (hlt : ∀ b ∈ blocksOf (Lk k), b < m.w.heap.size) (hb : SLX T B m0 m Lk k w) (ho : o.op = .alloc T) (hz : (P.info? T).map (·.zero) = some (some z))
    (hR : ∀ b w', m.w.heap.size ≤ b → (m.upX T w').w.heap[b]? = some (.cells z.cells T (0, 0)) → R (.pointer (some ⟨b, 0, none⟩)) w') : StepTo P o a w fun v w' => R v w' ∧ GX m T w w' ∧ SLX T B m0 m Lk k w' := by
  unfold StepTo execOp
  simp only [ho, Instr.alloc, newVar, newRow, newObj, Sem.run_bind, Sem.run_pure, Result.andThen_ok, run_zero hz, Sem.run]
  have hg : Below w.heap.size w (w.alloc (.cells z.cells T (0, 0))) := (Below.refl _ _).alloc (Nat.le_refl _) _
  have h1 : Le (m.upX T w) ((m.upX T w).up (w.alloc (.cells z.cells T (0, 0)))) := Le.up (m.upX T w) hg
  have hS := hb.2.newGiven (.cells z.cells T (0, 0))
  have hg' : GX m T w (w.alloc (.cells z.cells T (0, 0))) := gx_of h1 fun b _ hb' => Below.block hg b hb'
  refine ⟨hR _ _ hb.1.size (alloc_heap _ _), hg', hb.1.trans hg'.1, reupX h0 hS (hb.1.trans h1) hlt⟩
end
theorem wanted0 {o : Oper} {y : Nat → Option Bool} (h : o.guard = none) : Region.wanted o y = true := by simp [Region.wanted, h]
theorem wantedE {o : Oper} {ops : Array Oper} {a : Act} {K : Kt} (hK : Ke a K) (h : guardYes ops K o.guard = true) : Region.wanted o (yielded ops a.tmps) = true :=
  wanted_of (n := a.tmps.size) (a := { a with defers := [] }) ⟨rfl, rfl, hK⟩ h
theorem unwantedE {o : Oper} {ops : Array Oper} {a : Act} {K : Kt} (hK : Ke a K) (h : guardNo ops K o.guard = true) : Region.wanted o (yielded ops a.tmps) = false :=
  unwanted_of (n := a.tmps.size) (a := { a with defers := [] }) ⟨rfl, rfl, hK⟩ h
end D
end Go.Proofs.Ythnhjibbkleneaa
