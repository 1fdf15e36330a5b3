/- A region that draws its order, whose operations read, compute and make memory: one step for each operation serves every order. Over any program. -/
import Derived.Test.YtaecdikglfdfnaaBase
namespace Go.Proofs.Ytaecdikglfdfnaa
open Go.RowKit
namespace Rel

/-- The operation that writes slot t. -/
def writer (ops : Array Oper) (t : Tmp) : Option Nat := (List.range ops.size).find? fun i => (ops[i]?).bind (·.dst) == some t
/-- Operation i comes before operation j, by an edge of j's. -/
def tied (ops : Array Oper) (i j : Nat) : Bool :=
  match ops[j]? with
  | some o => o.after.any fun e => Region.binds .any e && e.on == i
  | none => false
/-- Each slot is written once, into the frame; edges lead back; whoever looks at a slot that the region writes is tied to its writer. -/
def tidyOp (ops : Array Oper) (n i : Nat) : Bool :=
  match ops[i]? with
  | none => true
  | some o =>
    (match o.dst with | some d => writer ops d == some i && decide (d < n) | none => true) &&
    (o.after.all fun e => !Region.binds .any e || decide (e.on < i)) &&
    ((o.looksAt ops).all fun t => match writer ops t with | none => true | some j => tied ops j i || tied ops i j || j == i)
def tidy (ops : Array Oper) (n : Nat) : Bool := (List.range ops.size).all (tidyOp ops n)

abbrev R' := Nat → Value → World → Prop
/-- What operation i may lean on of slot t. -/
def Known (ops : Array Oper) (R : R') (a0 : Act) (i : Nat) (t : Tmp) (v : Value) (w : World) : Prop :=
  match writer ops t with
  | none => v = a0.eval (.tmp t)
  | some j => if tied ops j i then R j v w else v = a0.eval (.tmp t)
/-- What is known of slot t at the end. -/
def After (ops : Array Oper) (R : R') (a0 : Act) (t : Tmp) (v : Value) (w : World) : Prop :=
  match writer ops t with
  | none => v = a0.eval (.tmp t)
  | some j => R j v w

/-- The operation hands back a value of R; memory grows. -/
def stepUpon (P : Program) (w : World) (R : Value → World → Prop) : Result Next → Prop
  | .ok (.value v) w' => R v w' ∧ Grow w w'
  | .ok .skip w' => R undef w' ∧ Grow w w'
  | .ok (.enter f args) w' => Calls P f args w' fun e w'' => ∃ v, e = .returned v ∧ R v w'' ∧ Grow w w''
  | _ => False
def StepTo (P : Program) (o : Oper) (a : Act) (w : World) (R : Value → World → Prop) : Prop := stepUpon P w R ((execOp a.eval o).run P w)

theorem StepTo.wp {P : Program} {o : Oper} {a : Act} {w : World} {R : Value → World → Prop} {K : Act → World → Prop} {Q : Exit → Act → World → Prop}
    (h : StepTo P o a w R) (hK : ∀ v w', R v w' → Grow w w' → K (a.put o.dst v) w') : o.wp P a w K Q := by
  unfold StepTo at h
  unfold Oper.wp
  generalize (execOp a.eval o).run P w = r at *
  cases r with
  | ok n w' =>
    cases n <;> simp only [stepUpon] at h <;> simp only [Oper.upon]
    case value v => exact hK _ _ h.1 h.2
    case skip => exact hK _ _ h.1 h.2
    case enter f args => exact h.mono fun e w'' ⟨v, he, h1, h2⟩ => by subst he; exact hK _ _ h1 h2
  | halt x w' => simp only [stepUpon] at h

section
variable {ops : Array Oper} {n : Nat}
theorem tidy_op (h : tidy ops n = true) {i : Nat} {o : Oper} (ho : ops[i]? = some o) :
    (∀ d, o.dst = some d → writer ops d = some i ∧ d < n) ∧ (∀ e ∈ o.after, Region.binds .any e = true → e.on < i) ∧
    (∀ t ∈ o.looksAt ops, ∀ j, writer ops t = some j → tied ops j i = true ∨ tied ops i j = true ∨ j = i) := by
  have hi : i < ops.size := (Array.getElem?_eq_some_iff.1 ho).1
  have h1 := List.all_eq_true.1 h i (List.mem_range.2 hi)
  simp only [tidyOp, ho, Bool.and_eq_true] at h1
  obtain ⟨⟨h1, h2⟩, h3⟩ := h1
  refine ⟨fun d hd => ?_, fun e he hb => ?_, fun t ht j hj => ?_⟩
  · simp only [hd, Bool.and_eq_true, beq_iff_eq, decide_eq_true_eq] at h1; exact h1
  · have := Array.all_eq_true_iff_forall_mem.1 h2 e he
    simpa [hb] using this
  · have := List.all_eq_true.1 h3 t ht
    simp only [hj, Bool.or_eq_true, beq_iff_eq] at this
    rcases this with (h | h) | h
    · exact .inl h
    · exact .inr (.inl h)
    · exact .inr (.inr h)
theorem writer_of {t : Tmp} {j : Nat} (h : writer ops t = some j) : ∃ o, ops[j]? = some o ∧ o.dst = some t := by
  have := List.find?_some h
  simp only [beq_iff_eq] at this
  cases ho : ops[j]? with
  | none => simp [ho] at this
  | some o => exact ⟨o, rfl, by simpa [ho] using this⟩
theorem writer_some {t : Tmp} {i : Nat} {o : Oper} (ho : ops[i]? = some o) (hd : o.dst = some t) : writer ops t ≠ none := by
  intro h
  have hi : i < ops.size := (Array.getElem?_eq_some_iff.1 ho).1
  have := List.find?_eq_none.1 h i (List.mem_range.2 hi)
  simp [ho, hd] at this

def isL (l : Array Bool) (i : Nat) : Prop := l.getD i false = true
theorem isL_of {l : Array Bool} {i : Nat} (hi : i < l.size) : l.getD i true = false ↔ ¬ isL l i := by
  unfold isL; simp [hi]

theorem not_isL_start (n i : Nat) : ¬ isL (Array.replicate n false) i := by
  unfold isL
  by_cases h : i < n <;> simp [h]
theorem any_mem {α : Type} {xs : Array α} {p : α → Bool} (h : xs.any p = true) : ∃ e, e ∈ xs ∧ p e = true := by
  rw [← Array.any_toList, List.any_eq_true] at h
  obtain ⟨e, he, hp⟩ := h
  exact ⟨e, by simpa using he, hp⟩
structure Inv (ops : Array Oper) (R : R') (a0 : Act) (w0 : World) (l : Array Bool) (a : Act) (w : World) : Prop where
  lsize : l.size = ops.size
  grow : Grow w0 w
  size : a.tmps.size = a0.tmps.size
  defers : a.defers = a0.defers
  done : ∀ i o d, ops[i]? = some o → isL l i → o.dst = some d → R i (a.eval (.tmp d)) w
  rest : ∀ t, (∀ i o, ops[i]? = some o → isL l i → o.dst ≠ some t) → a.eval (.tmp t) = a0.eval (.tmp t)
  closed : ∀ j o, ops[j]? = some o → isL l j → ∀ e ∈ o.after, Region.binds .any e = true → isL l e.on
def left (ops : Array Oper) (l : Array Bool) : Nat := (List.range ops.size).countP fun i => l.getD i true == false

theorem set_isL {l : Array Bool} {i : Nat} (hi : i < l.size) (k : Nat) : isL (l.setIfInBounds i true) k ↔ k = i ∨ isL l k := by
  unfold isL
  by_cases h : i = k
  · subst h; simp [hi]
  · rw [Go.getD_set_ne false h]; simp [Ne.symm h]
theorem countP_lt {p q : Nat → Bool} : ∀ (L : List Nat) (i : Nat), i ∈ L → (∀ x, q x = true → p x = true) → p i = true → q i = false → L.countP q < L.countP p
  | [], i, h, _, _, _ => by cases h
  | x :: L, i, h, hpq, hp, hq => by
    by_cases hx : x = i
    · subst hx
      rw [List.countP_cons_of_pos hp, List.countP_cons_of_neg (by simp [hq])]
      exact Nat.lt_succ_of_le (List.countP_mono_left fun y _ hy => hpq y hy)
    · have hm : i ∈ L := by cases h with | head => exact absurd rfl hx | tail _ h => exact h
      have := countP_lt L i hm hpq hp hq
      by_cases hqx : q x = true
      · rw [List.countP_cons_of_pos hqx, List.countP_cons_of_pos (hpq x hqx)]; omega
      · rw [List.countP_cons_of_neg hqx]
        by_cases hpx : p x = true
        · rw [List.countP_cons_of_pos hpx]; omega
        · rw [List.countP_cons_of_neg hpx]; omega
theorem left_set {l : Array Bool} {i : Nat} (hl : l.size = ops.size) (hi : i < ops.size) (h : ¬ isL l i) : left ops (l.setIfInBounds i true) < left ops l := by
  refine countP_lt _ i (List.mem_range.2 hi) (fun x hx => ?_) ?_ ?_
  · by_cases e : i = x
    · subst e; simp [hl, hi] at hx
    · rw [Go.getD_set_ne true e] at hx; exact hx
  · simp only [beq_iff_eq]; exact (isL_of (by omega)).2 h
  · simp [hl, hi]
/-- Where nothing is ready, all is done. -/
theorem all_done (ht : tidy ops n = true) {l : Array Bool} (hl : l.size = ops.size) (hr : Region.ready .any ops l = []) : ∀ i, i < ops.size → isL l i := by
  intro i
  induction i using Nat.strongRecOn with
  | _ i ih =>
    intro hi
    refine Classical.byContradiction fun hn => ?_
    have ho : ops[i]? = some ops[i] := by simp [hi]
    have : i ∈ Region.ready .any ops l := Go.mem_ready.2 ⟨(isL_of (by omega)).2 hn, ops[i], ho, fun e he hb => ih e.on ((tidy_op ht ho).2.1 e he hb) (by have := (tidy_op ht ho).2.1 e he hb; omega)⟩
    rw [hr] at this; cases this

theorem put_eval_same {a : Act} {d : Tmp} {v : Value} (h : d < a.tmps.size) : (a.put (some d) v).eval (.tmp d) = v := by
  simp [Act.eval, Act.put, h]

variable {P : Program} {Q : Exit → Act → World → Prop} {R : R'} {a0 : Act} {w0 : World}
theorem go_on (ht : tidy ops a0.tmps.size = true) (hmono : ∀ i v w w', R i v w → Grow w w' → R i v w')
    (hstep : ∀ i o, ops[i]? = some o → ∀ a w, Grow w0 w → (∀ t ∈ o.looksAt ops, Known ops R a0 i t (a.eval (.tmp t)) w) →
      if Region.wanted o (yielded ops a.tmps) = true then StepTo P o a w (R i) else R i undef w)
    (hend : ∀ a w, Grow w0 w → a.tmps.size = a0.tmps.size → a.defers = a0.defers → (∀ t, After ops R a0 t (a.eval (.tmp t)) w) → Q .normal a w) :
    ∀ (fuel : Nat) (l : Array Bool) (a : Act) (w : World), left ops l ≤ fuel → Inv ops R a0 w0 l a w → wpAny P .any ops Q fuel l a w := by
  have fin : ∀ (l : Array Bool) (a : Act) (w : World), Inv ops R a0 w0 l a w → Region.ready .any ops l = [] → Q .normal a w := by
    intro l a w I hr
    have hd := all_done ht I.lsize hr
    refine hend a w I.grow I.size I.defers fun t => ?_
    unfold After
    cases hw : writer ops t with
    | none => exact I.rest t fun i o ho _ hdt => writer_some ho hdt hw
    | some j =>
      obtain ⟨o, ho, hdt⟩ := writer_of hw
      exact I.done j o t ho (hd j (Array.getElem?_eq_some_iff.1 ho).1) hdt
  intro fuel
  induction fuel with
  | zero =>
    intro l a w hf I
    have hr : Region.ready .any ops l = [] := by
      refine Classical.byContradiction fun hne => ?_
      obtain ⟨i, hi⟩ := List.exists_mem_of_ne_nil _ hne
      obtain ⟨h0, o, ho, _⟩ := Go.mem_ready.1 hi
      have hlt : i < ops.size := (Array.getElem?_eq_some_iff.1 ho).1
      have := left_set (ops := ops) I.lsize hlt ((isL_of (by have := I.lsize; omega)).1 h0)
      omega
    exact ⟨hr, fin l a w I hr⟩
  | succ fuel ih =>
    intro l a w hf I
    refine ⟨fin l a w I, fun i hi => ?_⟩
    obtain ⟨h0, o, ho, hall⟩ := Go.mem_ready.1 hi
    have hlt : i < ops.size := (Array.getElem?_eq_some_iff.1 ho).1
    have hll : i < l.size := by have := I.lsize; omega
    have hnl : ¬ isL l i := (isL_of hll).1 h0
    obtain ⟨t1, t2, t3⟩ := tidy_op ht ho
    have hk : ∀ t ∈ o.looksAt ops, Known ops R a0 i t (a.eval (.tmp t)) w := by
      intro t htm
      unfold Known
      cases hw : writer ops t with
      | none => exact I.rest t fun k ok hok _ hdt => writer_some hok hdt hw
      | some j =>
        obtain ⟨oj, hoj, hdj⟩ := writer_of hw
        by_cases htied : tied ops j i = true
        · simp only [htied, if_true]
          have : isL l j := by
            simp only [tied, ho] at htied
            obtain ⟨e, he, hee⟩ := any_mem htied
            simp only [Bool.and_eq_true, beq_iff_eq] at hee
            have := hall e he hee.1
            rw [hee.2] at this; exact this
          exact I.done j oj t hoj this hdj
        · simp only [htied]
          refine I.rest t fun k ok hok hkl hdt => ?_
          have hkj : writer ops t = some k := ((tidy_op ht hok).1 t hdt).1
          rw [hw] at hkj; cases hkj
          rcases t3 t htm j hw with h | h | h
          · exact htied h
          · simp only [tied, hoj] at h
            obtain ⟨e, he, hee⟩ := any_mem h
            simp only [Bool.and_eq_true, beq_iff_eq] at hee
            have := I.closed j oj hoj hkl e he hee.1
            rw [hee.2] at this; exact hnl this
          · subst h; exact hnl hkl
    have next : ∀ v w', R i v w' → Grow w w' → wpAny P .any ops Q fuel (l.setIfInBounds i true) (a.put o.dst v) w' := by
      intro v w' hv hg
      refine ih (l.setIfInBounds i true) (a.put o.dst v) w' (by have := left_set (ops := ops) I.lsize hlt hnl; omega) ?_
      refine ⟨by simpa using I.lsize, I.grow.trans hg, ?_, ?_, ?_, ?_, ?_⟩
      · cases o.dst <;> simp [Act.put, I.size]
      · cases o.dst <;> simp [Act.put, I.defers]
      · intro k ok d hok hkl hd
        rw [set_isL hll] at hkl
        by_cases hki : k = i
        · subst hki
          rw [ho] at hok; cases hok
          rw [hd, put_eval_same (a := a) (d := d) (v := v) (by rw [I.size]; exact (t1 d hd).2)]; exact hv
        · have hkl' : isL l k := hkl.resolve_left hki
          rw [Act.eval_put (fun d' hd' e => by
            cases e
            have h1 := (t1 d hd').1
            have h2 := ((tidy_op ht hok).1 d hd).1
            rw [h1] at h2; cases h2; exact hki rfl)]
          exact hmono _ _ _ _ (I.done k ok d hok hkl' hd) hg
      · intro t hno
        rw [Act.eval_put (fun d' hd' e => by
          cases e
          exact hno i o ho ((set_isL hll i).2 (.inl rfl)) hd')]
        exact I.rest t fun k ok hok hkl => hno k ok hok ((set_isL hll k).2 (.inr hkl))
      · intro j oj hoj hjl e he hb
        rw [set_isL hll] at hjl ⊢
        rcases hjl with rfl | hjl
        · rw [ho] at hoj; cases hoj
          exact .inr (hall e he hb)
        · exact .inr (I.closed j oj hoj hjl e he hb)
    have hs := hstep i o ho a w I.grow hk
    unfold wpOp
    simp only [ho]
    split
    · rename_i hw
      rw [if_pos hw] at hs
      exact .inl (hs.wp next)
    · rename_i hw
      rw [if_neg hw] at hs
      exact next undef w hs (Grow.refl w)

theorem wp_region_rel {id : Nat} (hm : P.follows .mixedOrders = true) (ht : tidy ops a0.tmps.size = true) (hmono : ∀ i v w w', R i v w → Grow w w' → R i v w')
    (hstep : ∀ i o, ops[i]? = some o → ∀ a w, Grow w0 w → (∀ t ∈ o.looksAt ops, Known ops R a0 i t (a.eval (.tmp t)) w) →
      if Region.wanted o (yielded ops a.tmps) = true then StepTo P o a w (R i) else R i undef w)
    (hend : ∀ a w, Grow w0 w → a.tmps.size = a0.tmps.size → a.defers = a0.defers → (∀ t, After ops R a0 t (a.eval (.tmp t)) w) → Q .normal a w) :
    (Code.region id ops true).wp P Q a0 w0 := by
  refine wp_region_any hm ?_
  refine go_on ht hmono hstep hend _ _ _ _ (by unfold left; exact Nat.le_trans (List.countP_le_length) (by simp)) ?_
  refine ⟨by simp, (Grow.refl w0).drew, rfl, rfl, ?_, fun _ _ => rfl, ?_⟩
  · intro i o d ho hl; exact absurd hl (not_isL_start _ _)
  · intro i o ho hl; exact absurd hl (not_isL_start _ _)
end

/-! The same, operation by operation in the order of the text. plan: for each operation the slots that it looks at, each with its writer, if that comes before it. -/
abbrev Plan := List (List (Tmp × Option Nat))
def planAt (ops : Array Oper) (i : Nat) (o : Oper) (p : Tmp × Option Nat) : Bool :=
  (o.looksAt ops).contains p.1 && (match writer ops p.1, p.2 with
      | none, none => true
      | some j, some k => decide (j + k + 1 = i) && tied ops j i
      | some j, none => !tied ops j i
      | none, some _ => false)
def goodPlan (ops : Array Oper) (plan : Plan) : Bool := (List.range ops.size).all fun i => match ops[i]?, plan[i]? with
  | some o, some ps => ps.all (planAt ops i o)
  | _, _ => false
abbrev Rs := List (Value → World → Prop)
/-- The i-th relation of a list that holds the latest first. -/
def at_ (rs : Rs) (i : Nat) : Value → World → Prop := if i < rs.length then rs.getD (rs.length - 1 - i) (fun _ _ => True) else fun _ _ => True
/-- What is known of the slots of one operation. -/
def Ks (a0 : Act) (rs : Rs) (a : Act) (w : World) : List (Tmp × Option Nat) → Prop
  | [] => True
  | (t, none) :: r => a.eval (.tmp t) = a0.eval (.tmp t) ∧ Ks a0 rs a w r
  | (t, some k) :: r => rs.getD k (fun _ _ => True) (a.eval (.tmp t)) w ∧ Ks a0 rs a w r
/-- What is known of the slots in the end. -/
def Ends (ops : Array Oper) (rs : Rs) (a0 : Act) (a : Act) (w : World) : Prop := a.tmps.size = a0.tmps.size ∧ a.defers = a0.defers ∧ ∀ t, After ops (at_ rs) a0 t (a.eval (.tmp t)) w
def Mono (R : Value → World → Prop) : Prop := ∀ v w w', R v w → Grow w w' → R v w'
def Walk (P : Program) (ops : Array Oper) (a0 : Act) (w0 : World) (Q : Exit → Act → World → Prop) : List Oper → Plan → Rs → Prop
  | [], _, rs => ∀ a w, Grow w0 w → Ends ops rs a0 a w → Q .normal a w
  | _ :: _, [], _ => False
  | o :: rest, ps :: plan, rs => ∃ R, Mono R ∧ (∀ a w, Grow w0 w → Ks a0 rs a w ps → if Region.wanted o (yielded ops a.tmps) = true then StepTo P o a w R else R undef w) ∧ Walk P ops a0 w0 Q rest plan (R :: rs)

section
variable {P : Program} {ops : Array Oper} {Q : Exit → Act → World → Prop} {a0 : Act} {w0 : World}
theorem at_append (rs : Rs) (R : Value → World → Prop) (i : Nat) (h : i < rs.length) : at_ (R :: rs) i = at_ rs i := by
  unfold at_
  rw [if_pos h, if_pos (by simp; omega)]
  obtain ⟨k, hk⟩ : ∃ k, rs.length - 1 - i = k := ⟨_, rfl⟩
  rw [hk, List.length_cons, show rs.length + 1 - 1 - i = k + 1 by omega]
  simp
theorem at_last (rs : Rs) (R : Value → World → Prop) : at_ (R :: rs) rs.length = R := by
  unfold at_
  rw [if_pos (by simp), List.length_cons, show rs.length + 1 - 1 - rs.length = 0 by omega]
  simp
/-- The walk hands over the relations of all operations. -/
theorem walk_rs : ∀ (rest : List Oper) (plan : Plan) (rs : Rs), Walk P ops a0 w0 Q rest plan rs →
    ∃ rs' : Rs, rs'.length = rs.length + rest.length ∧ (∀ i, i < rs.length → at_ rs' i = at_ rs i) ∧ (∀ a w, Grow w0 w → Ends ops rs' a0 a w → Q .normal a w) ∧
      ∀ (k : Nat) (o : Oper), rest[k]? = some o → ∃ ps, plan[k]? = some ps ∧ Mono (at_ rs' (rs.length + k)) ∧
        ∀ a w, Grow w0 w → (∀ (rsm : Rs), rsm.length = rs.length + k → (∀ i, i < rs.length + k → at_ rsm i = at_ rs' i) → Ks a0 rsm a w ps) →
          if Region.wanted o (yielded ops a.tmps) = true then StepTo P o a w (at_ rs' (rs.length + k)) else at_ rs' (rs.length + k) undef w
  | [], plan, rs, h => ⟨rs, by simp, fun _ _ => rfl, h, fun k o hk => by simp at hk⟩
  | o :: rest, [], rs, h => h.elim
  | o :: rest, ps :: plan, rs, h => by
    obtain ⟨R, hm, hs, hw⟩ := h
    obtain ⟨rs', hl, hat, he, hk⟩ := walk_rs rest plan (R :: rs) hw
    have hlen : (R :: rs).length = rs.length + 1 := by simp
    have hR : at_ rs' rs.length = R := by rw [hat _ (by rw [hlen]; omega), at_last]
    have hat' : ∀ i, i < rs.length → at_ rs' i = at_ rs i := fun i hi => by rw [hat i (by rw [hlen]; omega), at_append _ _ _ hi]
    refine ⟨rs', by rw [hl, hlen]; simp; omega, hat', he, fun k o' hko => ?_⟩
    cases k with
    | zero =>
      simp at hko; subst hko
      refine ⟨ps, rfl, by rw [Nat.add_zero, hR]; exact hm, fun a w hg hks => ?_⟩
      rw [Nat.add_zero, hR]
      exact hs a w hg (hks rs (by omega) (fun i hi => (hat' i (by omega)).symm))
    | succ k =>
      obtain ⟨ps', h1, h2, h3⟩ := hk k o' (by simpa using hko)
      rw [hlen] at h2 h3
      refine ⟨ps', by simpa using h1, by rw [show rs.length + (k + 1) = rs.length + 1 + k by omega]; exact h2, fun a w hg hks => ?_⟩
      rw [show rs.length + (k + 1) = rs.length + 1 + k by omega]
      exact h3 a w hg (fun rsm hm1 hm2 => hks rsm (by omega) (fun i hi => hm2 i (by omega)))
/-! The rules for one operation. -/
section
variable {o : Oper} {rest : List Oper} {ps : List (Tmp × Option Nat)} {plan : Plan} {rs : Rs}
theorem mono_eq (v : Value) : Mono fun u _ => u = v := fun _ _ _ h _ => h
/-- It computes a value. -/
theorem on_val (v : Value) (h : ∀ a w, Grow w0 w → Ks a0 rs a w ps → Region.wanted o (yielded ops a.tmps) = true ∧ (execOp a.eval o).run P w = .ok (.value v) w)
    (hr : Walk P ops a0 w0 Q rest plan ((fun u _ => u = v) :: rs)) : Walk P ops a0 w0 Q (o :: rest) (ps :: plan) rs :=
  ⟨_, mono_eq v, fun a w hg hk => by
    obtain ⟨h1, h2⟩ := h a w hg hk
    rw [if_pos h1]; unfold StepTo; rw [h2]; exact ⟨rfl, Grow.refl w⟩, hr⟩
/-- It is passed over. -/
theorem on_skip (h : ∀ a w, Grow w0 w → Ks a0 rs a w ps → Region.wanted o (yielded ops a.tmps) = false)
    (hr : Walk P ops a0 w0 Q rest plan ((fun u _ => u = undef) :: rs)) : Walk P ops a0 w0 Q (o :: rest) (ps :: plan) rs :=
  ⟨_, mono_eq undef, fun a w hg hk => by rw [if_neg (by rw [h a w hg hk]; simp)], hr⟩
/-- It calls a function. -/
theorem on_call (R : Value → World → Prop) (hm : Mono R) (f : FuncId) (h : ∀ a w, Grow w0 w → Ks a0 rs a w ps → Region.wanted o (yielded ops a.tmps) = true ∧ ∃ args, (execOp a.eval o).run P w = .ok (.enter f args) w ∧
      Calls P f args w fun e w' => ∃ v, e = .returned v ∧ R v w' ∧ Grow w w')
    (hr : Walk P ops a0 w0 Q rest plan (R :: rs)) : Walk P ops a0 w0 Q (o :: rest) (ps :: plan) rs :=
  ⟨R, hm, fun a w hg hk => by
    obtain ⟨h1, args, h2, h3⟩ := h a w hg hk
    rw [if_pos h1]; unfold StepTo; rw [h2]; exact h3, hr⟩
/-- It makes memory. -/
theorem on_make (R : Value → World → Prop) (hm : Mono R) (h : ∀ a w, Grow w0 w → Ks a0 rs a w ps → Region.wanted o (yielded ops a.tmps) = true ∧ ∃ v w', (execOp a.eval o).run P w = .ok (.value v) w' ∧ R v w' ∧ Grow w w')
    (hr : Walk P ops a0 w0 Q rest plan (R :: rs)) : Walk P ops a0 w0 Q (o :: rest) (ps :: plan) rs :=
  ⟨R, hm, fun a w hg hk => by
    obtain ⟨h1, v, w', h2, h3, h4⟩ := h a w hg hk
    rw [if_pos h1]; unfold StepTo; rw [h2]; exact ⟨h3, h4⟩, hr⟩
/-- It hands a value on. -/
theorem on_same (x : Operand) (R : Value → World → Prop) (hm : Mono R) (hop : o.op = .move x ∨ o.op = .assign x) (h : ∀ a w, Grow w0 w → Ks a0 rs a w ps → Region.wanted o (yielded ops a.tmps) = true ∧ R (a.eval x) w)
    (hr : Walk P ops a0 w0 Q rest plan (R :: rs)) : Walk P ops a0 w0 Q (o :: rest) (ps :: plan) rs :=
  ⟨R, hm, fun a w hg hk => by
    obtain ⟨h1, h2⟩ := h a w hg hk
    rw [if_pos h1]
    unfold StepTo execOp
    rcases hop with e | e <;> rw [e] <;> exact ⟨h2, Grow.refl w⟩, hr⟩
def Pairs (a : Act) : List (Tmp × Value) → Prop
  | [] => True
  | p :: r => a.eval (.tmp p.1) = p.2 ∧ Pairs a r
def putAll (a : Act) : List (Tmp × Value) → Act
  | [] => a
  | p :: r => putAll (a.put (some p.1) p.2) r
def covers (ops : Array Oper) (vs : List (Tmp × Value)) : Bool := ops.all fun o => match o.dst with | some d => vs.any (·.1 == d) | none => true
theorem act_ext {a b : Act} (hs : a.tmps.size = b.tmps.size) (hd : a.defers = b.defers) (h : ∀ t, a.eval (.tmp t) = b.eval (.tmp t)) : a = b := by
  obtain ⟨ta, da⟩ := a
  obtain ⟨tb, db⟩ := b
  simp only at hs hd
  subst hd
  congr 1
  apply Array.ext_getElem?
  intro i
  by_cases hi : i < ta.size
  · have := h i
    simp only [Act.eval, Array.getD_eq_getD_getElem?, Array.getElem?_eq_getElem hi, Array.getElem?_eq_getElem (show i < tb.size by omega), Option.getD_some] at this
    rw [Array.getElem?_eq_getElem hi, Array.getElem?_eq_getElem (show i < tb.size by omega), this]
  · rw [Array.getElem?_eq_none (by omega), Array.getElem?_eq_none (by omega)]
theorem putAll_size : ∀ (vs : List (Tmp × Value)) (a : Act), (putAll a vs).tmps.size = a.tmps.size ∧ (putAll a vs).defers = a.defers
  | [], a => ⟨rfl, rfl⟩
  | p :: r, a => by
    have := putAll_size r (a.put (some p.1) p.2)
    simpa [putAll, Act.put] using this
theorem putAll_eval {a : Act} : ∀ (vs : List (Tmp × Value)) (b : Act), Pairs a vs → a.tmps.size = b.tmps.size → ∀ t, ((vs.any (·.1 == t)) = true ∨ a.eval (.tmp t) = b.eval (.tmp t)) → a.eval (.tmp t) = (putAll b vs).eval (.tmp t)
  | [], b, _, _, t, h => by
    rcases h with h | h
    · simp at h
    · exact h
  | p :: r, b, hp, hs, t, h => by
    refine putAll_eval r (b.put (some p.1) p.2) hp.2 (by simpa [Act.put] using hs) t ?_
    by_cases e : p.1 = t
    · by_cases hr : (r.any (·.1 == t)) = true
      · exact .inl hr
      · refine .inr ?_
        subst e
        by_cases hlt : @LT.lt Nat _ p.1 b.tmps.size
        · rw [put_eval_same hlt]; exact hp.1
        · simp only [Act.eval, Act.put, Array.getD_eq_getD_getElem?]
          rw [Array.getElem?_eq_none (by omega), Array.getElem?_eq_none (by simp; omega)]
    · rcases h with h | h
      · simp only [List.any_cons, Bool.or_eq_true, beq_iff_eq] at h
        exact .inl (h.resolve_left e)
      · refine .inr ?_
        rw [Act.eval_put (fun d hd e' => by cases hd; cases e'; exact e rfl)]; exact h
theorem frame {a : Act} {w : World} (vs : List (Tmp × Value)) (hE : Ends ops rs a0 a w) (hc : covers ops vs = true) (hv : Pairs a vs) : a = putAll a0 vs := by
  obtain ⟨h1, h2, h3⟩ := hE
  refine act_ext (h1.trans (putAll_size vs a0).1.symm) (h2.trans (putAll_size vs a0).2.symm) fun t => putAll_eval vs a0 hv h1 t ?_
  by_cases ht : (vs.any (·.1 == t)) = true
  · exact .inl ht
  · refine .inr ?_
    have := h3 t
    unfold After at this
    cases hw : writer ops t with
    | none => simpa [hw] using this
    | some j =>
      obtain ⟨o, ho, hd⟩ := writer_of hw
      have hm : o ∈ ops := Array.mem_of_getElem? ho
      have := Array.all_eq_true_iff_forall_mem.1 hc o hm
      simp only [hd] at this
      exact absurd this ht
theorem ev {a : Act} {t : Tmp} {v : Value} (h : a.eval (.tmp t) = v) : a.tmps[t]?.getD undef = v := by
  simpa [Act.eval] using h
theorem wanted_none {y : Nat → Option Bool} (h : o.guard = none) : Region.wanted o y = true := by simp [Region.wanted, h]
theorem wanted_yes {a : Act} {g : Nat} {b : Bool} {t : Tmp} (h : o.guard = some (g, b)) (ht : (ops[g]?).bind (·.dst) = some t) (hv : a.eval (.tmp t) = .bool b) : Region.wanted o (yielded ops a.tmps) = true := by
  have hs : a.tmps[t]? = some (.bool b) := by
    simp only [Act.eval, Array.getD_eq_getD_getElem?] at hv
    cases hq : a.tmps[t]? with
    | none => rw [hq] at hv; exact absurd hv (by simp [undef])
    | some u => rw [hq] at hv; simpa using hv
  simp [Region.wanted, h, yielded, ht, hs]
theorem wanted_no {a : Act} {g : Nat} {b c : Bool} {t : Tmp} (h : o.guard = some (g, b)) (ht : (ops[g]?).bind (·.dst) = some t) (hv : a.eval (.tmp t) = .bool c) (hne : c ≠ b) : Region.wanted o (yielded ops a.tmps) = false := by
  have hs : a.tmps[t]? = some (.bool c) := by
    simp only [Act.eval, Array.getD_eq_getD_getElem?] at hv
    cases hq : a.tmps[t]? with
    | none => rw [hq] at hv; exact absurd hv (by simp [undef])
    | some u => rw [hq] at hv; simpa using hv
  simp [Region.wanted, h, yielded, ht, hs, hne]
theorem wanted_undef {a : Act} {g : Nat} {b : Bool} {t : Tmp} (h : o.guard = some (g, b)) (ht : (ops[g]?).bind (·.dst) = some t) (hv : a.eval (.tmp t) = undef) : Region.wanted o (yielded ops a.tmps) = false := by
  have hs : ∀ c, a.tmps[t]? ≠ some (.bool c) := by
    intro c hc
    simp [Act.eval, hc, undef] at hv
  simp only [Region.wanted, h, yielded, ht, Option.bind_some]
  rfl
end
theorem wp_region_walk {id : Nat} (plan : Plan) (hm : P.follows .mixedOrders = true) (ht : tidy ops a0.tmps.size = true) (hp : goodPlan ops plan = true)
    (h : Walk P ops a0 w0 Q ops.toList plan []) : (Code.region id ops true).wp P Q a0 w0 := by
  obtain ⟨rs', hl, _, he, hk⟩ := walk_rs ops.toList plan [] h
  simp only [List.length_nil, Nat.zero_add, Array.length_toList] at hl hk
  have plan_of : ∀ (i : Nat) (o : Oper) (ps : List (Tmp × Option Nat)), ops[i]? = some o → plan[i]? = some ps → ps.all (planAt ops i o) = true := fun i o ps ho hps => by
    have hi : i < ops.size := (Array.getElem?_eq_some_iff.1 ho).1
    have := List.all_eq_true.1 hp i (List.mem_range.2 hi)
    simpa only [ho, hps] using this
  refine wp_region_rel (R := at_ rs') hm ht ?_ ?_ (fun a w hg h1 h2 h3 => he a w hg ⟨h1, h2, h3⟩)
  · intro i v w w' hv hg
    by_cases hi : i < ops.size
    · obtain ⟨ps, _, hmm, _⟩ := hk i ops[i] (by simp [hi])
      exact hmm v w w' hv hg
    · have : at_ rs' i = fun _ _ => True := by unfold at_; rw [if_neg (by omega)]
      rw [this]; trivial
  · intro i o ho a w hg hkn
    have hi : i < ops.size := (Array.getElem?_eq_some_iff.1 ho).1
    obtain ⟨ps, hps, _, hst⟩ := hk i o (by rw [Array.getElem?_toList]; exact ho)
    refine hst a w hg fun rsm hrl hri => ?_
    have key : ∀ p ∈ ps, Ks a0 rsm a w [p] := by
      intro p hpm
      have h1 := List.all_eq_true.1 (plan_of i o ps ho hps) p hpm
      simp only [planAt, Bool.and_eq_true] at h1
      obtain ⟨hc, hmt⟩ := h1
      have hlook : p.1 ∈ o.looksAt ops := by simpa using hc
      have hkn1 := hkn p.1 hlook
      unfold Known at hkn1
      obtain ⟨t, j⟩ := p
      cases hw : writer ops t with
      | none =>
        simp only [hw] at hmt hkn1
        cases j with
        | none => exact ⟨hkn1, trivial⟩
        | some j => cases hmt
      | some k =>
        simp only [hw] at hmt hkn1
        cases j with
        | none =>
          simp only [Bool.not_eq_true'] at hmt
          rw [hmt] at hkn1
          exact ⟨hkn1, trivial⟩
        | some j =>
          simp only [Bool.and_eq_true, decide_eq_true_eq] at hmt
          obtain ⟨hji, htie⟩ := hmt
          rw [htie] at hkn1
          have hlt : k < i := by
            simp only [tied, ho] at htie
            obtain ⟨e, he, hee⟩ := any_mem htie
            simp only [Bool.and_eq_true, beq_iff_eq] at hee
            have := (tidy_op ht ho).2.1 e he hee.1
            omega
          refine ⟨?_, trivial⟩
          have e : rsm.getD j (fun _ _ => True) = at_ rsm k := by
            unfold at_; rw [if_pos (by omega), show rsm.length - 1 - k = j by omega]
          rw [e, hri k hlt]; exact hkn1
    have : ∀ qs : List (Tmp × Option Nat), (∀ p ∈ qs, Ks a0 rsm a w [p]) → Ks a0 rsm a w qs := by
      intro qs
      induction qs with
      | nil => intro _; trivial
      | cons p qs ih =>
        intro h
        have hp1 := h p (List.mem_cons_self ..)
        have hq := ih (fun q hq => h q (List.mem_cons_of_mem _ hq))
        obtain ⟨t, j⟩ := p
        cases j with
        | none => exact ⟨hp1.1, hq⟩
        | some j => exact ⟨hp1.1, hq⟩
    exact this ps key
end
end Rel
end Go.Proofs.Ytaecdikglfdfnaa
