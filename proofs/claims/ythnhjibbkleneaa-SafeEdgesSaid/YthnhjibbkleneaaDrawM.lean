/- A region that draws its order, with memory that is owned: operations that change what the region owns stand in chains, each in its order; all others may come in any order. Over any program. -/
import Derived.Test.YthnhjibbkleneaaLift
namespace Go.Proofs.Ythnhjibbkleneaa
open Go.RowKit G
namespace D
abbrev Rm := Value → Mem → Prop
abbrev Rms := List Rm
def atm (rs : Rms) (i : Nat) : Rm := if i < rs.length then rs.getD (rs.length - 1 - i) (fun _ _ => True) else fun _ _ => True
theorem atm_append (rs : Rms) (R : Rm) (i : Nat) (h : i < rs.length) : atm (R :: rs) i = atm rs i := by
  unfold atm
  rw [if_pos h, if_pos (by simp; omega)]
  obtain ⟨k, hk⟩ : ∃ k, rs.length - 1 - i = k := ⟨_, rfl⟩
  rw [hk, List.length_cons, show rs.length + 1 - 1 - i = k + 1 by omega]
  simp
theorem atm_last (rs : Rms) (R : Rm) : atm (R :: rs) rs.length = R := by
  unfold atm
  rw [if_pos (by simp), List.length_cons, show rs.length + 1 - 1 - rs.length = 0 by omega]
  simp
/-- For each operation: the slots that it looks at, each with the distance to its writer; for each chain, between which of its operations it may come; the chain that it belongs to. -/
abbrev PlanM := List (List (Tmp × Option Nat) × List (Nat × Nat) × Option Nat)
abbrev Chains := List (List Nat)
abbrev Vals := Nat → List Value
def chain (chs : Chains) (c : Nat) : List Nat := chs.getD c []
def chainOk (ops : Array Oper) (i : Nat) (mt : Option Nat) (c : Nat) (ch : List Nat) (b : Nat × Nat) : Bool :=
  (ch.take b.1).all (fun m => bef ops m i) && (match ch[b.2]? with | some m => bef ops i m || i == m | none => true) &&
  (if mt == some c then b.1 == b.2 && ch[b.1]? == some i else !ch.contains i) && decide (b.1 ≤ ch.length)
def planOkM (ops : Array Oper) (chs : Chains) (i : Nat) (o : Oper) (p : List (Tmp × Option Nat) × List (Nat × Nat) × Option Nat) : Bool :=
  p.1.all (slotOk ops i o) && (List.range chs.length).all (fun c => match p.2.1[c]? with | some b => chainOk ops i p.2.2 c (chain chs c) b | none => false) &&
  (match p.2.2 with | some c => decide (c < chs.length) | none => true) && decide (p.2.1.length = chs.length)
def goodPlanM (ops : Array Oper) (k0 : Nat) (chs : Chains) (plan : PlanM) : Bool :=
  ((List.range k0).all fun i => match ops[i]?, plan[i]? with
    | some o, some p => planOkM ops chs i o p
    | _, _ => false) && (chs.all fun ch => ch.all fun m => decide (m < k0)) && (chs.all fun ch => (List.range ch.length).all fun j => (ch.take j).all fun m => bef ops m (ch.getD j 0)) && decide (k0 ≤ ops.size) && plan.length == k0 &&
  ((List.range ops.size).all fun j => decide (j < k0) || (List.range j).all fun i => bef ops i j)
def Ksm (a0 : Act) (rs : Rms) (a : Act) (M : Mem) : List (Tmp × Option Nat) → Prop
  | [] => True
  | (t, none) :: r => a.eval (.tmp t) = a0.eval (.tmp t) ∧ Ksm a0 rs a M r
  | (t, some k) :: r => rs.getD k (fun _ _ => True) (a.eval (.tmp t)) M ∧ Ksm a0 rs a M r
def AfterM (ops : Array Oper) (rs : Rms) (a0 : Act) (t : Tmp) (v : Value) (M : Mem) : Prop :=
  match writer ops t with
  | none => v = a0.eval (.tmp t)
  | some j => if j < rs.length then atm rs j v M else v = a0.eval (.tmp t)
/-- The value that a plain handing on has. -/
def linkVal (a : Act) (o : Oper) : Option Value := match o.op with
  | .move x | .assign x => some (a.eval x)
  | .extract x ix => (match a.eval x with | .tuple vs => vs[ix]? | _ => none)
  | _ => none
def linkOk (ops : Array Oper) (i : Nat) (o : Oper) : Bool := o.guard.isNone && (match o.op with
  | .move (.tmp t) | .assign (.tmp t) | .extract (.tmp t) _ => (match writer ops t with | some j => bef ops j i && j != i | none => true)
  | _ => false)
theorem StepTo_link {P : Program} {o : Oper} {a : Act} {w : World} {Post : Value → World → Prop} (h : StepTo P o a w Post) : StepTo P o a w fun v w' => Post v w' ∧ ∀ u, linkVal a o = some u → v = u := by
  by_cases hl : ∃ u, linkVal a o = some u
  · obtain ⟨u, hu⟩ := hl
    have hr : (execOp a.eval o).run P w = .ok (.value u) w := by
      unfold linkVal at hu
      split at hu
      · rename_i ho; cases hu; simp [execOp, ho]
      · rename_i ho; cases hu; simp [execOp, ho]
      · rename_i x ix ho
        split at hu
        · rename_i vs hx; simp [execOp, ho, hx, Instr.extract, hu]
        · cases hu
      · cases hu
    unfold StepTo at h ⊢
    rw [hr] at h ⊢
    exact ⟨h, fun u' hu' => by rw [hu] at hu'; cases hu'; rfl⟩
  · exact StepTo.mono h fun v w' hp => ⟨hp, fun u hu => absurd ⟨u, hu⟩ hl⟩
def Links (ops : Array Oper) (a : Act) (p : Nat → Prop) : Prop := ∀ i o d u, ops[i]? = some o → p i → linkOk ops i o = true → o.dst = some d → linkVal a o = some u → a.eval (.tmp d) = u
structure EndsM (ops : Array Oper) (rs : Rms) (a0 : Act) (a : Act) (M : Mem) : Prop where
  size : a.tmps.size = a0.tmps.size
  defers : a.defers = a0.defers
  slots : ∀ t, AfterM ops rs a0 t (a.eval (.tmp t)) M
  links : Links ops a fun i => i < rs.length
theorem EndsM.move {ops : Array Oper} {rs : Rms} {a0 a : Act} {M : Mem} (h : EndsM ops rs a0 a M) (i : Nat) {o : Oper} {d : Tmp} {x : Operand} {v : Value} (ho : ops[i]? = some o) (hi : i < rs.length) (hl : linkOk ops i o = true) (hd : o.dst = some d) (hop : o.op = .move x ∨ o.op = .assign x) (hx : a.eval x = v) : a.eval (.tmp d) = v :=
  h.links i o d v ho hi hl hd (by unfold linkVal; rcases hop with e | e <;> simp [e, hx])
theorem EndsM.extract {ops : Array Oper} {rs : Rms} {a0 a : Act} {M : Mem} (h : EndsM ops rs a0 a M) (i : Nat) {o : Oper} {d : Tmp} {x : Operand} {ix : Nat} {vs : Array Value} {v : Value} (ho : ops[i]? = some o) (hi : i < rs.length) (hl : linkOk ops i o = true) (hd : o.dst = some d) (hop : o.op = .extract x ix) (hx : a.eval x = .tuple vs) (hv : vs[ix]? = some v) : a.eval (.tmp d) = v :=
  h.links i o d v ho hi hl hd (by unfold linkVal; simp [hop, hx, hv])
def MonoR (R : Rm) : Prop := ∀ v M M', R v M → Le M M' → R v M'
/-- The values that the chains have left lie in their slots. -/
def Cor (ops : Array Oper) (chs : Chains) (a : Act) (vs : Vals) : Prop :=
  ∀ (c j : Nat) (m : Nat) (o : Oper) (d : Tmp) (v : Value), (chain chs c)[j]? = some m → ops[m]? = some o → o.dst = some d → (vs c)[j]? = some v → a.eval (.tmp d) = v
def Bd (bs : List (Nat × Nat)) (vs : Vals) : Prop := ∀ (c : Nat) (b : Nat × Nat), bs[c]? = some b → b.1 ≤ (vs c).length ∧ (vs c).length ≤ b.2
def push (vs : Vals) (mt : Option Nat) (v : Value) : Vals := match mt with | none => vs | some c => fun c' => if c' = c then vs c ++ [v] else vs c'
/-- One step. -/
def Step (P : Program) (o : Oper) (a : Act) (M : Mem) (R : Rm) (S : Value → Mem → Prop) : Prop :=
  StepTo P o a M.w fun v w' => ∃ M', M'.w = w' ∧ Le M M' ∧ R v M' ∧ S v M'
def WalkM {rr : Option Nat} (P : Program) (ops : Array Oper) (chs : Chains) (S : Vals → Mem → Prop) (a0 : Act) (Q : Exit → Act → World → Prop) (tail : List Oper) : List Oper → PlanM → Rms → Prop
  | [], _, rs => ∀ a M vs, (∀ c, (vs c).length = (chain chs c).length) → Cor ops chs a vs → S vs M → EndsM ops rs a0 a M → wpListIn (FW rr) 0 P ops Q tail a M.w
  | _ :: _, [], _ => False
  | o :: rest, (ps, bs, mt) :: plan, rs => ∃ R, MonoR R ∧ (∀ a M vs, Bd bs vs → Cor ops chs a vs → S vs M → Ksm a0 rs a M ps →
      if Region.wanted o (yielded ops a.tmps) = true then Step P o a M R (fun v M' => S (push vs mt v) M') else R undef M ∧ mt = none) ∧ WalkM (rr := rr) P ops chs S a0 Q tail rest plan (R :: rs)

section
variable {P : Program} {ops : Array Oper} {Q : Exit → Act → World → Prop} {rr : Option Nat} {a0 : Act} {chs : Chains} {S : Vals → Mem → Prop} {tail : List Oper}
theorem walkM_rs : ∀ (rest : List Oper) (plan : PlanM) (rs : Rms), WalkM (rr := rr) P ops chs S a0 Q tail rest plan rs →
    ∃ rs' : Rms, rs'.length = rs.length + rest.length ∧ (∀ i, i < rs.length → atm rs' i = atm rs i) ∧ (∀ a M vs, (∀ c, (vs c).length = (chain chs c).length) → Cor ops chs a vs → S vs M → EndsM ops rs' a0 a M → wpListIn (FW rr) 0 P ops Q tail a M.w) ∧
      ∀ (k : Nat) (o : Oper), rest[k]? = some o → ∃ p, plan[k]? = some p ∧ MonoR (atm rs' (rs.length + k)) ∧
        ∀ a M vs, Bd p.2.1 vs → Cor ops chs a vs → S vs M → (∀ (rsm : Rms), rsm.length = rs.length + k → (∀ i, i < rs.length + k → atm rsm i = atm rs' i) → Ksm a0 rsm a M p.1) →
          if Region.wanted o (yielded ops a.tmps) = true then Step P o a M (atm rs' (rs.length + k)) (fun v M' => S (push vs p.2.2 v) M') else atm rs' (rs.length + k) undef M ∧ p.2.2 = none
  | [], plan, rs, h => ⟨rs, by simp, fun _ _ => rfl, h, fun k o hk => by simp at hk⟩
  | o :: rest, [], rs, h => h.elim
  | o :: rest, (ps, bs, mt) :: plan, rs, h => by
    obtain ⟨R, hm, hs, hw⟩ := h
    obtain ⟨rs', hl, hat, he, hk⟩ := walkM_rs rest plan (R :: rs) hw
    have hlen : (R :: rs).length = rs.length + 1 := by simp
    have hR : atm rs' rs.length = R := by rw [hat _ (by rw [hlen]; omega), atm_last]
    have hat' : ∀ i, i < rs.length → atm rs' i = atm rs i := fun i hi => by rw [hat i (by rw [hlen]; omega), atm_append _ _ _ hi]
    refine ⟨rs', by rw [hl, hlen]; simp; omega, hat', he, fun k o' hko => ?_⟩
    cases k with
    | zero =>
      simp at hko; subst hko
      refine ⟨(ps, bs, mt), rfl, by rw [Nat.add_zero, hR]; exact hm, fun a M vs h1 h2 hS hks => ?_⟩
      rw [Nat.add_zero, hR]
      exact hs a M vs h1 h2 hS (hks rs (by omega) (fun i hi => (hat' i (by omega)).symm))
    | succ k =>
      obtain ⟨p', h1, h2, h3⟩ := hk k o' (by simpa using hko)
      rw [hlen] at h2 h3
      refine ⟨p', by simpa using h1, by rw [show rs.length + (k + 1) = rs.length + 1 + k by omega]; exact h2, fun a M vs g1 g2 hS hks => ?_⟩
      rw [show rs.length + (k + 1) = rs.length + 1 + k by omega]
      exact h3 a M vs g1 g2 hS (fun rsm hm1 hm2 => hks rsm (by omega) (fun i hi => hm2 i (by omega)))
structure InvM (ops : Array Oper) (k0 : Nat) (chs : Chains) (S : Vals → Mem → Prop) (rs : Rms) (a0 : Act) (l : Array Bool) (a : Act) (M : Mem) : Prop where
  lsize : l.size = ops.size
  pre : ∀ i, i < ops.size → isL l i → i < k0
  size : a.tmps.size = a0.tmps.size
  defers : a.defers = a0.defers
  done : ∀ i o d, ops[i]? = some o → isL l i → o.dst = some d → atm rs i (a.eval (.tmp d)) M
  rest : ∀ t, (∀ i o, ops[i]? = some o → isL l i → o.dst ≠ some t) → a.eval (.tmp t) = a0.eval (.tmp t)
  closed : ∀ j o, ops[j]? = some o → isL l j → ∀ e ∈ o.after, Region.binds .any e = true → isL l e.on
  links : Links ops a (isL l)
  stage : ∃ vs : Vals, S vs M ∧ Cor ops chs a vs ∧ ∀ c, (vs c).length ≤ (chain chs c).length ∧ ∀ j m, (chain chs c)[j]? = some m → (isL l m ↔ j < (vs c).length)

theorem chain_none {c : Nat} (h : ¬ c < chs.length) : chain chs c = [] := by unfold chain; rw [List.getD_eq_getElem?_getD, List.getElem?_eq_none (by omega)]; rfl
theorem chain_mem {c : Nat} (h : c < chs.length) : chain chs c ∈ chs := by unfold chain; rw [List.getD_eq_getElem?_getD, List.getElem?_eq_getElem h]; exact List.getElem_mem h
theorem wp_drawM {id n : Nat} {m0 : Mem} (k0 : Nat) (chs : Chains) (plan : PlanM) (S : Vals → Mem → Prop) (hsz : a0.tmps.size = n) (hm : P.follows .mixedOrders = true) (ht : tidy ops n = true) (hp : goodPlanM ops k0 chs plan = true)
    (hS0 : ∃ M : Mem, M.w = m0.w.drew ∧ S (fun _ => []) M) (h : WalkM (rr := rr) P ops chs S a0 Q (ops.toList.drop k0) (ops.toList.take k0) plan []) : (Code.region id ops true).wpIn (FW rr) 0 P Q a0 m0.w := by
  subst hsz
  obtain ⟨rs', hl, _, he, hk⟩ := walkM_rs (ops.toList.take k0) plan [] h
  simp only [goodPlanM, Bool.and_eq_true, decide_eq_true_eq, beq_iff_eq] at hp
  obtain ⟨⟨⟨⟨⟨hp1, hp2⟩, hp3⟩, hk0⟩, hpl⟩, hpt⟩ := hp
  simp only [List.length_nil, Nat.zero_add, List.length_take, Array.length_toList, Nat.min_eq_left hk0] at hl hk
  have hbt : ∀ j, k0 ≤ j → j < ops.size → ∀ i, i < j → bef ops i j = true := fun j hj hjs i hij => by
    have := List.all_eq_true.1 hpt j (List.mem_range.2 hjs)
    simp only [Bool.or_eq_true, decide_eq_true_eq] at this
    exact List.all_eq_true.1 (this.resolve_left (by omega)) i (List.mem_range.2 hij)
  have mut_lt : ∀ c j m, (chain chs c)[j]? = some m → m < k0 := fun c j m hm => by
    by_cases hc : c < chs.length
    · have h1 := List.all_eq_true.1 hp2 _ (chain_mem hc)
      have := List.all_eq_true.1 h1 m (List.mem_of_getElem? hm)
      simpa using this
    · rw [chain_none hc] at hm; simp at hm
  have mut_chain : ∀ c j m i m', (chain chs c)[j]? = some m → (chain chs c)[i]? = some m' → i < j → bef ops m' m = true := fun c j m i m' hj hi hij => by
    by_cases hc : c < chs.length
    · have h0 := List.all_eq_true.1 hp3 _ (chain_mem hc)
      have hjl : j < (chain chs c).length := (List.getElem?_eq_some_iff.1 hj).1
      have h1 := List.all_eq_true.1 h0 j (List.mem_range.2 hjl)
      have h2 := List.all_eq_true.1 h1 m' (List.mem_of_getElem? (i := i) (by rw [List.getElem?_take, if_pos hij]; exact hi))
      rw [List.getD_eq_getElem?_getD, hj] at h2
      exact h2
    · rw [chain_none hc] at hj; simp at hj
  have go : ∀ (fuel : Nat) (l : Array Bool) (a : Act) (M : Mem), left ops l ≤ fuel → InvM ops k0 chs S rs' a0 l a M → wpAnyIn (FW rr) 0 P .any ops Q fuel l a M.w := by
    have last : ∀ (l : Array Bool) (a : Act) (M : Mem), InvM ops k0 chs S rs' a0 l a M → (∀ i, i < k0 → isL l i) → wpListIn (FW rr) 0 P ops Q (ops.toList.drop k0) a M.w := by
      intro l a M I hd
      have hdone := hd
      obtain ⟨vs, hSk, hcor, hst⟩ := I.stage
      refine he a M vs (fun c => ?_) hcor hSk ⟨I.size, I.defers, fun t => ?_, fun i o d u ho hi hlk hd hu => I.links i o d u ho (hdone i (by omega)) hlk hd hu⟩
      · refine Classical.byContradiction fun hne => ?_
        have hle := (hst c).1
        have hlt : (vs c).length < (chain chs c).length := by omega
        have hmk : (chain chs c)[(vs c).length]? = some (chain chs c)[(vs c).length] := by simp [hlt]
        have := ((hst c).2 _ _ hmk).1 (hd _ (mut_lt c _ _ hmk))
        omega
      unfold AfterM
      cases hw : writer ops t with
      | none => exact I.rest t fun i o ho _ hdt => writer_some ho hdt hw
      | some j =>
        obtain ⟨o, ho, hdt⟩ := writer_of hw
        have hjs := (Array.getElem?_eq_some_iff.1 ho).1
        simp only [hl]
        by_cases hjk : j < k0
        · rw [if_pos hjk]; exact I.done j o t ho (hd j hjk) hdt
        · rw [if_neg hjk]
          refine I.rest t fun i oi hoi hil hdi => ?_
          have h1 := ((tidy_op ht hoi).1 t hdi).1
          rw [hw] at h1; cases h1
          exact hjk (I.pre j hjs hil)
    have fin : ∀ (l : Array Bool) (a : Act) (M : Mem), InvM ops k0 chs S rs' a0 l a M → Region.ready .any ops l = [] → Q .normal a M.w := by
      intro l a M I hr
      have hd := all_done ht I.lsize hr
      have hk : k0 = ops.size := by
        refine Classical.byContradiction fun hn => ?_
        have := I.pre k0 (by omega) (hd k0 (by omega)); omega
      have := last l a M I (fun i hi => hd i (by omega))
      rw [List.drop_of_length_le (by simp [hk])] at this
      exact this
    intro fuel
    induction fuel with
    | zero =>
      intro l a M hf I
      have hr : Region.ready .any ops l = [] := by
        refine Classical.byContradiction fun hne => ?_
        obtain ⟨i, hi⟩ := List.exists_mem_of_ne_nil _ hne
        obtain ⟨h0, o, ho, _⟩ := Go.mem_ready.1 hi
        have hlt : i < ops.size := (Array.getElem?_eq_some_iff.1 ho).1
        have := left_set (ops := ops) I.lsize hlt ((isL_of (by have := I.lsize; omega)).1 h0)
        omega
      exact ⟨hr, fin l a M I hr⟩
    | succ fuel ih =>
      intro l a M hf I
      refine ⟨fin l a M I, fun i hi => ?_⟩
      obtain ⟨h0, o, ho, hall⟩ := Go.mem_ready.1 hi
      have hlt : i < ops.size := (Array.getElem?_eq_some_iff.1 ho).1
      have hll : i < l.size := by have := I.lsize; omega
      have hnl : ¬ isL l i := (isL_of hll).1 h0
      have hall' : ∀ e ∈ o.after, Region.binds .any e = true → isL l e.on := hall
      obtain ⟨t1, t2, t3⟩ := tidy_op ht ho
      have before : ∀ j, bef ops j i = true → isL l j := fun j hj => anc_listed I.closed j i o ho hall' hj
      have behind : ∀ j oj, ops[j]? = some oj → bef ops i j = true → ¬ isL l j := fun j oj hoj hj hl' => hnl (anc_listed I.closed i j oj hoj (I.closed j oj hoj hl') hj)
      by_cases hik : k0 ≤ i
      · have hd : ∀ j, j < i → isL l j := fun j hj => before j (hbt i hik hlt j hj)
        have hie : i = k0 := by
          refine Classical.byContradiction fun hne => ?_
          have := I.pre k0 (by omega) (hd k0 (by omega)); omega
        subst hie
        have hw := run_tail (Q := Q) (a0 := a0) i hbt (fuel + 1) l a M.w i I.lsize hf (Nat.le_refl _) (fun j hj => ⟨fun h => I.pre j hj h, fun h => hd j h⟩) I.closed ht (last l a M I hd)
        exact hw.2 i hi
      replace hik : i < k0 := by omega
      obtain ⟨p, hpi, hmono, hst⟩ := hk i o (by rw [List.getElem?_take, if_pos hik, Array.getElem?_toList]; exact ho)
      have hpo : planOkM ops chs i o p = true := by
        have := List.all_eq_true.1 hp1 i (List.mem_range.2 hik)
        simpa only [ho, hpi] using this
      simp only [planOkM, Bool.and_eq_true, decide_eq_true_eq] at hpo
      obtain ⟨⟨⟨q1, q2⟩, q3⟩, q4⟩ := hpo
      have hch : ∀ c, c < chs.length → ∃ b, p.2.1[c]? = some b ∧ chainOk ops i p.2.2 c (chain chs c) b = true := fun c hc => by
        have := List.all_eq_true.1 q2 c (List.mem_range.2 hc)
        cases hb : p.2.1[c]? with
        | none => simp [hb] at this
        | some b => exact ⟨b, rfl, by simpa [hb] using this⟩
      obtain ⟨vs, hSk, hcor, hsg⟩ := I.stage
      have hbd : Bd p.2.1 vs := fun c b hb => by
        have hc : c < chs.length := by have := (List.getElem?_eq_some_iff.1 hb).1; omega
        obtain ⟨b', hb', hok⟩ := hch c hc
        rw [hb] at hb'; cases hb'
        simp only [chainOk, Bool.and_eq_true, decide_eq_true_eq] at hok
        obtain ⟨⟨⟨c1, c2⟩, c3⟩, c4⟩ := hok
        obtain ⟨hle, hiff⟩ := hsg c
        constructor
        · refine Classical.byContradiction fun hn => ?_
          have hlc : (vs c).length < (chain chs c).length := by omega
          have hmk : (chain chs c)[(vs c).length]? = some (chain chs c)[(vs c).length] := by simp [hlc]
          have hbb := List.all_eq_true.1 c1 (chain chs c)[(vs c).length] (List.mem_of_getElem? (i := (vs c).length) (by rw [List.getElem?_take, if_pos (by omega)]; exact hmk))
          have := (hiff _ _ hmk).1 (before _ hbb)
          omega
        · refine Classical.byContradiction fun hn => ?_
          cases hmh : (chain chs c)[b.2]? with
          | none =>
            have : (chain chs c).length ≤ b.2 := List.getElem?_eq_none_iff.1 hmh
            omega
          | some m =>
            simp only [hmh, Bool.or_eq_true, beq_iff_eq] at c2
            have hml := (hiff _ _ hmh).2 (by omega)
            rcases c2 with h3 | h3
            · have hmlt : m < ops.size := Nat.lt_of_lt_of_le (mut_lt c _ _ hmh) hk0
              exact behind m ops[m] (by simp [hmlt]) h3 hml
            · subst h3; exact hnl hml
      have hks : ∀ (rsm : Rms), rsm.length = i → (∀ j, j < i → atm rsm j = atm rs' j) → Ksm a0 rsm a M p.1 := by
        intro rsm hrl hri
        have key : ∀ x ∈ p.1, Ksm a0 rsm a M [x] := by
          intro x hxm
          have h1 := List.all_eq_true.1 q1 x hxm
          simp only [slotOk, Bool.and_eq_true] at h1
          obtain ⟨hc, hmt⟩ := h1
          have hlook : x.1 ∈ o.looksAt ops := by simpa using hc
          obtain ⟨t, j⟩ := x
          cases hw : writer ops t with
          | none =>
            simp only [hw] at hmt
            cases j with
            | none => exact ⟨I.rest t fun k ok hok _ hdt => writer_some hok hdt hw, trivial⟩
            | some j => cases hmt
          | some z =>
            simp only [hw] at hmt
            obtain ⟨oz, hoz, hdz⟩ := writer_of hw
            cases j with
            | none =>
              simp only [Bool.not_eq_true'] at hmt
              refine ⟨I.rest t fun y oy hoy hyl hdt => ?_, trivial⟩
              have hyz : writer ops t = some y := ((tidy_op ht hoy).1 t hdt).1
              rw [hw] at hyz; cases hyz
              rcases t3 t hlook z hw with h | h | h
              · rw [hmt] at h; cases h
              · exact behind z oz hoz h hyl
              · subst h; exact hnl hyl
            | some j =>
              simp only [Bool.and_eq_true, decide_eq_true_eq] at hmt
              obtain ⟨hji, hbz⟩ := hmt
              have hzl := before z hbz
              refine ⟨?_, trivial⟩
              have e : rsm.getD j (fun _ _ => True) = atm rsm z := by
                unfold atm; rw [if_pos (by omega), show rsm.length - 1 - z = j by omega]
              rw [e, hri z (by omega)]
              exact I.done z oz t hoz hzl hdz
        have : ∀ qs : List (Tmp × Option Nat), (∀ x ∈ qs, Ksm a0 rsm a M [x]) → Ksm a0 rsm a M qs := by
          intro qs
          induction qs with
          | nil => intro _; trivial
          | cons x qs ih =>
            intro h
            have hp1 := h x (List.mem_cons_self ..)
            have hq := ih (fun q hq => h q (List.mem_cons_of_mem _ hq))
            obtain ⟨t, j⟩ := x
            cases j with
            | none => exact ⟨hp1.1, hq⟩
            | some j => exact ⟨hp1.1, hq⟩
        exact this p.1 key
      have hs := hst a M vs hbd hcor hSk hks
      have next : ∀ v M', atm rs' i v M' → Le M M' → S (push vs p.2.2 v) M' → (o.guard = none → ∀ u, linkVal a o = some u → v = u) → wpAnyIn (FW rr) 0 P .any ops Q fuel (l.setIfInBounds i true) (a.put o.dst v) M'.w := by
        intro v M' hv hg hS' hlnk
        have hG : ∀ j v', j < ops.size → isL l j → atm rs' j v' M → atm rs' j v' M' := by
          intro j v' hj hjl hv'
          have hjk := I.pre j hj hjl
          obtain ⟨pj, hpj, hmj, _⟩ := hk j ops[j] (by rw [List.getElem?_take, if_pos hjk]; simp [hj])
          exact hmj _ _ _ hv' hg
        have old : ∀ (m : Nat) (om : Oper) (d : Tmp), ops[m]? = some om → om.dst = some d → m ≠ i → (a.put o.dst v).eval (.tmp d) = a.eval (.tmp d) := fun m om d hom hd hne =>
          Act.eval_put (fun d' hd' e => by
            cases e
            have h1 := (t1 d hd').1
            have h2 := ((tidy_op ht hom).1 d hd).1
            rw [h1] at h2; cases h2; exact hne rfl)
        refine ih (l.setIfInBounds i true) (a.put o.dst v) M' (by have := left_set (ops := ops) I.lsize hlt hnl; omega) ?_
        refine ⟨by simpa using I.lsize, fun x hx hxl => ?_, ?_, ?_, ?_, ?_, ?_, ?_, ?_⟩
        · rw [set_isL hll] at hxl
          rcases hxl with rfl | hxl
          · exact hik
          · exact I.pre x hx hxl
        · cases o.dst <;> simp [Act.put, I.size]
        · cases o.dst <;> simp [Act.put, I.defers]
        · intro y oy d hoy hyl hd
          rw [set_isL hll] at hyl
          by_cases hyi : y = i
          · subst hyi
            rw [ho] at hoy; cases hoy
            rw [hd, put_eval_same (a := a) (d := d) (v := v) (by rw [I.size]; exact (t1 d hd).2)]; exact hv
          · have hyl' : isL l y := hyl.resolve_left hyi
            rw [old y oy d hoy hd hyi]
            exact hG y _ (Array.getElem?_eq_some_iff.1 hoy).1 hyl' (I.done y oy d hoy hyl' hd)
        · intro t hno
          rw [Act.eval_put (fun d' hd' e => by
            cases e
            exact hno i o ho ((set_isL hll i).2 (.inl rfl)) hd')]
          exact I.rest t fun y oy hoy hyl => hno y oy hoy ((set_isL hll y).2 (.inr hyl))
        · intro j oj hoj hjl e he' hb
          rw [set_isL hll] at hjl ⊢
          rcases hjl with rfl | hjl
          · rw [ho] at hoj; cases hoj
            exact .inr (hall e he' hb)
          · exact .inr (I.closed j oj hoj hjl e he' hb)
        · -- handing on
          intro y oy d u hoy hyl hlk hd hu
          -- the operand's slot is not written now
          have keep : linkVal (a.put o.dst v) oy = linkVal a oy := by
            have ev : ∀ t, (match writer ops t with | some j => bef ops j y && j != y | none => true) = true → (a.put o.dst v).eval (.tmp t) = a.eval (.tmp t) := fun t ht' =>
              Act.eval_put (fun d' hd' e => by
                cases e
                have h1 := (t1 t hd').1
                simp only [h1, Bool.and_eq_true] at ht'
                have hbi := ht'.1
                rw [set_isL hll] at hyl
                rcases hyl with rfl | hyl
                · simp at ht'
                · exact hnl (anc_listed I.closed i y oy hoy (I.closed y oy hoy hyl) hbi))
            simp only [linkOk, Bool.and_eq_true] at hlk
            unfold linkVal
            split at hlk
            · rename_i t hop; simp only [hop]; rw [ev t hlk.2]
            · rename_i t hop; simp only [hop]; rw [ev t hlk.2]
            · rename_i t ix hop; simp only [hop]; rw [ev t hlk.2]
            · exact absurd hlk.2 (by simp)
          rw [keep] at hu
          by_cases hyi : y = i
          · subst hyi
            rw [ho] at hoy; cases hoy
            rw [hd, put_eval_same (a := a) (d := d) (v := v) (by rw [I.size]; exact (t1 d hd).2)]
            exact hlnk (by simp only [linkOk, Bool.and_eq_true, Option.isNone_iff_eq_none] at hlk; exact hlk.1) u hu
          · have hyl' : isL l y := by rw [set_isL hll] at hyl; exact hyl.resolve_left hyi
            rw [old y oy d hoy hd hyi]
            exact I.links y oy d u hoy hyl' hlk hd hu
        · -- the chains
          have notin : ∀ c, p.2.2 ≠ some c → ∀ j m, (chain chs c)[j]? = some m → m ≠ i := fun c hc j m hj e => by
            subst e
            by_cases hcl : c < chs.length
            · obtain ⟨b, _, hok⟩ := hch c hcl
              simp only [chainOk, Bool.and_eq_true, decide_eq_true_eq] at hok
              have c3 := hok.1.2
              rw [if_neg (by simpa using hc)] at c3
              have : m ∈ chain chs c := List.mem_of_getElem? hj
              simp [this] at c3
            · rw [chain_none hcl] at hj; simp at hj
          cases hmt : p.2.2 with
          | none =>
            rw [hmt] at hS' notin
            refine ⟨vs, hS', fun c j m om d u hj hom hd hu => ?_, fun c => ⟨(hsg c).1, fun j m hj => ?_⟩⟩
            · rw [old m om d hom hd (notin c (by simp) j m hj)]; exact hcor c j m om d u hj hom hd hu
            · rw [set_isL hll, ← (hsg c).2 j m hj]
              exact ⟨fun h => h.resolve_left (notin c (by simp) j m hj), .inr⟩
          | some c0 =>
            rw [hmt] at hS' notin
            have hc0 : c0 < chs.length := by rw [hmt] at q3; simpa using q3
            obtain ⟨b, hb, hok⟩ := hch c0 hc0
            simp only [chainOk, Bool.and_eq_true, decide_eq_true_eq] at hok
            have c3 := hok.1.2
            rw [if_pos (by simp [hmt])] at c3
            simp only [Bool.and_eq_true, beq_iff_eq] at c3
            have hbl := hbd c0 b hb
            have hkk : b.1 = (vs c0).length := by omega
            have hmi : (chain chs c0)[(vs c0).length]? = some i := by rw [← hkk]; exact c3.2
            have hil : (vs c0).length < (chain chs c0).length := (List.getElem?_eq_some_iff.1 hmi).1
            have uniq : ∀ j, (chain chs c0)[j]? = some i → j = (vs c0).length := fun j hj => by
              refine Classical.byContradiction fun hn => ?_
              rcases Nat.lt_or_gt_of_ne hn with hlt' | hgt
              · exact hnl (((hsg c0).2 j i hj).2 hlt')
              · exact hnl (before i (mut_chain c0 j i _ i hj hmi hgt))
            refine ⟨push vs (some c0) v, hS', fun c j m om d u hj hom hd hu => ?_, fun c => ?_⟩
            · by_cases hc : c = c0
              · subst hc
                simp only [push, if_true] at hu
                by_cases hji : j = (vs c).length
                · subst hji
                  rw [hmi] at hj; cases hj
                  rw [ho] at hom; cases hom
                  simp at hu; subst hu
                  rw [hd, put_eval_same (a := a) (d := d) (v := v) (by rw [I.size]; exact (t1 d hd).2)]
                · have hne : m ≠ i := fun e => by subst e; exact hji (uniq j hj)
                  rw [old m om d hom hd hne]
                  have hjl : j < (vs c).length := by
                    have := (List.getElem?_eq_some_iff.1 hu).1; simp at this; omega
                  rw [List.getElem?_append_left hjl] at hu
                  exact hcor c j m om d u hj hom hd hu
              · simp only [push, if_neg hc] at hu
                rw [old m om d hom hd (notin c (fun e => hc (by cases e; rfl)) j m hj)]; exact hcor c j m om d u hj hom hd hu
            · by_cases hc : c = c0
              · subst hc
                simp only [push, if_true, List.length_append, List.length_cons, List.length_nil]
                refine ⟨by omega, fun j m hj => ?_⟩
                rw [set_isL hll, (hsg c).2 j m hj]
                constructor
                · rintro (rfl | h)
                  · have := uniq j hj; omega
                  · omega
                · intro h
                  by_cases hjk : j = (vs c).length
                  · subst hjk; rw [hmi] at hj; cases hj; exact .inl rfl
                  · exact .inr (by omega)
              · simp only [push, if_neg hc]
                refine ⟨(hsg c).1, fun j m hj => ?_⟩
                rw [set_isL hll, ← (hsg c).2 j m hj]
                exact ⟨fun h => h.resolve_left (notin c (fun e => hc (by cases e; rfl)) j m hj), .inr⟩
      unfold wpOpIn
      simp only [ho]
      split
      · rename_i hw
        rw [if_pos hw] at hs
        exact StepTo.wp (StepTo_link hs) fun v w' ⟨⟨M', h1, h2, h3, h4⟩, h5⟩ => h1 ▸ next v M' h3 h2 h4 (fun _ => h5)
      · rename_i hw
        rw [if_neg hw] at hs
        obtain ⟨h1, h2⟩ := hs
        exact ⟨fun _ _ => trivial, next undef M h1 (Le.refl _) (by rw [h2]; exact hSk) (fun hg => by rw [wanted0 hg] at hw; exact absurd rfl hw)⟩
  refine wpIn_region_any hm ?_
  obtain ⟨M, hMw, hSM⟩ := hS0
  suffices hh : wpAnyIn (FW rr) 0 P .any ops Q ops.size (Array.replicate ops.size false) a0 M.w by rw [hMw] at hh; exact hh
  refine go _ _ _ _ (by unfold left; exact Nat.le_trans (List.countP_le_length) (by simp)) ?_
  refine ⟨by simp, fun i _ h => absurd h (not_isL_start _ _), rfl, rfl, ?_, fun _ _ => rfl, ?_, fun i o d u _ h _ _ _ => absurd h (not_isL_start _ _), fun _ => [], hSM, fun c j m o d v _ _ _ hv => by simp at hv, fun c => ⟨by simp, fun j m _ => ⟨fun h => absurd h (not_isL_start _ _), fun h => by simp at h⟩⟩⟩
  · intro i o d ho hl; exact absurd hl (not_isL_start _ _)
  · intro i o ho hl; exact absurd hl (not_isL_start _ _)
end
/-! What is said of memory: how far each chain has come says what it owns. -/
abbrev Stage := Vals → List Ent → Mem → Prop
def Ext (vs vs' : Vals) : Prop := ∀ (c i : Nat) (v : Value), (vs c)[i]? = some v → (vs' c)[i]? = some v
def CH (ps : List Stage) (q : Nat) (vs : Vals) (A : List Ent) (M : Mem) : Prop := (ps.getD (vs q).length fun _ _ _ => False) vs A M
def MonoP (p : Stage) : Prop := ∀ vs vs' A M M', p vs A M → Ext vs vs' → Le M M' → p vs' A M'
theorem CH.at {ps : List Stage} {q : Nat} {vs : Vals} {A : List Ent} {M : Mem} {j : Nat} {p : Stage} (h : CH ps q vs A M) (hl : (vs q).length = j) (hp : ps[j]? = some p) : p vs A M := by
  unfold CH at h; rw [List.getD_eq_getElem?_getD, hl, hp] at h; exact h
theorem get_push {vs : Vals} {q : Nat} {v : Value} {j : Nat} (h : (vs q).length = j) : ((push vs (some q) v) q)[j]? = some v := by subst h; simp [push]
theorem Ext_push (vs : Vals) (q : Nat) (v : Value) : Ext vs (push vs (some q) v) := fun c i u h => by
  unfold push; simp only []
  by_cases e : c = q
  · subst e; rw [if_pos rfl]
    have := (List.getElem?_eq_some_iff.1 h).1
    rw [List.getElem?_append_left this]; exact h
  · rw [if_neg e]; exact h
theorem get_old {vs : Vals} {q c : Nat} {u v : Value} {i : Nat} (h : (vs c)[i]? = some u) : ((push vs (some q) v) c)[i]? = some u := Ext_push vs q v c i u h
theorem CH.push {ps : List Stage} {q : Nat} {vs : Vals} {v : Value} {A : List Ent} {M : Mem} {j : Nat} {p : Stage} (hl : (vs q).length = j) (hp : ps[j + 1]? = some p) (h : p (D.push vs (some q) v) A M) : CH ps q (D.push vs (some q) v) A M := by
  have hlen : ((D.push vs (some q) v) q).length = j + 1 := by simp [D.push, hl]
  unfold CH; rw [List.getD_eq_getElem?_getD, hlen, hp]; exact h
theorem CH.ext {ps : List Stage} (hm : ∀ p ∈ ps, MonoP p) {q : Nat} {vs vs' : Vals} {A : List Ent} {M M' : Mem} (h : CH ps q vs A M) (he : Ext vs vs') (hq : (vs' q).length = (vs q).length) (hl : Le M M') : CH ps q vs' A M' := by
  unfold CH at h ⊢
  rw [List.getD_eq_getElem?_getD] at h ⊢
  rw [hq]
  cases hp : ps[(vs q).length]? with
  | none => rw [hp] at h; exact h.elim
  | some p => rw [hp] at h; exact hm p (List.mem_of_getElem? hp) vs vs' A M M' h he hl
theorem CH.mono {ps : List Stage} (hm : ∀ p ∈ ps, MonoP p) {q : Nat} {vs : Vals} {A : List Ent} {M M' : Mem} (h : CH ps q vs A M) (hl : Le M M') : CH ps q vs A M' := h.ext hm (fun _ _ _ h => h) rfl hl
theorem CH.other {ps : List Stage} (hm : ∀ p ∈ ps, MonoP p) {z q : Nat} {vs : Vals} {v : Value} {A : List Ent} {M M' : Mem} (h : CH ps z vs A M) (hl : Le M M') (hz : (z == q) = false := by rfl) : CH ps z (D.push vs (some q) v) A M' :=
  h.ext hm (Ext_push vs q v) (by have := ne_of_beq_false hz; simp [D.push, this]) hl
theorem allP_nil : ∀ p ∈ ([] : List Stage), MonoP p := fun p h => by cases h
theorem allP_cons {p : Stage} {ps : List Stage} (h : MonoP p) (hs : ∀ q ∈ ps, MonoP q) : ∀ q ∈ p :: ps, MonoP q := fun q hq => by
  rcases List.mem_cons.1 hq with rfl | hq
  · exact h
  · exact hs q hq
def SM (m m0 : Mem) (B : List Nat) (C : Vals → List Ent → Mem → Prop) : Vals → Mem → Prop := fun vs M => Le m M ∧ ∃ L, C vs L M ∧ St B m0 M L
theorem bd_eq {bs : List (Nat × Nat)} {vs : Vals} (h : Bd bs vs) (c j : Nat) (hb : bs[c]? = some (j, j)) : (vs c).length = j := by
  have := h c _ hb; simp only [] at this; omega
theorem sw {B : List Nat} {m0 M : Mem} {A E R : List Ent} (h : St B m0 M (A ++ (E ++ R))) : St B m0 M (E ++ (A ++ R)) :=
  h.perm (by rw [← List.append_assoc, ← List.append_assoc]; exact List.Perm.append_right R List.perm_append_comm)
theorem St_right {B : List Nat} {m0 M : Mem} {A R : List Ent} (h : St B m0 M (A ++ R)) : St B m0 M R :=
  ⟨h.le, h.kept, h.news, h.ow.right, fun b hb => h.blk b (by rw [blocksOf_append]; exact List.mem_append_right _ hb)⟩
section
variable {P : Program} {ops : Array Oper} {Q : Exit → Act → World → Prop} {rr : Option Nat} {a0 : Act} {chs : Chains} {S : Vals → Mem → Prop} {tail : List Oper} {o : Oper} {rest : List Oper} {ps : List (Tmp × Option Nat)} {bs : List (Nat × Nat)} {plan : PlanM} {rs : Rms}
theorem onP (Kx : Kt) (v : Value) (hke : ∀ a M, Ksm a0 rs a M ps → Ke a Kx) (hr : WalkM (rr := rr) P ops chs S a0 Q tail rest plan ((fun u _ => u = v) :: rs)) (hw : guardYes ops Kx o.guard = true := by kernel_rfl) (hk : known Kx o.op = true := by kernel_rfl) (h : ∀ w, (execOp (evD Kx) o).run P w = .ok (.value v) w := by intro w; kernel_rfl) :
    WalkM (rr := rr) P ops chs S a0 Q tail (o :: rest) ((ps, bs, none) :: plan) rs :=
  ⟨fun u _ => u = v, fun _ _ _ h _ => h, fun a M vs _ _ hS hks => by
    rw [if_pos (wantedE (hke a M hks) hw)]
    exact s_pure v (hke a M hks) hk (h M.w) ⟨M, rfl, Le.refl _, rfl, hS⟩, hr⟩
theorem onD (Kx : Kt) (v : Value) (hke : ∀ a M, Ksm a0 rs a M ps → Ke a Kx) (hs : ∀ a M vs, Bd bs vs → S vs M → Ke a Kx → ∀ Post : Value → World → Prop, Post v M.w → StepTo P o a M.w Post) (hr : WalkM (rr := rr) P ops chs S a0 Q tail rest plan ((fun u _ => u = v) :: rs)) (hw : guardYes ops Kx o.guard = true := by kernel_rfl) :
    WalkM (rr := rr) P ops chs S a0 Q tail (o :: rest) ((ps, bs, none) :: plan) rs :=
  ⟨fun u _ => u = v, fun _ _ _ h _ => h, fun a M vs hb _ hS hks => by
    rw [if_pos (wantedE (hke a M hks) hw)]
    exact hs a M vs hb hS (hke a M hks) _ ⟨M, rfl, Le.refl _, rfl, hS⟩, hr⟩
theorem onN (Kx : Kt) (hke : ∀ a M, Ksm a0 rs a M ps → Ke a Kx) (hr : WalkM (rr := rr) P ops chs S a0 Q tail rest plan ((fun u _ => u = undef) :: rs)) (hw : guardNo ops Kx o.guard = true := by kernel_rfl) :
    WalkM (rr := rr) P ops chs S a0 Q tail (o :: rest) ((ps, bs, none) :: plan) rs :=
  ⟨fun u _ => u = undef, fun _ _ _ h _ => h, fun a M vs _ _ _ hks => by
    rw [if_neg (by rw [unwantedE (hke a M hks) hw]; simp)]; exact ⟨rfl, rfl⟩, hr⟩
theorem onA {mt : Option Nat} (R : Rm) (hm : MonoR R) (h : ∀ a M vs, Bd bs vs → Cor ops chs a vs → S vs M → Ksm a0 rs a M ps → Region.wanted o (yielded ops a.tmps) = true ∧ Step P o a M R (fun v M' => S (push vs mt v) M'))
    (hr : WalkM (rr := rr) P ops chs S a0 Q tail rest plan (R :: rs)) : WalkM (rr := rr) P ops chs S a0 Q tail (o :: rest) ((ps, bs, mt) :: plan) rs :=
  ⟨R, hm, fun a M vs hb hc hS hks => by
    obtain ⟨hw, hs⟩ := h a M vs hb hc hS hks
    rw [if_pos hw]; exact hs, hr⟩
theorem kn_endsM {rs : Rms} {a0 a : Act} {M : Mem} {n k0 : Nat} {K : Kt} {ds : List Deferred} (vs : Kt) (hK : Kn n a0 K ds) (hE : EndsM ops rs a0 a M) (hk : rs.length = k0) (hc : covers ops k0 vs = true) (hv : Ke a vs) : Kn n a (vs ++ K) ds := by
  refine ⟨hE.size.trans hK.size, hE.defers.trans hK.defers, fun t v ht => ?_⟩
  rw [lk_append] at ht
  cases hl : lk vs t with
  | some u => rw [hl] at ht; cases ht; exact hv t _ hl
  | none =>
    rw [hl] at ht
    have hs := hE.slots t
    unfold AfterM at hs
    have hz := hK.at_ t v ht
    cases hw : writer ops t with
    | none => rw [hw] at hs; exact hs.trans hz
    | some j =>
      rw [hw] at hs
      obtain ⟨o, ho, hd⟩ := writer_of hw
      by_cases hj : j < rs.length
      · have := List.all_eq_true.1 hc j (List.mem_range.2 (by omega))
        simp [ho, hd, hl] at this
      · simp only [hj, if_false] at hs; exact hs.trans hz
end
section
variable {P : Program} {o : Oper} {a : Act} {K : Kt} {ds : List Deferred} {B : List Nat} {m0 m M : Mem} {C : Vals → List Ent → Mem → Prop} {vs : Vals} {f : FuncId} {R : Rm}
/-- A call that is given nothing and gives nothing. -/
theorem stepCall {c : Callee} {xs : Array Operand} {ats : Array TypeId} {g : Operand} {first cap : Array Value} {vals : List Value} {Q : Value → Mem → List Ent → Prop} (hC : ∀ vs L M M', C vs L M → Le M M' → C vs L M') (hS : SM m m0 B C vs M) (hK : Ke a K) (hf : Enters P f) (ho : o.op = .call ⟨c, xs, ats⟩) (hc : c = .value g) (hg : evK K g = some (.func (.func f) first cap)) (hv : evAll K xs.toList = some vals)
    {args : Array Value} (hs : Spec P f args M [] Q) (ha : first ++ vals.toArray ++ cap = args) (hR : ∀ v M' L', Le M M' → Q v M' L' → R v M') : Step P o a M R (fun _ M' => SM m m0 B C vs M') := by
  obtain ⟨h1, L, h2, h3⟩ := hS
  exact s_call hK h3 hf ho hc hg hv hs ha fun v M' L' hl hSt hq => ⟨M', rfl, hl, hR v M' L' hl hq, h1.trans hl, L, hC _ _ _ _ h2 hl, St_right hSt⟩
end
def C0 (rest : List Ent) : Vals → List Ent → Mem → Prop := fun _ L _ => L = rest
def C1 (p0 : List Stage) (rest : List Ent) : Vals → List Ent → Mem → Prop := fun vs L M => ∃ A0, CH p0 0 vs A0 M ∧ L = A0 ++ rest
def C2 (p0 p1 : List Stage) (rest : List Ent) : Vals → List Ent → Mem → Prop := fun vs L M => ∃ A0 A1, CH p0 0 vs A0 M ∧ CH p1 1 vs A1 M ∧ L = A0 ++ (A1 ++ rest)
theorem C0_mono (rest : List Ent) : ∀ vs L M M', C0 rest vs L M → Le M M' → C0 rest vs L M' := fun _ _ _ _ h _ => h
theorem C1_mono {p0 : List Stage} (rest : List Ent) (h0 : ∀ p ∈ p0, MonoP p) : ∀ vs L M M', C1 p0 rest vs L M → Le M M' → C1 p0 rest vs L M' := fun _ _ _ _ ⟨A0, h, e⟩ hl => ⟨A0, h.mono h0 hl, e⟩
theorem C2_mono {p0 p1 : List Stage} (rest : List Ent) (h0 : ∀ p ∈ p0, MonoP p) (h1 : ∀ p ∈ p1, MonoP p) : ∀ vs L M M', C2 p0 p1 rest vs L M → Le M M' → C2 p0 p1 rest vs L M' := fun _ _ _ _ ⟨A0, A1, h, k, e⟩ hl => ⟨A0, A1, h.mono h0 hl, k.mono h1 hl, e⟩
theorem start0 {m m0 : Mem} {B : List Nat} {rest : List Ent} (h : St B m0 m rest) : ∃ M : Mem, M.w = m.w.drew ∧ SM m m0 B (C0 rest) (fun _ => []) M :=
  ⟨_, rfl, Le.up _ (Below.refl _ _).drew, _, rfl, h.drew⟩
theorem start1 {m m0 : Mem} {B : List Nat} {A0 rest : List Ent} {p0 : List Stage} (h : St B m0 m (A0 ++ rest)) (h0 : ∀ M, CH p0 0 (fun _ => []) A0 M) : ∃ M : Mem, M.w = m.w.drew ∧ SM m m0 B (C1 p0 rest) (fun _ => []) M :=
  ⟨_, rfl, Le.up _ (Below.refl _ _).drew, _, ⟨A0, h0 _, rfl⟩, h.drew⟩
theorem start2 {m m0 : Mem} {B : List Nat} {A0 A1 rest : List Ent} {p0 p1 : List Stage} (h : St B m0 m (A0 ++ (A1 ++ rest))) (h0 : ∀ M, CH p0 0 (fun _ => []) A0 M) (h1 : ∀ M, CH p1 1 (fun _ => []) A1 M) : ∃ M : Mem, M.w = m.w.drew ∧ SM m m0 B (C2 p0 p1 rest) (fun _ => []) M :=
  ⟨_, rfl, Le.up _ (Below.refl _ _).drew, _, ⟨A0, A1, h0 _, h1 _, rfl⟩, h.drew⟩
theorem adr_inj {g g' : Option Nat} (h : adr g = adr g') : g = g' := by
  cases g <;> cases g' <;> simp [adr] at h ⊢ <;> exact h
end D
end Go.Proofs.Ythnhjibbkleneaa
