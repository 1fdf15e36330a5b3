/- Rules by which a function is walked: what is known of its slots, its memory, and of each operation; over any program. -/
import Derived.Test.YthnhjibbkleneaaSlice
import Derived.ChangeKeysEq
import Derived.Test.YthnhjibbkleneaaPure
namespace Go.Proofs.Ythnhjibbkleneaa
open Go.RowKit G

theorem beq_ne {d t : Nat} (e : ¬ d = t) : Nat.beq d t = false := by
  cases h : Nat.beq d t with
  | true => exact absurd (Nat.eq_of_beq_eq_true h) e
  | false => rfl
theorem exists_min {p : Nat → Prop} : ∀ k, p k → ∃ j, p j ∧ ∀ i, p i → j ≤ i := by
  intro k
  induction k using Nat.strongRecOn with
  | _ k ih =>
    intro hk
    by_cases h : ∃ j, j < k ∧ p j
    · obtain ⟨j, hj, hp⟩ := h; exact ih j hj hp
    · exact ⟨k, hk, fun i hi => Nat.le_of_not_lt fun hlt => h ⟨i, hlt, hi⟩⟩
abbrev Kt := List (Nat × Value)
/-- What is known of a slot. -/
def lk : Kt → Nat → Option Value
  | [], _ => none
  | (s, v) :: K, t => match Nat.beq s t with | true => some v | false => lk K t
def evK (K : Kt) : Operand → Option Value
  | .tmp t => lk K t
  | .const v => some v
  | .global g => some (.pointer (some ⟨g, 0, none⟩))
  | .func f => some (.func (.func f) #[] #[])
def evD (K : Kt) (x : Operand) : Value := (evK K x).getD undef
/-- K is known of the slots. -/
def Ke (a : Act) (K : Kt) : Prop := ∀ t v, lk K t = some v → a.eval (.tmp t) = v
theorem Ke.nil (a : Act) : Ke a [] := fun t v h => by simp [lk] at h
theorem Ke.cons {a : Act} {K : Kt} {t : Nat} {v : Value} (h : a.eval (.tmp t) = v) (hK : Ke a K) : Ke a ((t, v) :: K) := fun s u hu => by
  unfold lk at hu
  by_cases e : t = s
  · subst e; simp at hu; subst hu; exact h
  · rw [beq_ne e] at hu; exact hK s u hu
theorem Ke.ev {a : Act} {K : Kt} (h : Ke a K) {x : Operand} {v : Value} (hx : evK K x = some v) : a.eval x = v := by
  cases x with
  | tmp t => exact h t v hx
  | const c => simp [evK] at hx; exact hx
  | global g => simp [evK] at hx; exact hx
  | func f => simp [evK] at hx; exact hx
/-- The wide fence, in a round or not. -/
def FW (r : Option Nat) : Fence := { fn := fun _ => True, depth := none, alive := false, round := r }
theorem FW_none : FW none = Fence.wide := rfl
theorem FW_in (r : Option Nat) (l : Nat) : (FW r).inRound l = FW (some l) := rfl
/-- A frame of n slots of which K is known. -/
structure Kn (n : Nat) (a : Act) (K : Kt) (ds : List Deferred := []) : Prop where
  size : a.tmps.size = n
  defers : a.defers = ds
  at_ : Ke a K
section
variable {n : Nat} {a : Act} {K K' : Kt} {ds : List Deferred}
theorem Kn.ev (h : Kn n a K ds) {x : Operand} {v : Value} (hx : evK K x = some v) : a.eval x = v := h.at_.ev hx
theorem Kn.put (h : Kn n a K ds) {d : Nat} (v : Value) (hd : d < n) : Kn n (a.put (some d) v) ((d, v) :: K) ds := by
  refine ⟨by simp [Act.put, h.size], h.defers, fun t u hu => ?_⟩
  unfold lk at hu
  by_cases e : d = t
  · subst e
    simp at hu; subst hu
    simp [Act.put, Act.eval, Array.getD, h.size, hd]
  · have : Nat.beq d t = false := beq_ne e
    rw [this] at hu
    rw [Act.eval_put (fun d' hd' e' => by cases hd'; cases e'; exact e rfl)]
    exact h.at_ t u hu
theorem Kn.put0 (h : Kn n a K ds) (v : Value) : Kn n (a.put none v) K ds := h
theorem Kn.more (h : Kn n a K ds) {t : Nat} {v v' : Value} (hx : lk K t = some v) (e : v = v') : Kn n a ((t, v') :: K) ds := by
  subst e
  refine ⟨h.size, h.defers, fun s u hu => ?_⟩
  unfold lk at hu
  by_cases e : t = s
  · subst e; simp at hu; subst hu; exact h.at_ _ _ hx
  · have : Nat.beq t s = false := beq_ne e
    rw [this] at hu; exact h.at_ s u hu
def only (K : Kt) : List Nat → Kt
  | [] => []
  | t :: ts => match lk K t with | some v => (t, v) :: only K ts | none => only K ts
theorem Kn.only (h : Kn n a K ds) (ts : List Nat) : Kn n a (only K ts) ds := by
  refine ⟨h.size, h.defers, ?_⟩
  induction ts with
  | nil => intro s u hu; simp [Proofs.Ythnhjibbkleneaa.only, lk] at hu
  | cons t ts ih =>
    intro s u hu
    unfold Proofs.Ythnhjibbkleneaa.only at hu
    cases hl : lk K t with
    | none => rw [hl] at hu; exact ih s u hu
    | some v =>
      rw [hl] at hu
      unfold lk at hu
      by_cases e : t = s
      · subst e; simp at hu; subst hu; exact h.at_ _ _ hl
      · have : Nat.beq t s = false := beq_ne e
        rw [this] at hu; exact ih s u hu
end

/-! One operation. -/
def stepUpon (P : Program) (Post : Value → World → Prop) : Result Next → Prop
  | .ok (.value v) w' => Post v w'
  | .ok .skip w' => Post undef w'
  | .ok (.enter f args) w' => Calls P f args w' fun e w'' => ∃ v, e = .returned v ∧ Post v w''
  | .ok (.round l f tmps asg body) w' => RoundIn (FW none) 0 P l f tmps asg body w' fun e w'' => ∃ v, e = .returned v ∧ Post v w''
  | _ => False
def StepTo (P : Program) (o : Oper) (a : Act) (w : World) (Post : Value → World → Prop) : Prop := stepUpon P Post ((execOp a.eval o).run P w)
theorem StepTo.no_defer {P : Program} {o : Oper} {a : Act} {w : World} {Post : Value → World → Prop} (h : StepTo P o a w Post) : ∀ c, o.op ≠ .defer c := by
  intro c hc
  unfold StepTo execOp at h
  simp only [hc, Sem.run_bind] at h
  generalize (resolve a.eval c o.type).run P w = r at h
  cases r <;> simp [Result.andThen, Sem.run_pure, stepUpon] at h
theorem calls_in {P : Program} {f : FuncId} {args : Array Value} {w : World} {R : Ending → World → Prop} (r : Option Nat) (h : Calls P f args w R) : CallsIn (FW r) 0 P f args w R :=
  ⟨trivial, fun cs _ => let ⟨e, w', fr, hr, s, x⟩ := h cs; ⟨e, w', fr, hr, comesIn_wide.2 s, x⟩⟩
theorem round_in {P : Program} {l : Nat} {f : FuncId} {tmps : Array Value} {asg body : Code} {w : World} {R : Ending → World → Prop} (r : Option Nat) (h : RoundIn (FW none) 0 P l f tmps asg body w R) : RoundIn (FW r) 0 P l f tmps asg body w R := h
theorem StepTo.wp {P : Program} {o : Oper} {a : Act} {w : World} {Post : Value → World → Prop} {K : Act → World → Prop} {Q : Exit → Act → World → Prop} {rr : Option Nat}
    (h : StepTo P o a w Post) (hK : ∀ v w', Post v w' → K (a.put o.dst v) w') : o.wpIn (FW rr) 0 P a w K Q := by
  have hd := h.no_defer
  unfold StepTo at h
  unfold Oper.wpIn
  refine ⟨fun _ _ => trivial, ?_⟩
  rw [Oper.semAt_eq _ _ _ hd]
  generalize (execOp a.eval o).run P w = r at *
  cases r with
  | ok n w' =>
    cases n <;> simp only [stepUpon] at h <;> simp only [Oper.uponIn]
    case value v => exact hK _ _ h
    case skip => exact hK _ _ h
    case enter f args => exact ⟨fun h => by simp [FW] at h, calls_in rr (h.mono fun e w'' ⟨v, he, h1⟩ => by subst he; exact hK _ _ h1)⟩
    case round l f tmps asg body => exact ⟨fun h => by simp [FW] at h, round_in rr (h.mono fun e w'' ⟨v, he, h1⟩ => by subst he; exact hK _ _ h1)⟩
  | halt x w' => simp only [stepUpon] at h
theorem StepTo.mono {P : Program} {o : Oper} {a : Act} {w : World} {Post Post' : Value → World → Prop} (h : StepTo P o a w Post) (hq : ∀ v w', Post v w' → Post' v w') : StepTo P o a w Post' := by
  unfold StepTo at *
  generalize (execOp a.eval o).run P w = r at *
  cases r with
  | ok n w' =>
    cases n <;> simp only [stepUpon] at h ⊢
    case value v => exact hq _ _ h
    case skip => exact hq _ _ h
    case enter f args => exact h.mono fun e w'' ⟨v, he, h1⟩ => ⟨v, he, hq _ _ h1⟩
    case round l f tmps asg body => exact h.mono fun e w'' ⟨v, he, h1⟩ => ⟨v, he, hq _ _ h1⟩
  | halt x w' => simp only [stepUpon] at h

def slotOf (ops : Array Oper) (j : Nat) : Option Nat := (ops[j]?).bind (·.dst)
/-- The guard of an operation lets it run. -/
def guardYes (ops : Array Oper) (K : Kt) : Option (Nat × Bool) → Bool
  | none => true
  | some (j, b) => match slotOf ops j with
    | some t => match lk K t with
      | some (.bool c) => c == b
      | _ => false
    | none => false
def guardNo (ops : Array Oper) (K : Kt) : Option (Nat × Bool) → Bool
  | none => false
  | some (j, b) => match slotOf ops j with
    | some t => match lk K t with
      | some (.bool c) => c != b
      | some (.tuple _) => true
      | _ => false
    | none => false
section
variable {P : Program} {ops : Array Oper} {o : Oper} {n : Nat} {a : Act} {K : Kt} {ds : List Deferred} {w : World} {rest : List Oper} {Q : Exit → Act → World → Prop} {rr : Option Nat}
theorem tmps_of {t : Nat} {v : Value} (hv : a.eval (.tmp t) = v) (hu : v ≠ undef) : a.tmps[t]? = some v := by
  simp only [Act.eval, Array.getD_eq_getD_getElem?] at hv
  cases hq : a.tmps[t]? with
  | none => rw [hq] at hv; exact absurd hv.symm hu
  | some u => rw [hq] at hv; simpa using hv
theorem wanted_of (hK : Kn n a K ds) (h : guardYes ops K o.guard = true) : Region.wanted o (yielded ops a.tmps) = true := by
  unfold guardYes at h
  cases hg : o.guard with
  | none => simp [Region.wanted, hg]
  | some p =>
    obtain ⟨j, b⟩ := p
    rw [hg] at h
    simp only at h
    cases hs : slotOf ops j with
    | none => rw [hs] at h; cases h
    | some t =>
      rw [hs] at h
      simp only at h
      cases hl : lk K t with
      | none => rw [hl] at h; cases h
      | some v =>
        rw [hl] at h
        cases v <;> simp only [Bool.false_eq_true] at h
        rename_i c
        have hcb : c = b := by simpa using h
        subst hcb
        have ht := tmps_of (hK.at_ t _ hl) (by simp [undef])
        unfold slotOf at hs
        simp [Region.wanted, hg, yielded, hs, ht]
theorem unwanted_of (hK : Kn n a K ds) (h : guardNo ops K o.guard = true) : Region.wanted o (yielded ops a.tmps) = false := by
  unfold guardNo at h
  cases hg : o.guard with
  | none => rw [hg] at h; cases h
  | some p =>
    obtain ⟨j, b⟩ := p
    rw [hg] at h
    simp only at h
    cases hs : slotOf ops j with
    | none => rw [hs] at h; cases h
    | some t =>
      rw [hs] at h
      simp only at h
      cases hl : lk K t with
      | none => rw [hl] at h; cases h
      | some v =>
        rw [hl] at h
        have hv := hK.at_ t _ hl
        unfold slotOf at hs
        cases v <;> simp only [Bool.false_eq_true] at h
        · rename_i c
          have ht := tmps_of hv (by simp [undef])
          have hcb : c ≠ b := by simpa using h
          simp [Region.wanted, hg, yielded, hs, ht, hcb]
        · rename_i vs
          have ht : ∀ c, a.tmps[t]? ≠ some (.bool c) := by
            intro c hc
            simp [Act.eval, hc] at hv
          simp only [Region.wanted, hg, yielded, hs, Option.bind_some]
          cases hq : a.tmps[t]? with
          | none => rfl
          | some u => cases u <;> first | rfl | (exact absurd hq (ht _))
def okOp (ops : Array Oper) (o : Oper) (K : Kt) (n d : Nat) : Bool := guardYes ops K o.guard && decide (o.dst = some d) && decide (d < n)
def okOp0 (ops : Array Oper) (o : Oper) (K : Kt) : Bool := guardYes ops K o.guard && o.dst.isNone
def okSkip (ops : Array Oper) (o : Oper) (K : Kt) (n d : Nat) : Bool := guardNo ops K o.guard && decide (o.dst = some d) && decide (d < n)
def okSkip0 (ops : Array Oper) (o : Oper) (K : Kt) : Bool := guardNo ops K o.guard && o.dst.isNone
theorem q_op (d : Nat) (hK : Kn n a K ds) (hc : okOp ops o K n d = true) (h : StepTo P o a w fun v w' => ∀ a', Kn n a' ((d, v) :: K) ds → wpListIn (FW rr) 0 P ops Q rest a' w') : wpListIn (FW rr) 0 P ops Q (o :: rest) a w := by
  simp only [okOp, Bool.and_eq_true, decide_eq_true_eq] at hc
  obtain ⟨⟨h1, h2⟩, h3⟩ := hc
  unfold wpListIn
  rw [if_pos (wanted_of hK h1)]
  exact h.wp fun v w' hp => hp _ (by rw [h2]; exact hK.put v h3)
theorem q_op0 (hK : Kn n a K ds) (hc : okOp0 ops o K = true) (h : StepTo P o a w fun _ w' => ∀ a', Kn n a' K ds → wpListIn (FW rr) 0 P ops Q rest a' w') : wpListIn (FW rr) 0 P ops Q (o :: rest) a w := by
  simp only [okOp0, Bool.and_eq_true, Option.isNone_iff_eq_none] at hc
  unfold wpListIn
  rw [if_pos (wanted_of hK hc.1)]
  exact h.wp fun v w' hp => hp _ (by rw [hc.2]; exact hK.put0 v)
theorem q_skip (d : Nat) (hK : Kn n a K ds) (hc : okSkip ops o K n d = true) (h : ∀ a', Kn n a' ((d, undef) :: K) ds → wpListIn (FW rr) 0 P ops Q rest a' w) : wpListIn (FW rr) 0 P ops Q (o :: rest) a w := by
  simp only [okSkip, Bool.and_eq_true, decide_eq_true_eq] at hc
  obtain ⟨⟨h1, h2⟩, h3⟩ := hc
  unfold wpListIn
  rw [if_neg (by rw [unwanted_of hK h1]; simp)]
  exact ⟨fun _ _ => trivial, h _ (by rw [h2]; exact hK.put undef h3)⟩
theorem q_skip0 (hK : Kn n a K ds) (hc : okSkip0 ops o K = true) (h : ∀ a', Kn n a' K ds → wpListIn (FW rr) 0 P ops Q rest a' w) : wpListIn (FW rr) 0 P ops Q (o :: rest) a w := by
  simp only [okSkip0, Bool.and_eq_true, Option.isNone_iff_eq_none] at hc
  unfold wpListIn
  rw [if_neg (by rw [unwanted_of hK hc.1]; simp)]
  exact ⟨fun _ _ => trivial, h _ (by rw [hc.2]; exact hK.put0 undef)⟩
/-- All operands are known. -/
def known (K : Kt) (op : Op) : Bool := (match op with | .select _ _ => false | _ => true) && op.operands.toList.all fun x => (evK K x).isSome
theorem exec_known (hK : Ke a K) (h : known K o.op = true) : execOp a.eval o = execOp (evD K) o := by
  simp only [known, Bool.and_eq_true] at h
  refine execOp_congr o (fun cs b e => by rw [e] at h; simp at h) fun x hx => ?_
  have := List.all_eq_true.1 h.2 x (by simpa using hx)
  cases hv : evK K x with
  | none => rw [hv] at this; cases this
  | some v => rw [hK.ev hv]; simp [evD, hv]
/-- An operation whose value the kernel computes. -/
theorem s_pure (v : Value) (hK : Ke a K) (hk : known K o.op = true) (h : (execOp (evD K) o).run P w = .ok (.value v) w) {Post : Value → World → Prop} (hp : Post v w) : StepTo P o a w Post := by
  unfold StepTo; rw [exec_known hK hk, h]; exact hp
theorem q_pure (d : Nat) (v : Value) (hK : Kn n a K ds) (hc : okOp ops o K n d = true) (hk : known K o.op = true) (h : (execOp (evD K) o).run P w = .ok (.value v) w)
    (next : ∀ a', Kn n a' ((d, v) :: K) ds → wpListIn (FW rr) 0 P ops Q rest a' w) : wpListIn (FW rr) 0 P ops Q (o :: rest) a w := q_op d hK hc (s_pure v hK.at_ hk h next)
end

/-! Code. -/
section
variable {P : Program} {Q : Exit → Act → World → Prop} {rr : Option Nat} {n : Nat} {a : Act} {K : Kt} {ds : List Deferred} {w : World}
theorem w_seq {x y : Code} (h : x.wpIn (FW rr) 0 P (Exit.then (y.wpIn (FW rr) 0 P Q) Q) a w) : (x.seq y).wpIn (FW rr) 0 P Q a w := wpIn_seq h
theorem w_region {id : Nat} {ops : Array Oper} (h : wpListIn (FW rr) 0 P ops Q ops.toList a w) : (Code.region id ops false).wpIn (FW rr) 0 P Q a w := wpIn_region_list h
theorem w_cond {c : Operand} {x y : Code} {b : Bool} (hK : Kn n a K ds) (hc : evK K c = some (.bool b)) (ht : b = true → x.wpIn (FW rr) 0 P Q a w) (hf : b = false → y.wpIn (FW rr) 0 P Q a w) : (Code.cond c x y).wpIn (FW rr) 0 P Q a w :=
  wpIn_cond_split (hK.ev hc) ht hf
theorem w_cond_t {c : Operand} {x y : Code} (hK : Kn n a K ds) (hc : evK K c = some (.bool true)) (h : x.wpIn (FW rr) 0 P Q a w) : (Code.cond c x y).wpIn (FW rr) 0 P Q a w := wpIn_cond_true (hK.ev hc) h
theorem w_cond_f {c : Operand} {x y : Code} (hK : Kn n a K ds) (hc : evK K c = some (.bool false)) (h : y.wpIn (FW rr) 0 P Q a w) : (Code.cond c x y).wpIn (FW rr) 0 P Q a w := wpIn_cond_false (hK.ev hc) h
theorem then_n {next : Act → World → Prop} (h : next a w) : Exit.then next Q .normal a w := h
theorem then_r {next : Act → World → Prop} (h : Q .ret a w) : Exit.then next Q .ret a w := h
theorem then_x {next : Act → World → Prop} {i : Nat} (h : Q (.exit i) a w) : Exit.then next Q (.exit i) a w := h
theorem blk_n {i : Nat} (h : Q .normal a w) : Exit.inBlock i Q .normal a w := h
theorem blk_r {i : Nat} (h : Q .ret a w) : Exit.inBlock i Q .ret a w := h
theorem blk_e {i : Nat} (h : Q .normal a w) : Exit.inBlock i Q (.exit i) a w := by show (if i = i then _ else _); rw [if_pos rfl]; exact h
theorem blk_x {i j : Nat} (hne : j ≠ i) (h : Q (.exit j) a w) : Exit.inBlock i Q (.exit j) a w := by show (if j = i then _ else _); rw [if_neg hne]; exact h
/-- A loop whose rounds are counted down. -/
theorem w_loop {c : Code} (I : Nat → Act → World → Prop) (h0 : ∃ k0, I k0 a w) (round : ∀ k a w, I k a w → c.wpIn (FW rr) 0 P (Exit.then (fun a' w' => ∃ k', k' < k ∧ I k' a' w') Q) a w) : (Code.loop c).wpIn (FW rr) 0 P Q a w := by
  have hmin : ∀ a w, (∃ k, I k a w) → ∃ j, I j a w ∧ ∀ i, I i a w → j ≤ i := fun a w ⟨k, hk⟩ => exists_min k hk
  refine wpIn_loop (fun a w => ∃ k, I k a w) (fun a w => Classical.epsilon fun j => I j a w ∧ ∀ i, I i a w → j ≤ i) h0 fun a w hI => ?_
  have hm := Classical.epsilon_spec (hmin a w hI)
  refine wpIn_mono (round _ a w hm.1) fun e a' w' hq => ?_
  cases e with
  | normal =>
    obtain ⟨k', hlt, hk⟩ := hq
    exact ⟨⟨k', hk⟩, Nat.lt_of_le_of_lt ((Classical.epsilon_spec (hmin a' w' ⟨k', hk⟩)).2 k' hk) hlt⟩
  | exit i => exact hq
  | goto l => exact hq
  | ret => exact hq
  | panic c => exact hq
  | outgrown => exact hq
end

/-! A function. -/
def argsK : Nat → List Value → Kt
  | _, [] => []
  | i, v :: vs => (i, v) :: argsK (i + 1) vs
theorem lk_argsK : ∀ (vs : List Value) (i t : Nat) (v : Value), lk (argsK i vs) t = some v → i ≤ t ∧ vs[t - i]? = some v
  | [], _, _, _, h => by simp [argsK, lk] at h
  | u :: vs, i, t, v, h => by
    unfold argsK lk at h
    by_cases e : i = t
    · subst e; simp at h; subst h; simp
    · have hb : Nat.beq i t = false := beq_ne e
      rw [hb] at h
      obtain ⟨h1, h2⟩ := lk_argsK vs (i + 1) t v h
      refine ⟨by omega, ?_⟩
      rw [show t - i = (t - (i + 1)) + 1 by omega]; simpa using h2
def fnPost (P : Program) (fn : Func) (m : Mem) (L : List Ent) (Q : Value → Mem → List Ent → Prop) : Exit → Act → World → Prop :=
  bodyPostM (FW none) 0 P fn fun e w' => ∃ v m' L', e = .returned v ∧ m'.w = w' ∧ St (blocksOf L) m m' L' ∧ Q v m' L'
theorem kn_enter {fn : Func} {args : List Value} (n : Nat) (hn : fn.ntmps = n) (hle : args.length ≤ n) : Kn n { tmps := args.toArray ++ Array.replicate (fn.ntmps - args.toArray.size) undef, defers := [] } (argsK 0 args) := by
  refine ⟨by simp [hn]; omega, rfl, fun t v hv => ?_⟩
  obtain ⟨_, h2⟩ := lk_argsK args 0 t v hv
  have ht : t < args.length := (List.getElem?_eq_some_iff.1 h2).1
  simp only [Act.eval, Array.getD_eq_getD_getElem?]
  rw [Array.getElem?_append_left (by simpa using ht)]
  simpa using congrArg (Option.getD · undef) h2
theorem enter {P : Program} {f : FuncId} {fn : Func} {c : Code} {args : List Value} {m : Mem} {L : List Ent} {Q : Value → Mem → List Ent → Prop} (n : Nat) (hf : P.funcs[f]? = some fn) (hb : fn.body = some c)
    (hn : fn.ntmps = n) (hle : args.length ≤ n) (h : ∀ a, Kn n a (argsK 0 args) → c.wpIn (FW none) 0 P (fnPost P fn m L Q) a m.w) : Spec P f args.toArray m L Q :=
  callsIn_wide.1 (callsIn_of_wp_marks (F := FW none) (n := 0) hf hb trivial (h _ (kn_enter n hn hle)) rfl)

/-- Types: not a struct or an array; a struct or an array of n cells. -/
def isAggD (d : TypeDesc) : Bool := match d with | .struct _ | .array _ _ => true | _ => false
def aggOf (P : Program) (t : TypeId) : Option (Bool × Nat) := match P.underlying t, P.info? t with | some d, some i => some (isAggD d, i.size) | _, _ => none
theorem aggOf_parts {P : Program} {t : TypeId} {b : Bool} {s : Nat} (h : aggOf P t = some (b, s)) : ∃ d i, P.underlying t = some d ∧ P.info? t = some i ∧ isAggD d = b ∧ i.size = s := by
  unfold aggOf at h
  cases hu : P.underlying t with
  | none => simp [hu] at h
  | some d =>
    cases hi : P.info? t with
    | none => simp [hu, hi] at h
    | some i => simp [hu, hi] at h; exact ⟨d, i, rfl, rfl, h.1, h.2⟩
section
variable {P : Program} {w : World} {t : TypeId}
theorem run_isAgg {d : TypeDesc} (hu : P.underlying t = some d) : (isAgg t).run P w = .ok (isAggD d) w := by
  unfold isAgg
  rw [Sem.run_bind, run_underlying hu]
  cases d <;> rfl
theorem run_load1 {b o : Nat} {v : Value} {s : Nat} (hT : aggOf P t = some (false, s)) (hc : w.cell? ⟨b, o, none⟩ = some v) : (loadVar t ⟨b, o, none⟩).run P w = .ok v w := by
  obtain ⟨d, i, hu, hi, hd, hs⟩ := aggOf_parts hT
  simp [loadVar, run_isAgg hu, hd, hc]
theorem run_loadN {b o : Nat} {cs : List Value} (hT : aggOf P t = some (true, cs.length)) (hc : ∀ k v, cs[k]? = some v → w.cell? ⟨b, o + k, none⟩ = some v) : (loadVar t ⟨b, o, none⟩).run P w = .ok (.agg cs.toArray) w := by
  obtain ⟨d, i, hu, hi, hd, hs⟩ := aggOf_parts hT
  have := run_loadCells_list (P := P) w ⟨b, o, none⟩ cs (fun j v hv => by rw [Addr.add_mid]; exact hc j v hv)
  simp [loadVar, run_isAgg hu, hd, sizeOf, typeInfo, hi, hs, this]
end
/-- The results. -/
inductive ResL (P : Program) (K : Kt) (w : World) : List ResultVar → List Value → Prop
  | nil : ResL P K w [] []
  | tmp {t : Nat} {v : Value} {rs : List ResultVar} {vs : List Value} : lk K t = some v → ResL P K w rs vs → ResL P K w (.tmp t :: rs) (v :: vs)
  | one {p : Nat} {T : TypeId} {s b o : Nat} {v : Value} {rs : List ResultVar} {vs : List Value} : aggOf P T = some (false, s) → lk K p = some (.pointer (some ⟨b, o, none⟩)) → w.cell? ⟨b, o, none⟩ = some v → ResL P K w rs vs → ResL P K w (.cell p T :: rs) (v :: vs)
  | agg {p : Nat} {T : TypeId} {b o : Nat} {cs : List Value} {rs : List ResultVar} {vs : List Value} : aggOf P T = some (true, cs.length) → lk K p = some (.pointer (some ⟨b, o, none⟩)) → (∀ k v, cs[k]? = some v → w.cell? ⟨b, o + k, none⟩ = some v) →
      ResL P K w rs vs → ResL P K w (.cell p T :: rs) (.agg cs.toArray :: vs)
def retOf : List Value → Value
  | [v] => v
  | vs => .tuple vs.toArray
section
variable {P : Program} {n : Nat} {a : Act} {K : Kt} {ds : List Deferred} {w : World}
theorem run_asAddr (x : Addr) : (asAddr (.pointer (some x))).run P w = .ok x w := rfl
theorem run_resL (hK : Kn n a K ds) (f : ResultVar → Sem Value) (hf1 : ∀ t, f (.tmp t) = pure (a.tmps.getD t undef)) (hf2 : ∀ p t, f (.cell p t) = (do loadVar t (← asAddr (a.tmps.getD p undef)))) :
    ∀ (rs : List ResultVar) (vs : List Value), ResL P K w rs vs → (rs.mapM f).run P w = .ok vs w := by
  intro rs vs h
  induction h with
  | nil => simp
  | tmp hl _ ih =>
    have := hK.at_ _ _ hl
    simp only [Act.eval] at this
    simp only [List.mapM_cons, hf1, hf2, Sem.run_bind, Sem.run_pure, Result.andThen_ok, this, ih]
  | one hT hp hc _ ih =>
    have := hK.at_ _ _ hp
    simp only [Act.eval] at this
    simp only [List.mapM_cons, hf1, hf2, Sem.run_bind, Sem.run_pure, Result.andThen_ok, this, run_asAddr, run_load1 hT hc, ih]
  | agg hT hp hc _ ih =>
    have := hK.at_ _ _ hp
    simp only [Act.eval] at this
    simp only [List.mapM_cons, hf1, hf2, Sem.run_bind, Sem.run_pure, Result.andThen_ok, this, run_asAddr, run_loadN hT hc, ih]
theorem run_results {fn : Func} {rs : List ResultVar} {vs : List Value} (hr : fn.results = rs.toArray) (hK : Kn n a K ds) (h : ResL P K w rs vs) : (results fn a.tmps).run P w = .ok (retOf vs) w := by
  have h1 := fun f h1 h2 => run_resL (P := P) (w := w) hK f h1 h2 rs vs h
  have hm : ∀ x : Sem (List Value), (List.toArray <$> x : Sem (Array Value)) = x >>= fun l => pure l.toArray := fun _ => rfl
  unfold results
  rw [hr, List.mapM_toArray, hm]
  simp only [Sem.run_bind, Sem.run_pure]
  rw [h1 _ (fun _ => rfl) (fun _ _ => rfl)]
  simp only [Result.andThen_ok, Sem.run_pure]
  congr 1
  match vs with
  | [] => rfl
  | [v] => rfl
  | v :: u :: r => simp [retOf]
theorem ret_of {fn : Func} {m m' : Mem} {L L' : List Ent} {Q : Value → Mem → List Ent → Prop} (rs : List ResultVar) (vs : List Value) (hr : fn.results = rs.toArray) (hK : Kn n a K) (h : ResL P K m'.w rs vs) (hS : St (blocksOf L) m m' L') (hq : Q (retOf vs) m' L') :
    fnPost P fn m L Q .ret a m'.w := by
  show LeavesInM _ _ _ _ _ _ a.defers _ _
  rw [hK.defers]
  exact ⟨retOf vs, run_results hr hK h, retOf vs, m', L', rfl, rfl, hS, hq⟩
theorem end_of {fn : Func} {m m' : Mem} {L L' : List Ent} {Q : Value → Mem → List Ent → Prop} (rs : List ResultVar) (vs : List Value) (hr : fn.results = rs.toArray) (hK : Kn n a K) (h : ResL P K m'.w rs vs) (hS : St (blocksOf L) m m' L') (hq : Q (retOf vs) m' L') :
    fnPost P fn m L Q .normal a m'.w := ret_of rs vs hr hK h hS hq
end

/-! Memory. -/
section
variable {P : Program} {o : Oper} {n : Nat} {a : Act} {K : Kt} {ds : List Deferred} {B : List Nat} {m0 m : Mem} {L : List Ent} {Post : Value → World → Prop} {x y : Operand} {t : TypeId}
theorem box_cell {b i : Nat} {cs : Array Value} {T : TypeId} (hS : St B m0 m L) (k : Nat) (hk : L[k]? = some (.box b cs T)) : m.w.cell? ⟨b, i, none⟩ = cs[i]? :=
  cell_of_row _ _ _ _ _ _ (hS.boxAt k hk)
/-- A load of one cell of a block of the call's own. -/
theorem s_load {b i : Nat} {cs : Array Value} {T : TypeId} {v : Value} (hK : Ke a K) (hS : St B m0 m L) (k : Nat) (ho : o.op = .load t x) (hx : evK K x = some (.pointer (some ⟨b, i, none⟩))) (hk : L[k]? = some (.box b cs T)) (hv : cs[i]? = some v)
    (hT : aggOf P t = some (false, 1)) (hp : Post v m.w) : StepTo P o a m.w Post := by
  unfold StepTo execOp
  simp only [ho, hK.ev hx, Instr.loadAt, Instr.sureAddr, Sem.run_bind, Sem.run_pure, Result.andThen_ok, run_load1 hT ((box_cell hS k hk).trans hv)]
  exact hp
/-- A load of a struct or an array out of a block of the call's own. -/
theorem s_loadN {b i : Nat} {cs : Array Value} {T : TypeId} (vs : List Value) (hK : Ke a K) (hS : St B m0 m L) (k : Nat) (ho : o.op = .load t x) (hx : evK K x = some (.pointer (some ⟨b, i, none⟩))) (hk : L[k]? = some (.box b cs T))
    (hv : (cs.toList.drop i).take vs.length = vs) (hT : aggOf P t = some (true, vs.length)) (hp : Post (.agg vs.toArray) m.w) : StepTo P o a m.w Post := by
  unfold StepTo execOp
  have hc : ∀ j v, vs[j]? = some v → m.w.cell? ⟨b, i + j, none⟩ = some v := fun j v hj => by
    rw [box_cell hS k hk]
    rw [← hv, List.getElem?_take] at hj
    split at hj
    · simpa using hj
    · cases hj
  simp only [ho, hK.ev hx, Instr.loadAt, Instr.sureAddr, Sem.run_bind, Sem.run_pure, Result.andThen_ok, run_loadN hT hc]
  exact hp
theorem s_loadAll {b : Nat} {cs : Array Value} {T : TypeId} (hK : Ke a K) (hS : St B m0 m L) (k : Nat) (ho : o.op = .load t x) (hx : evK K x = some (.pointer (some ⟨b, 0, none⟩))) (hk : L[k]? = some (.box b cs T))
    (hT : aggOf P t = some (true, cs.size)) (hp : Post (.agg cs) m.w) : StepTo P o a m.w Post := by
  have h := s_loadN (P := P) (o := o) (a := a) (K := K) (m := m) (t := t) (Post := Post) cs.toList hK hS k ho hx hk (by rw [List.drop_zero]; exact List.take_of_length_le (by simp)) (by simpa using hT) (by simpa using hp)
  exact h
/-- A load of cells that nobody changes. -/
theorem s_loadAt {b i : Nat} {q : Nat} {cs : List Value} {v : Value} (hK : Ke a K) (hA : At m b i cs) (j : Nat) (ho : o.op = .load t x) (hx : evK K x = some (.pointer (some ⟨b, q, none⟩))) (hq : q = i + j) (hv : cs[j]? = some v)
    (hT : aggOf P t = some (false, 1)) (hp : Post v m.w) : StepTo P o a m.w Post := by
  subst hq
  unfold StepTo execOp
  simp only [ho, hK.ev hx, Instr.loadAt, Instr.sureAddr, Sem.run_bind, Sem.run_pure, Result.andThen_ok, run_load1 hT (hA j v hv).2]
  exact hp
theorem s_loadAtN {b i : Nat} {q : Nat} {cs : List Value} (vs : List Value) (hK : Ke a K) (hA : At m b i cs) (j : Nat) (ho : o.op = .load t x) (hx : evK K x = some (.pointer (some ⟨b, q, none⟩))) (hq : q = i + j) (hv : (cs.drop j).take vs.length = vs)
    (hT : aggOf P t = some (true, vs.length)) (hp : Post (.agg vs.toArray) m.w) : StepTo P o a m.w Post := by
  subst hq
  unfold StepTo execOp
  have hc : ∀ k v, vs[k]? = some v → m.w.cell? ⟨b, i + j + k, none⟩ = some v := fun k v hk => by
    rw [← hv, List.getElem?_take] at hk
    split at hk
    · rw [Nat.add_assoc]; exact (hA (j + k) v (by simpa using hk)).2
    · cases hk
  simp only [ho, hK.ev hx, Instr.loadAt, Instr.sureAddr, Sem.run_bind, Sem.run_pure, Result.andThen_ok, run_loadN hT hc]
  exact hp
/-- A new variable with a value. -/
theorem s_box {v : Value} (hK : Ke a K) (hS : St B m0 m L) (ho : o.op = .box t x) (hx : evK K x = some v)
    (hp : ∀ m' b, m.w.heap.size ≤ b → Le m m' → St B m0 m' (.box b v.cells t :: L) → Post (.pointer (some ⟨b, 0, none⟩)) m'.w) : StepTo P o a m.w Post := by
  unfold StepTo execOp
  simp only [ho, hK.ev hx, Instr.box, newVar, newRow, newObj, Sem.run_bind, Sem.run_pure, Result.andThen_ok, Sem.run]
  have h := hS.newBox v.cells t
  exact hp _ _ (Nat.le_refl _) (St.new (St.refl (Ow.nil m)) rfl (.box m.w.heap.size v.cells t) rfl (alloc_heap _ _)).le h
theorem run_zero {z : Value} {w : World} (hz : (P.info? t).map (·.zero) = some (some z)) : (zeroValue t).run P w = .ok z w := by
  cases hi : P.info? t with
  | none => simp [hi] at hz
  | some i =>
    have hz : i.zero = some z := by simpa [hi] using hz
    simp [zeroValue, typeInfo, hi, hz]
theorem s_alloc (z : Value) (hK : Ke a K) (hS : St B m0 m L) (ho : o.op = .alloc t) (hz : (P.info? t).map (·.zero) = some (some z))
    (hp : ∀ m' b, m.w.heap.size ≤ b → Le m m' → St B m0 m' (.box b z.cells t :: L) → Post (.pointer (some ⟨b, 0, none⟩)) m'.w) : StepTo P o a m.w Post := by
  unfold StepTo execOp
  simp only [ho, Instr.alloc, newVar, newRow, newObj, Sem.run_bind, Sem.run_pure, Result.andThen_ok, run_zero hz, Sem.run]
  have h := hS.newBox z.cells t
  exact hp _ _ (Nat.le_refl _) (St.new (St.refl (Ow.nil m)) rfl (.box m.w.heap.size z.cells t) rfl (alloc_heap _ _)).le h
/-- What a store leaves in a row: the cells from i on are vs. -/
def putAt (cs : Array Value) (i : Nat) (vs : List Value) : Array Value := (cs.toList.take i ++ vs ++ cs.toList.drop (i + vs.length)).toArray
theorem run_storeN {w : World} {b i : Nat} {cs : Array Value} {T : TypeId} {v : Value} (hb : w.heap[b]? = some (.cells cs T (0, 0))) (hT : (aggOf P t).map (·.2) = some v.cells.size) (hfit : i + v.cells.size ≤ cs.size) (h1 : v.cells.toList.all (·.oneCell') = true) :
    ∃ w', (storeVar t ⟨b, i, none⟩ v).run P w = .ok () w' ∧ w.grownBy w' (some b) ∧ w'.heap.size = w.heap.size ∧ w'.heap[b]? = some (.cells (putAt cs i v.cells.toList) T (0, 0)) := by
  obtain ⟨inf, hi, hsz⟩ : ∃ i, P.info? t = some i ∧ i.size = v.cells.size := by
    cases ha : aggOf P t with
    | none => simp [ha] at hT
    | some p =>
      obtain ⟨d, i, hu, hi, hd, hsz⟩ := aggOf_parts (b := p.1) (s := p.2) ha
      exact ⟨i, hi, by rw [ha] at hT; simpa [hsz] using hT⟩
  have hst := run_storeCells_at P b i T v.cells.toList 0 cs w hb (by simp; omega) (fun u hu => List.all_eq_true.1 h1 u hu)
  simp only [Nat.add_zero] at hst
  refine ⟨_, ?_, ?_, ?_, setRow_heap w b cs _ T _ hb⟩
  · simp [storeVar, sizeOf, typeInfo, hi, hsz, hst, putAt]
  · exact ⟨rfl, rfl, rfl, by simp, fun k _ hk => setRow_other w b k _ (fun e => hk (by rw [e]))⟩
  · simp
/-- A store into the front block. -/
theorem s_store {b i : Nat} {cs : Array Value} {T : TypeId} {v : Value} (hK : Ke a K) (k : Nat) (hS : St B m0 m L) (ho : o.op = .store t x y) (hx : evK K x = some (.pointer (some ⟨b, i, none⟩))) (hy : evK K y = some v) (hk : L[k]? = some (.box b cs T))
    (hT : (aggOf P t).map (·.2) = some v.cells.size) (hfit : decide (i + v.cells.size ≤ cs.size) = true) (h1 : v.cells.toList.all (·.oneCell') = true)
    (hp : ∀ m', Le m m' → St B m0 m' (.box b (putAt cs i v.cells.toList) T :: L.eraseIdx k) → Post undef m'.w) : StepTo P o a m.w Post := by
  obtain ⟨w', h2, h3, h4, h5⟩ := run_storeN (P := P) (t := t) (hS.boxAt k hk) hT (of_decide_eq_true hfit) h1
  have hS1 := hS.front k hk
  have hS2 := hS1.write h3 h4 h5
  have hr : St (blocksOf (Ent.box b cs T :: L.eraseIdx k)) m ⟨w', m.ok⟩ _ := (St.refl hS1.ow).write h3 h4 h5
  unfold StepTo execOp
  simp only [ho, hK.ev hx, hK.ev hy, Instr.storeAt, Instr.sureAddr, Sem.run_bind, Sem.run_pure, Result.andThen_ok, h2]
  exact hp ⟨w', m.ok⟩ hr.le hS2
theorem s_storeAll {b : Nat} {cs vs : Array Value} {T : TypeId} (hK : Ke a K) (k : Nat) (hS : St B m0 m L) (ho : o.op = .store t x y) (hx : evK K x = some (.pointer (some ⟨b, 0, none⟩))) (hy : evK K y = some (.agg vs)) (hk : L[k]? = some (.box b cs T))
    (hT : (aggOf P t).map (·.2) = some vs.size) (hfit : decide (vs.size = cs.size) = true) (h1 : vs.toList.all (·.oneCell') = true)
    (hp : ∀ m', Le m m' → St B m0 m' (.box b vs T :: L.eraseIdx k) → Post undef m'.w) : StepTo P o a m.w Post := by
  have hs := of_decide_eq_true hfit
  refine s_store (v := .agg vs) hK k hS ho hx hy hk hT (by simp [Value.cells, hs]) h1 fun m' hl hS' => hp m' hl ?_
  have e : putAt cs 0 (Value.agg vs).cells.toList = vs := by
    simp only [putAt, Value.cells, List.take_zero, List.nil_append, Nat.zero_add, Array.length_toList, hs]
    rw [List.drop_of_length_le (by simp)]; simp
  rw [e] at hS'; exact hS'
/-- A literal of a slice: the row is given away at once. -/
theorem s_buildSlice {elem : TypeId} {len : Nat} {parts : Array (Nat × Operand)} (cells : Array Value) (hK : Ke a K) (hS : St B m0 m L) (ho : o.op = .buildSlice t len parts) (hk : known K o.op = true)
    (hrun : (execOp (evD K) o).run P m.w = .ok (.value (.slice (some ⟨m.w.heap.size, 0, none⟩) len len)) (m.w.alloc (.cells cells elem (0, 0))))
    (hp : ∀ m' b, m0.w.heap.size ≤ b → b ∉ blocksOf L → Le m m' → St B m0 m' L → At m' b 0 cells.toList → Post (.slice (some ⟨b, 0, none⟩) len len) m'.w) : StepTo P o a m.w Post := by
  unfold StepTo
  rw [exec_known hK hk, hrun]
  have hg : Below m.w.heap.size m.w (m.w.alloc (.cells cells elem (0, 0))) := (Below.refl _ _).alloc (Nat.le_refl _) _
  refine hp (m.up _) _ hS.le.size (fun h => absurd (hS.ow.lt h) (Nat.lt_irrefl _)) (Le.up m hg) (hS.newGiven _) fun k v hv => ⟨⟨.inr (Nat.le_refl _), by simp [Mem.up]⟩, ?_⟩
  show (m.w.alloc _).cell? _ = _
  rw [cell_of_row _ _ _ _ _ _ (alloc_heap _ _), Nat.zero_add]; simpa using hv
end

/-! Calls. -/
/-- A call of this function enters it. -/
def Enters (P : Program) (f : FuncId) : Prop := ∀ (args : Array Value) (w : World), (callFunc f args).run P w = .ok (.enter f args) w
theorem enters_of {P : Program} {f : FuncId} {fn : Func} (hf : P.funcs[f]? = some fn) (h1 : (fn.name == "runtime.NumGoroutine") = false) (h2 : fn.body.isNone = false) : Enters P f := by
  intro args w
  have e1 : fn.name ≠ "runtime.NumGoroutine" := by simpa using h1
  have e2 : fn.body ≠ none := by intro e; simp [e] at h2
  simp [callFunc, program, Sem.run, hf, e1, e2]
def evAll (K : Kt) : List Operand → Option (List Value)
  | [] => some []
  | x :: xs => match evK K x, evAll K xs with | some v, some vs => some (v :: vs) | _, _ => none
theorem evAll_map {a : Act} {K : Kt} (hK : Ke a K) : ∀ (xs : List Operand) (vs : List Value), evAll K xs = some vs → xs.map a.eval = vs
  | [], vs, h => by simp [evAll] at h; simp [h]
  | x :: xs, vs, h => by
    unfold evAll at h
    cases hx : evK K x with
    | none => simp [hx] at h
    | some v =>
      cases hr : evAll K xs with
      | none => simp [hx, hr] at h
      | some us =>
        simp [hx, hr] at h
        rw [List.map_cons, hK.ev hx, evAll_map hK xs us hr, h]
section
variable {P : Program} {o : Oper} {n : Nat} {a : Act} {K : Kt} {ds : List Deferred} {B : List Nat} {m0 m : Mem} {L : List Ent} {Post : Value → World → Prop} {f : FuncId}
theorem run_call {c : Callee} {xs : Array Operand} {ats : Array TypeId} {g : Operand} {first cap : Array Value} {vs : List Value} (hK : Ke a K) (hf : Enters P f) (ho : o.op = .call ⟨c, xs, ats⟩) (hc : c = .value g) (hg : evK K g = some (.func (.func f) first cap)) (hv : evAll K xs.toList = some vs) :
    (execOp a.eval o).run P m.w = .ok (.enter f (first ++ vs.toArray ++ cap)) m.w := by
  subst hc
  have h1 : xs.map a.eval = vs.toArray := by
    have := evAll_map hK xs.toList vs hv
    apply Array.ext'
    simpa using this
  unfold execOp
  simp only [ho, resolve, hK.ev hg, h1, Deferred.ofValue, Sem.run_bind, Sem.run_pure, Result.andThen_ok, invoke]
  exact hf _ _
/-- A call of a function that is given nothing of what the call owns. -/
theorem s_call {c : Callee} {xs : Array Operand} {ats : Array TypeId} {g : Operand} {first cap : Array Value} {vs : List Value} {Q : Value → Mem → List Ent → Prop} (hK : Ke a K) (hS : St B m0 m L) (hf : Enters P f) (ho : o.op = .call ⟨c, xs, ats⟩) (hc : c = .value g) (hg : evK K g = some (.func (.func f) first cap)) (hv : evAll K xs.toList = some vs)
    {args : Array Value} (hs : Spec P f args m [] Q) (ha : first ++ vs.toArray ++ cap = args)
    (hp : ∀ v m' L', Le m m' → St B m0 m' (L' ++ L) → Q v m' L' → Post v m'.w) : StepTo P o a m.w Post := by
  subst ha
  unfold StepTo
  rw [run_call hK hf ho hc hg hv]
  exact Calls.mono hs fun e w' ⟨v, m', L', h1, h2, h3, h4⟩ => ⟨v, h1, h2 ▸ hp v m' L' h3.le (hS.call h3) h4⟩
/-- A call of a function that is given R of what the call owns. -/
theorem s_callM {R L : List Ent} {c : Callee} {xs : Array Operand} {ats : Array TypeId} {g : Operand} {first cap : Array Value} {vs : List Value} {Q : Value → Mem → List Ent → Prop} (hK : Ke a K) (hS : St B m0 m (R ++ L)) (hf : Enters P f) (ho : o.op = .call ⟨c, xs, ats⟩) (hc : c = .value g) (hg : evK K g = some (.func (.func f) first cap)) (hv : evAll K xs.toList = some vs)
    {args : Array Value} (hs : Spec P f args m R Q) (ha : first ++ vs.toArray ++ cap = args)
    (hp : ∀ v m' R', Le m m' → St B m0 m' (R' ++ L) → Q v m' R' → Post v m'.w) : StepTo P o a m.w Post := by
  subst ha
  unfold StepTo
  rw [run_call hK hf ho hc hg hv]
  exact Calls.mono hs fun e w' ⟨v, m', L', h1, h2, h3, h4⟩ => ⟨v, h1, h2 ▸ hp v m' L' h3.le (hS.frame h3) h4⟩
end

/-! Slices. -/
section
variable {P : Program} {o : Oper} {n : Nat} {a : Act} {K : Kt} {ds : List Deferred} {B : List Nat} {m0 m : Mem} {L : List Ent} {Post : Value → World → Prop} {x y : Operand} {t e : TypeId} {α : Type} {R : Mem → α → List Value → Prop} {sz : Nat}
theorem sizeOf_of {w : World} {z : Value} {bytes : Nat} (hT : ElemT P t e z sz bytes) : (sizeOf e).run P w = .ok sz w := by
  obtain ⟨i, hi, hz, hs, hb⟩ := info_parts hT.info
  simp [sizeOf, typeInfo, hi, hs]
/-- The address of an element. -/
theorem s_index [Inhabited α] {z : Value} {bytes : Nat} {ad : Option Addr} {cap : Nat} {l : List α} {k : IntKind} {i : Int} (hT : ElemT P t e z sz bytes) (hE : Els R m sz ad cap l) (j : Nat) (hK : Ke a K) (ho : o.op = .indexAddr t x y) (hx : evK K x = some (.slice ad l.length cap)) (hy : evK K y = some (.int k i))
    (hij : i = (j : Int)) (hj : j < l.length) (hp : ∀ b p cs, R m l[j]! cs → At m b p cs → Post (.pointer (some ⟨b, p, none⟩)) m.w) : StepTo P o a m.w Post := by
  subst hij
  rw [getElem!_pos l j hj] at hp
  obtain ⟨b, q, cs, rfl, hl, hr, hA⟩ := hE.get hT.pos hj
  have hb : (0 : Int) ≤ (j : Int) ∧ (j : Int) < (l.length : Int) := ⟨by omega, by omega⟩
  unfold StepTo execOp
  simp only [ho, hK.ev hx, hK.ev hy, Instr.indexAt, asIntOf, Sem.run_bind, Sem.run_pure, Result.andThen_ok, run_underlying hT.und, sizeOf_of hT, hb, and_self, if_true, Int.toNat_natCast, Addr.add_mid]
  exact hp b (q + j * sz) cs hr hA
/-- len of a slice. -/
theorem run_len {w : World} {ad : Option Addr} {k cap : Nat} {ty : TypeId} (hu : P.underlying t = some (.slice e)) : (Builtin.len_ #[t] ty #[.slice ad k cap]).run P w = .ok (.int .i64 k) w := by
  simp [Builtin.len_, run_underlying hu]; rfl
/-- append to a slice of the call's own. -/
theorem s_append {z : Value} {bytes : Nat} {g : Option Nat} {cap cap2 : Nat} {l l' : List α} {a2 : Option Addr} (hT : ElemT P t e z sz bytes) (hR : Rep R sz) (hK : Ke a K) (k : Nat) (hS : St B m0 m L) (hk : L[k]? = some (rowOf e sz g cap l)) (hE : Els R m sz (adr g) cap l) (hE2 : Els R m sz a2 cap2 l')
    (ho : o.op = .call ⟨.builtin .append, #[x, y], #[t, t]⟩) (hx : evK K x = some (.slice (adr g) l.length cap)) (hy : evK K y = some (.slice a2 l'.length cap2)) (hlen : (l.length + l'.length) * bytes ≤ 140737488355328)
    (hp : ∀ m' g' cap', Le m m' → St B m0 m' (rowOf e sz g' cap' (l ++ l') :: L.eraseIdx k) → Els R m' sz (adr g') cap' (l ++ l') → Post (.slice (adr g') (l ++ l').length cap') m'.w) (h63 : l.length + l'.length ≤ maxLen) : StepTo P o a m.w Post := by
  obtain ⟨g', cap', m', h1, h2, h3, h4⟩ := append_own (ty := o.type) hT hR (hS.front k hk) hE hE2 hlen h63
  unfold StepTo execOp
  simp only [ho, resolve, invoke, builtin, Sem.run_bind, Sem.run_pure, Result.andThen_ok, List.map_toArray, List.map_cons, List.map_nil, hK.ev hx, hK.ev hy, h1]
  exact hp m' g' cap' h2 h3 h4
end
/-! Elements. -/
abbrev U8 (c : UInt8) : Value := .int .u8 (c.toNat : Int)
def isU8 (_ : Mem) (x : UInt8) (cs : List Value) : Prop := cs = [U8 x]
def in64 (x : Int) : Prop := -9223372036854775808 ≤ x ∧ x ≤ 9223372036854775807
def isInt (_ : Mem) (x : Int) (cs : List Value) : Prop := cs = [.int .i64 x] ∧ in64 x
theorem rep_U8 : Rep isU8 1 := ⟨fun h _ => h, fun h => by rw [h]; rfl, fun h u hu => by rw [h] at hu; simp at hu; subst hu; rfl, by decide⟩
theorem rep_Int : Rep isInt 1 := ⟨fun h _ => h, fun h => by rw [h.1]; rfl, fun h u hu => by rw [h.1] at hu; simp at hu; subst hu; rfl, by decide⟩
abbrev By (m : Mem) (a : Option Addr) (cap : Nat) (bs : List UInt8) : Prop := Els isU8 m 1 a cap bs
abbrev Ints (m : Mem) (a : Option Addr) (cap : Nat) (l : List Int) : Prop := Els isInt m 1 a cap l
/-! Integers. -/
section
variable {P : Program} {w : World}
theorem wrap64_of {x : Int} (h1 : -9223372036854775808 ≤ x) (h2 : x ≤ 9223372036854775807) : IntKind.i64.wrap x = x := IntWalk.i64_in _ ⟨h1, h2⟩
end
/-! Words for printed walks. -/
theorem ne_of_bne {α : Type} [BEq α] [LawfulBEq α] {a b : α} (h : (a != b) = true) : ¬ a = b := by simpa using h
theorem eq_of_bne {α : Type} [BEq α] [LawfulBEq α] {a b : α} (h : (a != b) = false) : a = b := by simpa using h
theorem split_b {x : Bool} {p : Prop} (ht : x = true → p) (hf : x = false → p) : p := by cases x; exact hf rfl; exact ht rfl
theorem v_int {k : IntKind} {a b : Int} (h : a = b) : Value.int k a = .int k b := by rw [h]
theorem v_bool {a b : Bool} (h : a = b) : Value.bool a = .bool b := by rw [h]
theorem v_str {a b : ByteArray} (h : a = b) : Value.string a = .string b := by rw [h]
theorem cons_eq {α : Type} {a b : α} {l l' : List α} (h : a = b) (hl : l = l') : a :: l = b :: l' := by rw [h, hl]
theorem v_agg {l l' : List Value} (h : l = l') : Value.agg l.toArray = .agg l'.toArray := by rw [h]
theorem v_tup {l l' : List Value} (h : l = l') : Value.tuple l.toArray = .tuple l'.toArray := by rw [h]
theorem v_slice {a a' : Option Addr} {n n' c c' : Nat} (ha : a = a') (hn : n = n') (hc : c = c') : Value.slice a n c = .slice a' n' c' := by rw [ha, hn, hc]
inductive All2 {α β : Type} (R : α → β → Prop) : List α → List β → Prop
  | nil : All2 R [] []
  | cons {a : α} {b : β} {l : List α} {l' : List β} : R a b → All2 R l l' → All2 R (a :: l) (b :: l')
theorem All2.len {α β : Type} {R : α → β → Prop} {l : List α} {l' : List β} (h : All2 R l l') : l.length = l'.length := by
  induction h with
  | nil => rfl
  | cons _ _ ih => simp [ih]
theorem run_bound {P : Program} {w : World} {k : IntKind} {j y : Nat} {c : BoundsCode} (h : j ≤ y) : (Instr.sliceBound (.int k (j : Int)) y c).run P w = .ok j w := by
  have hb : (0 : Int) ≤ (j : Int) ∧ (j : Int) ≤ (y : Int) := ⟨by omega, by omega⟩
  simp only [Instr.sliceBound, asIntOf, Sem.run_bind, Sem.run_pure, Result.andThen_ok, hb, and_self, if_true, Int.toNat_natCast]
theorem imin_spec (a b : Int) : imin a b ≤ a ∧ imin a b ≤ b ∧ (imin a b = a ∨ imin a b = b) := by unfold imin; split <;> omega
theorem imax_spec (a b : Int) : a ≤ imax a b ∧ b ≤ imax a b ∧ (imax a b = a ∨ imax a b = b) := by unfold imax; split <;> omega
section
variable {P : Program} {ops : Array Oper} {o : Oper} {n : Nat} {a : Act} {K : Kt} {ds : List Deferred} {w : World} {rest : List Oper} {Q : Exit → Act → World → Prop} {rr : Option Nat}
theorem q_pureE (d : Nat) (v u : Value) (hK : Kn n a K ds) (hc : okOp ops o K n d = true) (hk : known K o.op = true) (h : (execOp (evD K) o).run P w = .ok (.value u) w) (e : u = v)
    (next : ∀ a', Kn n a' ((d, v) :: K) ds → wpListIn (FW rr) 0 P ops Q rest a' w) : wpListIn (FW rr) 0 P ops Q (o :: rest) a w := by
  subst e; exact q_pure d _ hK hc hk h next
theorem s_pureE (v u : Value) (hK : Ke a K) (hk : known K o.op = true) (h : (execOp (evD K) o).run P w = .ok (.value u) w) (e : u = v) {Post : Value → World → Prop} (hp : Post v w) : StepTo P o a w Post := by
  subst e; exact s_pure _ hK hk h hp
theorem q_run (d : Nat) (v : Value) (hK : Kn n a K ds) (hc : okOp ops o K n d = true) (hk : known K o.op = true) (h : (execOp (evD K) o).run P w = .ok (.value v) w)
    (next : ∀ a', Kn n a' ((d, v) :: K) ds → wpListIn (FW rr) 0 P ops Q rest a' w) : wpListIn (FW rr) 0 P ops Q (o :: rest) a w := q_pure d _ hK hc hk h next
end
section
variable {P : Program} {K : Kt} {ds : List Deferred} {B : List Nat} {m0 m : Mem} {L : List Ent} {p : Nat} {T T' : TypeId} {b : Nat} {cs : Array Value} {rs : List ResultVar} {vs : List Value} {v : Value}
theorem ResL.box (hS : St B m0 m L) (k : Nat) (hk : L[k]? = some (.box b cs T')) (hp : lk K p = some (.pointer (some ⟨b, 0, none⟩))) (hT : aggOf P T = some (true, cs.size)) (h : ResL P K m.w rs vs) : ResL P K m.w (.cell p T :: rs) (.agg cs :: vs) := by
  have := ResL.agg (P := P) (K := K) (w := m.w) (p := p) (T := T) (b := b) (o := 0) (cs := cs.toList) (rs := rs) (vs := vs) (by simpa using hT) hp (fun k' v hv => by rw [box_cell hS k hk, Nat.zero_add]; simpa using hv) h
  simpa using this
theorem ResL.box1 (hS : St B m0 m L) (k : Nat) (hk : L[k]? = some (.box b cs T')) (hp : lk K p = some (.pointer (some ⟨b, 0, none⟩))) (hv : cs[0]? = some v) (hT : aggOf P T = some (false, 1)) (h : ResL P K m.w rs vs) : ResL P K m.w (.cell p T :: rs) (v :: vs) :=
  ResL.one hT hp ((box_cell hS k hk).trans hv) h
end
section
variable {P : Program} {o : Oper} {n : Nat} {a : Act} {K : Kt} {ds : List Deferred} {B : List Nat} {m0 m : Mem} {L : List Ent} {Post : Value → World → Prop} {x y z : Operand} {t e : TypeId} {α : Type} {R : Mem → α → List Value → Prop} {sz : Nat}
theorem arr_eq {l l' : List Value} (h : l = l') : l.toArray = l'.toArray := by rw [h]
theorem St.addRow (hS : St B m0 m L) (T : TypeId) (sz : Nat) : St B m0 m (rowOf T sz none 0 ([] : List α) :: L) :=
  ⟨hS.le, hS.kept, hS.news, ⟨by rw [blocksOf_cons]; exact hS.ow.nodup, fun x hx => by
    rcases List.mem_cons.1 hx with rfl | hx
    · intro b hb; cases hb
    · exact hS.ow.ok x hx, fun x hx => by
    rcases List.mem_cons.1 hx with rfl | hx
    · intro b hb; simp [rowOf, Ent.row] at hb
    · exact hS.ow.apart x hx⟩, fun b hb => hS.blk b (by rw [blocksOf_cons] at hb; simpa [rowOf, Ent.row] using hb)⟩
theorem els_lit {l : List α} {b cap : Nat} (hR : Rep R sz) (css : List (List Value)) {cs : List Value} (hA : At m b 0 cs) (hcs : cs = css.flatten) (hm : cap ≤ maxLen) (h : All2 (fun x c => R m x c) l css) (hcap : l.length = cap := by rfl) : Els R m sz (some ⟨b, 0, none⟩) cap l := by
  subst hcs
  subst hcap
  have hl : css.length = l.length := h.len.symm
  refine Els.of_at hR hl (fun i x c hx hc => ?_) hA (Nat.le_refl _) hm
  clear hA hm
  induction h generalizing i with
  | nil => simp at hx
  | cons h1 _ ih =>
    cases i with
    | zero => simp at hx hc; subst hx hc; exact h1
    | succ i => exact ih (by simpa using hl) i (by simpa using hx) (by simpa using hc)
theorem run_slice {w : World} {zv : Value} {bytes : Nat} (hT : ElemT P t e zv sz bytes) (ad : Option Addr) (len cap l h : Nat) (lo hi : Option Value) (hb : (Instr.sliceBounds true len cap lo hi none).run P w = .ok (l, h, cap) w) :
    (Instr.sliceAt t (.slice ad len cap) lo hi none).run P w = .ok (.slice (cutA ad cap l sz) (h - l) (cap - l)) w := by
  simp only [Instr.sliceAt, Sem.run_bind, run_underlying hT.und, Result.andThen_ok, Instr.slice, hb, sizeOf_of hT, Sem.run_pure]
  rfl
theorem s_sliceFrom {zv : Value} {bytes : Nat} {ad : Option Addr} {cap : Nat} {l : List α} {k : IntKind} {i : Int} (hT : ElemT P t e zv sz bytes) (hE : Els R m sz ad cap l) (j : Nat) (hij : i = (j : Int)) (hK : Ke a K) (ho : o.op = .slice t x (some y) none none) (hx : evK K x = some (.slice ad l.length cap)) (hy : evK K y = some (.int k i))
    (hj : j ≤ l.length) (hp : Post (.slice (cutA ad cap j sz) (l.drop j).length (cap - j)) m.w) : StepTo P o a m.w Post := by
  subst hij
  have := run_slice (P := P) (w := m.w) hT ad l.length cap j l.length (some (.int k j)) none (by simp only [Instr.sliceBounds, Sem.run_bind, Sem.run_pure, Result.andThen_ok, run_bound hj])
  unfold StepTo execOp
  simp only [ho, Option.map_some, Option.map_none, hK.ev hx, hK.ev hy, Sem.run_bind, this, Result.andThen_ok, Sem.run_pure]
  rw [List.length_drop] at hp; exact hp
theorem s_sliceTo {zv : Value} {bytes : Nat} {ad : Option Addr} {cap : Nat} {l : List α} {k : IntKind} {i : Int} (hT : ElemT P t e zv sz bytes) (hE : Els R m sz ad cap l) (j : Nat) (hij : i = (j : Int)) (hK : Ke a K) (ho : o.op = .slice t x none (some y) none) (hx : evK K x = some (.slice ad l.length cap)) (hy : evK K y = some (.int k i))
    (hj : j ≤ l.length) (hp : Post (.slice ad (l.take j).length cap) m.w) : StepTo P o a m.w Post := by
  subst hij
  have hc := hE.lt63.2.2
  have := run_slice (P := P) (w := m.w) hT ad l.length cap 0 j none (some (.int k j)) (by simp only [Instr.sliceBounds, Sem.run_bind, Sem.run_pure, Result.andThen_ok, run_bound (Nat.le_trans hj hc)])
  unfold StepTo execOp
  simp only [ho, Option.map_some, Option.map_none, hK.ev hx, hK.ev hy, Sem.run_bind, this, Result.andThen_ok, Sem.run_pure, cutA_zero, Nat.sub_zero]
  rw [List.length_take, Nat.min_eq_left hj] at hp; exact hp
theorem s_sliceMid {zv : Value} {bytes : Nat} {ad : Option Addr} {cap : Nat} {l : List α} {k k' : IntKind} {i i' : Int} (hT : ElemT P t e zv sz bytes) (hE : Els R m sz ad cap l) (j j' : Nat) (hij : i = (j : Int)) (hij' : i' = (j' : Int)) (hK : Ke a K) (ho : o.op = .slice t x (some y) (some z) none) (hx : evK K x = some (.slice ad l.length cap)) (hy : evK K y = some (.int k i)) (hz : evK K z = some (.int k' i'))
    (hj : j ≤ j' ∧ j' ≤ l.length) (hp : Post (.slice (cutA ad cap j sz) ((l.take j').drop j).length (cap - j)) m.w) : StepTo P o a m.w Post := by
  subst hij hij'
  have hc := hE.lt63.2.2
  have := run_slice (P := P) (w := m.w) hT ad l.length cap j j' (some (.int k j)) (some (.int k' j')) (by simp only [Instr.sliceBounds, Sem.run_bind, Sem.run_pure, Result.andThen_ok, run_bound (Nat.le_trans hj.2 hc), run_bound hj.1])
  unfold StepTo execOp
  simp only [ho, Option.map_some, Option.map_none, hK.ev hx, hK.ev hy, hK.ev hz, Sem.run_bind, this, Result.andThen_ok, Sem.run_pure]
  rw [List.length_drop, List.length_take, Nat.min_eq_left hj.2] at hp; exact hp
end
theorem wrapi64_of {x : Int} (h1 : -9223372036854775808 ≤ x) (h2 : x ≤ 9223372036854775807) : IntKind.i64.wrap x = x := IntWalk.i64_in _ ⟨h1, h2⟩
theorem wrapu64_of {x : Int} (h1 : 0 ≤ x) (h2 : x ≤ 18446744073709551615) : IntKind.u64.wrap x = x := IntWalk.u64_in _ ⟨h1, h2⟩
theorem wrapu32_of {x : Int} (h1 : 0 ≤ x) (h2 : x ≤ 4294967295) : IntKind.u32.wrap x = x := IntWalk.u32_in _ ⟨h1, h2⟩
theorem wrapu16_of {x : Int} (h1 : 0 ≤ x) (h2 : x ≤ 65535) : IntKind.u16.wrap x = x := IntWalk.u16_in _ ⟨h1, h2⟩
theorem wrapu8_of {x : Int} (h1 : 0 ≤ x) (h2 : x ≤ 255) : IntKind.u8.wrap x = x := IntWalk.u8_in _ ⟨h1, h2⟩
/-! A slice against nil; bytes as a string. -/
section
variable {P : Program} {o : Oper} {a : Act} {K : Kt} {ds : List Deferred} {B : List Nat} {m0 m : Mem} {L : List Ent} {Post : Value → World → Prop} {x y : Operand} {t t' e : TypeId} {w : World} {ρ : Operand → Value}
theorem run_nilEq {ad : Option Addr} {n c : Nat} (ho : o.op = .binOp .eql t x y t') (hx : ρ x = .slice ad n c) (hy : ρ y = .slice none 0 0) (hu : P.underlying t = some (.slice e)) : (execOp ρ o).run P w = .ok (.value (.bool ad.isNone)) w := by
  have h := Lib.run_eql_slice_nil (P := P) w t e ad n c 0 0 hu
  unfold execOp
  simp only [ho, hx, hy, eqGuard, Sem.run_bind, Bool.not_true, Bool.false_eq_true, if_false, Sem.run_pure, Result.andThen_ok, h]
theorem run_nilNe {ad : Option Addr} {n c : Nat} (ho : o.op = .binOp .neq t x y t') (hx : ρ x = .slice ad n c) (hy : ρ y = .slice none 0 0) (hu : P.underlying t = some (.slice e)) : (execOp ρ o).run P w = .ok (.value (.bool (!ad.isNone))) w := by
  have h := run_neq_slice_nil_any (P := P) w t e ad n c 0 0 hu
  unfold execOp
  simp only [ho, hx, hy, eqGuard, Sem.run_bind, Bool.not_true, Bool.false_eq_true, if_false, Sem.run_pure, Result.andThen_ok, h]
theorem Els.cast {α : Type} {R : Mem → α → List Value → Prop} {sz cap : Nat} {ad : Option Addr} {l l' : List α} (e : l = l') (h : Els R m sz ad cap l) : Els R m sz ad cap l' := e ▸ h
theorem Els.none_nil {α : Type} {R : Mem → α → List Value → Prop} {sz cap : Nat} {l : List α} (h : Els R m sz none cap l) : l = [] := by
  obtain ⟨css, h1, h2, _⟩ := h
  have := h1.2.2.2.1 rfl
  exact List.eq_nil_of_length_eq_zero (by have := h1.2.1; omega)
theorem Els.isNone_nil {α : Type} {R : Mem → α → List Value → Prop} {ad : Option Addr} {sz cap : Nat} {l : List α} (h : Els R m sz ad cap l) (hn : ad.isNone = true) : l = [] := by
  cases ad with
  | none => exact h.none_nil
  | some _ => cases hn
/-- A literal of a slice that the call may append to. -/
theorem s_buildRow {elem : TypeId} {len : Nat} {parts : Array (Nat × Operand)} (cells : Array Value) (hK : Ke a K) (hS : St B m0 m L) (ho : o.op = .buildSlice t len parts) (hk : known K o.op = true)
    (hrun : (execOp (evD K) o).run P m.w = .ok (.value (.slice (some ⟨m.w.heap.size, 0, none⟩) len len)) (m.w.alloc (.cells cells elem (0, 0))))
    (hp : ∀ m' b, Le m m' → St B m0 m' (.row (some b) elem cells.size cells.size :: L) → At m' b 0 cells.toList → Post (.slice (some ⟨b, 0, none⟩) len len) m'.w) : StepTo P o a m.w Post := by
  unfold StepTo
  rw [exec_known hK hk, hrun]
  let X : Nat → Nat → Prop := fun b o => b = m.w.heap.size ∧ o < cells.size
  have h1 := hS.newBox cells elem
  have h2 := h1.give (e' := .row (some m.w.heap.size) elem cells.size cells.size) X (fun b o h => by simp [Ent.box, h.1]) (fun b hb => by cases hb; exact ⟨cells, alloc_heap _ _, rfl⟩) (fun b hb => by simpa [Ent.box, Ent.row] using hb) (by simp [Ent.row])
    (fun b hb o ho => ⟨trivial, fun hx => by have h1 : cells.size ≤ o := ho; have h2 := hx.2; omega⟩)
  have hl : Le m (Mem.give ⟨m.w.alloc (.cells cells elem (0, 0)), m.ok⟩ X) := by
    have := (St.newBox (St.refl (Ow.nil m)) cells elem).le
    exact this.trans (Le.give _ _)
  refine hp _ _ hl h2 fun k v hv => ⟨⟨.inr ⟨rfl, ?_⟩, by simp [Mem.give]⟩, ?_⟩
  · have := (List.getElem?_eq_some_iff.1 hv).1; simpa using this
  · show (m.w.alloc _).cell? _ = _
    rw [cell_of_row _ _ _ _ _ _ (alloc_heap _ _), Nat.zero_add]; simpa using hv
theorem u8_flatten {css : List (List Value)} : ∀ {l : List UInt8}, css.length = l.length → (∀ (i : Nat) (x : UInt8) (cs : List Value), l[i]? = some x → css[i]? = some cs → cs.length = 1 ∧ isU8 m x cs) → css.flatten = l.map U8 := by
  induction css with
  | nil => intro l h _; cases l <;> simp_all
  | cons c css ih =>
    intro l h hh
    cases l with
    | nil => simp at h
    | cons x l =>
      have h0 := (hh 0 x c rfl rfl).2
      unfold isU8 at h0
      subst h0
      rw [List.flatten_cons, List.map_cons, ih (by simpa using h) (fun i x cs hx hc => hh (i + 1) x cs (by simpa using hx) (by simpa using hc))]
      rfl
theorem Els.sl_u8 {ad : Option Addr} {cap : Nat} {l : List UInt8} (h : Els isU8 m 1 ad cap l) : Sl m 1 ad l.length cap (l.map U8) := by
  obtain ⟨css, h1, h2, h3⟩ := h
  rw [u8_flatten h2 h3] at h1; exact h1
theorem run_toStr {ad : Option Addr} {cap : Nat} {bs : List UInt8} (ho : o.op = .convert t t' x) (hx : ρ x = .slice ad bs.length cap) (hs : P.underlying t = some (.slice e)) (he : P.underlying e = some (.int .u8)) (hd : P.underlying t' = some .string) (hE : Els isU8 m 1 ad cap bs) :
    (execOp ρ o).run P m.w = .ok (.value (.string ⟨bs.toArray⟩)) m.w := by
  have h : (convert t t' (.slice ad bs.length cap)).run P m.w = .ok (.string ⟨bs.toArray⟩) m.w := by
    rw [run_convert_bytes_string m.w t t' e ad bs.length cap hs he hd]
    cases ad with
    | none =>
      have : bs = [] := hE.none_nil
      subst this
      simp [Conv.bytesToString]; rfl
    | some ad =>
      have hsl := hE.sl_u8
      have hls : (loadCells ad bs.length).run P m.w = .ok ((bs.map fun c => (c.toNat : Int)).map (Value.int .u8)).toArray m.w := by
        have := run_loadCells_list (P := P) m.w ad (bs.map U8) (fun j v hj => by
          obtain ⟨b, o, ha, _, hc⟩ := hsl.2.2.2.2 j v hj
          cases ha; rw [Addr.add_mid]; exact hc)
        rw [List.length_map] at this
        rw [this, List.map_map]; rfl
      rw [run_bytesToString m.w ad bs.length cap _ hls, foldl_push_bytes]
      congr 2
      simp [ByteArray.empty, ByteArray.emptyWithCapacity, List.map_map, Function.comp_def]
      rfl
  unfold execOp
  simp only [ho, hx, Sem.run_bind, h, Result.andThen_ok, Sem.run_pure]
theorem str_beq (x y : List UInt8) : ((⟨x.toArray⟩ : ByteArray).toList == (⟨y.toArray⟩ : ByteArray).toList) = decide (x = y) := by
  rw [ByteArray.toList_eq, ByteArray.toList_eq, Bool.eq_iff_iff]
  simp
end
/-! Structs and arrays that are compared. -/
def hcells (f : Nat → UInt8) : Array Value := ((List.range 32).map fun i => Value.int .u8 ((f i).toNat : Int)).toArray
section
variable {P : Program} {o : Oper} {x y : Operand} {t t' e : TypeId} {w : World} {ρ : Operand → Value} {op : BinOp}
theorem run_binAgg {xs ys : Array Value} {v : Value} (ho : o.op = .binOp op t x y t') (hx : ρ x = .agg xs) (hy : ρ y = .agg ys) (hg : P.eqGuardType P.depth t = false) (h : (binOp op t (.agg xs) (.agg ys)).run P w = .ok v w) : (execOp ρ o).run P w = .ok (.value v) w := by
  have h2 : (eqGuard op t x y (.agg xs) (.agg ys)).run P w = .ok () w := by
    unfold eqGuard
    cases op <;> simp [program, Sem.run, hg]
  unfold execOp
  simp only [ho, hx, hy, Sem.run_bind, h2, Result.andThen_ok, h, Sem.run_pure]
theorem run_items_hash (d : Nat) (he : P.underlying e = some (.int .u8)) (f g : Nat → UInt8) : ∀ (is : List Nat), (∀ i ∈ is, i < 32) → (Op.eqItems (d + 1) e 1 (hcells f) (hcells g) is).run P w = .ok (is.all fun i => f i == g i) w
  | [], _ => by simp [Op.eqItems]
  | i :: is, h => by
    have hi := h i (by simp)
    have hp : ∀ f : Nat → UInt8, (part e (hcells f) (i * 1)).run P w = .ok (.int .u8 ((f i).toNat : Int)) w := fun f => by
      have hc : (hcells f)[i]? = some (.int .u8 ((f i).toNat : Int)) := by simp [hcells, hi]
      simp [part, run_isAgg he, isAggD, Nat.mul_one, hc]
    have ih := run_items_hash d he f g is (fun j hj => h j (by simp [hj]))
    have hb : (((f i).toNat : Int) == ((g i).toNat : Int)) = (f i == g i) := by
      rw [Bool.eq_iff_iff]; simp
      exact ⟨fun h => UInt8.toNat_inj.1 (by omega), fun h => by rw [h]⟩
    simp only [Op.eqItems, Sem.run_bind, hp, Result.andThen_ok, run_equalIn_int w d e .u8 .u8 _ _ he, hb, List.all_cons]
    cases f i == g i
    · simp
    · simp [ih]
theorem run_eqHash (hu : P.underlying t = some (.array 32 e)) (he : P.underlying e = some (.int .u8)) (hs : aggOf P e = some (false, 1)) (f g : Nat → UInt8) : (binOp .eql t (.agg (hcells f)) (.agg (hcells g))).run P w = .ok (.bool (hashEq f g)) w := by
  obtain ⟨dd, i, hu', hi, hd, hsz⟩ := aggOf_parts hs
  have hc : P.cellsOf e = 1 := by simp [Program.cellsOf, hi, hsz]
  have h := run_equalIn_array (P := P) w 9999 (hcells f) (hcells g) hu hi
  rw [hc, run_items_hash 9998 he f g (List.range 32) (fun i hi => by simpa using hi)] at h
  rw [run_eql_struct, h]
  rfl
end
/-! copy into a block of the call's own. -/
section
variable {P : Program} {o : Oper} {a : Act} {K : Kt} {ds : List Deferred} {B : List Nat} {m0 m : Mem} {L : List Ent} {Post : Value → World → Prop} {x y : Operand} {t t2 e : TypeId}
theorem s_copy {z : Value} {bytes b i n c c2 : Nat} {cs : Array Value} {T : TypeId} {a2 : Option Addr} {l : List UInt8} (hT : ElemT P t e z 1 bytes) (hK : Ke a K) (k : Nat) (hS : St B m0 m L) (hk : L[k]? = some (.box b cs T)) (hE : Els isU8 m 1 a2 c2 l)
    (ho : o.op = .call ⟨.builtin .copy, #[x, y], #[t, t2]⟩) (hx : evK K x = some (.slice (some ⟨b, i, none⟩) n c)) (hy : evK K y = some (.slice a2 l.length c2)) (hfit : i + n ≤ cs.size)
    (hp : ∀ m', Le m m' → St B m0 m' (.box b (putAt cs i ((l.take n).map U8)) T :: L.eraseIdx k) → Post (.int .i64 (Nat.min l.length n : Nat)) m'.w) : StepTo P o a m.w Post := by
  have hlen : ((l.take n).map U8).length = Nat.min l.length n := by simp [Nat.min_comm]
  have hle : Nat.min l.length n ≤ n := Nat.min_le_right _ _
  have hf : (Builtin.firstCells 1 (Nat.min l.length n) (.slice a2 l.length c2)).run P m.w = .ok ((l.take n).map U8).toArray m.w := by
    have hsl := hE.sl_u8
    cases a2 with
    | none =>
      have : l = [] := hE.none_nil
      subst this
      simp [Builtin.firstCells]
    | some ad =>
      have h1 := run_firstCells_some (P := P) m.w 1 (Nat.min l.length n) ad l.length c2 ((l.take n).map U8) (by rw [hlen, Nat.mul_one]) (fun j u hu => by
        have hu' : (l.map U8)[j]? = some u := by
          rw [List.getElem?_map, List.getElem?_take] at hu
          rw [List.getElem?_map]
          split at hu
          · exact hu
          · cases hu
        obtain ⟨b', o', ha, _, hc⟩ := hsl.2.2.2.2 j u hu'
        cases ha; rw [Addr.add_mid]; exact hc)
      exact h1
  have hb := hS.boxAt k hk
  have hst := run_storeCells_at P b i T ((l.take n).map U8) 0 cs m.w hb (by rw [hlen]; simp only [Nat.add_zero]; omega) (fun u hu => by
    obtain ⟨c, _, rfl⟩ := List.mem_map.1 hu; rfl)
  simp only [Nat.add_zero] at hst
  generalize (l.take n).map U8 = xs at *
  have hw : m.w.grownBy (m.w.setRow b (putAt cs i xs)) (some b) := ⟨rfl, rfl, rfl, by simp, fun k' _ hk' => setRow_other m.w b k' _ (fun e => hk' (by rw [e]))⟩
  have hS1 := hS.front k hk
  have hS2 := hS1.write hw (by simp) (setRow_heap m.w b cs _ T _ hb)
  have hr := (St.refl hS1.ow).write hw (by simp) (setRow_heap m.w b cs _ T _ hb)
  have hrun : (Builtin.copy_ #[t, t2] o.type #[.slice (some ⟨b, i, none⟩) n c, .slice a2 l.length c2]).run P m.w = .ok (.int .i64 (Nat.min l.length n : Nat)) (m.w.setRow b (putAt cs i xs)) := by
    simp [Builtin.copy_, run_underlying hT.und, Builtin.lenOf, sizeOf_of hT, hf, hst, putAt, goInt]
  unfold StepTo execOp
  simp only [ho, resolve, invoke, builtin, Sem.run_bind, Sem.run_pure, Result.andThen_ok, List.map_toArray, List.map_cons, List.map_nil, hK.ev hx, hK.ev hy, hrun]
  exact hp ⟨_, m.ok⟩ hr.le hS2
theorem copy_hash {l : List UInt8} {zs : Array Value} (hz : zs = hcells (fun _ => 0)) (h : l.length ≤ 32) : putAt zs 0 ((l.take 32).map U8) = hcells (fun i => l.getD i 0) := by
  subst hz
  unfold putAt hcells
  congr 1
  rw [List.take_of_length_le h]
  apply List.ext_getElem?
  intro j
  simp only [List.take_zero, List.nil_append, Nat.zero_add, List.length_map, List.getElem?_append, List.getElem?_map, List.getElem?_drop, List.getElem?_range]
  by_cases hj : j < l.length
  · simp [hj, show j < 32 by omega]
  · by_cases h32 : j < 32
    · simp [hj, h32, show l.length + (j - l.length) = j by omega, List.getD, List.getElem?_eq_none (Nat.le_of_not_lt hj)]
    · simp [hj, h32, show l.length + (j - l.length) = j by omega]
end
/-! Maps with keys of kind int, of the call's own. -/
section
variable {P : Program} {o : Oper} {a : Act} {K : Kt} {ds : List Deferred} {B : List Nat} {m0 m : Mem} {L : List Ent} {Post : Value → World → Prop} {x y z : Operand} {t kt et : TypeId}
theorem s_makeMap (_hK : Ke a K) (hS : St B m0 m L) (ho : o.op = .makeMap t none)
    (hp : ∀ m' b, Le m m' → St B m0 m' (.obj b (.map #[] 0) :: L) → Post (.map (some b)) m'.w) : StepTo P o a m.w Post := by
  unfold StepTo execOp
  simp only [ho, Option.map_none, run_makeMap, Sem.run_bind, Sem.run_pure, Result.andThen_ok]
  have h := hS.new (o := .map #[] 0) rfl (.obj m.w.heap.size (.map #[] 0)) rfl (alloc_heap _ _)
  exact hp _ _ (St.new (St.refl (Ow.nil m)) (o := .map #[] 0) rfl (.obj m.w.heap.size (.map #[] 0)) rfl (alloc_heap _ _)).le h
theorem run_findKey {w : World} (hk : P.underlying kt = some (.int .i64)) {key : Int} {es : List MapEntry} {r : Option (Nat × Value)} (hf : Instr.findNow (.int .i64) (.int .i64 key) es 0 = some r) : (Instr.findKey kt (.int .i64 key) es).run P w = .ok r w := by
  unfold Instr.findKey
  rw [Sem.run_bind, run_underlying hk w]
  simp only [Result.andThen_ok, hf]; rfl
theorem run_checkKey {w : World} (hk : P.underlying kt = some (.int .i64)) {key : Int} (b : Bool) : (Instr.checkKey b 10000 kt (.int .i64 key)).run P w = .ok () w := by
  unfold Instr.checkKey
  rw [Sem.run_bind, run_underlying hk w]; rfl
theorem s_mapPut {b clock : Nat} {es : Array MapEntry} {key : Int} {v : Value} (hm : P.underlying t = some (.map kt et)) (hkt : P.underlying kt = some (.int .i64)) (hK : Ke a K) (k : Nat) (hS : St B m0 m L) (hk : L[k]? = some (.obj b (.map es clock))) (ho : o.op = .insert t x y z ∨ o.op = .mapUpdate t x y z)
    (hx : evK K x = some (.map (some b))) (hy : evK K y = some (.int .i64 key)) (hz : evK K z = some v) (hf : Instr.findNow (.int .i64) (.int .i64 key) es.toList 0 = some none)
    (hp : ∀ m', Le m m' → St B m0 m' (.obj b (.map (es.push ⟨.int .i64 key, v, clock⟩) (clock + 1)) :: L.eraseIdx k) → Post undef m'.w) : StepTo P o a m.w Post := by
  have hb := hS.objAt k hk
  have hs := MapKept.run_setObj_map (P := P) (.map (es.push ⟨.int .i64 key, v, clock⟩) (clock + 1)) hb
  have hg : (getObj b).run P m.w = .ok (.map es clock) m.w := by unfold getObj; simp only [Sem.run, hb]
  have hlt := heap_lt hb
  let w' : World := { m.w with heap := m.w.heap.setIfInBounds b (.map (es.push ⟨.int .i64 key, v, clock⟩) (clock + 1)) }
  have hw : m.w.grownBy w' (some b) := ⟨rfl, rfl, rfl, by simp [w'], fun k' _ hk' => by
    show (m.w.heap.setIfInBounds b _)[k']? = _
    rw [Array.getElem?_setIfInBounds_ne (fun e => hk' (by rw [e]))]⟩
  have hb' : w'.heap[b]? = some (.map (es.push ⟨.int .i64 key, v, clock⟩) (clock + 1)) := by simp [w', hlt]
  have hS1 := hS.front k hk
  have hS2 := hS1.writeObj hw (by simp [w']) hb'
  have hr := (St.refl hS1.ow).writeObj hw (by simp [w']) hb'
  have hrun : (Instr.mapUpdate t (.map (some b)) (.int .i64 key) v).run P m.w = .ok () w' := by
    unfold Instr.mapUpdate
    simp only [Sem.run_bind, run_underlying hm, Result.andThen_ok, hg, run_checkKey hkt, run_findKey hkt hf, hs]
    rfl
  unfold StepTo execOp
  rcases ho with ho | ho <;> simp only [ho, hK.ev hx, hK.ev hy, hK.ev hz, Sem.run_bind, hrun, Result.andThen_ok, Sem.run_pure] <;> exact hp ⟨w', m.ok⟩ hr.le hS2
theorem s_lookup {b clock i : Nat} {es : Array MapEntry} {key : Int} {v : Value} (hm : P.underlying t = some (.map kt et)) (hkt : P.underlying kt = some (.int .i64)) (hK : Ke a K) (k : Nat) (hS : St B m0 m L) (hk : L[k]? = some (.obj b (.map es clock))) (ho : o.op = .lookup t x y false)
    (hx : evK K x = some (.map (some b))) (hy : evK K y = some (.int .i64 key)) (hf : Instr.findNow (.int .i64) (.int .i64 key) es.toList 0 = some (some (i, v))) (hp : Post v m.w) : StepTo P o a m.w Post := by
  have hb := hS.objAt k hk
  have hg : (getObj b).run P m.w = .ok (.map es clock) m.w := by unfold getObj; simp only [Sem.run, hb]
  have hrun : (Instr.lookup t (.map (some b)) (.int .i64 key) false).run P m.w = .ok v m.w := by
    unfold Instr.lookup
    simp only [Sem.run_bind, run_underlying hm, Result.andThen_ok, hg, Sem.run_pure, run_checkKey hkt, run_findKey hkt hf]
    simp
  unfold StepTo execOp
  simp only [ho, hK.ev hx, hK.ev hy, Sem.run_bind, hrun, Result.andThen_ok, Sem.run_pure]
  exact hp
theorem s_lookupNo {b clock : Nat} {es : Array MapEntry} {key : Int} (v : Value) (hm : P.underlying t = some (.map kt et)) (hkt : P.underlying kt = some (.int .i64)) (hz : (P.info? et).map (·.zero) = some (some v)) (hK : Ke a K) (k : Nat) (hS : St B m0 m L) (hk : L[k]? = some (.obj b (.map es clock))) (ho : o.op = .lookup t x y false)
    (hx : evK K x = some (.map (some b))) (hy : evK K y = some (.int .i64 key)) (hf : Instr.findNow (.int .i64) (.int .i64 key) es.toList 0 = some none) (hp : Post v m.w) : StepTo P o a m.w Post := by
  have hb := hS.objAt k hk
  have hg : (getObj b).run P m.w = .ok (.map es clock) m.w := by unfold getObj; simp only [Sem.run, hb]
  have hrun : (Instr.lookup t (.map (some b)) (.int .i64 key) false).run P m.w = .ok v m.w := by
    unfold Instr.lookup
    simp only [Sem.run_bind, run_underlying hm, Result.andThen_ok, hg, Sem.run_pure, run_checkKey hkt, run_findKey hkt hf, run_zero hz]
    simp
  unfold StepTo execOp
  simp only [ho, hK.ev hx, hK.ev hy, Sem.run_bind, hrun, Result.andThen_ok, Sem.run_pure]
  exact hp
end
/-! []byte of a constant: the row is marked, no cell changes. -/
section
variable {P : Program} {o : Oper} {a : Act} {K : Kt} {ds : List Deferred} {B : List Nat} {m0 m : Mem} {L : List Ent} {Post : Value → World → Prop} {x : Operand} {t e : TypeId}
theorem freeze_cell (w : World) (p : Addr) (n : Nat) (q : Addr) : (w.freeze p n).cell? q = w.cell? q := by
  unfold World.freeze
  split
  · rfl
  unfold World.cell?
  simp only [Array.getElem?_modify]
  by_cases h : p.block = q.block
  · rw [if_pos h]
    cases hq : w.heap[q.block]? with
    | none => rfl
    | some ob => cases ob <;> rfl
  · rw [if_neg h]
theorem freeze_other (w : World) (p : Addr) (n k : Nat) (h : k ≠ p.block) : (w.freeze p n).heap[k]? = w.heap[k]? := by
  unfold World.freeze
  split
  · rfl
  simp only [Array.getElem?_modify]
  rw [if_neg (fun e => h e.symm)]
theorem freeze_size (w : World) (p : Addr) (n : Nat) : (w.freeze p n).heap.size = w.heap.size := by
  unfold World.freeze; split
  · rfl
  · simp
theorem s_stringish {b i n c : Nat} (hK : Ke a K) (hS : St B m0 m L) (hb0 : m0.w.heap.size ≤ b) (hbn : b ∉ blocksOf L) (ho : o.op = .convert t t x) (hx : evK K x = some (.slice (some ⟨b, i, none⟩) n c)) (hu : P.underlying t = some (.slice e)) (he : P.underlying e = some (.int .u8))
    (hp : ∀ m', Le m m' → St B m0 m' L → Post (.slice (some ⟨b, i, none⟩) n c) m'.w) : StepTo P o a m.w Post := by
  have key : ∀ w' : World, w'.os = m.w.os → w'.tape = m.w.tape → w'.output = m.w.output → w'.heap.size = m.w.heap.size → (∀ q, w'.cell? q = m.w.cell? q) → (∀ k, k ≠ b → w'.heap[k]? = m.w.heap[k]?) → Post (.slice (some ⟨b, i, none⟩) n c) w' := by
    intro w' h1 h2 h3 h4 h5 h6
    have hle : Le m ⟨w', m.ok⟩ := ⟨h1, h2, h3, Nat.le_of_eq h4.symm, fun b' o' hb' => ⟨⟨hb', by simpa [h4] using hb'.2⟩, h5 _⟩⟩
    refine hp ⟨w', m.ok⟩ hle ⟨hS.le.trans hle, fun b' hb' hB => (h6 b' (by omega)).trans (hS.kept b' hb' hB), fun b' o' ho' => hS.news b' o' ho'.1, ⟨hS.ow.nodup, fun e' he' => e'.loc _ _ (hS.ow.ok e' he') fun b' hb' => h6 b' (fun e => hbn (mem_blocksOf.2 ⟨e', he', e ▸ hb'⟩)), fun e' he' b' hb' o' hf hm => hS.ow.apart e' he' b' hb' o' hf hm.1⟩, hS.blk⟩
  have hrun : ∃ w', (convert t t (.slice (some ⟨b, i, none⟩) n c)).run P m.w = .ok (.slice (some ⟨b, i, none⟩) n c) w' ∧ Post (.slice (some ⟨b, i, none⟩) n c) w' := by
    simp only [convert, Sem.run_bind, run_underlying hu, run_underlying he, Result.andThen_ok, beq_self_eq_true, markStringish, Go.shape, Sem.run]
    cases hsh : m.w.shape? b with
    | none => exact ⟨m.w, rfl, key _ rfl rfl rfl rfl (fun _ => rfl) (fun _ _ => rfl)⟩
    | some p =>
      have hz : ∀ (w : World) (p : Addr) (n : Nat), (w.freeze p n).os = w.os ∧ (w.freeze p n).tape = w.tape ∧ (w.freeze p n).output = w.output := fun w p n => by unfold World.freeze; split <;> exact ⟨rfl, rfl, rfl⟩
      exact ⟨m.w.freeze ⟨b, p.2, none⟩ 1, rfl, key _ (hz _ _ _).1 (hz _ _ _).2.1 (hz _ _ _).2.2 (freeze_size _ _ _) (fun q => freeze_cell _ _ _ _) (fun k hk => freeze_other _ _ _ _ hk)⟩
  obtain ⟨w', h1, h2⟩ := hrun
  unfold StepTo execOp
  simp only [ho, hK.ev hx, Sem.run_bind, h1, Result.andThen_ok, Sem.run_pure]
  exact h2
end
end Go.Proofs.Ythnhjibbkleneaa
