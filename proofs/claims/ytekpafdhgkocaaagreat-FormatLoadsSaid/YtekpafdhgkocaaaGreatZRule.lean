/- Part of what the laws need: plain words, the walker and its laws, the program's functions. -/
import Derived.Test.YtekpafdhgkocaaaGreatZSlice
import Derived.ChangeKeysEq
import Derived.Test.YtekpafdhgkocaaaGreatZPure
namespace Go.Proofs.YtekpafdhgkocaaaGreat
open Go.RowKit G
theorem jh {d t : Nat} (e : ¬ d = t) : Nat.beq d t = false := by
 cases h : Nat.beq d t with
 | true => exact absurd (Nat.eq_of_beq_eq_true h) e
 | false => rfl
theorem C8 {p : Nat → Prop} : ∀ k, p k → ∃ j, p j ∧ ∀ i, p i → j ≤ i := by
 intro k
 induction k using Nat.strongRecOn with
 | _ k ih =>
   intro hk
   by_cases h : ∃ j, j < k ∧ p j
   · obtain ⟨j, hj, hp⟩ := h; exact ih j hj hp
   · exact ⟨k, hk, fun i hi => Nat.le_of_not_lt fun hlt => h ⟨i, hlt, hi⟩⟩
abbrev Kt := List (Nat × Value)
def lk : Kt → Nat → Option Value
 | [], _ => none
 | (s, v) :: K, t => match Nat.beq s t with | true => some v | false => lk K t
def ed (K : Kt) : Operand → Option Value
 | .tmp t => lk K t
 | .const v => some v
 | .global g => some (.pointer (some ⟨g, 0, none⟩))
 | .func f => some (.func (.func f) #[] #[])
def Qq (K : Kt) (x : Operand) : Value := (ed K x).getD undef
def Ke (a : Act) (K : Kt) : Prop := ∀ t v, lk K t = some v → a.eval (.tmp t) = v
theorem Ke.nil (a : Act) : Ke a [] := fun t v h => by simp [lk] at h
theorem Ke.cons {a : Act} {K : Kt} {t : Nat} {v : Value} (h : a.eval (.tmp t) = v) (hK : Ke a K) : Ke a ((t, v) :: K) := fun s u hu => by
 unfold lk at hu
 by_cases e : t = s
 · subst e; simp at hu; subst hu; exact h
 · rw [jh e] at hu; exact hK s u hu
theorem Ke.ev {a : Act} {K : Kt} (h : Ke a K) {x : Operand} {v : Value} (hx : ed K x = some v) : a.eval x = v := by
 cases x with
 | tmp t => exact h t v hx
 | const c => simp [ed] at hx; exact hx
 | global g => simp [ed] at hx; exact hx
 | func f => simp [ed] at hx; exact hx
def FW (r : Option Nat) : Fence := { fn := fun _ => True, depth := none, alive := false, round := r }
structure Kn (n : Nat) (a : Act) (K : Kt) (ds : List Deferred := []) : Prop where
 size : a.tmps.size = n
 defers : a.defers = ds
 at_ : Ke a K
section
variable {n : Nat} {a : Act} {K K' : Kt} {ds : List Deferred}
theorem Kn.ev (h : Kn n a K ds) {x : Operand} {v : Value} (hx : ed K x = some v) : a.eval x = v := h.at_.ev hx
theorem Kn.put (h : Kn n a K ds) {d : Nat} (v : Value) (hd : d < n) : Kn n (a.put (some d) v) ((d, v) :: K) ds := by
 refine ⟨by simp [Act.put, h.size], h.defers, fun t u hu => ?_⟩
 unfold lk at hu
 by_cases e : d = t
 · subst e
   simp at hu; subst hu
   simp [Act.put, Act.eval, Array.getD, h.size, hd]
 · have : Nat.beq d t = false := jh e
   rw [this] at hu
   rw [Act.eval_put (fun d' hd' e' => by cases hd'; cases e'; exact e rfl)]
   exact h.at_ t u hu
def only (K : Kt) : List Nat → Kt
 | [] => []
 | t :: ts => match lk K t with | some v => (t, v) :: only K ts | none => only K ts
theorem Kn.only (h : Kn n a K ds) (ts : List Nat) : Kn n a (only K ts) ds := by
 refine ⟨h.size, h.defers, ?_⟩
 induction ts with
 | nil => intro s u hu; simp [Proofs.YtekpafdhgkocaaaGreat.only, lk] at hu
 | cons t ts ih =>
   intro s u hu
   unfold Proofs.YtekpafdhgkocaaaGreat.only at hu
   cases hl : lk K t with
   | none => rw [hl] at hu; exact ih s u hu
   | some v =>
     rw [hl] at hu
     unfold lk at hu
     by_cases e : t = s
     · subst e; simp at hu; subst hu; exact h.at_ _ _ hl
     · have : Nat.beq t s = false := jh e
       rw [this] at hu; exact ih s u hu
end
def mW (P : Program) (aL : Value → World → Prop) : Result Next → Prop
 | .ok (.value v) w' => aL v w'
 | .ok .skip w' => aL undef w'
 | .ok (.enter f args) w' => Calls P f args w' fun e w'' => ∃ v, e = .returned v ∧ aL v w''
 | .ok (.round l f tmps kI body) w' => RoundIn (FW none) 0 P l f tmps kI body w' fun e w'' => ∃ v, e = .returned v ∧ aL v w''
 | _ => False
def ab (P : Program) (o : Oper) (a : Act) (w : World) (aL : Value → World → Prop) : Prop := mW P aL ((execOp a.eval o).run P w)
theorem ab.HR {P : Program} {o : Oper} {a : Act} {w : World} {aL : Value → World → Prop} (h : ab P o a w aL) : ∀ c, o.op ≠ .defer c := by
 intro c hc
 unfold ab execOp at h
 simp only [hc, Sem.run_bind] at h
 generalize (resolve a.eval c o.type).run P w = r at h
 cases r <;> simp [Result.andThen, Sem.run_pure, mW] at h
theorem Bt {P : Program} {f : FuncId} {args : Array Value} {w : World} {R : Ending → World → Prop} (r : Option Nat) (h : Calls P f args w R) : CallsIn (FW r) 0 P f args w R :=
 ⟨trivial, fun cs _ => let ⟨e, w', fr, hr, s, x⟩ := h cs; ⟨e, w', fr, hr, comesIn_wide.2 s, x⟩⟩
theorem Im {P : Program} {l : Nat} {f : FuncId} {tmps : Array Value} {kI body : Code} {w : World} {R : Ending → World → Prop} (r : Option Nat) (h : RoundIn (FW none) 0 P l f tmps kI body w R) : RoundIn (FW r) 0 P l f tmps kI body w R := h
theorem ab.wp {P : Program} {o : Oper} {a : Act} {w : World} {aL : Value → World → Prop} {K : Act → World → Prop} {Q : Exit → Act → World → Prop} {rr : Option Nat}
 (h : ab P o a w aL) (hK : ∀ v w', aL v w' → K (a.put o.dst v) w') : o.wpIn (FW rr) 0 P a w K Q := by
 have hd := h.HR
 unfold ab at h
 unfold Oper.wpIn
 refine ⟨fun _ _ => trivial, ?_⟩
 rw [Oper.semAt_eq _ _ _ hd]
 generalize (execOp a.eval o).run P w = r at *
 cases r with
 | ok n w' =>
   cases n <;> simp only [mW] at h <;> simp only [Oper.uponIn]
   case value v => exact hK _ _ h
   case skip => exact hK _ _ h
   case enter f args => exact ⟨fun h => by simp [FW] at h, Bt rr (h.mono fun e w'' ⟨v, he, h1⟩ => by subst he; exact hK _ _ h1)⟩
   case round l f tmps kI body => exact ⟨fun h => by simp [FW] at h, Im rr (h.mono fun e w'' ⟨v, he, h1⟩ => by subst he; exact hK _ _ h1)⟩
 | halt x w' => simp only [mW] at h
theorem ab.mono {P : Program} {o : Oper} {a : Act} {w : World} {aL Post' : Value → World → Prop} (h : ab P o a w aL) (hq : ∀ v w', aL v w' → Post' v w') : ab P o a w Post' := by
 unfold ab at *
 generalize (execOp a.eval o).run P w = r at *
 cases r with
 | ok n w' =>
   cases n <;> simp only [mW] at h ⊢
   case value v => exact hq _ _ h
   case skip => exact hq _ _ h
   case enter f args => exact h.mono fun e w'' ⟨v, he, h1⟩ => ⟨v, he, hq _ _ h1⟩
   case round l f tmps kI body => exact h.mono fun e w'' ⟨v, he, h1⟩ => ⟨v, he, hq _ _ h1⟩
 | halt x w' => simp only [mW] at h
def nA (ops : Array Oper) (j : Nat) : Option Nat := (ops[j]?).bind (·.dst)
def ou (ops : Array Oper) (K : Kt) : Option (Nat × Bool) → Bool
 | none => true
 | some (j, b) => match nA ops j with
   | some t => match lk K t with
     | some (.bool c) => c == b
     | _ => false
   | none => false
def nk (ops : Array Oper) (K : Kt) : Option (Nat × Bool) → Bool
 | none => false
 | some (j, b) => match nA ops j with
   | some t => match lk K t with
     | some (.bool c) => c != b
     | some (.tuple _) => true
     | _ => false
   | none => false
section
variable {P : Program} {ops : Array Oper} {o : Oper} {n : Nat} {a : Act} {K : Kt} {ds : List Deferred} {w : World} {rest : List Oper} {Q : Exit → Act → World → Prop} {rr : Option Nat}
theorem ET {t : Nat} {v : Value} (hv : a.eval (.tmp t) = v) (hu : v ≠ undef) : a.tmps[t]? = some v := by
 simp only [Act.eval, Array.getD_eq_getD_getElem?] at hv
 cases hq : a.tmps[t]? with
 | none => rw [hq] at hv; exact absurd hv.symm hu
 | some u => rw [hq] at hv; simpa using hv
theorem vd (hK : Kn n a K ds) (h : ou ops K o.guard = true) : Region.wanted o (yielded ops a.tmps) = true := by
 unfold ou at h
 cases hg : o.guard with
 | none => simp [Region.wanted, hg]
 | some p =>
   obtain ⟨j, b⟩ := p
   rw [hg] at h
   simp only at h
   cases hs : nA ops j with
   | none => rw [hs] at h; cases h
   | some t =>
     rw [hs] at h
     simp only at h
     cases hl : lk K t with
     | none => rw [hl] at h; cases h
     | some v =>
       rw [hl] at h
       cases v <;> simp only [Bool.false_eq_true] at h
       rename_i c
       have hcb : c = b := by simpa using h
       subst hcb
       have ht := ET (hK.at_ t _ hl) (by simp [undef])
       unfold nA at hs
       simp [Region.wanted, hg, yielded, hs, ht]
theorem jX (hK : Kn n a K ds) (h : nk ops K o.guard = true) : Region.wanted o (yielded ops a.tmps) = false := by
 unfold nk at h
 cases hg : o.guard with
 | none => rw [hg] at h; cases h
 | some p =>
   obtain ⟨j, b⟩ := p
   rw [hg] at h
   simp only at h
   cases hs : nA ops j with
   | none => rw [hs] at h; cases h
   | some t =>
     rw [hs] at h
     simp only at h
     cases hl : lk K t with
     | none => rw [hl] at h; cases h
     | some v =>
       rw [hl] at h
       have hv := hK.at_ t _ hl
       unfold nA at hs
       cases v <;> simp only [Bool.false_eq_true] at h
       · rename_i c
         have ht := ET hv (by simp [undef])
         have hcb : c ≠ b := by simpa using h
         simp [Region.wanted, hg, yielded, hs, ht, hcb]
       · rename_i vs
         have ht : ∀ c, a.tmps[t]? ≠ some (.bool c) := by
          intro c hc
          simp [Act.eval, hc] at hv
         simp only [Region.wanted, hg, yielded, hs, Option.bind_some]
         cases hq : a.tmps[t]? with
         | none => rfl
         | some u => cases u <;> first | rfl | (exact absurd hq (ht _))
def MA (ops : Array Oper) (o : Oper) (K : Kt) (n d : Nat) : Bool := ou ops K o.guard && decide (o.dst = some d) && decide (d < n)
def Dq (ops : Array Oper) (o : Oper) (K : Kt) (n d : Nat) : Bool := nk ops K o.guard && decide (o.dst = some d) && decide (d < n)
theorem QC (d : Nat) (hK : Kn n a K ds) (hc : MA ops o K n d = true) (h : ab P o a w fun v w' => ∀ a', Kn n a' ((d, v) :: K) ds → wpListIn (FW rr) 0 P ops Q rest a' w') : wpListIn (FW rr) 0 P ops Q (o :: rest) a w := by
 simp only [MA, Bool.and_eq_true, decide_eq_true_eq] at hc
 obtain ⟨⟨h1, h2⟩, h3⟩ := hc
 unfold wpListIn
 rw [if_pos (vd hK h1)]
 exact h.wp fun v w' hp => hp _ (by rw [h2]; exact hK.put v h3)
theorem MO (d : Nat) (hK : Kn n a K ds) (hc : Dq ops o K n d = true) (h : ∀ a', Kn n a' ((d, undef) :: K) ds → wpListIn (FW rr) 0 P ops Q rest a' w) : wpListIn (FW rr) 0 P ops Q (o :: rest) a w := by
 simp only [Dq, Bool.and_eq_true, decide_eq_true_eq] at hc
 obtain ⟨⟨h1, h2⟩, h3⟩ := hc
 unfold wpListIn
 rw [if_neg (by rw [jX hK h1]; simp)]
 exact ⟨fun _ _ => trivial, h _ (by rw [h2]; exact hK.put undef h3)⟩
def known (K : Kt) (op : Op) : Bool := (match op with | .select _ _ => false | _ => true) && op.operands.toList.all fun x => (ed K x).isSome
theorem C7 (hK : Ke a K) (h : known K o.op = true) : execOp a.eval o = execOp (Qq K) o := by
 simp only [known, Bool.and_eq_true] at h
 refine execOp_congr o (fun cs b e => by rw [e] at h; simp at h) fun x hx => ?_
 have := List.all_eq_true.1 h.2 x (by simpa using hx)
 cases hv : ed K x with
 | none => rw [hv] at this; cases this
 | some v => rw [hK.ev hv]; simp [Qq, hv]
end
section
variable {P : Program} {Q : Exit → Act → World → Prop} {rr : Option Nat} {n : Nat} {a : Act} {K : Kt} {ds : List Deferred} {w : World}
theorem Cy {x y : Code} (h : x.wpIn (FW rr) 0 P (Exit.then (y.wpIn (FW rr) 0 P Q) Q) a w) : (x.seq y).wpIn (FW rr) 0 P Q a w := wpIn_seq h
theorem yh {id : Nat} {ops : Array Oper} (h : wpListIn (FW rr) 0 P ops Q ops.toList a w) : (Code.region id ops false).wpIn (FW rr) 0 P Q a w := wpIn_region_list h
theorem rR {next : Act → World → Prop} (h : next a w) : Exit.then next Q .normal a w := h
theorem I3 {next : Act → World → Prop} {i : Nat} (h : Q (.exit i) a w) : Exit.then next Q (.exit i) a w := h
theorem Oa {i : Nat} (h : Q .normal a w) : Exit.inBlock i Q (.exit i) a w := by show (if i = i then _ else _); rw [if_pos rfl]; exact h
theorem Ob {i j : Nat} (hne : j ≠ i) (h : Q (.exit j) a w) : Exit.inBlock i Q (.exit j) a w := by show (if j = i then _ else _); rw [if_neg hne]; exact h
theorem Jb {c : Code} (I : Nat → Act → World → Prop) (h0 : ∃ k0, I k0 a w) (round : ∀ k a w, I k a w → c.wpIn (FW rr) 0 P (Exit.then (fun a' w' => ∃ k', k' < k ∧ I k' a' w') Q) a w) : (Code.loop c).wpIn (FW rr) 0 P Q a w := by
 have hmin : ∀ a w, (∃ k, I k a w) → ∃ j, I j a w ∧ ∀ i, I i a w → j ≤ i := fun a w ⟨k, hk⟩ => C8 k hk
 refine wpIn_loop (fun a w => ∃ k, I k a w) (fun a w => Classical.epsilon fun j => I j a w ∧ ∀ i, I i a w → j ≤ i) h0 fun a w hI => ?_
 have hm := Classical.epsilon_spec (hmin a w hI)
 refine wpIn_mono (round _ a w hm.1) fun e a' w' hq => ?_
 cases e with
 | normal =>
   obtain ⟨k', hlt, hk⟩ := hq
   exact ⟨⟨k', hk⟩, Nat.lt_of_le_of_lt ((Classical.epsilon_spec (hmin a' w' ⟨k', hk⟩)).2 k' hk) hlt⟩
 | exit i => exact hq
 | goto l => exact hq
 | ret => exact hq
 | panic c => exact hq
 | outgrown => exact hq
end
def rU : Nat → List Value → Kt
 | _, [] => []
 | i, v :: vs => (i, v) :: rU (i + 1) vs
theorem BS : ∀ (vs : List Value) (i t : Nat) (v : Value), lk (rU i vs) t = some v → i ≤ t ∧ vs[t - i]? = some v
 | [], _, _, _, h => by simp [rU, lk] at h
 | u :: vs, i, t, v, h => by
   unfold rU lk at h
   by_cases e : i = t
   · subst e; simp at h; subst h; simp
   · have hb : Nat.beq i t = false := jh e
     rw [hb] at h
     obtain ⟨h1, h2⟩ := BS vs (i + 1) t v h
     refine ⟨by omega, ?_⟩
     rw [show t - i = (t - (i + 1)) + 1 by omega]; simpa using h2
def xa (P : Program) (fn : Func) (m : Mem) (L : List az) (Q : Value → Mem → List az → Prop) : Exit → Act → World → Prop :=
 bodyPostM (FW none) 0 P fn fun e w' => ∃ v m' L', e = .returned v ∧ m'.w = w' ∧ St (ak L) m m' L' ∧ Q v m' L'
theorem BO {fn : Func} {args : List Value} (n : Nat) (hn : fn.ntmps = n) (hle : args.length ≤ n) : Kn n { tmps := args.toArray ++ Array.replicate (fn.ntmps - args.toArray.size) undef, defers := [] } (rU 0 args) := by
 refine ⟨by simp [hn]; omega, rfl, fun t v hv => ?_⟩
 obtain ⟨_, h2⟩ := BS args 0 t v hv
 have ht : t < args.length := (List.getElem?_eq_some_iff.1 h2).1
 simp only [Act.eval, Array.getD_eq_getD_getElem?]
 rw [Array.getElem?_append_left (by simpa using ht)]
 simpa using congrArg (Option.getD · undef) h2
theorem enter {P : Program} {f : FuncId} {fn : Func} {c : Code} {args : List Value} {m : Mem} {L : List az} {Q : Value → Mem → List az → Prop} (n : Nat) (hf : P.funcs[f]? = some fn) (hb : fn.body = some c)
 (hn : fn.ntmps = n) (hle : args.length ≤ n) (h : ∀ a, Kn n a (rU 0 args) → c.wpIn (FW none) 0 P (xa P fn m L Q) a m.w) : Spec P f args.toArray m L Q :=
 callsIn_wide.1 (callsIn_of_wp_marks (F := FW none) (n := 0) hf hb trivial (h _ (BO n hn hle)) rfl)
def rq (d : TypeDesc) : Bool := match d with | .struct _ | .array _ _ => true | _ => false
def gR (P : Program) (t : TypeId) : Option (Bool × Nat) := match P.underlying t, P.info? t with | some d, some i => some (rq d, i.size) | _, _ => none
theorem ik {P : Program} {t : TypeId} {b : Bool} {s : Nat} (h : gR P t = some (b, s)) : ∃ d i, P.underlying t = some d ∧ P.info? t = some i ∧ rq d = b ∧ i.size = s := by
 unfold gR at h
 cases hu : P.underlying t with
 | none => simp [hu] at h
 | some d =>
   cases hi : P.info? t with
   | none => simp [hu, hi] at h
   | some i => simp [hu, hi] at h; exact ⟨d, i, rfl, rfl, h.1, h.2⟩
section
variable {P : Program} {w : World} {t : TypeId}
theorem kQ {d : TypeDesc} (hu : P.underlying t = some d) : (isAgg t).run P w = .ok (rq d) w := by
 unfold isAgg
 rw [Sem.run_bind, run_underlying hu]
 cases d <;> rfl
theorem uN {b o : Nat} {v : Value} {s : Nat} (hT : gR P t = some (false, s)) (hc : w.cell? ⟨b, o, none⟩ = some v) : (loadVar t ⟨b, o, none⟩).run P w = .ok v w := by
 obtain ⟨d, i, hu, hi, hd, hs⟩ := ik hT
 simp [loadVar, kQ hu, hd, hc]
theorem zE {b o : Nat} {cs : List Value} (hT : gR P t = some (true, cs.length)) (hc : ∀ k v, cs[k]? = some v → w.cell? ⟨b, o + k, none⟩ = some v) : (loadVar t ⟨b, o, none⟩).run P w = .ok (.agg cs.toArray) w := by
 obtain ⟨d, i, hu, hi, hd, hs⟩ := ik hT
 have := run_loadCells_list (P := P) w ⟨b, o, none⟩ cs (fun j v hv => by rw [Addr.add_mid]; exact hc j v hv)
 simp [loadVar, kQ hu, hd, sizeOf, typeInfo, hi, hs, this]
end
inductive qN (P : Program) (K : Kt) (w : World) : List ResultVar → List Value → Prop
 | nil : qN P K w [] []
 | tmp {t : Nat} {v : Value} {rs : List ResultVar} {vs : List Value} : lk K t = some v → qN P K w rs vs → qN P K w (.tmp t :: rs) (v :: vs)
 | one {p : Nat} {T : TypeId} {s b o : Nat} {v : Value} {rs : List ResultVar} {vs : List Value} : gR P T = some (false, s) → lk K p = some (.pointer (some ⟨b, o, none⟩)) → w.cell? ⟨b, o, none⟩ = some v → qN P K w rs vs → qN P K w (.cell p T :: rs) (v :: vs)
 | agg {p : Nat} {T : TypeId} {b o : Nat} {cs : List Value} {rs : List ResultVar} {vs : List Value} : gR P T = some (true, cs.length) → lk K p = some (.pointer (some ⟨b, o, none⟩)) → (∀ k v, cs[k]? = some v → w.cell? ⟨b, o + k, none⟩ = some v) →
  qN P K w rs vs → qN P K w (.cell p T :: rs) (.agg cs.toArray :: vs)
def vq : List Value → Value
 | [v] => v
 | vs => .tuple vs.toArray
section
variable {P : Program} {n : Nat} {a : Act} {K : Kt} {ds : List Deferred} {w : World}
theorem xM (x : Addr) : (asAddr (.pointer (some x))).run P w = .ok x w := rfl
theorem Iu (hK : Kn n a K ds) (f : ResultVar → Sem Value) (hf1 : ∀ t, f (.tmp t) = pure (a.tmps.getD t undef)) (hf2 : ∀ p t, f (.cell p t) = (do loadVar t (← asAddr (a.tmps.getD p undef)))) :
 ∀ (rs : List ResultVar) (vs : List Value), qN P K w rs vs → (rs.mapM f).run P w = .ok vs w := by
 intro rs vs h
 induction h with
 | nil => simp
 | tmp hl _ ih =>
   have := hK.at_ _ _ hl
   simp only [Act.eval] at this
   simp only [List.mapM_cons, hf1, hf2, Sem.run_bind, Sem.run_pure, Result.andThen_ok, this, ih]
 | one hT hp hc _ ih =>
   have := hK.at_ _ _ hp
   simp only [Act.eval] at this
   simp only [List.mapM_cons, hf1, hf2, Sem.run_bind, Sem.run_pure, Result.andThen_ok, this, xM, uN hT hc, ih]
 | agg hT hp hc _ ih =>
   have := hK.at_ _ _ hp
   simp only [Act.eval] at this
   simp only [List.mapM_cons, hf1, hf2, Sem.run_bind, Sem.run_pure, Result.andThen_ok, this, xM, zE hT hc, ih]
theorem Cf {fn : Func} {rs : List ResultVar} {vs : List Value} (hr : fn.results = rs.toArray) (hK : Kn n a K ds) (h : qN P K w rs vs) : (results fn a.tmps).run P w = .ok (vq vs) w := by
 have h1 := fun f h1 h2 => Iu (P := P) (w := w) hK f h1 h2 rs vs h
 have hm : ∀ x : Sem (List Value), (List.toArray <$> x : Sem (Array Value)) = x >>= fun l => pure l.toArray := fun _ => rfl
 unfold results
 rw [hr, List.mapM_toArray, hm]
 simp only [Sem.run_bind, Sem.run_pure]
 rw [h1 _ (fun _ => rfl) (fun _ _ => rfl)]
 simp only [Result.andThen_ok, Sem.run_pure]
 congr 1
 match vs with
 | [] => rfl
 | [v] => rfl
 | v :: u :: r => simp [vq]
theorem MP {fn : Func} {m m' : Mem} {L L' : List az} {Q : Value → Mem → List az → Prop} (rs : List ResultVar) (vs : List Value) (hr : fn.results = rs.toArray) (hK : Kn n a K) (h : qN P K m'.w rs vs) (hS : St (ak L) m m' L') (hq : Q (vq vs) m' L') :
 xa P fn m L Q .ret a m'.w := by
 show LeavesInM _ _ _ _ _ _ a.defers _ _
 rw [hK.defers]
 exact ⟨vq vs, Cf hr hK h, vq vs, m', L', rfl, rfl, hS, hq⟩
end
section
variable {P : Program} {o : Oper} {n : Nat} {a : Act} {K : Kt} {ds : List Deferred} {B : List Nat} {m0 m : Mem} {L : List az} {aL : Value → World → Prop} {x y : Operand} {t : TypeId}
theorem rX {b i : Nat} {cs : Array Value} {T : TypeId} (hS : St B m0 m L) (k : Nat) (hk : L[k]? = some (.box b cs T)) : m.w.cell? ⟨b, i, none⟩ = cs[i]? :=
 cell_of_row _ _ _ _ _ _ (hS.wK k hk)
theorem OQ {v : Value} (hK : Ke a K) (hS : St B m0 m L) (ho : o.op = .box t x) (hx : ed K x = some v)
 (hp : ∀ m' b, m.w.heap.size ≤ b → Le m m' → St B m0 m' (.box b v.cells t :: L) → aL (.pointer (some ⟨b, 0, none⟩)) m'.w) : ab P o a m.w aL := by
 unfold ab execOp
 simp only [ho, hK.ev hx, Instr.box, newVar, newRow, newObj, Sem.run_bind, Sem.run_pure, Result.andThen_ok, Sem.run]
 have h := hS.uF v.cells t
 exact hp _ _ (Nat.le_refl _) (St.new (St.refl (Ow.nil m)) rfl (.box m.w.heap.size v.cells t) rfl (cI _ _)).le h
theorem xO {z : Value} {w : World} (hz : (P.info? t).map (·.zero) = some (some z)) : (zeroValue t).run P w = .ok z w := by
 cases hi : P.info? t with
 | none => simp [hi] at hz
 | some i =>
   have hz : i.zero = some z := by simpa [hi] using hz
   simp [zeroValue, typeInfo, hi, hz]
theorem KC (z : Value) (hK : Ke a K) (hS : St B m0 m L) (ho : o.op = .alloc t) (hz : (P.info? t).map (·.zero) = some (some z))
 (hp : ∀ m' b, m.w.heap.size ≤ b → Le m m' → St B m0 m' (.box b z.cells t :: L) → aL (.pointer (some ⟨b, 0, none⟩)) m'.w) : ab P o a m.w aL := by
 unfold ab execOp
 simp only [ho, Instr.alloc, newVar, newRow, newObj, Sem.run_bind, Sem.run_pure, Result.andThen_ok, xO hz, Sem.run]
 have h := hS.uF z.cells t
 exact hp _ _ (Nat.le_refl _) (St.new (St.refl (Ow.nil m)) rfl (.box m.w.heap.size z.cells t) rfl (cI _ _)).le h
def putAt (cs : Array Value) (i : Nat) (vs : List Value) : Array Value := (cs.toList.take i ++ vs ++ cs.toList.drop (i + vs.length)).toArray
theorem DF {w : World} {b i : Nat} {cs : Array Value} {T : TypeId} {v : Value} (hb : w.heap[b]? = some (.cells cs T (0, 0))) (hT : (gR P t).map (·.2) = some v.cells.size) (hfit : i + v.cells.size ≤ cs.size) (h1 : v.cells.toList.all (·.oneCell') = true) :
 ∃ w', (storeVar t ⟨b, i, none⟩ v).run P w = .ok () w' ∧ w.grownBy w' (some b) ∧ w'.heap.size = w.heap.size ∧ w'.heap[b]? = some (.cells (putAt cs i v.cells.toList) T (0, 0)) := by
 obtain ⟨inf, hi, hsz⟩ : ∃ i, P.info? t = some i ∧ i.size = v.cells.size := by
  cases ha : gR P t with
  | none => simp [ha] at hT
  | some p =>
    obtain ⟨d, i, hu, hi, hd, hsz⟩ := ik (b := p.1) (s := p.2) ha
    exact ⟨i, hi, by rw [ha] at hT; simpa [hsz] using hT⟩
 have hst := run_storeCells_at P b i T v.cells.toList 0 cs w hb (by simp; omega) (fun u hu => List.all_eq_true.1 h1 u hu)
 simp only [Nat.add_zero] at hst
 refine ⟨_, ?_, ?_, ?_, setRow_heap w b cs _ T _ hb⟩
 · simp [storeVar, sizeOf, typeInfo, hi, hsz, hst, putAt]
 · exact ⟨rfl, rfl, rfl, by simp, fun k _ hk => setRow_other w b k _ (fun e => hk (by rw [e]))⟩
 · simp
theorem EJ {b i : Nat} {cs : Array Value} {T : TypeId} {v : Value} (hK : Ke a K) (k : Nat) (hS : St B m0 m L) (ho : o.op = .store t x y) (hx : ed K x = some (.pointer (some ⟨b, i, none⟩))) (hy : ed K y = some v) (hk : L[k]? = some (.box b cs T))
 (hT : (gR P t).map (·.2) = some v.cells.size) (hfit : decide (i + v.cells.size ≤ cs.size) = true) (h1 : v.cells.toList.all (·.oneCell') = true)
 (hp : ∀ m', Le m m' → St B m0 m' (.box b (putAt cs i v.cells.toList) T :: L.eraseIdx k) → aL undef m'.w) : ab P o a m.w aL := by
 obtain ⟨w', h2, h3, h4, h5⟩ := DF (P := P) (t := t) (hS.wK k hk) hT (of_decide_eq_true hfit) h1
 have hS1 := hS.front k hk
 have hS2 := hS1.write h3 h4 h5
 have hr : St (ak (az.box b cs T :: L.eraseIdx k)) m ⟨w', m.ok⟩ _ := (St.refl hS1.ow).write h3 h4 h5
 unfold ab execOp
 simp only [ho, hK.ev hx, hK.ev hy, Instr.storeAt, Instr.sureAddr, Sem.run_bind, Sem.run_pure, Result.andThen_ok, h2]
 exact hp ⟨w', m.ok⟩ hr.le hS2
end
def tH (P : Program) (f : FuncId) : Prop := ∀ (args : Array Value) (w : World), (callFunc f args).run P w = .ok (.enter f args) w
theorem Fs {P : Program} {f : FuncId} {fn : Func} (hf : P.funcs[f]? = some fn) (h1 : (fn.name == "runtime.NumGoroutine") = false) (h2 : fn.body.isNone = false) : tH P f := by
 intro args w
 have e1 : fn.name ≠ "runtime.NumGoroutine" := by simpa using h1
 have e2 : fn.body ≠ none := by intro e; simp [e] at h2
 simp [callFunc, program, Sem.run, hf, e1, e2]
def wZ (K : Kt) : List Operand → Option (List Value)
 | [] => some []
 | x :: xs => match ed K x, wZ K xs with | some v, some vs => some (v :: vs) | _, _ => none
theorem yY {a : Act} {K : Kt} (hK : Ke a K) : ∀ (xs : List Operand) (vs : List Value), wZ K xs = some vs → xs.map a.eval = vs
 | [], vs, h => by simp [wZ] at h; simp [h]
 | x :: xs, vs, h => by
   unfold wZ at h
   cases hx : ed K x with
   | none => simp [hx] at h
   | some v =>
     cases hr : wZ K xs with
     | none => simp [hx, hr] at h
     | some us =>
       simp [hx, hr] at h
       rw [List.map_cons, hK.ev hx, yY hK xs us hr, h]
section
variable {P : Program} {o : Oper} {n : Nat} {a : Act} {K : Kt} {ds : List Deferred} {B : List Nat} {m0 m : Mem} {L : List az} {aL : Value → World → Prop} {f : FuncId}
theorem Iq {c : Callee} {xs : Array Operand} {ats : Array TypeId} {g : Operand} {first cap : Array Value} {vs : List Value} (hK : Ke a K) (hf : tH P f) (ho : o.op = .call ⟨c, xs, ats⟩) (hc : c = .value g) (hg : ed K g = some (.func (.func f) first cap)) (hv : wZ K xs.toList = some vs) :
 (execOp a.eval o).run P m.w = .ok (.enter f (first ++ vs.toArray ++ cap)) m.w := by
 subst hc
 have h1 : xs.map a.eval = vs.toArray := by
  have := yY hK xs.toList vs hv
  apply Array.ext'
  simpa using this
 unfold execOp
 simp only [ho, resolve, hK.ev hg, h1, Deferred.ofValue, Sem.run_bind, Sem.run_pure, Result.andThen_ok, invoke]
 exact hf _ _
end
section
variable {P : Program} {o : Oper} {n : Nat} {a : Act} {K : Kt} {ds : List Deferred} {B : List Nat} {m0 m : Mem} {L : List az} {aL : Value → World → Prop} {x y : Operand} {t e : TypeId} {α : Type} {R : Mem → α → List Value → Prop} {sz : Nat}
theorem iz {w : World} {z : Value} {bytes : Nat} (hT : cq P t e z sz bytes) : (sizeOf e).run P w = .ok sz w := by
 obtain ⟨i, hi, hz, hs, hb⟩ := info_parts hT.info
 simp [sizeOf, typeInfo, hi, hs]
theorem KE [Inhabited α] {z : Value} {bytes : Nat} {ad : Option Addr} {cap : Nat} {l : List α} {k : IntKind} {i : Int} (hT : cq P t e z sz bytes) (hE : cC R m sz ad cap l) (j : Nat) (hK : Ke a K) (ho : o.op = .indexAddr t x y) (hx : ed K x = some (.slice ad l.length cap)) (hy : ed K y = some (.int k i))
 (hij : i = (j : Int)) (hj : j < l.length) (hp : ∀ b p cs, R m l[j]! cs → At m b p cs → aL (.pointer (some ⟨b, p, none⟩)) m.w) : ab P o a m.w aL := by
 subst hij
 rw [getElem!_pos l j hj] at hp
 obtain ⟨b, q, cs, rfl, hl, hr, hA⟩ := hE.get hT.pos hj
 have hb : (0 : Int) ≤ (j : Int) ∧ (j : Int) < (l.length : Int) := ⟨by omega, by omega⟩
 unfold ab execOp
 simp only [ho, hK.ev hx, hK.ev hy, Instr.indexAt, asIntOf, Sem.run_bind, Sem.run_pure, Result.andThen_ok, run_underlying hT.iE, iz hT, hb, and_self, if_true, Int.toNat_natCast, Addr.add_mid]
 exact hp b (q + j * sz) cs hr hA
theorem Ky {w : World} {ad : Option Addr} {k cap : Nat} {ty : TypeId} (hu : P.underlying t = some (.slice e)) : (Builtin.len_ #[t] ty #[.slice ad k cap]).run P w = .ok (.int .i64 k) w := by
 simp [Builtin.len_, run_underlying hu]; rfl
theorem IA {z : Value} {bytes : Nat} {g : Option Nat} {cap cap2 : Nat} {l l' : List α} {a2 : Option Addr} (hT : cq P t e z sz bytes) (hR : lB R sz) (hK : Ke a K) (k : Nat) (hS : St B m0 m L) (hk : L[k]? = some (rowOf e sz g cap l)) (hE : cC R m sz (dW g) cap l) (hE2 : cC R m sz a2 cap2 l')
 (ho : o.op = .call ⟨.builtin .append, #[x, y], #[t, t]⟩) (hx : ed K x = some (.slice (dW g) l.length cap)) (hy : ed K y = some (.slice a2 l'.length cap2)) (hlen : (l.length + l'.length) * bytes ≤ 140737488355328)
 (hp : ∀ m' g' cap', Le m m' → St B m0 m' (rowOf e sz g' cap' (l ++ l') :: L.eraseIdx k) → cC R m' sz (dW g') cap' (l ++ l') → aL (.slice (dW g') (l ++ l').length cap') m'.w) (h63 : l.length + l'.length ≤ maxLen) : ab P o a m.w aL := by
 obtain ⟨g', cap', m', h1, h2, h3, h4⟩ := wG (ty := o.type) hT hR (hS.front k hk) hE hE2 hlen h63
 unfold ab execOp
 simp only [ho, resolve, invoke, builtin, Sem.run_bind, Sem.run_pure, Result.andThen_ok, List.map_toArray, List.map_cons, List.map_nil, hK.ev hx, hK.ev hy, h1]
 exact hp m' g' cap' h2 h3 h4
end
abbrev U8 (c : UInt8) : Value := .int .u8 (c.toNat : Int)
def nM (_ : Mem) (x : UInt8) (cs : List Value) : Prop := cs = [U8 x]
theorem DB : lB nM 1 := ⟨fun h _ => h, fun h => by rw [h]; rfl, fun h u hu => by rw [h] at hu; simp at hu; subst hu; rfl, by decide⟩
inductive ma {α β : Type} (R : α → β → Prop) : List α → List β → Prop
 | nil : ma R [] []
 | cons {a : α} {b : β} {l : List α} {l' : List β} : R a b → ma R l l' → ma R (a :: l) (b :: l')
theorem ma.len {α β : Type} {R : α → β → Prop} {l : List α} {l' : List β} (h : ma R l l') : l.length = l'.length := by
 induction h with
 | nil => rfl
 | cons _ _ ih => simp [ih]
theorem cN {P : Program} {w : World} {k : IntKind} {j y : Nat} {c : BoundsCode} (h : j ≤ y) : (Instr.sliceBound (.int k (j : Int)) y c).run P w = .ok j w := by
 have hb : (0 : Int) ≤ (j : Int) ∧ (j : Int) ≤ (y : Int) := ⟨by omega, by omega⟩
 simp only [Instr.sliceBound, asIntOf, Sem.run_bind, Sem.run_pure, Result.andThen_ok, hb, and_self, if_true, Int.toNat_natCast]
section
variable {P : Program} {K : Kt} {ds : List Deferred} {B : List Nat} {m0 m : Mem} {L : List az} {p : Nat} {T T' : TypeId} {b : Nat} {cs : Array Value} {rs : List ResultVar} {vs : List Value} {v : Value}
theorem qN.box (hS : St B m0 m L) (k : Nat) (hk : L[k]? = some (.box b cs T')) (hp : lk K p = some (.pointer (some ⟨b, 0, none⟩))) (hT : gR P T = some (true, cs.size)) (h : qN P K m.w rs vs) : qN P K m.w (.cell p T :: rs) (.agg cs :: vs) := by
 have := qN.agg (P := P) (K := K) (w := m.w) (p := p) (T := T) (b := b) (o := 0) (cs := cs.toList) (rs := rs) (vs := vs) (by simpa using hT) hp (fun k' v hv => by rw [rX hS k hk, Nat.zero_add]; simpa using hv) h
 simpa using this
end
section
variable {P : Program} {o : Oper} {n : Nat} {a : Act} {K : Kt} {ds : List Deferred} {B : List Nat} {m0 m : Mem} {L : List az} {aL : Value → World → Prop} {x y z : Operand} {t e : TypeId} {α : Type} {R : Mem → α → List Value → Prop} {sz : Nat}
theorem St.CL (hS : St B m0 m L) (T : TypeId) (sz : Nat) : St B m0 m (rowOf T sz none 0 ([] : List α) :: L) :=
 ⟨hS.le, hS.kept, hS.news, ⟨by rw [cu]; exact hS.ow.nodup, fun x hx => by
  rcases List.mem_cons.1 hx with rfl | hx
  · intro b hb; cases hb
  · exact hS.ow.ok x hx, fun x hx => by
  rcases List.mem_cons.1 hx with rfl | hx
  · intro b hb; simp [rowOf, az.row] at hb
  · exact hS.ow.apart x hx⟩, fun b hb => hS.wJ b (by rw [cu] at hb; simpa [rowOf, az.row] using hb)⟩
theorem JI {l : List α} {b cap : Nat} (hR : lB R sz) (css : List (List Value)) {cs : List Value} (hA : At m b 0 cs) (hcs : cs = css.flatten) (hm : cap ≤ maxLen) (h : ma (fun x c => R m x c) l css) (hcap : l.length = cap := by rfl) : cC R m sz (some ⟨b, 0, none⟩) cap l := by
 subst hcs
 subst hcap
 have hl : css.length = l.length := h.len.symm
 refine cC.OK hR hl (fun i x c hx hc => ?_) hA (Nat.le_refl _) hm
 clear hA hm
 induction h generalizing i with
 | nil => simp at hx
 | cons h1 _ ih =>
   cases i with
   | zero => simp at hx hc; subst hx hc; exact h1
   | succ i => exact ih (by simpa using hl) i (by simpa using hx) (by simpa using hc)
theorem iw {w : World} {zv : Value} {bytes : Nat} (hT : cq P t e zv sz bytes) (ad : Option Addr) (len cap l h : Nat) (lo hi : Option Value) (hb : (Instr.sliceBounds true len cap lo hi none).run P w = .ok (l, h, cap) w) :
 (Instr.sliceAt t (.slice ad len cap) lo hi none).run P w = .ok (.slice (cW ad cap l sz) (h - l) (cap - l)) w := by
 simp only [Instr.sliceAt, Sem.run_bind, run_underlying hT.iE, Result.andThen_ok, Instr.slice, hb, iz hT, Sem.run_pure]
 rfl
theorem vr {zv : Value} {bytes : Nat} {ad : Option Addr} {cap : Nat} {l : List α} {k : IntKind} {i : Int} (hT : cq P t e zv sz bytes) (hE : cC R m sz ad cap l) (j : Nat) (hij : i = (j : Int)) (hK : Ke a K) (ho : o.op = .slice t x (some y) none none) (hx : ed K x = some (.slice ad l.length cap)) (hy : ed K y = some (.int k i))
 (hj : j ≤ l.length) (hp : aL (.slice (cW ad cap j sz) (l.drop j).length (cap - j)) m.w) : ab P o a m.w aL := by
 subst hij
 have := iw (P := P) (w := m.w) hT ad l.length cap j l.length (some (.int k j)) none (by simp only [Instr.sliceBounds, Sem.run_bind, Sem.run_pure, Result.andThen_ok, cN hj])
 unfold ab execOp
 simp only [ho, Option.map_some, Option.map_none, hK.ev hx, hK.ev hy, Sem.run_bind, this, Result.andThen_ok, Sem.run_pure]
 rw [List.length_drop] at hp; exact hp
theorem Ge {zv : Value} {bytes : Nat} {ad : Option Addr} {cap : Nat} {l : List α} {k : IntKind} {i : Int} (hT : cq P t e zv sz bytes) (hE : cC R m sz ad cap l) (j : Nat) (hij : i = (j : Int)) (hK : Ke a K) (ho : o.op = .slice t x none (some y) none) (hx : ed K x = some (.slice ad l.length cap)) (hy : ed K y = some (.int k i))
 (hj : j ≤ l.length) (hp : aL (.slice ad (l.take j).length cap) m.w) : ab P o a m.w aL := by
 subst hij
 have hc := hE.nN.2.2
 have := iw (P := P) (w := m.w) hT ad l.length cap 0 j none (some (.int k j)) (by simp only [Instr.sliceBounds, Sem.run_bind, Sem.run_pure, Result.andThen_ok, cN (Nat.le_trans hj hc)])
 unfold ab execOp
 simp only [ho, Option.map_some, Option.map_none, hK.ev hx, hK.ev hy, Sem.run_bind, this, Result.andThen_ok, Sem.run_pure, eU, Nat.sub_zero]
 rw [List.length_take, Nat.min_eq_left hj] at hp; exact hp
theorem DH {zv : Value} {bytes : Nat} {ad : Option Addr} {cap : Nat} {l : List α} {k k' : IntKind} {i i' : Int} (hT : cq P t e zv sz bytes) (hE : cC R m sz ad cap l) (j j' : Nat) (hij : i = (j : Int)) (hij' : i' = (j' : Int)) (hK : Ke a K) (ho : o.op = .slice t x (some y) (some z) none) (hx : ed K x = some (.slice ad l.length cap)) (hy : ed K y = some (.int k i)) (hz : ed K z = some (.int k' i'))
 (hj : j ≤ j' ∧ j' ≤ l.length) (hp : aL (.slice (cW ad cap j sz) ((l.take j').drop j).length (cap - j)) m.w) : ab P o a m.w aL := by
 subst hij hij'
 have hc := hE.nN.2.2
 have := iw (P := P) (w := m.w) hT ad l.length cap j j' (some (.int k j)) (some (.int k' j')) (by simp only [Instr.sliceBounds, Sem.run_bind, Sem.run_pure, Result.andThen_ok, cN (Nat.le_trans hj.2 hc), cN hj.1])
 unfold ab execOp
 simp only [ho, Option.map_some, Option.map_none, hK.ev hx, hK.ev hy, hK.ev hz, Sem.run_bind, this, Result.andThen_ok, Sem.run_pure]
 rw [List.length_drop, List.length_take, Nat.min_eq_left hj.2] at hp; exact hp
end
section
variable {P : Program} {o : Oper} {a : Act} {K : Kt} {ds : List Deferred} {B : List Nat} {m0 m : Mem} {L : List az} {aL : Value → World → Prop} {x y : Operand} {t t' e : TypeId} {w : World} {ρ : Operand → Value}
theorem uO {ad : Option Addr} {n c : Nat} (ho : o.op = .binOp .eql t x y t') (hx : ρ x = .slice ad n c) (hy : ρ y = .slice none 0 0) (hu : P.underlying t = some (.slice e)) : (execOp ρ o).run P w = .ok (.value (.bool ad.isNone)) w := by
 have h := Lib.run_eql_slice_nil (P := P) w t e ad n c 0 0 hu
 unfold execOp
 simp only [ho, hx, hy, eqGuard, Sem.run_bind, Bool.not_true, Bool.false_eq_true, if_false, Sem.run_pure, Result.andThen_ok, h]
theorem uP {ad : Option Addr} {n c : Nat} (ho : o.op = .binOp .neq t x y t') (hx : ρ x = .slice ad n c) (hy : ρ y = .slice none 0 0) (hu : P.underlying t = some (.slice e)) : (execOp ρ o).run P w = .ok (.value (.bool (!ad.isNone))) w := by
 have h := run_neq_slice_nil_any (P := P) w t e ad n c 0 0 hu
 unfold execOp
 simp only [ho, hx, hy, eqGuard, Sem.run_bind, Bool.not_true, Bool.false_eq_true, if_false, Sem.run_pure, Result.andThen_ok, h]
theorem cC.sP {α : Type} {R : Mem → α → List Value → Prop} {sz cap : Nat} {l : List α} (h : cC R m sz none cap l) : l = [] := by
 obtain ⟨css, h1, h2, _⟩ := h
 have := h1.2.2.2.1 rfl
 exact List.eq_nil_of_length_eq_zero (by have := h1.2.1; omega)
theorem cC.xg {α : Type} {R : Mem → α → List Value → Prop} {ad : Option Addr} {sz cap : Nat} {l : List α} (h : cC R m sz ad cap l) (hn : ad.isNone = true) : l = [] := by
 cases ad with
 | none => exact h.sP
 | some _ => cases hn
theorem DQ {css : List (List Value)} : ∀ {l : List UInt8}, css.length = l.length → (∀ (i : Nat) (x : UInt8) (cs : List Value), l[i]? = some x → css[i]? = some cs → cs.length = 1 ∧ nM m x cs) → css.flatten = l.map U8 := by
 induction css with
 | nil => intro l h _; cases l <;> simp_all
 | cons c css ih =>
   intro l h hh
   cases l with
   | nil => simp at h
   | cons x l =>
     have h0 := (hh 0 x c rfl rfl).2
     unfold nM at h0
     subst h0
     rw [List.flatten_cons, List.map_cons, ih (by simpa using h) (fun i x cs hx hc => hh (i + 1) x cs (by simpa using hx) (by simpa using hc))]
     rfl
theorem cC.LF {ad : Option Addr} {cap : Nat} {l : List UInt8} (h : cC nM m 1 ad cap l) : Sl m 1 ad l.length cap (l.map U8) := by
 obtain ⟨css, h1, h2, h3⟩ := h
 rw [DQ h2 h3] at h1; exact h1
theorem F7 {ad : Option Addr} {cap : Nat} {bs : List UInt8} (ho : o.op = .convert t t' x) (hx : ρ x = .slice ad bs.length cap) (hs : P.underlying t = some (.slice e)) (he : P.underlying e = some (.int .u8)) (hd : P.underlying t' = some .string) (hE : cC nM m 1 ad cap bs) :
 (execOp ρ o).run P m.w = .ok (.value (.string ⟨bs.toArray⟩)) m.w := by
 have h : (convert t t' (.slice ad bs.length cap)).run P m.w = .ok (.string ⟨bs.toArray⟩) m.w := by
  rw [run_convert_bytes_string m.w t t' e ad bs.length cap hs he hd]
  cases ad with
  | none =>
    have : bs = [] := hE.sP
    subst this
    simp [Conv.bytesToString]; rfl
  | some ad =>
    have hsl := hE.LF
    have hls : (loadCells ad bs.length).run P m.w = .ok ((bs.map fun c => (c.toNat : Int)).map (Value.int .u8)).toArray m.w := by
     have := run_loadCells_list (P := P) m.w ad (bs.map U8) (fun j v hj => by
      obtain ⟨b, o, ha, _, hc⟩ := hsl.2.2.2.2 j v hj
      cases ha; rw [Addr.add_mid]; exact hc)
     rw [List.length_map] at this
     rw [this, List.map_map]; rfl
    rw [run_bytesToString m.w ad bs.length cap _ hls, foldl_push_bytes]
    congr 2
    simp [ByteArray.empty, ByteArray.emptyWithCapacity, List.map_map, Function.comp_def]
    rfl
 unfold execOp
 simp only [ho, hx, Sem.run_bind, h, Result.andThen_ok, Sem.run_pure]
theorem KQ (x y : List UInt8) : ((⟨x.toArray⟩ : ByteArray).toList == (⟨y.toArray⟩ : ByteArray).toList) = decide (x = y) := by
 rw [ByteArray.toList_eq, ByteArray.toList_eq, Bool.eq_iff_iff]
 simp
end
def lb (f : Nat → UInt8) : Array Value := ((List.range 32).map fun i => Value.int .u8 ((f i).toNat : Int)).toArray
section
variable {P : Program} {o : Oper} {x y : Operand} {t t' e : TypeId} {w : World} {ρ : Operand → Value} {op : BinOp}
theorem ny {xs ys : Array Value} {v : Value} (ho : o.op = .binOp op t x y t') (hx : ρ x = .agg xs) (hy : ρ y = .agg ys) (hg : P.eqGuardType P.depth t = false) (h : (binOp op t (.agg xs) (.agg ys)).run P w = .ok v w) : (execOp ρ o).run P w = .ok (.value v) w := by
 have h2 : (eqGuard op t x y (.agg xs) (.agg ys)).run P w = .ok () w := by
  unfold eqGuard
  cases op <;> simp [program, Sem.run, hg]
 unfold execOp
 simp only [ho, hx, hy, Sem.run_bind, h2, Result.andThen_ok, h, Sem.run_pure]
theorem oJ (d : Nat) (he : P.underlying e = some (.int .u8)) (f g : Nat → UInt8) : ∀ (is : List Nat), (∀ i ∈ is, i < 32) → (Op.eqItems (d + 1) e 1 (lb f) (lb g) is).run P w = .ok (is.all fun i => f i == g i) w
 | [], _ => by simp [Op.eqItems]
 | i :: is, h => by
   have hi := h i (by simp)
   have hp : ∀ f : Nat → UInt8, (part e (lb f) (i * 1)).run P w = .ok (.int .u8 ((f i).toNat : Int)) w := fun f => by
    have hc : (lb f)[i]? = some (.int .u8 ((f i).toNat : Int)) := by simp [lb, hi]
    simp [part, kQ he, rq, Nat.mul_one, hc]
   have ih := oJ d he f g is (fun j hj => h j (by simp [hj]))
   have hb : (((f i).toNat : Int) == ((g i).toNat : Int)) = (f i == g i) := by
    rw [Bool.eq_iff_iff]; simp
    exact ⟨fun h => UInt8.toNat_inj.1 (by omega), fun h => by rw [h]⟩
   simp only [Op.eqItems, Sem.run_bind, hp, Result.andThen_ok, run_equalIn_int w d e .u8 .u8 _ _ he, hb, List.all_cons]
   cases f i == g i
   · simp
   · simp [ih]
theorem xN (hu : P.underlying t = some (.array 32 e)) (he : P.underlying e = some (.int .u8)) (hs : gR P e = some (false, 1)) (f g : Nat → UInt8) : (binOp .eql t (.agg (lb f)) (.agg (lb g))).run P w = .ok (.bool (gL f g)) w := by
 obtain ⟨dd, i, hu', hi, hd, hsz⟩ := ik hs
 have hc : P.cellsOf e = 1 := by simp [Program.cellsOf, hi, hsz]
 have h := run_equalIn_array (P := P) w 9999 (lb f) (lb g) hu hi
 rw [hc, oJ 9998 he f g (List.range 32) (fun i hi => by simpa using hi)] at h
 rw [run_eql_struct, h]
 rfl
end
section
variable {P : Program} {o : Oper} {a : Act} {K : Kt} {ds : List Deferred} {B : List Nat} {m0 m : Mem} {L : List az} {aL : Value → World → Prop} {x y z : Operand} {t kt et : TypeId}
theorem uQ (_hK : Ke a K) (hS : St B m0 m L) (ho : o.op = .makeMap t none)
 (hp : ∀ m' b, Le m m' → St B m0 m' (.obj b (.map #[] 0) :: L) → aL (.map (some b)) m'.w) : ab P o a m.w aL := by
 unfold ab execOp
 simp only [ho, Option.map_none, run_makeMap, Sem.run_bind, Sem.run_pure, Result.andThen_ok]
 have h := hS.new (o := .map #[] 0) rfl (.obj m.w.heap.size (.map #[] 0)) rfl (cI _ _)
 exact hp _ _ (St.new (St.refl (Ow.nil m)) (o := .map #[] 0) rfl (.obj m.w.heap.size (.map #[] 0)) rfl (cI _ _)).le h
end
section
variable {P : Program} {o : Oper} {a : Act} {K : Kt} {ds : List Deferred} {B : List Nat} {m0 m : Mem} {L : List az} {aL : Value → World → Prop} {x : Operand} {t e : TypeId}
theorem BG (w : World) (p : Addr) (n : Nat) (q : Addr) : (w.freeze p n).cell? q = w.cell? q := by
 unfold World.freeze
 split
 · rfl
 unfold World.cell?
 simp only [Array.getElem?_modify]
 by_cases h : p.block = q.block
 · rw [if_pos h]
   cases hq : w.heap[q.block]? with
   | none => rfl
   | some ob => cases ob <;> rfl
 · rw [if_neg h]
theorem Ag (w : World) (p : Addr) (n k : Nat) (h : k ≠ p.block) : (w.freeze p n).heap[k]? = w.heap[k]? := by
 unfold World.freeze
 split
 · rfl
 simp only [Array.getElem?_modify]
 rw [if_neg (fun e => h e.symm)]
theorem BH (w : World) (p : Addr) (n : Nat) : (w.freeze p n).heap.size = w.heap.size := by
 unfold World.freeze; split
 · rfl
 · simp
end
end Go.Proofs.YtekpafdhgkocaaaGreat
