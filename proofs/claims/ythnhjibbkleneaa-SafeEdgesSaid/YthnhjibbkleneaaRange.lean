/- Ranges over functions, walked in line: the iterator's code, and at each call of yield the loop's body. Over any program. -/
import Derived.Test.YthnhjibbkleneaaVec
import Derived.RangeFuncNested
namespace Go.Proofs.Ythnhjibbkleneaa
open Go.RowKit
/-- The marks of blocks for deferred calls. -/
def dms (Ds : List Nat) : List Deferred := Ds.map fun D => { target := .collected D, args := #[] }
/-- The blocks for deferred calls; no call stands in them. -/
def Ent.defs (Ds : List Nat) : Ent :=
  ⟨Ds, fun _ _ => True, fun w => ∀ D ∈ Ds, w.heap[D]? = some (.deferred (some [])), fun _ h b hb => heap_lt (h b hb), fun w w' h hs D hD => by rw [hs D hD]; exact h D hD⟩
section
variable {B : List Nat} {m0 m : Mem} {L R : List Ent} {e e' e1 e2 : Ent}
/-- What the front entry holds turns. -/
theorem St.turn (h : St B m0 m (e :: R)) {w' : World} (ho : w'.os = m.w.os) (ht : w'.tape = m.w.tape) (hu : w'.output = m.w.output) (hsz : w'.heap.size = m.w.heap.size)
    (hk : ∀ c, c ∉ e.blocks → w'.heap[c]? = m.w.heap[c]?) (hall : ∀ b ∈ e.blocks, ∀ o, e.foot b o) (hb : ∀ b ∈ e'.blocks, b ∈ e.blocks) (hn : e'.blocks.Nodup) (hok : e'.ok w') : St B m0 ⟨w', m.ok⟩ (e' :: R) := by
  have hap : ∀ b ∈ e.blocks, ∀ o, ¬ m.ok b o := fun b hb o => h.ow.apart e (by simp) b hb o (hall b hb o)
  have k : St (blocksOf [e]) m ⟨w', m.ok⟩ [e'] := by
    refine ⟨⟨ho, ht, hu, by rw [hsz]; exact Nat.le_refl _, fun c o hc => ⟨⟨hc, by simpa [hsz] using hc.2⟩, ?_⟩⟩, fun c hc hn => hk c (by simpa using hn), fun c o hc => .inl hc.1, ⟨by simpa using hn, fun x hx => ?_, fun x hx c hc o _ hm => ?_⟩, fun c hc => ?_⟩
    · have hne : c ∉ e.blocks := fun hm => hap c hm o hc
      show w'.cell? _ = m.w.cell? _
      unfold World.cell?
      rw [hk c hne]
    · simp at hx; subst hx; exact hok
    · simp at hx; subst hx; exact hap c (hb c hc) o hm.1
    · simp at hc; exact .inl (by simpa using hb c hc)
  exact St.frame (L := [e]) h k
/-- Two entries are said as one. -/
theorem St.two (h : St B m0 m (e1 :: e2 :: R)) (hb : e.blocks = e1.blocks ++ e2.blocks) (hok : e1.ok m.w → e2.ok m.w → e.ok m.w) (h1 : ∀ b ∈ e1.blocks, ∀ o, e1.foot b o) (h2 : ∀ b ∈ e2.blocks, ∀ o, e2.foot b o) : St B m0 m (e :: R) := by
  have hbl : blocksOf (e :: R) = blocksOf (e1 :: e2 :: R) := by simp [hb]
  refine ⟨h.le, h.kept, h.news, ⟨by rw [hbl]; exact h.ow.nodup, fun x hx => ?_, fun x hx b hbx o hf => ?_⟩, fun b hbx => h.blk b (by rw [← hbl]; exact hbx)⟩
  · simp at hx
    rcases hx with rfl | hx
    · exact hok (h.ow.ok e1 (by simp)) (h.ow.ok e2 (by simp))
    · exact h.ow.ok x (by simp [hx])
  · simp at hx
    rcases hx with rfl | hx
    · rw [hb] at hbx
      rcases List.mem_append.1 hbx with h3 | h3
      · exact h.ow.apart e1 (by simp) b h3 o (h1 b h3 o)
      · exact h.ow.apart e2 (by simp) b h3 o (h2 b h3 o)
    · exact h.ow.apart x (by simp [hx]) b hbx o hf
theorem St.defs0 (h : St B m0 m L) : St B m0 m (.defs [] :: L) := by
  have k : St [] m m [.defs []] := ⟨Le.refl m, fun _ _ _ => rfl, fun _ _ h => .inl h, ⟨by simp [Ent.defs], fun x hx => by simp at hx; subst hx; exact fun D hD => by simp at hD, fun x hx b hb => by simp at hx; subst hx; simp [Ent.defs] at hb⟩, fun b hb => by simp [Ent.defs] at hb⟩
  exact h.call k
theorem St.newObj (h : St B m0 m L) (o : Obj) : St B m0 ⟨m.w.alloc o, m.ok⟩ (.obj m.w.heap.size o :: L) := h.new rfl (.obj m.w.heap.size o) rfl (alloc_heap _ _)
theorem Le.alloc (m : Mem) (o : Obj) : Le m ⟨m.w.alloc o, m.ok⟩ := (St.refl (Ow.nil m)).newObj o |>.le
/-- The object at k turns. -/
theorem St.putObj {b : Nat} {o : Obj} (o' : Obj) (h : St B m0 m L) (k : Nat) (hk : L[k]? = some (.obj b o)) : Le m ⟨m.w.putObj b o', m.ok⟩ ∧ St B m0 ⟨m.w.putObj b o', m.ok⟩ (.obj b o' :: L.eraseIdx k) := by
  have hb := h.objAt k hk
  have h1 := h.front k hk
  have ho : (m.w.putObj b o').heap[b]? = some o' := World.putObj_heap_same (heap_lt hb)
  have key : ∀ {B' : List Nat} {m1 : Mem}, St B' m1 m (.obj b o :: L.eraseIdx k) → St B' m1 ⟨m.w.putObj b o', m.ok⟩ (.obj b o' :: L.eraseIdx k) := fun hh =>
    hh.turn rfl rfl rfl (by simp) (fun c hc => World.putObj_heap_other (by intro e; subst e; exact hc (by simp [Ent.obj]))) (fun _ _ _ => trivial) (fun c hc => hc) (by simp [Ent.obj]) ho
  refine ⟨?_, key h1⟩
  have := key (St.refl h1.ow)
  exact this.le
end
/-- What the record of a loop says. -/
structure IsRec (R : LoopState → Option Code → Loop) (ps : Array Tmp) (tmps : Array Value) (asg body : Code) : Prop where
  ex : ∃ fn D, R = fun st pe => { state := st, pending := pe, fn := fn, tmps := tmps, params := ps, assign := asg, body := body, defers := D }
/-- Where the iterator ends. -/
def seqPost (P : Program) (gn : Func) (l : Nat) (X : Option Code → World → Prop) : Exit → Act → World → Prop :=
  bodyPostM (FW none) 0 P gn fun e w => ∃ v, e = .returned v ∧ ∃ jump w', (Instr.endLoop l).run P w = .ok jump w' ∧ X jump w'
/-- Where the loop goes on. -/
def onPost (rr : Option Nat) (P : Program) (Q : Exit → Act → World → Prop) (n0 : Nat) (K0 : Kt) (ds : List Deferred) : Option Code → World → Prop := fun jump w =>
  ∀ a, Kn n0 a K0 ds → match jump with | none => Q .normal a w | some c => c.wpIn (FW rr) 0 P Q a w
/-- Where a round ends. -/
def yPost (P : Program) (l : Nat) (next : Bool → World → Prop) : Exit → Act → World → Prop := roundPost P l fun e w => ∃ b, e = .returned (.bool b) ∧ next b w
section
variable {P : Program} {Q : Exit → Act → World → Prop} {n n0 : Nat} {a : Act} {K K0 : Kt} {B : List Nat} {m0 m : Mem} {L : List Ent} {ds : List Deferred}
theorem w_range {g : Operand} {ps : Array Tmp} {asg body : Code} {gf : FuncId} {gn : Func} {gc : Code} {cap : List Value} {Ds : List Nat} (n2 k : Nat) (hK : Kn n a K (dms Ds)) (hS : St B m0 m L) (hk : L[k]? = some (.defs Ds))
    (hg : evK K g = some (.func (.func gf) #[] cap.toArray)) (he : Enters P gf) (hf : P.funcs[gf]? = some gn) (hb : gn.body = some gc) (hn : gn.ntmps = n2) (hle : cap.length + 1 ≤ n2)
    (h : ∀ l D R m1, Le m m1 → IsRec R ps a.tmps asg body → St B m0 m1 (.obj l (.loop (R .ready none)) :: .defs (D :: Ds) :: L.eraseIdx k) → ∀ a2, Kn n2 a2 (argsK 0 (.func (.yield l) #[] #[] :: cap)) →
      gc.wpIn (FW none) 0 P (seqPost P gn l (onPost none P Q n K (dms (D :: Ds)))) a2 m1.w) : (Code.rangeFunc g ps asg body).wpIn (FW none) 0 P Q a m.w := by
  refine wpIn_rangeFunc fun fn _ => ?_
  have s1 := hS.front k hk
  have s2 := s1.newObj (.deferred (some []))
  have s3 := s2.two (e := .defs (m.w.heap.size :: Ds)) rfl (fun h1 h2 D hD => by
    simp at hD
    rcases hD with rfl | hD
    · exact h1
    · exact h2 D hD) (fun _ _ _ => trivial) (fun _ _ _ => trivial)
  let rec_ : LoopState → Option Code → Loop := fun st pe => { state := st, pending := pe, fn := fn, tmps := a.tmps, params := ps, assign := asg, body := body, defers := m.w.heap.size }
  have s4 := s3.newObj (.loop (rec_ .ready none))
  have hl : (m.w.alloc (.deferred (some []))).heap.size = m.w.heap.size + 1 := World.size_alloc _ _
  have hle1 : Le m ⟨(m.w.alloc (.deferred (some []))).alloc (.loop (rec_ .ready none)), _⟩ := (Le.alloc m (.deferred (some []))).trans (Le.alloc _ (.loop (rec_ .ready none)))
  refine ⟨m.w.heap.size + 1, [{ target := .collected m.w.heap.size, args := #[] }], (m.w.alloc (.deferred (some []))).alloc (.loop (rec_ .ready none)), { target := .fn (.func gf) cap.toArray, args := #[.func (.yield (m.w.heap.size + 1)) #[] #[]] },
    (m.w.alloc (.deferred (some []))).alloc (.loop (rec_ .ready none)), gf, #[.func (.yield (m.w.heap.size + 1)) #[] #[]] ++ cap.toArray, (m.w.alloc (.deferred (some []))).alloc (.loop (rec_ .ready none)), run_enterLoop_outer _ _ _ _ _, ?_, fun _ _ => trivial, ?_, fun h => by simp [FW] at h, ?_⟩
  · simp only [resolve, hK.ev hg]
    simp [go_sem]
  · simp only [invoke]; exact he _ _
  · have hargs : (#[.func (.yield (m.w.heap.size + 1)) #[] #[]] ++ cap.toArray : Array Value) = (.func (.yield (m.w.heap.size + 1)) #[] #[] :: cap).toArray := by simp
    rw [hargs]
    simp only [hl] at s4
    refine (callsIn_of_wp_marks (F := FW none) (n := 0) hf hb trivial (h (m.w.heap.size + 1) m.w.heap.size rec_ _ hle1 ⟨fn, m.w.heap.size, rfl⟩ s4 _ (kn_enter n2 hn (by simpa using hle))) rfl).mono ?_
    rintro e w ⟨v, rfl, jump, w', hend, hx⟩
    refine ⟨jump, w', hend, ?_⟩
    have hk2 : Kn n { a with defers := [{ target := .collected m.w.heap.size, args := #[] }] ++ a.defers } K (dms (m.w.heap.size :: Ds)) := ⟨hK.size, by rw [hK.defers]; rfl, hK.at_⟩
    have := hx _ hk2
    cases jump <;> exact this
/-- In a round of another loop. -/
theorem w_rangeN {l0 : Nat} {r0 : Loop} {g : Operand} {ps : Array Tmp} {asg body : Code} {gf : FuncId} {gn : Func} {gc : Code} {cap : List Value} (n2 k : Nat) (hK : Kn n a K ds) (hS : St B m0 m L) (hk : L[k]? = some (.obj l0 (.loop r0)))
    (hg : evK K g = some (.func (.func gf) #[] cap.toArray)) (he : Enters P gf) (hf : P.funcs[gf]? = some gn) (hb : gn.body = some gc) (hn : gn.ntmps = n2) (hle : cap.length + 1 ≤ n2)
    (h : ∀ l R m1, Le m m1 → IsRec R ps a.tmps asg body → St B m0 m1 (.obj l (.loop (R .ready none)) :: L) → ∀ a2, Kn n2 a2 (argsK 0 (.func (.yield l) #[] #[] :: cap)) →
      gc.wpIn (FW none) 0 P (seqPost P gn l (onPost (some l0) P Q n K ds)) a2 m1.w) : (Code.rangeFunc g ps asg body).wpIn (FW (some l0)) 0 P Q a m.w := by
  refine wpIn_rangeFunc fun fn _ => ?_
  let rec_ : LoopState → Option Code → Loop := fun st pe => { state := st, pending := pe, fn := fn, tmps := a.tmps, params := ps, assign := asg, body := body, defers := r0.defers }
  have s4 := hS.newObj (.loop (rec_ .ready none))
  refine ⟨m.w.heap.size, [], m.w.alloc (.loop (rec_ .ready none)), { target := .fn (.func gf) cap.toArray, args := #[.func (.yield m.w.heap.size) #[] #[]] },
    m.w.alloc (.loop (rec_ .ready none)), gf, #[.func (.yield m.w.heap.size) #[] #[]] ++ cap.toArray, m.w.alloc (.loop (rec_ .ready none)), run_enterLoop_inner (hS.objAt k hk) _ _ _ _ _, ?_, fun _ _ => trivial, ?_, fun h => by simp [FW] at h, ?_⟩
  · simp only [resolve, hK.ev hg]
    simp [go_sem]
  · simp only [invoke]; exact he _ _
  · have hargs : (#[.func (.yield m.w.heap.size) #[] #[]] ++ cap.toArray : Array Value) = (.func (.yield m.w.heap.size) #[] #[] :: cap).toArray := by simp
    rw [hargs]
    refine CallsIn.mono (calls_in _ (callsIn_wide.1 (callsIn_of_wp_marks (F := FW none) (n := 0) hf hb trivial (h m.w.heap.size rec_ _ (Le.alloc m _) ⟨fn, r0.defers, rfl⟩ s4 _ (kn_enter n2 hn (by simpa using hle))) rfl))) ?_
    rintro e w ⟨v, rfl, jump, w', hend, hx⟩
    refine ⟨jump, w', hend, ?_⟩
    have := hx _ (⟨hK.size, hK.defers, hK.at_⟩ : Kn n { a with defers := [] ++ a.defers } K ds)
    cases jump <;> exact this
/-- The slots of a round. -/
def putK : List Tmp → List Value → Kt → Kt
  | p :: ps, v :: vs, K => putK ps vs ((p, v) :: K)
  | _, _, K => K
theorem kn_puts : ∀ (ps : List Tmp) (vs : List Value) {a : Act} {K : Kt}, (∀ p ∈ ps, p < n) → Kn n a K → Kn n { tmps := (ps.zip vs).foldl (fun t (p, v) => t.setIfInBounds p v) a.tmps, defers := [] } (putK ps vs K)
  | [], vs, a, K, _, h => ⟨h.size, rfl, h.at_⟩
  | p :: ps, [], a, K, _, h => ⟨h.size, rfl, h.at_⟩
  | p :: ps, v :: vs, a, K, hp, h => by
    have h1 := h.put v (hp p (by simp))
    exact kn_puts ps vs (fun q hq => hp q (by simp [hq])) h1
theorem q_yield {ops : Array Oper} {o : Oper} {rest : List Oper} {R : LoopState → Option Code → Loop} {ps : Array Tmp} {asg body : Code} {l : Nat} {a0 : Act} {gx : Operand} {xs : Array Operand} {ats : Array TypeId} {vs : List Value} (d k : Nat) {ds0 : List Deferred} (hK : Kn n a K) (hK0 : Kn n0 a0 K0 ds0) (hR : IsRec R ps a0.tmps asg body)
    (hS : St B m0 m L) (hk : L[k]? = some (.obj l (.loop (R .ready none)))) (ho : o.op = .call ⟨.value gx, xs, ats⟩) (hg : evK K gx = some (.func (.yield l) #[] #[])) (hv : evAll K xs.toList = some vs) (hl : vs.length = ps.size) (hp : ps.toList.all (fun p => decide (p < n0)) = true)
    (h : ∀ a1, Kn n0 a1 (putK ps.toList vs K0) → asg.wpIn (FW (some l)) 0 P (Exit.then (fun a2 w2 => ∃ w3, (Instr.beginRound l).run P w2 = .ok () w3 ∧
      body.wpIn (FW (some l)) 0 P (yPost P l fun b w' => ∀ a', Kn n a' ((d, .bool b) :: K) → wpListIn (FW none) 0 P ops Q rest a' w') a2 w3) (fun _ _ _ => False)) a1 m.w)
    (hc : okOp ops o K n d = true := by kernel_rfl) : wpListIn (FW none) 0 P ops Q (o :: rest) a m.w := by
  simp only [okOp, Bool.and_eq_true, decide_eq_true_eq] at hc
  obtain ⟨⟨h1, h2⟩, h3⟩ := hc
  obtain ⟨fn, D, rfl⟩ := hR.ex
  unfold wpListIn
  rw [if_pos (wanted_of hK h1)]
  have e1 : xs.map a.eval = vs.toArray := by
    have := evAll_map hK.at_ xs.toList vs hv
    apply Array.ext'
    simpa using this
  have hlp := hS.objAt k hk
  have hrun : (execOp a.eval o).run P m.w = .ok (.round l fn ((ps.zip vs.toArray).foldl (fun t (p, v) => t.setIfInBounds p v) a0.tmps) asg body) m.w := by
    unfold execOp
    simp only [ho, resolve, hK.at_.ev hg, e1, Deferred.ofValue, Sem.run_bind, Sem.run_pure, Result.andThen_ok, invoke]
    have := run_yield (P := P) (args := vs.toArray) hlp (by simpa using hl)
    simpa using this
  refine ⟨fun _ _ => trivial, ?_⟩
  rw [Oper.semAt_eq _ _ _ (by intro c hc; rw [ho] at hc; cases hc), hrun]
  refine ⟨fun h => by simp [FW] at h, (roundIn_of_wpIn (F := FW none) (n := 0) trivial (h _ ?_)).mono ?_⟩
  · have := kn_puts ps.toList vs (fun p hp' => by simpa using List.all_eq_true.1 hp p hp') (⟨hK0.size, rfl, hK0.at_⟩ : Kn n0 { a0 with defers := [] } K0)
    rw [← Array.foldl_toList, Array.toList_zip]; exact this
  · rintro e w' ⟨b, rfl, hx⟩
    exact hx _ (by rw [h2]; exact hK.put _ h3)
theorem r_begin {R : LoopState → Option Code → Loop} {ps : Array Tmp} {tmps : Array Value} {asg body : Code} {l k : Nat} {X : World → Prop} (hR : IsRec R ps tmps asg body) (hS : St B m0 m L) (hk : L[k]? = some (.obj l (.loop (R .ready none))))
    (h : ∀ m1, Le m m1 → St B m0 m1 (.obj l (.loop (R .busy none)) :: L.eraseIdx k) → X m1.w) : ∃ w3, (Instr.beginRound l).run P m.w = .ok () w3 ∧ X w3 := by
  obtain ⟨fn, D, rfl⟩ := hR.ex
  obtain ⟨h1, h2⟩ := hS.putObj (.loop { state := .busy, pending := none, fn := fn, tmps := tmps, params := ps, assign := asg, body := body, defers := D }) k hk
  exact ⟨_, run_beginRound (hS.objAt k hk) rfl, h _ h1 h2⟩
theorem run_end {R : LoopState → Option Code → Loop} {ps : Array Tmp} {tmps : Array Value} {asg body : Code} {l k : Nat} (jump : Option Code) (hR : IsRec R ps tmps asg body) (hS : St B m0 m L) (hk : L[k]? = some (.obj l (.loop (R .busy none)))) :
    ∃ m1, (Instr.endRound l jump).run P m.w = .ok (.bool jump.isNone) m1.w ∧ Le m m1 ∧ St B m0 m1 (.obj l (.loop (R (if jump.isNone then .ready else .done) jump)) :: L.eraseIdx k) := by
  obtain ⟨fn, D, rfl⟩ := hR.ex
  obtain ⟨h1, h2⟩ := hS.putObj (.loop { state := if jump.isNone then .ready else .done, pending := jump, fn := fn, tmps := tmps, params := ps, assign := asg, body := body, defers := D }) k hk
  exact ⟨_, run_endRound jump (hS.objAt k hk), h1, h2⟩
section
variable {R : LoopState → Option Code → Loop} {ps : Array Tmp} {tmps : Array Value} {asg body : Code} {l k : Nat} {next : Bool → World → Prop}
theorem r_end_n (hR : IsRec R ps tmps asg body) (k : Nat) (hS : St B m0 m L) (hk : L[k]? = some (.obj l (.loop (R .busy none)))) (h : ∀ m1, Le m m1 → St B m0 m1 (.obj l (.loop (R .ready none)) :: L.eraseIdx k) → next true m1.w) : yPost P l next .normal a m.w := by
  obtain ⟨m1, h1, h2, h3⟩ := run_end (P := P) none hR hS hk
  exact ⟨_, _, h1, true, rfl, h m1 h2 h3⟩
theorem r_end_r (hR : IsRec R ps tmps asg body) (k : Nat) (hS : St B m0 m L) (hk : L[k]? = some (.obj l (.loop (R .busy none)))) (h : ∀ m1, Le m m1 → St B m0 m1 (.obj l (.loop (R .done (some .ret))) :: L.eraseIdx k) → next false m1.w) : yPost P l next .ret a m.w := by
  obtain ⟨m1, h1, h2, h3⟩ := run_end (P := P) (some .ret) hR hS hk
  exact ⟨_, _, h1, false, rfl, h m1 h2 h3⟩
theorem r_end_x {i : Nat} (hR : IsRec R ps tmps asg body) (k : Nat) (hS : St B m0 m L) (hk : L[k]? = some (.obj l (.loop (R .busy none)))) (h : ∀ m1, Le m m1 → St B m0 m1 (.obj l (.loop (R .done (some (.exit i)))) :: L.eraseIdx k) → next false m1.w) : yPost P l next (.exit i) a m.w := by
  obtain ⟨m1, h1, h2, h3⟩ := run_end (P := P) (some (.exit i)) hR hS hk
  exact ⟨_, _, h1, false, rfl, h m1 h2 h3⟩
theorem run_endL (st : LoopState) (pe : Option Code) (hst : st ≠ .busy) (hR : IsRec R ps tmps asg body) (hS : St B m0 m L) (hk : L[k]? = some (.obj l (.loop (R st pe)))) :
    ∃ m1, (Instr.endLoop l).run P m.w = .ok pe m1.w ∧ Le m m1 ∧ St B m0 m1 (L.eraseIdx k) := by
  obtain ⟨fn, D, rfl⟩ := hR.ex
  obtain ⟨h1, h2⟩ := hS.putObj (.loop { state := .exhausted, pending := pe, fn := fn, tmps := tmps, params := ps, assign := asg, body := body, defers := D }) k hk
  exact ⟨_, run_endLoop (hS.objAt k hk) hst, h1, h2.drop⟩
variable {gn : Func} {rr : Option Nat}
theorem seq_end_n (hK : Kn n a K) (hr : gn.results = #[]) (hR : IsRec R ps tmps asg body) (k : Nat) (hS : St B m0 m L) (hk : L[k]? = some (.obj l (.loop (R .ready none)))) (h : ∀ m1, Le m m1 → St B m0 m1 (L.eraseIdx k) → ∀ a', Kn n0 a' K0 ds → Q .normal a' m1.w) :
    seqPost P gn l (onPost rr P Q n0 K0 ds) .ret a m.w := by
  obtain ⟨m1, h1, h2, h3⟩ := run_endL (P := P) .ready none (by simp) hR hS hk
  show LeavesInM _ _ _ _ _ _ a.defers _ _
  rw [hK.defers]
  exact ⟨retOf [], run_results (rs := []) (by rw [hr]) hK .nil, _, rfl, _, _, h1, fun a' hk' => h m1 h2 h3 a' hk'⟩
theorem seq_end_r (hK : Kn n a K) (hr : gn.results = #[]) (hR : IsRec R ps tmps asg body) (k : Nat) (hS : St B m0 m L) (hk : L[k]? = some (.obj l (.loop (R .done (some .ret))))) (h : ∀ m1, Le m m1 → St B m0 m1 (L.eraseIdx k) → ∀ a', Kn n0 a' K0 ds → Q .ret a' m1.w) :
    seqPost P gn l (onPost rr P Q n0 K0 ds) .ret a m.w := by
  obtain ⟨m1, h1, h2, h3⟩ := run_endL (P := P) .done (some .ret) (by simp) hR hS hk
  show LeavesInM _ _ _ _ _ _ a.defers _ _
  rw [hK.defers]
  exact ⟨retOf [], run_results (rs := []) (by rw [hr]) hK .nil, _, rfl, _, _, h1, fun a' hk' => wpIn_ret (h m1 h2 h3 a' hk')⟩
theorem seq_end_x {i : Nat} (hK : Kn n a K) (hr : gn.results = #[]) (hR : IsRec R ps tmps asg body) (k : Nat) (hS : St B m0 m L) (hk : L[k]? = some (.obj l (.loop (R .done (some (.exit i)))))) (h : ∀ m1, Le m m1 → St B m0 m1 (L.eraseIdx k) → ∀ a', Kn n0 a' K0 ds → Q (.exit i) a' m1.w) :
    seqPost P gn l (onPost rr P Q n0 K0 ds) .ret a m.w := by
  obtain ⟨m1, h1, h2, h3⟩ := run_endL (P := P) .done (some (.exit i)) (by simp) hR hS hk
  show LeavesInM _ _ _ _ _ _ a.defers _ _
  rw [hK.defers]
  exact ⟨retOf [], run_results (rs := []) (by rw [hr]) hK .nil, _, rfl, _, _, h1, fun a' hk' => wpIn_exit (h m1 h2 h3 a' hk')⟩
theorem seq_normal {X : Option Code → World → Prop} {w : World} (h : seqPost P gn l X .ret a w) : seqPost P gn l X .normal a w := h
end
/-- The marks are come to. -/
theorem leaves_marks {fn : Func} {tmps : Array Value} {Rr : Ending → World → Prop} : ∀ (Ds : List Nat) {w : World}, Ds.Nodup → (∀ D ∈ Ds, w.heap[D]? = some (.deferred (some []))) →
    (∀ w', w'.os = w.os → w'.tape = w.tape → w'.output = w.output → w'.heap.size = w.heap.size → (∀ c, c ∉ Ds → w'.heap[c]? = w.heap[c]?) → LeavesInM (FW none) 0 P fn tmps Rr [] .returning w') → LeavesInM (FW none) 0 P fn tmps Rr (dms Ds) .returning w
  | [], w, _, _, h => h w rfl rfl rfl rfl (fun _ _ => rfl)
  | D :: Ds, w, hn, hd, h => by
    refine ⟨by simp, .inl ⟨D, _, rfl, run_takeDeferred (hd D (by simp)), ?_⟩⟩
    have hn' := List.nodup_cons.1 hn
    refine leaves_marks Ds hn'.2 (fun E hE => (World.putObj_heap_other (by rintro rfl; exact hn'.1 hE)).trans (hd E (by simp [hE]))) fun w' h1 h2 h3 h4 h5 => h w' h1 h2 h3 (by rw [h4]; simp) fun c hc => ?_
    simp at hc
    exact (h5 c hc.2).trans (World.putObj_heap_other hc.1)
theorem ret_marks {fn : Func} {m' : Mem} {L' : List Ent} {QQ : Value → Mem → List Ent → Prop} {Ds : List Nat} (k : Nat) (hK : Kn n a K (dms Ds)) (hS : St B m' m L) (hk : L[k]? = some (.defs Ds)) (h : ∀ m1, Le m m1 → St B m' m1 (L.eraseIdx k) → ∀ a', Kn n a' K → fnPost P fn m' L' QQ .ret a' m1.w) :
    fnPost P fn m' L' QQ .ret a m.w := by
  have h1 := hS.front k hk
  show LeavesInM _ _ _ _ a.tmps _ a.defers _ _
  rw [hK.defers]
  have hnd : Ds.Nodup := by have := h1.ow.nodup; rw [blocksOf_cons] at this; exact (List.nodup_append.1 this).1
  refine leaves_marks Ds hnd (h1.ow.ok (.defs Ds) (by simp)) fun w' e1 e2 e3 e4 e5 => ?_
  have key : ∀ {B' : List Nat} {m1 : Mem}, St B' m1 m (.defs Ds :: L.eraseIdx k) → St B' m1 ⟨w', m.ok⟩ (.defs [] :: L.eraseIdx k) := fun hh => hh.turn e1 e2 e3 e4 e5 (fun _ _ _ => trivial) (fun b hb => by simp [Ent.defs] at hb) (by simp [Ent.defs]) (fun D hD => by simp at hD)
  exact h ⟨w', m.ok⟩ (key (St.refl h1.ow)).le (key h1).drop { a with defers := [] } ⟨hK.size, rfl, hK.at_⟩
theorem end_marks {fn : Func} {m' : Mem} {L' : List Ent} {QQ : Value → Mem → List Ent → Prop} {Ds : List Nat} (k : Nat) (hK : Kn n a K (dms Ds)) (hS : St B m' m L) (hk : L[k]? = some (.defs Ds)) (h : ∀ m1, Le m m1 → St B m' m1 (L.eraseIdx k) → ∀ a', Kn n a' K → fnPost P fn m' L' QQ .ret a' m1.w) :
    fnPost P fn m' L' QQ .normal a m.w := ret_marks k hK hS hk h
end
end Go.Proofs.Ythnhjibbkleneaa
