/- Part of what the laws need: plain words, the walker and its laws, the program's functions. -/
import Derived.Test.YtekpafdhgkocaaaGreatZVec
import Derived.RangeFuncNested
namespace Go.Proofs.YtekpafdhgkocaaaGreat
open Go.RowKit
def Gu (Ds : List Nat) : List Deferred := Ds.map fun D => { target := .collected D, args := #[] }
def az.defs (Ds : List Nat) : az :=
 ⟨Ds, fun _ _ => True, fun w => ∀ D ∈ Ds, w.heap[D]? = some (.deferred (some [])), fun _ h b hb => jE (h b hb), fun w w' h hs D hD => by rw [hs D hD]; exact h D hD⟩
section
variable {B : List Nat} {m0 m : Mem} {L R : List az} {e e' e1 e2 : az}
theorem St.turn (h : St B m0 m (e :: R)) {w' : World} (ho : w'.os = m.w.os) (ht : w'.tape = m.w.tape) (hu : w'.output = m.w.output) (hsz : w'.heap.size = m.w.heap.size)
 (hk : ∀ c, c ∉ e.blocks → w'.heap[c]? = m.w.heap[c]?) (hall : ∀ b ∈ e.blocks, ∀ o, e.Db b o) (hb : ∀ b ∈ e'.blocks, b ∈ e.blocks) (hn : e'.blocks.Nodup) (hok : e'.ok w') : St B m0 ⟨w', m.ok⟩ (e' :: R) := by
 have hap : ∀ b ∈ e.blocks, ∀ o, ¬ m.ok b o := fun b hb o => h.ow.apart e (by simp) b hb o (hall b hb o)
 have k : St (ak [e]) m ⟨w', m.ok⟩ [e'] := by
  refine ⟨⟨ho, ht, hu, by rw [hsz]; exact Nat.le_refl _, fun c o hc => ⟨⟨hc, by simpa [hsz] using hc.2⟩, ?_⟩⟩, fun c hc hn => hk c (by simpa using hn), fun c o hc => .inl hc.1, ⟨by simpa using hn, fun x hx => ?_, fun x hx c hc o _ hm => ?_⟩, fun c hc => ?_⟩
  · have hne : c ∉ e.blocks := fun hm => hap c hm o hc
    show w'.cell? _ = m.w.cell? _
    unfold World.cell?
    rw [hk c hne]
  · simp at hx; subst hx; exact hok
  · simp at hx; subst hx; exact hap c (hb c hc) o hm.1
  · simp at hc; exact .inl (by simpa using hb c hc)
 exact St.frame (L := [e]) h k
theorem St.two (h : St B m0 m (e1 :: e2 :: R)) (hb : e.blocks = e1.blocks ++ e2.blocks) (hok : e1.ok m.w → e2.ok m.w → e.ok m.w) (h1 : ∀ b ∈ e1.blocks, ∀ o, e1.Db b o) (h2 : ∀ b ∈ e2.blocks, ∀ o, e2.Db b o) : St B m0 m (e :: R) := by
 have hbl : ak (e :: R) = ak (e1 :: e2 :: R) := by simp [hb]
 refine ⟨h.le, h.kept, h.news, ⟨by rw [hbl]; exact h.ow.nodup, fun x hx => ?_, fun x hx b hbx o hf => ?_⟩, fun b hbx => h.wJ b (by rw [← hbl]; exact hbx)⟩
 · simp at hx
   rcases hx with rfl | hx
   · exact hok (h.ow.ok e1 (by simp)) (h.ow.ok e2 (by simp))
   · exact h.ow.ok x (by simp [hx])
 · simp at hx
   rcases hx with rfl | hx
   · rw [hb] at hbx
     rcases List.mem_append.1 hbx with h3 | h3
     · exact h.ow.apart e1 (by simp) b h3 o (h1 b h3 o)
     · exact h.ow.apart e2 (by simp) b h3 o (h2 b h3 o)
   · exact h.ow.apart x (by simp [hx]) b hbx o hf
theorem St.Oh (h : St B m0 m L) : St B m0 m (.defs [] :: L) := by
 have k : St [] m m [.defs []] := ⟨Le.refl m, fun _ _ _ => rfl, fun _ _ h => .inl h, ⟨by simp [az.defs], fun x hx => by simp at hx; subst hx; exact fun D hD => by simp at hD, fun x hx b hb => by simp at hx; subst hx; simp [az.defs] at hb⟩, fun b hb => by simp [az.defs] at hb⟩
 exact h.call k
theorem St.newObj (h : St B m0 m L) (o : Obj) : St B m0 ⟨m.w.alloc o, m.ok⟩ (.obj m.w.heap.size o :: L) := h.new rfl (.obj m.w.heap.size o) rfl (cI _ _)
theorem Le.alloc (m : Mem) (o : Obj) : Le m ⟨m.w.alloc o, m.ok⟩ := (St.refl (Ow.nil m)).newObj o |>.le
theorem St.putObj {b : Nat} {o : Obj} (o' : Obj) (h : St B m0 m L) (k : Nat) (hk : L[k]? = some (.obj b o)) : Le m ⟨m.w.putObj b o', m.ok⟩ ∧ St B m0 ⟨m.w.putObj b o', m.ok⟩ (.obj b o' :: L.eraseIdx k) := by
 have hb := h.BZ k hk
 have h1 := h.front k hk
 have ho : (m.w.putObj b o').heap[b]? = some o' := World.putObj_heap_same (jE hb)
 have key : ∀ {B' : List Nat} {m1 : Mem}, St B' m1 m (.obj b o :: L.eraseIdx k) → St B' m1 ⟨m.w.putObj b o', m.ok⟩ (.obj b o' :: L.eraseIdx k) := fun hh =>
  hh.turn rfl rfl rfl (by simp) (fun c hc => World.putObj_heap_other (by intro e; subst e; exact hc (by simp [az.obj]))) (fun _ _ _ => trivial) (fun c hc => hc) (by simp [az.obj]) ho
 refine ⟨?_, key h1⟩
 have := key (St.refl h1.ow)
 exact this.le
end
structure yJ (R : LoopState → Option Code → Loop) (ps : Array Tmp) (tmps : Array Value) (kI body : Code) : Prop where
 ex : ∃ fn D, R = fun st pe => { state := st, pending := pe, fn := fn, tmps := tmps, params := ps, assign := kI, body := body, defers := D }
section
variable {P : Program} {Q : Exit → Act → World → Prop} {n n0 : Nat} {a : Act} {K K0 : Kt} {B : List Nat} {m0 m : Mem} {L : List az} {ds : List Deferred}
def Ca : List Tmp → List Value → Kt → Kt
 | p :: ps, v :: vs, K => Ca ps vs ((p, v) :: K)
 | _, _, K => K
theorem Kq {R : LoopState → Option Code → Loop} {ps : Array Tmp} {tmps : Array Value} {kI body : Code} {l k : Nat} {X : World → Prop} (hR : yJ R ps tmps kI body) (hS : St B m0 m L) (hk : L[k]? = some (.obj l (.loop (R .ready none))))
 (h : ∀ m1, Le m m1 → St B m0 m1 (.obj l (.loop (R .busy none)) :: L.eraseIdx k) → X m1.w) : ∃ w3, (Instr.beginRound l).run P m.w = .ok () w3 ∧ X w3 := by
 obtain ⟨fn, D, rfl⟩ := hR.ex
 obtain ⟨h1, h2⟩ := hS.putObj (.loop { state := .busy, pending := none, fn := fn, tmps := tmps, params := ps, assign := kI, body := body, defers := D }) k hk
 exact ⟨_, run_beginRound (hS.BZ k hk) rfl, h _ h1 h2⟩
theorem Kx {R : LoopState → Option Code → Loop} {ps : Array Tmp} {tmps : Array Value} {kI body : Code} {l k : Nat} (jump : Option Code) (hR : yJ R ps tmps kI body) (hS : St B m0 m L) (hk : L[k]? = some (.obj l (.loop (R .busy none)))) :
 ∃ m1, (Instr.endRound l jump).run P m.w = .ok (.bool jump.isNone) m1.w ∧ Le m m1 ∧ St B m0 m1 (.obj l (.loop (R (if jump.isNone then .ready else .done) jump)) :: L.eraseIdx k) := by
 obtain ⟨fn, D, rfl⟩ := hR.ex
 obtain ⟨h1, h2⟩ := hS.putObj (.loop { state := if jump.isNone then .ready else .done, pending := jump, fn := fn, tmps := tmps, params := ps, assign := kI, body := body, defers := D }) k hk
 exact ⟨_, run_endRound jump (hS.BZ k hk), h1, h2⟩
section
variable {R : LoopState → Option Code → Loop} {ps : Array Tmp} {tmps : Array Value} {kI body : Code} {l k : Nat} {next : Bool → World → Prop}
theorem Ir (st : LoopState) (pe : Option Code) (hst : st ≠ .busy) (hR : yJ R ps tmps kI body) (hS : St B m0 m L) (hk : L[k]? = some (.obj l (.loop (R st pe)))) :
 ∃ m1, (Instr.endLoop l).run P m.w = .ok pe m1.w ∧ Le m m1 ∧ St B m0 m1 (L.eraseIdx k) := by
 obtain ⟨fn, D, rfl⟩ := hR.ex
 obtain ⟨h1, h2⟩ := hS.putObj (.loop { state := .exhausted, pending := pe, fn := fn, tmps := tmps, params := ps, assign := kI, body := body, defers := D }) k hk
 exact ⟨_, run_endLoop (hS.BZ k hk) hst, h1, h2.drop⟩
variable {gn : Func} {rr : Option Nat}
end
theorem sL {fn : Func} {tmps : Array Value} {Rr : Ending → World → Prop} : ∀ (Ds : List Nat) {w : World}, Ds.Nodup → (∀ D ∈ Ds, w.heap[D]? = some (.deferred (some []))) →
 (∀ w', w'.os = w.os → w'.tape = w.tape → w'.output = w.output → w'.heap.size = w.heap.size → (∀ c, c ∉ Ds → w'.heap[c]? = w.heap[c]?) → LeavesInM (FW none) 0 P fn tmps Rr [] .returning w') → LeavesInM (FW none) 0 P fn tmps Rr (Gu Ds) .returning w
 | [], w, _, _, h => h w rfl rfl rfl rfl (fun _ _ => rfl)
 | D :: Ds, w, hn, hd, h => by
   refine ⟨by simp, .inl ⟨D, _, rfl, run_takeDeferred (hd D (by simp)), ?_⟩⟩
   have hn' := List.nodup_cons.1 hn
   refine sL Ds hn'.2 (fun E hE => (World.putObj_heap_other (by rintro rfl; exact hn'.1 hE)).trans (hd E (by simp [hE]))) fun w' h1 h2 h3 h4 h5 => h w' h1 h2 h3 (by rw [h4]; simp) fun c hc => ?_
   simp at hc
   exact (h5 c hc.2).trans (World.putObj_heap_other hc.1)
theorem F3 {fn : Func} {m' : Mem} {L' : List az} {QQ : Value → Mem → List az → Prop} {Ds : List Nat} (k : Nat) (hK : Kn n a K (Gu Ds)) (hS : St B m' m L) (hk : L[k]? = some (.defs Ds)) (h : ∀ m1, Le m m1 → St B m' m1 (L.eraseIdx k) → ∀ a', Kn n a' K → xa P fn m' L' QQ .ret a' m1.w) :
 xa P fn m' L' QQ .ret a m.w := by
 have h1 := hS.front k hk
 show LeavesInM _ _ _ _ a.tmps _ a.defers _ _
 rw [hK.defers]
 have hnd : Ds.Nodup := by have := h1.ow.nodup; rw [cu] at this; exact (List.nodup_append.1 this).1
 refine sL Ds hnd (h1.ow.ok (.defs Ds) (by simp)) fun w' e1 e2 e3 e4 e5 => ?_
 have key : ∀ {B' : List Nat} {m1 : Mem}, St B' m1 m (.defs Ds :: L.eraseIdx k) → St B' m1 ⟨w', m.ok⟩ (.defs [] :: L.eraseIdx k) := fun hh => hh.turn e1 e2 e3 e4 e5 (fun _ _ _ => trivial) (fun b hb => by simp [az.defs] at hb) (by simp [az.defs]) (fun D hD => by simp at hD)
 exact h ⟨w', m.ok⟩ (key (St.refl h1.ow)).le (key h1).drop { a with defers := [] } ⟨hK.size, rfl, hK.at_⟩
end
end Go.Proofs.YtekpafdhgkocaaaGreat
