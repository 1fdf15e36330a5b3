/- Part of what the laws need: plain words, the walker and its laws, the program's functions. -/
import Derived.Test.YtekpafdhgkocaaaGreatZEvS
namespace Go.Proofs.YtekpafdhgkocaaaGreat
open Go.RowKit G
namespace E
variable {S : Nat → Type} {tb : Tb S} {K : cV tb}
mutual
theorem CS.gT : ∀ {s : CS} {mp mp' : List (Nat × Nat)} {vs vs' : List (CV S)} {ds : List (fL S)}, CS.take tb mp s vs = some (ds, vs', mp') → Sub mp mp' ∧ (gi mp → gi mp')
 | .af c, mp, mp', vs, vs', ds, h => by
   simp only [CS.take] at h
   obtain ⟨p, hp, h⟩ := Option.map_eq_some_iff.1 h
   simp only [Prod.mk.injEq] at h
   obtain ⟨_, _, rfl⟩ := h
   exact ⟨Sub.refl _, id⟩
 | .rw o c, mp, mp', vs, vs', ds, h => by
   cases vs with
   | nil => simp [CS.take] at h
   | cons v vs =>
     cases v <;> first | (simp [CS.take] at h; done) | skip
     simp only [CS.take] at h
     split at h
     · obtain ⟨mp1, hu, h⟩ := Option.map_eq_some_iff.1 h
       simp only [Prod.mk.injEq] at h
       obtain ⟨_, _, rfl⟩ := h
       exact ⟨(du hu).1, (du hu).2.1⟩
     · cases h
 | .aw o, mp, mp', vs, vs', ds, h => by
   cases vs with
   | nil => simp [CS.take] at h
   | cons v vs =>
     cases v <;> first | (simp [CS.take] at h; done) | skip
     simp only [CS.take] at h
     obtain ⟨mp1, hu, h⟩ := Option.map_eq_some_iff.1 h
     simp only [Prod.mk.injEq] at h
     obtain ⟨_, _, rfl⟩ := h
     exact ⟨(du hu).1, (du hu).2.1⟩
 | .ptr o off, mp, mp', vs, vs', ds, h => by
   cases vs with
   | nil => simp [CS.take] at h
   | cons v vs =>
     cases v <;> first | (simp [CS.take] at h; done) | skip
     simp only [CS.take] at h
     split at h
     · obtain ⟨mp1, hu, h⟩ := Option.map_eq_some_iff.1 h
       simp only [Prod.mk.injEq] at h
       obtain ⟨_, _, rfl⟩ := h
       exact ⟨(du hu).1, (du hu).2.1⟩
     · cases h
 | .dI, mp, mp', vs, vs', ds, h => by
   cases vs with
   | nil => simp [CS.take] at h
   | cons v vs =>
     cases v <;> first | (simp [CS.take] at h; done) | skip
     simp only [CS.take, Option.some.injEq, Prod.mk.injEq] at h
     obtain ⟨_, _, rfl⟩ := h
     exact ⟨Sub.refl _, id⟩
 | .aU, mp, mp', vs, vs', ds, h => by
   cases vs with
   | nil => simp [CS.take] at h
   | cons v vs =>
     cases v <;> first | (simp [CS.take] at h; done) | skip
     simp only [CS.take, Option.some.injEq, Prod.mk.injEq] at h
     obtain ⟨_, _, rfl⟩ := h
     exact ⟨Sub.refl _, id⟩
 | .bI, mp, mp', vs, vs', ds, h => by
   cases vs with
   | nil => simp [CS.take] at h
   | cons v vs =>
     cases v <;> first | (simp [CS.take] at h; done) | skip
     simp only [CS.take, Option.some.injEq, Prod.mk.injEq] at h
     obtain ⟨_, _, rfl⟩ := h
     exact ⟨Sub.refl _, id⟩
 | .tt b, mp, mp', vs, vs', ds, h => by
   cases vs with
   | nil => simp [CS.take] at h
   | cons v vs =>
     cases v <;> first | (simp [CS.take] at h; done) | skip
     simp only [CS.take] at h
     split at h
     · simp only [Option.some.injEq, Prod.mk.injEq] at h
       obtain ⟨_, _, rfl⟩ := h
       exact ⟨Sub.refl _, id⟩
     · cases h
 | .yl o, mp, mp', vs, vs', ds, h => by
   cases vs with
   | nil => simp [CS.take] at h
   | cons v vs =>
     cases v <;> first | (simp [CS.take] at h; done) | skip
     simp only [CS.take] at h
     obtain ⟨mp1, hu, h⟩ := Option.map_eq_some_iff.1 h
     simp only [Prod.mk.injEq] at h
     obtain ⟨_, _, rfl⟩ := h
     exact ⟨(du hu).1, (du hu).2.1⟩
 | .Qe o, mp, mp', vs, vs', ds, h => by
   cases vs with
   | nil => simp [CS.take] at h
   | cons v vs =>
     cases v <;> first | (simp [CS.take] at h; done) | skip
     simp only [CS.take] at h
     obtain ⟨mp1, hu, h⟩ := Option.map_eq_some_iff.1 h
     simp only [Prod.mk.injEq] at h
     obtain ⟨_, _, rfl⟩ := h
     exact ⟨(du hu).1, (du hu).2.1⟩
 | .fn f xs ys, mp, mp', vs, vs', ds, h => by
   cases vs with
   | nil => simp [CS.take] at h
   | cons v vs =>
     cases v <;> first | (simp [CS.take] at h; done) | skip
     rename_i fn first caps
     cases fn <;> first | (simp [CS.take] at h; done) | skip
     simp only [CS.take] at h
     split at h
     · obtain ⟨p, hp, h⟩ := Option.bind_eq_some_iff.1 h
       obtain ⟨pd, pv, pm⟩ := p
       split at h
       · obtain ⟨q, hq, h⟩ := Option.bind_eq_some_iff.1 h
         obtain ⟨qd, qv, qm⟩ := q
         split at h
         · simp only [Option.some.injEq, Prod.mk.injEq] at h
           obtain ⟨_, _, rfl⟩ := h
           obtain ⟨a1, a2⟩ := CS.iB hp
           obtain ⟨b1, b2⟩ := CS.iB hq
           exact ⟨a1.trans b1, fun hM => b2 (a2 hM)⟩
         · cases h
       · cases h
     · cases h
theorem CS.iB : ∀ {l : List CS} {mp mp' : List (Nat × Nat)} {vs vs' : List (CV S)} {ds : List (fL S)}, CS.takes tb mp l vs = some (ds, vs', mp') → Sub mp mp' ∧ (gi mp → gi mp')
 | [], mp, mp', vs, vs', ds, h => by
   simp only [CS.takes, Option.some.injEq, Prod.mk.injEq] at h
   obtain ⟨_, _, rfl⟩ := h
   exact ⟨Sub.refl _, id⟩
 | s :: l, mp, mp', vs, vs', ds, h => by
   simp only [CS.takes] at h
   obtain ⟨p, hp, h⟩ := Option.bind_eq_some_iff.1 h
   obtain ⟨pd, pv, pm⟩ := p
   obtain ⟨q, hq, h⟩ := Option.map_eq_some_iff.1 h
   obtain ⟨qd, qv, qm⟩ := q
   simp only [Prod.mk.injEq] at h
   obtain ⟨_, _, rfl⟩ := h
   obtain ⟨a1, a2⟩ := CS.gT hp
   obtain ⟨b1, b2⟩ := CS.iB hq
   exact ⟨a1.trans b1, fun hM => b2 (a2 hM)⟩
end
mutual
theorem PS.gT : ∀ {s : PS} {mp mp' : List (Nat × Nat)} {v : AV S} {ds : List (fL S)}, PS.take tb mp s v = some (ds, mp') → Sub mp mp' ∧ (gi mp → gi mp')
 | .one s, mp, mp', v, ds, h => by
   cases v <;> first | (simp [PS.take] at h; done) | skip
   simp only [PS.take] at h
   obtain ⟨p, hp, h⟩ := Option.bind_eq_some_iff.1 h
   obtain ⟨pd, pv, pm⟩ := p
   split at h
   · simp only [Option.some.injEq, Prod.mk.injEq] at h
     obtain ⟨_, rfl⟩ := h
     exact CS.gT hp
   · cases h
 | .agg l, mp, mp', v, ds, h => by
   cases v <;> first | (simp [PS.take] at h; done) | skip
   simp only [PS.take] at h
   obtain ⟨p, hp, h⟩ := Option.bind_eq_some_iff.1 h
   obtain ⟨pd, pv, pm⟩ := p
   split at h
   · simp only [Option.some.injEq, Prod.mk.injEq] at h
     obtain ⟨_, rfl⟩ := h
     exact CS.iB hp
   · cases h
 | .je l, mp, mp', v, ds, h => by
   cases v <;> first | (simp [PS.take] at h; done) | skip
   simp only [PS.take] at h
   exact PS.iB h
theorem PS.iB : ∀ {l : List PS} {mp mp' : List (Nat × Nat)} {vs : List (AV S)} {ds : List (fL S)}, PS.takes tb mp l vs = some (ds, mp') → Sub mp mp' ∧ (gi mp → gi mp')
 | [], mp, mp', vs, ds, h => by
   cases vs with
   | nil =>
     simp only [PS.takes, Option.some.injEq, Prod.mk.injEq] at h
     obtain ⟨_, rfl⟩ := h
     exact ⟨Sub.refl _, id⟩
   | cons => simp [PS.takes] at h
 | s :: l, mp, mp', vs, ds, h => by
   cases vs with
   | nil => simp [PS.takes] at h
   | cons v vs =>
     simp only [PS.takes] at h
     obtain ⟨p, hp, h⟩ := Option.bind_eq_some_iff.1 h
     obtain ⟨q, hq, h⟩ := Option.map_eq_some_iff.1 h
     obtain ⟨pd, pm⟩ := p
     obtain ⟨qd, qm⟩ := q
     simp only [Prod.mk.injEq] at h
     obtain ⟨_, rfl⟩ := h
     obtain ⟨a1, a2⟩ := PS.gT hp
     obtain ⟨b1, b2⟩ := PS.iB hq
     exact ⟨a1.trans b1, fun hM => b2 (a2 hM)⟩
end
theorem vz {tm : List (Nat × Nat × AV S)} : ∀ {l : List (Nat × PS)} {mp mp' : List (Nat × Nat)} {ds : List (fL S)}, kG tb tm mp l = some (ds, mp') → Sub mp mp' ∧ (gi mp → gi mp')
 | [], mp, mp', ds, h => by
   simp only [kG, Option.some.injEq, Prod.mk.injEq] at h
   obtain ⟨_, rfl⟩ := h
   exact ⟨Sub.refl _, id⟩
 | (t, s) :: l, mp, mp', ds, h => by
   simp only [kG] at h
   obtain ⟨a, ha, h⟩ := Option.bind_eq_some_iff.1 h
   obtain ⟨p, hp, h⟩ := Option.bind_eq_some_iff.1 h
   obtain ⟨r, hr, h⟩ := Option.map_eq_some_iff.1 h
   obtain ⟨pd, pm⟩ := p
   obtain ⟨rd, rm⟩ := r
   simp only [Prod.mk.injEq] at h
   obtain ⟨_, rfl⟩ := h
   obtain ⟨a1, a2⟩ := PS.gT hp
   obtain ⟨b1, b2⟩ := vz hr
   exact ⟨a1.trans b1, fun hM => b2 (a2 hM)⟩
theorem OS.gT {s : OS} {mp mp' : List (Nat × Nat)} {a : AO S} {ds : List (fL S)} (h : OS.take tb mp s a = some (ds, mp')) : Sub mp mp' ∧ (gi mp → gi mp') := by
 unfold OS.take at h
 split at h
 · split at h
   · obtain ⟨p, hp, h⟩ := Option.bind_eq_some_iff.1 h
     obtain ⟨pd, pv, pm⟩ := p
     split at h
     · simp only [Option.some.injEq, Prod.mk.injEq] at h
       obtain ⟨_, rfl⟩ := h
       exact CS.iB hp
     · cases h
   · cases h
 · split at h
   · simp only [Option.some.injEq, Prod.mk.injEq] at h
     obtain ⟨_, rfl⟩ := h
     exact ⟨Sub.refl _, id⟩
   · cases h
 · split at h
   · simp only [Option.some.injEq, Prod.mk.injEq] at h
     obtain ⟨_, rfl⟩ := h
     exact ⟨Sub.refl _, id⟩
   · cases h
 · split at h
   · exact vz h
   · cases h
 · split at h
   · simp only [Option.some.injEq, Prod.mk.injEq] at h
     obtain ⟨_, rfl⟩ := h
     exact ⟨Sub.refl _, id⟩
   · cases h
 · split at h
   · simp only [Option.some.injEq, Prod.mk.injEq] at h
     obtain ⟨_, rfl⟩ := h
     exact ⟨Sub.refl _, id⟩
   · cases h
 · split at h
   · obtain ⟨mp1, hu, h⟩ := Option.map_eq_some_iff.1 h
     simp only [Prod.mk.injEq] at h
     obtain ⟨_, rfl⟩ := h
     exact ⟨(du hu).1, (du hu).2.1⟩
   · cases h
 · split at h
   · obtain ⟨mp1, hu, h⟩ := Option.map_eq_some_iff.1 h
     simp only [Prod.mk.injEq] at h
     obtain ⟨_, rfl⟩ := h
     exact ⟨(du hu).1, (du hu).2.1⟩
   · cases h
 · cases h
theorem OS.ly {ob : List (Nat × Nat × AO S)} : ∀ {l : List OS} {mp mp' : List (Nat × Nat)} {o : Nat} {ds : List (fL S)}, OS.takes tb ob mp o l = some (ds, mp') →
 Sub mp mp' ∧ (gi mp → gi mp') ∧ ∀ i, o ≤ i → i < o + l.length → ∃ q a, look i mp' = some q ∧ look q ob = some a
 | [], mp, mp', o, ds, h => by
   simp only [OS.takes, Option.some.injEq, Prod.mk.injEq] at h
   obtain ⟨rfl, rfl⟩ := h
   exact ⟨Sub.refl _, id, fun i h1 h2 => by simp at h2; omega⟩
 | s :: l, mp, mp', o, ds, h => by
   simp only [OS.takes] at h
   obtain ⟨q, hq, h⟩ := Option.bind_eq_some_iff.1 h
   obtain ⟨a, ha, h⟩ := Option.bind_eq_some_iff.1 h
   obtain ⟨p, hp, h⟩ := Option.bind_eq_some_iff.1 h
   obtain ⟨r, hr, h⟩ := Option.map_eq_some_iff.1 h
   obtain ⟨rd, rm⟩ := r
   simp only [Prod.mk.injEq] at h
   obtain ⟨_, rfl⟩ := h
   obtain ⟨a1, a2⟩ := OS.gT hp
   obtain ⟨b1, b2, b3⟩ := OS.ly hr
   refine ⟨a1.trans b1, fun hM => b2 (a2 hM), fun i h1 h2 => ?_⟩
   by_cases e : i = o
   · subst e; exact ⟨q, a, b1 _ _ (a1 _ _ hq), ha⟩
   · exact b3 i (by omega) (by simp at h2; omega)
theorem OS.pO {g : GG S} {m : Mem} {ob : List (Nat × Nat × AO S)} : ∀ {l : List OS} {mp mp' mp1 : List (Nat × Nat)} {o : Nat} {ds : List (fL S)} {L : List az}, OS.takes tb ob mp o l = some (ds, mp') → Sub mp' mp1 → dm K g m (pick ob (uJ mp1 o l.length)) L →
 ∀ (g' : GG S) (ids : Nat → Nat) (ds0 : List (fL S)) (as : List (AO S)) (ds1 : List (fL S)), D0 mp1 g g' ids → OS.da tb ids l (ds ++ ds0) = some (as, ds1) → ds1 = ds0 ∧ CG K g' m ids o as L ∧ as.length = l.length
 | [], mp, mp', mp1, o, ds, L, h, hS, hL, g', ids, ds0, as, ds1, hR, hf => by
   simp only [OS.takes, Option.some.injEq, Prod.mk.injEq] at h
   obtain ⟨rfl, rfl⟩ := h
   simp only [List.nil_append, OS.da] at hf
   cases hf
   exact ⟨rfl, hL, rfl⟩
 | s :: l, mp, mp', mp1, o, ds, L, h, hS, hL, g', ids, ds0, as, ds1, hR, hf => by
   simp only [OS.takes] at h
   obtain ⟨q, hq, h⟩ := Option.bind_eq_some_iff.1 h
   obtain ⟨a, ha, h⟩ := Option.bind_eq_some_iff.1 h
   obtain ⟨p, hp, h⟩ := Option.bind_eq_some_iff.1 h
   obtain ⟨r, hr, h⟩ := Option.map_eq_some_iff.1 h
   obtain ⟨pd, pm⟩ := p
   obtain ⟨rd, rm⟩ := r
   simp only [Prod.mk.injEq] at h
   obtain ⟨rfl, rfl⟩ := h
   have a1 := (OS.gT hp).1
   have b1 := (OS.ly hr).1
   have hq1 : look o mp1 = some q := hS _ _ (b1 _ _ (a1 _ _ hq))
   simp only [List.length_cons, uJ, hq1, pick, ha, dm] at hL
   obtain ⟨e, L', rfl, h1, h2, h3⟩ := hL
   obtain ⟨_, _, a3⟩ := OS.ja hp h2
   simp only [List.append_assoc, OS.da] at hf
   obtain ⟨p1, hp1, hf1⟩ := Option.bind_eq_some_iff.1 hf
   obtain ⟨q1, hq1', hf2⟩ := Option.map_eq_some_iff.1 hf1
   obtain ⟨w1, r1⟩ := p1
   obtain ⟨w2, r2⟩ := q1
   clear hf hf1
   obtain ⟨rfl, k2⟩ := a3 g' ids (ids o) _ _ _ (hR.sub (b1.trans hS)) (fun gh hgh => hR _ _ _ hq1 hgh) hp1
   obtain ⟨rfl, l2, l3⟩ := OS.pO hr hS h3 g' ids _ _ _ hR hq1'
   simp only [Option.some.injEq, Prod.mk.injEq] at hf2
   obtain ⟨rfl, rfl⟩ := hf2
   exact ⟨rfl, ⟨e, L', rfl, k2, l2⟩, by simp [l3]⟩
def Hk (bk : Nat → Option Gh) : GG S := { bk := bk, vv := fun _ => none, oo := fun _ => none }
def lf : List KS → List az → List az
 | .kept :: l, e :: L => e :: lf l L
 | _ :: l, _ :: L => lf l L
 | _, _ => []
theorem yN {γ : Type} {k : (o : Out) → HT S o.b9 → Option γ} {r : γ} : ∀ {os : List Out} {y : gH S os}, Jn os y k = some r → wD os y fun o z => k o z = some r
 | [], _, h => by cases h
 | [o], y, h => h
 | _ :: _ :: _, Sum.inl _, h => h
 | _ :: p :: os, Sum.inr _, h => yN (os := p :: os) h
theorem zU {p : (o : Out) → HT S o.b9 → Prop} : ∀ {os : List Out} {y : gH S os}, wD os y p → ∃ o z, o ∈ os ∧ p o z ∧ ∀ q : (o : Out) → HT S o.b9 → Prop, wD os y q → q o z
 | [], _, h => h.elim
 | [o], y, h => ⟨o, y, List.mem_cons_self, h, fun q hq => hq⟩
 | o :: _ :: _, Sum.inl z, h => ⟨o, z, List.mem_cons_self, h, fun q hq => hq⟩
 | _ :: o' :: os, Sum.inr _, h => by
   obtain ⟨o1, z1, h1, h2, h3⟩ := zU (os := o' :: os) h
   exact ⟨o1, z1, List.mem_cons_of_mem _ h1, h2, fun q hq => h3 q hq⟩
theorem yO {p q : (o : Out) → HT S o.b9 → Prop} : ∀ {os : List Out} {y : gH S os}, wD os y p → (∀ o z, o ∈ os → p o z → q o z) → wD os y q
 | [], _, h, _ => h.elim
 | [o], y, h, hq => hq o y List.mem_cons_self h
 | o :: _ :: _, Sum.inl z, h, hq => hq o z List.mem_cons_self h
 | _ :: o' :: os, Sum.inr _, h, hq => yO (os := o' :: os) h fun o z ho => hq o z (List.mem_cons_of_mem _ ho)
theorem sD {n : Nat} {v : AV S} {σ0 σ : AS S} : ∀ {os : List Out} {y : gH S os}, lM tb n v σ0 σ os = some y → wD os y fun o z => finish tb n o v σ0 σ = some z
 | [], _, h => by cases h
 | [o], y, h => h
 | o :: p :: os, y, h => by
   unfold lM at h
   split at h
   · rename_i z hz; cases h; exact hz
   · obtain ⟨z, hz, rfl⟩ := Option.map_eq_some_iff.1 h
     exact sD (os := p :: os) hz
theorem vj {α : Type} {p : (o : Out) → HT S o.b9 → Prop} {q : α → (o : Out) → HT S o.b9 → Prop} : ∀ {os : List Out} {y : gH S os}, wD os y p → (∀ o z, o ∈ os → p o z → ∃ x, q x o z) → ∃ x, wD os y (q x)
 | [], _, h, _ => h.elim
 | [o], y, h, hq => hq o y List.mem_cons_self h
 | o :: _ :: _, Sum.inl z, h, hq => hq o z List.mem_cons_self h
 | _ :: o' :: os, Sum.inr _, h, hq => vj (os := o' :: os) h fun o z ho => hq o z (List.mem_cons_of_mem _ ho)
def GL (K : cV tb) (n : Nat) (o : Out) (bk : Nat → Option Gh) (L : List az) (y : HT S o.b9) (v : Value) (m' : Mem) (L' : List az) : Prop :=
 ∃ (CB : Nat → Option Gh) (Ln : List az), L' = lf o.bh L ++ Ln ∧ (∀ i, i < n → CB i = bk i) ∧ (∀ i, o.bh.length ≤ i → CB i = none) ∧
  ∀ (g : GG S) (ids : Nat → Nat) (ds : List (fL S)) (out : AV S) (ds1 : List (fL S)) (l : List (Nat × AO S)), (∀ i h, CB i = some h → g.bk (ids i) = some h) → kj o.CB (mM o.b9 y) = some ds → PS.fill tb ids o.out ds = some (out, ds1) → OS.outs tb ids 0 o.bh ds1 = some l →
   aA K g m' out v ∧ wu K g m' l Ln
def aL (K : cV tb) (c : bO S) (bk : Nat → Option Gh) (L : List az) (y : gH S c.outs) (v : Value) (m' : Mem) (L' : List az) : Prop := wD c.outs y fun o z => GL K c.br.length o bk L z v m' L'
def qM (P : Program) (f : FuncId) (vals : List Value) (w : World) (R : Ending → World → Prop) : Prop :=
 if f ≤ 999999 then tH P f ∧ Calls P f vals.toArray w R
 else ∃ l args fn tmps kI body, vals = .func (.yield l) #[] #[] :: args ∧ (Instr.yield l args.toArray).run P w = .ok (.round l fn tmps kI body) w ∧ RoundIn (FW none) 0 P l fn tmps kI body w R
theorem qM.mono {P : Program} {f : FuncId} {vals : List Value} {w : World} {R R' : Ending → World → Prop} (h : qM P f vals w R) (hr : ∀ e w', R e w' → R' e w') : qM P f vals w R' := by
 unfold qM at *
 split at h
 · rename_i hf
   rw [if_pos hf]; exact ⟨h.1, Calls.mono h.2 hr⟩
 · rename_i hf
   rw [if_neg hf]
   obtain ⟨l, args, fn, tmps, kI, body, h1, h2, h3⟩ := h
   exact ⟨l, args, fn, tmps, kI, body, h1, h2, h3.mono hr⟩
theorem gE {t : Nat} : ∀ {l : List Nat}, has t l = true ↔ t ∈ l
 | [] => by simp [has]
 | u :: l => by
   unfold has
   by_cases h : u = t
   · subst h; simp
   · rw [jh h]; simp only [gE, List.mem_cons]
     exact ⟨.inr, fun h' => h'.resolve_left fun e => h e.symm⟩
theorem fJ : ∀ {l : List Nat}, eJ l = true → l.Nodup
 | [], _ => List.nodup_nil
 | x :: l, h => by
   unfold eJ at h
   split at h
   · cases h
   · rename_i hx
     exact List.nodup_cons.2 ⟨fun hm => (by rw [gE.2 hm] at hx; cases hx), fJ h⟩
def NC.Nat (c : NC S) : Prop := ∀ (γ γ' : Type) (φ : γ → γ') (_ : ∀ x y, φ x = φ y → x = y) (k : HT S c.out.b9 → Option γ) (k' : HT S c.out.b9 → Option γ') (_ : ∀ y, k' y = (k y).map φ) (x : HT S c.ls), c.KG γ' k' x = (c.KG γ k x).map φ
structure jZ (P : Program) (K : cV tb) (c : NC S) : Prop where
 nat : c.Nat
 go : ∀ (x : HT S c.ls) (γ : Type) (k : HT S c.out.b9 → Option γ) (z : γ) (bk : Nat → Option Gh) (m : Mem) (vals : List Value) (L : List az), c.KG γ k x = some z → (∀ i, c.br.length ≤ i → bk i = none) →
  (∀ ds args ds1 br ds2, kj c.bk (mM c.ls x) = some ds → PS.da tb id c.ins ds = some (args, ds1) → OS.da tb id c.br ds1 = some (br, ds2) → bU K (Hk bk) m args vals ∧ CG K (Hk bk) m id 0 br L) → L.length = c.br.length → Ow m L → K.B m →
  qM P c.f vals m.w fun e w' => ∃ y v m' L', k y = some z ∧ e = .returned v ∧ m'.w = w' ∧ St (ak L) m m' L' ∧ GL K c.br.length c.out bk L y v m' L'
def CE (P : Program) (K : cV tb) {γ : Type} (f : FuncId) (args : List (AV S)) (ob : List (_root_.Nat × _root_.Nat × AO S)) (ct : _root_.Nat) (k : iH S → Option γ) (z : γ) : Prop := ∃ rd rm : List _root_.Nat, (rd ++ rm).Nodup ∧
 ∀ (g : GG S) (m : Mem) (vals : List Value) (Lr Lm : List az), rS g ct → K.B m → bU K g m args vals → dm K g m (pick ob rd) Lr → dm K g m (pick ob rm) Lm → Ow m (Lr ++ Lm) →
  qM P f vals m.w fun e w' => ∃ v res, e = .returned v ∧ k res = some z ∧ res.rd = rd ∧ res.rm = rm ∧ res.add.length ≤ 31 ∧ ve K g m ct Lr Lm res v w'
structure Sound (P : Program) (K : cV tb) (c : bO S) : Prop where
 go : ∀ (x : HT S c.ls) (y : gH S c.outs) (bk : Nat → Option Gh) (m : Mem) (vals : List Value) (L : List az), c.cx x = some y → (∀ i, c.br.length ≤ i → bk i = none) →
  (∀ ds args ds1 br ds2, kj c.bk (mM c.ls x) = some ds → PS.da tb id c.ins ds = some (args, ds1) → OS.da tb id c.br ds1 = some (br, ds2) → bU K (Hk bk) m args vals ∧ CG K (Hk bk) m id 0 br L) → L.length = c.br.length → Ow m L → K.B m →
  qM P c.f vals m.w fun e w' => ∃ v m' L', e = .returned v ∧ m'.w = w' ∧ St (ak L) m m' L' ∧ aL K c bk L y v m' L'
section
variable {g : GG S} {m : Mem} {ob : List (Nat × Nat × AO S)} {mp : List (Nat × Nat)}
theorem oz : ∀ {l : List KS} {o n : Nat} {Lr Lm : List az}, n ≤ l.length → (∀ i, o ≤ i → i < o + n → ∃ q a, look i mp = some q ∧ look q ob = some a) → (∀ i q, look i mp = some q → i < o + n) →
 dm K g m (pick ob (dn mp true o l)) Lr → dm K g m (pick ob (dn mp false o l)) Lm → ∃ L, dm K g m (pick ob (uJ mp o n)) L ∧ List.Perm L (Lr ++ Lm) ∧ lf l L = Lr ∧ L.length = n
 | [], o, n, Lr, Lm, hn, h1, h2, hr, hm => by
   simp only [List.length_nil, Nat.le_zero_eq] at hn
   subst hn
   simp only [dn, pick, dm] at hr hm
   subst hr; subst hm
   exact ⟨[], rfl, List.Perm.refl _, rfl, rfl⟩
 | s :: l, o, 0, Lr, Lm, hn, h1, h2, hr, hm => by
   have hN : look o mp = none := by
    cases h : look o mp with
    | none => rfl
    | some q => have := h2 o q h; omega
   simp only [dn, hN] at hr hm
   obtain ⟨L, k1, k2, k3, k4⟩ := oz (n := 0) (Nat.zero_le _) (fun i a b => by omega) (fun i q h => by have := h2 i q h; omega) hr hm
   have : L = [] := List.length_eq_zero_iff.1 k4
   subst this
   refine ⟨[], k1, k2, ?_, rfl⟩
   have hLr : Lr = [] := by
    have := k2.length_eq
    simp only [List.length_nil, List.length_append] at this
    exact List.length_eq_zero_iff.1 (by omega)
   rw [hLr]
   cases s <;> rfl
 | s :: l, o, n + 1, Lr, Lm, hn, h1, h2, hr, hm => by
   obtain ⟨q, a, hq, ha⟩ := h1 o (by omega) (by omega)
   have hn' : n ≤ l.length := by simpa using hn
   have h1' : ∀ i, o + 1 ≤ i → i < o + 1 + n → ∃ q a, look i mp = some q ∧ look q ob = some a := fun i a b => h1 i (by omega) (by omega)
   have h2' : ∀ i q, look i mp = some q → i < o + 1 + n := fun i q h => by have := h2 i q h; omega
   simp only [dn, hq] at hr hm
   cases hs : s.Qu with
   | true =>
     simp only [hs, beq_self_eq_true, pick, ha, dm] at hr
     obtain ⟨e, Lr', rfl, g1, g2, g3⟩ := hr
     have hm' : dm K g m (pick ob (dn mp false (o + 1) l)) Lm := by simpa [hs] using hm
     obtain ⟨L, k1, k2, k3, k4⟩ := oz hn' h1' h2' g3 hm'
     refine ⟨e :: L, ?_, ?_, ?_, by simp [k4]⟩
     · simp only [uJ, hq, pick, ha, dm]; exact ⟨e, L, rfl, g1, g2, k1⟩
     · exact k2.cons e
     · cases s <;> first | (cases hs; done) | skip
       simp only [lf, k3]
   | false =>
     simp only [hs, beq_self_eq_true, pick, ha, dm] at hm
     obtain ⟨e, Lm', rfl, g1, g2, g3⟩ := hm
     have hr' : dm K g m (pick ob (dn mp true (o + 1) l)) Lr := by simpa [hs] using hr
     obtain ⟨L, k1, k2, k3, k4⟩ := oz hn' h1' h2' hr' g3
     refine ⟨e :: L, ?_, ?_, ?_, by simp [k4]⟩
     · simp only [uJ, hq, pick, ha, dm]; exact ⟨e, L, rfl, g1, g2, k1⟩
     · exact (k2.cons e).trans List.perm_middle.symm
     · cases s <;> first | (cases hs; done) | simp only [lf, k3]
theorem oC {ids : Nat → Nat} : ∀ {l : List KS} {o : Nat} {ds : List (fL S)} {r : List (Nat × AO S)}, OS.outs tb ids o l ds = some r → r.length ≤ l.length
 | [], o, ds, r, h => by
   cases ds with
   | nil => simp only [OS.outs, Option.some.injEq] at h; subst h; simp
   | cons => simp [OS.outs] at h
 | .now s :: l, o, ds, r, h => by
   simp only [OS.outs] at h
   obtain ⟨p, hp, h⟩ := Option.bind_eq_some_iff.1 h
   obtain ⟨q, hq, rfl⟩ := Option.map_eq_some_iff.1 h
   have := oC hq
   simp; omega
 | .kept :: l, o, ds, r, h => by
   simp only [OS.outs] at h
   have := oC h
   simp; omega
 | .gone :: l, o, ds, r, h => by
   simp only [OS.outs] at h
   have := oC h
   simp; omega
theorem EN {B B' : List Nat} {m0 m : Mem} {L : List az} (h : St B m0 m L) (hb : ∀ b, b ∈ B ↔ b ∈ B') : St B' m0 m L :=
 ⟨h.le, fun b h1 h2 => h.kept b h1 fun h3 => h2 ((hb b).1 h3), fun b o h1 => (h.news b o h1).imp id (fun h2 => h2.imp id (hb b).1), h.ow, fun b h1 => (h.wJ b h1).imp (hb b).1 id⟩
end
section
variable {P : Program} {ob : List (Nat × Nat × AO S)} {ct : Nat} {γ : Type} {k : iH S → Option γ} {r : γ} {f : FuncId} {args : List (AV S)}
theorem oc : ∀ {Φ : List (bO S)}, (∀ c ∈ Φ, Sound P K c) → lI tb f args ob ct k Φ = some r → ∃ res, k res = some r ∧ res.add.length ≤ 31 ∧
 ∀ (g : GG S) (m : Mem) (vals : List Value) (Lr Lm : List az), rS g ct → K.B m → bU K g m args vals → dm K g m (pick ob res.rd) Lr → dm K g m (pick ob res.rm) Lm → Ow m (Lr ++ Lm) →
  qM P f vals m.w fun e w' => ∃ v, e = .returned v ∧ ve K g m ct Lr Lm res v w'
 | [], _, h => by simp [lI] at h
 | c :: cs, hΦ, h => by
   simp only [lI] at h
   split at h
   · exact oc (fun c hc => hΦ c (List.mem_cons_of_mem _ hc)) h
   · rename_i hcf
     have hcf := Nat.eq_of_beq_eq_true hcf
     split at h
     · exact oc (fun c hc => hΦ c (List.mem_cons_of_mem _ hc)) h
     · rename_i x mp hx
       have hS := hΦ c List.mem_cons_self
       obtain ⟨⟨pd, mp0⟩, hp, hx1⟩ := Option.bind_eq_some_iff.1 hx
       obtain ⟨⟨qd, mp1⟩, hq, hx2⟩ := Option.bind_eq_some_iff.1 hx1
       obtain ⟨ds, hds, hx3⟩ := Option.bind_eq_some_iff.1 hx2
       obtain ⟨x', hx', hx4⟩ := Option.map_eq_some_iff.1 hx3
       simp only [Prod.mk.injEq] at hx4
       obtain ⟨rfl, rfl⟩ := hx4
       clear hx hx1 hx2 hx3
       obtain ⟨y, hy, h1⟩ := Option.bind_eq_some_iff.1 h
       obtain ⟨o, z, ho, h1, hy2⟩ := zU (yN h1)
       split at h1
       · rename_i v l hvl
         obtain ⟨u, hchk, hvl1⟩ := Option.bind_eq_some_iff.1 hvl
         obtain ⟨ds', hds', hvl2⟩ := Option.bind_eq_some_iff.1 hvl1
         obtain ⟨⟨out, ds1⟩, hout, hvl3⟩ := Option.bind_eq_some_iff.1 hvl2
         obtain ⟨l', hl', hvl4⟩ := Option.map_eq_some_iff.1 hvl3
         simp only [Prod.mk.injEq] at hvl4
         obtain ⟨rfl, rfl⟩ := hvl4
         have hfew := c.A1
         simp only [Bool.and_eq_true] at hfew
         have hf1 := Nat.le_of_ble_eq_true (List.all_eq_true.1 hfew.2 o ho)
         have hf2 := Nat.le_of_ble_eq_true o.A1
         refine ⟨_, h1, Nat.le_trans (oC hl') (by omega), fun g m vals Lr Lm hF hB hA hR hM hO => ?_⟩
         have hkey : ∀ i q, look i mp1 = some q → i < c.br.length := fun i q hi => by
          unfold JB at hchk
          split at hchk
          · rename_i hb
            have := Nat.le_of_ble_eq_true (List.all_eq_true.1 hb _ (eA hi))
            exact this
          · cases hchk
         obtain ⟨s1, s2, s3⟩ := PS.gU hp hA
         obtain ⟨t1, t2, t3⟩ := OS.ly hq
         have hMp := t2 (s2 gi.nil)
         obtain ⟨L, k1, k2, k3, k4⟩ := oz (o := 0) (n := c.br.length) hf1 (fun i a b => t3 i a (by omega)) (fun i q hi => by have := hkey i q hi; omega) hR hM
         have hRen : D0 mp1 g (Hk fun i => (look i mp1).bind g.bk) id := fun o q h ho hb => by
          show ((look o mp1).bind g.bk) = some h
          rw [ho]; exact hb
         have hdx := wY hx'
         have key := hS.go x' y (fun i => (look i mp1).bind g.bk) m vals L hy (fun i hi => by
          cases hl : look i mp1 with
          | none => rfl
          | some q => have := hkey i q hl; omega) (fun ds2 args2 ds3 obs2 ds4 e1 e2 e3 => by
            rw [hdx] at e1
            have := pJ c.LC hds e1
            subst this
            obtain ⟨rfl, j2⟩ := s3 _ _ _ _ _ (hRen.sub t1) e2
            obtain ⟨_, j3, _⟩ := OS.pO hq (Sub.refl _) k1 _ _ [] _ _ hRen (by rw [List.append_nil]; exact e3)
            exact ⟨j2, j3⟩) k4 (hO.perm k2.symm) hB
         rw [hcf] at key
         refine key.mono fun e w' ⟨v', m', L', q1, q2, q3, q4⟩ => ⟨v', q1, ?_⟩
         obtain ⟨CB, Ln, rfl, b1, b2, b3⟩ := hy2 _ q4
         rw [k3] at q3
         let g2 : GG S := { g with bk := fun i => if ct + 1 ≤ i ∧ i < ct + 32 then (match look (i - (ct + 1)) mp1 with | some _ => g.bk i | none => CB (i - (ct + 1))) else g.bk i }
         have hge : GE g g2 := ⟨fun i z hz => by
          show (if _ then _ else _) = _
          rw [if_neg fun hh => by have := (hF i (by omega) (by omega)).1; rw [this] at hz; cases hz]
          exact hz, fun _ _ h => h, fun _ _ h => h⟩
         obtain ⟨c1, c2⟩ := b3 g2 (lH mp1 ct) ds' out ds1 l' (fun i z hz => by
          unfold lH
          split
          · rename_i q hq'
            have : CB i = g.bk q := by
             rw [b1 i (hkey i q hq')]
             show (look i mp1).bind g.bk = _
             rw [hq']; rfl
            exact hge.bk _ _ (by rw [← this]; exact hz)
          · rename_i hn
            have hi : i < o.bh.length := Nat.lt_of_not_le fun h' => by rw [b2 i h'] at hz; cases hz
            show (if _ then _ else _) = _
            rw [if_pos (by omega), show ct + 1 + i - (ct + 1) = i by omega, hn]
            exact hz) hds' hout hl'
         refine ⟨m', g2, Ln, q2, EN q3 (fun b => ?_), hge, rfl, rfl, fun i hi => ?_, c2, c1⟩
         · rw [bH, bH]
           exact ⟨fun ⟨e, h1, h2⟩ => ⟨e, k2.mem_iff.1 h1, h2⟩, fun ⟨e, h1, h2⟩ => ⟨e, k2.mem_iff.2 h1, h2⟩⟩
         · refine Classical.byContradiction fun hn => hi ?_
           show (if _ then _ else _) = _
           rw [if_neg hn]
       · cases h1
theorem pG : ∀ {Ψ : List (NC S)}, (∀ c ∈ Ψ, jZ P K c) → jt tb f args ob ct k Ψ = some r → CE P K f args ob ct k r
 | [], _, h => by simp [jt] at h
 | c :: cs, hΨ, h => by
   simp only [jt] at h
   split at h
   · exact pG (fun c hc => hΨ c (List.mem_cons_of_mem _ hc)) h
   · rename_i hcf
     have hcf := Nat.eq_of_beq_eq_true hcf
     split at h
     · exact pG (fun c hc => hΨ c (List.mem_cons_of_mem _ hc)) h
     · rename_i x mp hx
       have hS := hΨ c List.mem_cons_self
       obtain ⟨⟨pd, mp0⟩, hp, hx1⟩ := Option.bind_eq_some_iff.1 hx
       obtain ⟨⟨qd, mp1⟩, hq, hx2⟩ := Option.bind_eq_some_iff.1 hx1
       obtain ⟨ds, hds, hx3⟩ := Option.bind_eq_some_iff.1 hx2
       obtain ⟨x', hx', hx4⟩ := Option.map_eq_some_iff.1 hx3
       simp only [Prod.mk.injEq] at hx4
       obtain ⟨rfl, rfl⟩ := hx4
       clear hx hx1 hx2 hx3
       obtain ⟨u, hchk, hy⟩ := Option.bind_eq_some_iff.1 h
       have hchk : ((mp1.all fun p => Nat.ble (p.1 + 1) c.br.length) && eJ (dn mp1 true 0 c.out.bh ++ dn mp1 false 0 c.out.bh)) = true := by
        unfold JB at hchk
        split at hchk
        · rename_i hb; exact hb
        · cases hchk
       simp only [Bool.and_eq_true] at hchk
       have hfew := c.A1
       simp only [Bool.and_eq_true] at hfew
       have hf1 := Nat.le_of_ble_eq_true hfew.2
       have hf2 := Nat.le_of_ble_eq_true c.out.A1
       refine ⟨dn mp1 true 0 c.out.bh, dn mp1 false 0 c.out.bh, fJ hchk.2, fun g m vals Lr Lm hF hB hA hR hM hO => ?_⟩
       have hkey : ∀ i q, look i mp1 = some q → i < c.br.length := fun i q hi => by
        exact Nat.le_of_ble_eq_true (List.all_eq_true.1 hchk.1 _ (eA hi))
       obtain ⟨s1, s2, s3⟩ := PS.gU hp hA
       obtain ⟨t1, t2, t3⟩ := OS.ly hq
       have hMp := t2 (s2 gi.nil)
       obtain ⟨L, k1, k2, k3, k4⟩ := oz (o := 0) (n := c.br.length) hf1 (fun i a b => t3 i a (by omega)) (fun i q hi => by have := hkey i q hi; omega) hR hM
       have hRen : D0 mp1 g (Hk fun i => (look i mp1).bind g.bk) id := fun o q h ho hb => by
        show ((look o mp1).bind g.bk) = some h
        rw [ho]; exact hb
       have hdx := wY hx'
       have key := hS.go x' _ _ _ (fun i => (look i mp1).bind g.bk) m vals L hy (fun i hi => by
        cases hl : look i mp1 with
        | none => rfl
        | some q => have := hkey i q hl; omega) (fun ds2 args2 ds3 obs2 ds4 e1 e2 e3 => by
          rw [hdx] at e1
          have := pJ c.LC hds e1
          subst this
          obtain ⟨rfl, j2⟩ := s3 _ _ _ _ _ (hRen.sub t1) e2
          obtain ⟨_, j3, _⟩ := OS.pO hq (Sub.refl _) k1 _ _ [] _ _ hRen (by rw [List.append_nil]; exact e3)
          exact ⟨j2, j3⟩) k4 (hO.perm k2.symm) hB
       rw [hcf] at key
       refine key.mono fun e w' ⟨y, v', m', L', hky, q1, q2, q3, q4⟩ => ?_
       split at hky
       case h_2 => cases hky
       case h_1 out l' hvl =>
       obtain ⟨ds', hds', hvl2⟩ := Option.bind_eq_some_iff.1 hvl
       obtain ⟨⟨out', ds1⟩, hout, hvl3⟩ := Option.bind_eq_some_iff.1 hvl2
       obtain ⟨l2, hl', hvl4⟩ := Option.map_eq_some_iff.1 hvl3
       simp only [Prod.mk.injEq] at hvl4
       obtain ⟨rfl, rfl⟩ := hvl4
       refine ⟨v', _, q1, hky, rfl, rfl, Nat.le_trans (oC hl') (by omega), ?_⟩
       obtain ⟨CB, Ln, rfl, b1, b2, b3⟩ := q4
       rw [k3] at q3
       let g2 : GG S := { g with bk := fun i => if ct + 1 ≤ i ∧ i < ct + 32 then (match look (i - (ct + 1)) mp1 with | some _ => g.bk i | none => CB (i - (ct + 1))) else g.bk i }
       have hge : GE g g2 := ⟨fun i z hz => by
        show (if _ then _ else _) = _
        rw [if_neg fun hh => by have := (hF i (by omega) (by omega)).1; rw [this] at hz; cases hz]
        exact hz, fun _ _ h => h, fun _ _ h => h⟩
       obtain ⟨c1, c2⟩ := b3 g2 (lH mp1 ct) ds' out' ds1 l2 (fun i z hz => by
        unfold lH
        split
        · rename_i q hq'
          have : CB i = g.bk q := by
           rw [b1 i (hkey i q hq')]
           show (look i mp1).bind g.bk = _
           rw [hq']; rfl
          exact hge.bk _ _ (by rw [← this]; exact hz)
        · rename_i hn
          have hi : i < c.out.bh.length := Nat.lt_of_not_le fun h' => by rw [b2 i h'] at hz; cases hz
          show (if _ then _ else _) = _
          rw [if_pos (by omega), show ct + 1 + i - (ct + 1) = i by omega, hn]
          exact hz) hds' hout hl'
       refine ⟨m', g2, Ln, q2, EN q3 (fun b => ?_), hge, rfl, rfl, fun i hi => ?_, c2, c1⟩
       · rw [bH, bH]
         exact ⟨fun ⟨e, h1, h2⟩ => ⟨e, k2.mem_iff.1 h1, h2⟩, fun ⟨e, h1, h2⟩ => ⟨e, k2.mem_iff.2 h1, h2⟩⟩
       · refine Classical.byContradiction fun hn => hi ?_
         show (if _ then _ else _) = _
         rw [if_neg hn]
theorem CW {Φ : List (bO S)} (hΦ : ∀ c ∈ Φ, Sound P K c) {kk : iH S → Option γ} (h : lI tb f args ob ct (fun r' => match eJ (r'.rd ++ r'.rm) with | true => kk r' | false => none) Φ = some r) : CE P K f args ob ct kk r := by
 obtain ⟨res, h1, h2, h4⟩ := oc hΦ h
 split at h1
 · rename_i hn
   exact ⟨res.rd, res.rm, fJ hn, fun g m vals Lr Lm hF hB hA hR hM hO => (h4 g m vals Lr Lm hF hB hA hR hM hO).mono fun e w' ⟨v, hv, hD⟩ => ⟨v, res, hv, h1, rfl, rfl, h2, hD⟩⟩
 · cases h1
theorem jI {g : GG S} {m : Mem} : ∀ {as bs : List (AV S)} {us vs : List Value}, bU K g m as us → bU K g m bs vs → bU K g m (as ++ bs) (us ++ vs)
 | [], bs, us, vs, h, h' => by simp only [bU] at h; subst h; exact h'
 | a :: as, bs, us, vs, h, h' => by
   simp only [bU] at h
   obtain ⟨x, r, rfl, h1, h2⟩ := h
   simp only [List.cons_append, bU]
   exact ⟨x, r ++ vs, rfl, h1, jI h2 h'⟩
theorem Jr {g : GG S} {m : Mem} {v : CV S} {u : Value} (h : au K g m v [u] ∨ Gt K g m v u) : aA K g m (tI v) u := by
 rcases h with h | h
 · cases v <;> first | (simp only [tI, aA]; exact h) | (simp only [au] at h)
 · cases v <;> first | (simp only [Gt] at h; done) | skip
   simp only [Gt] at h
   obtain ⟨cs, h1, h2⟩ := h
   simp only [tI, aA]
   exact ⟨cs, h1, sx.1 h2⟩
theorem kK {g : GG S} {m : Mem} : ∀ {vs : List (CV S)} {us : List Value}, fD K g m vs us → bU K g m (vs.map tI) us
 | [], us, h => by simp only [fD] at h; subst h; simp only [List.map_nil, bU]
 | v :: vs, us, h => by
   simp only [fD] at h
   obtain ⟨u, us', rfl, h1, h2⟩ := h
   simp only [List.map_cons, bU]
   exact ⟨u, us', rfl, Jr h1, kK h2⟩
theorem pj {g : GG S} {m : Mem} {a : Act} : ∀ {l : List Operand} {xs : List (AV S)}, lC K g m a l xs → bU K g m xs (l.map a.eval)
 | [], xs, h => by simp only [lC] at h; subst h; simp only [List.map_nil, bU]
 | x :: l, xs, h => by
   obtain ⟨v, vs, rfl, h1, h2⟩ := h
   simp only [List.map_cons, bU]
   exact ⟨_, _, rfl, h1, pj h2⟩
theorem J8 {o : Oper} {Φ : List (bO S)} (hΦ : ∀ c ∈ Φ, Sound P K c) {y : Operand} {ops : Array Operand} {ts : Array TypeId} (ho : o.op = .call ⟨.value y, ops, ts⟩) {f : FuncId} {first caps : List (CV S)} {xs : List (AV S)} (hf : f ≤ 999999)
 (h : lI tb f (first.map tI ++ xs ++ caps.map tI) ob ct k Φ = some r) : cP P K o (.one (.fn (.func f) first caps) :: xs) ob ct k r := by
 have hox : o.op.operands.toList = y :: ops.toList := by rw [ho]; simp [Op.operands, Call.operands]
 obtain ⟨res, h1, h2, h4⟩ := oc hΦ h
 refine ⟨res, h1, h2, fun g a m Lr Lm hF hB ha hR hM hO => ?_⟩
 rw [hox] at ha
 obtain ⟨v, vs, e, a1, a2⟩ := ha
 cases e
 simp only [aA, au] at a1
 obtain ⟨v1, v2, e1, a3, a4⟩ := a1
 have key := h4 g m _ Lr Lm hF hB (jI (jI (kK a3) (pj a2)) (kK a4)) hR hM hO
 unfold qM at key
 rw [if_pos hf] at key
 obtain ⟨h3, key⟩ := key
 have hrun : (execOp a.eval o).run P m.w = .ok (.enter f (v1 ++ ops.toList.map a.eval ++ v2).toArray) m.w := by
  unfold execOp
  have e2 : a.eval y = .func (.func f) v1.toArray v2.toArray := by simpa using e1
  simp only [ho, resolve, e2, Deferred.ofValue, Sem.run_bind, Sem.run_pure, Result.andThen_ok, invoke]
  rw [h3]
  congr 2
  apply Array.ext'
  simp
 unfold ab
 rw [hrun]
 exact key
theorem H6 {o : Oper} {Φ : List (bO S)} (hΦ : ∀ c ∈ Φ, Sound P K c) {y : Operand} {ops : Array Operand} {ts : Array TypeId} (ho : o.op = .call ⟨.value y, ops, ts⟩) {q rr : Nat} {xs : List (AV S)}
 (h : lI tb (NL rr) (.one (.yl q) :: xs) ob ct k Φ = some r) : cP P K o (.one (.yl q) :: xs) ob ct k r := by
 have hox : o.op.operands.toList = y :: ops.toList := by rw [ho]; simp [Op.operands, Call.operands]
 obtain ⟨res, h1, h2, h4⟩ := oc hΦ h
 refine ⟨res, h1, h2, fun g a m Lr Lm hF hB ha hR hM hO => ?_⟩
 rw [hox] at ha
 obtain ⟨v, vs, e, a1, a2⟩ := ha
 cases e
 simp only [aA, au] at a1
 obtain ⟨gh, l0, e1, e2, e3⟩ := a1
 have key := h4 g m (a.eval y :: ops.toList.map a.eval) Lr Lm hF hB (by simp only [bU]; exact ⟨_, _, rfl, by simp only [aA, au]; exact ⟨gh, l0, e1, e2, e3⟩, pj a2⟩) hR hM hO
 unfold qM at key
 rw [if_neg (show ¬ (NL rr ≤ 999999) from Nat.not_le.2 (show 999999 < 1000000 + rr from by omega))] at key
 obtain ⟨l, args, fn, tmps, kI, body, k1, k2, k3⟩ := key
 simp only [List.cons.injEq] at k1
 obtain ⟨k1, rfl⟩ := k1
 have hrun : (execOp a.eval o).run P m.w = .ok (.round l fn tmps kI body) m.w := by
  unfold execOp
  simp only [ho, resolve, k1, Deferred.ofValue, Sem.run_bind, Sem.run_pure, Result.andThen_ok, invoke]
  have e4 : ((ops.toList.map a.eval).toArray : Array Value) = ops.map a.eval := by apply Array.ext'; simp
  rw [e4] at k2
  simpa using k2
 unfold ab
 rw [hrun]
 exact k3
end
end E
end Go.Proofs.YtekpafdhgkocaaaGreat
