/- Part of what the laws need: plain words, the walker and its laws, the program's functions. -/
import Derived.Test.YthhmandpjlggcaaZEvS
namespace Go.Proofs.Ythhmandpjlggcaa
open Go.RowKit G
namespace E
variable {S : Nat → Type} {tb : Tb S} {K : TbOK tb}
mutual
theorem CS.take_sub : ∀ {s : CS} {mp mp' : List (Nat × Nat)} {vs vs' : List (CV S)} {ds : List (Dyn S)}, CS.take tb mp s vs = some (ds, vs', mp') → Sub mp mp' ∧ (MpOK mp → MpOK mp')
  | .dat c, mp, mp', vs, vs', ds, h => by
    simp only [CS.take] at h
    obtain ⟨p, hp, h⟩ := Option.map_eq_some_iff.1 h
    simp only [Prod.mk.injEq] at h
    obtain ⟨_, _, rfl⟩ := h
    exact ⟨Sub.refl _, id⟩
  | .rw o c, mp, mp', vs, vs', ds, h => by
    cases vs with
    | nil => simp [CS.take] at h
    | cons v vs =>
      cases v <;> first | (simp [CS.take] at h; done) | skip
      simp only [CS.take] at h
      split at h
      · obtain ⟨mp1, hu, h⟩ := Option.map_eq_some_iff.1 h
        simp only [Prod.mk.injEq] at h
        obtain ⟨_, _, rfl⟩ := h
        exact ⟨(uni_ok hu).1, (uni_ok hu).2.1⟩
      · cases h
  | .aw o, mp, mp', vs, vs', ds, h => by
    cases vs with
    | nil => simp [CS.take] at h
    | cons v vs =>
      cases v <;> first | (simp [CS.take] at h; done) | skip
      simp only [CS.take] at h
      obtain ⟨mp1, hu, h⟩ := Option.map_eq_some_iff.1 h
      simp only [Prod.mk.injEq] at h
      obtain ⟨_, _, rfl⟩ := h
      exact ⟨(uni_ok hu).1, (uni_ok hu).2.1⟩
  | .ptr o off, mp, mp', vs, vs', ds, h => by
    cases vs with
    | nil => simp [CS.take] at h
    | cons v vs =>
      cases v <;> first | (simp [CS.take] at h; done) | skip
      simp only [CS.take] at h
      split at h
      · obtain ⟨mp1, hu, h⟩ := Option.map_eq_some_iff.1 h
        simp only [Prod.mk.injEq] at h
        obtain ⟨_, _, rfl⟩ := h
        exact ⟨(uni_ok hu).1, (uni_ok hu).2.1⟩
      · cases h
  | .nilP, mp, mp', vs, vs', ds, h => by
    cases vs with
    | nil => simp [CS.take] at h
    | cons v vs =>
      cases v <;> first | (simp [CS.take] at h; done) | skip
      simp only [CS.take, Option.some.injEq, Prod.mk.injEq] at h
      obtain ⟨_, _, rfl⟩ := h
      exact ⟨Sub.refl _, id⟩
  | .nilF, mp, mp', vs, vs', ds, h => by
    cases vs with
    | nil => simp [CS.take] at h
    | cons v vs =>
      cases v <;> first | (simp [CS.take] at h; done) | skip
      simp only [CS.take, Option.some.injEq, Prod.mk.injEq] at h
      obtain ⟨_, _, rfl⟩ := h
      exact ⟨Sub.refl _, id⟩
  | .nilS, mp, mp', vs, vs', ds, h => by
    cases vs with
    | nil => simp [CS.take] at h
    | cons v vs =>
      cases v <;> first | (simp [CS.take] at h; done) | skip
      simp only [CS.take, Option.some.injEq, Prod.mk.injEq] at h
      obtain ⟨_, _, rfl⟩ := h
      exact ⟨Sub.refl _, id⟩
  | .tt b, mp, mp', vs, vs', ds, h => by
    cases vs with
    | nil => simp [CS.take] at h
    | cons v vs =>
      cases v <;> first | (simp [CS.take] at h; done) | skip
      simp only [CS.take] at h
      split at h
      · simp only [Option.some.injEq, Prod.mk.injEq] at h
        obtain ⟨_, _, rfl⟩ := h
        exact ⟨Sub.refl _, id⟩
      · cases h
  | .yl o, mp, mp', vs, vs', ds, h => by
    cases vs with
    | nil => simp [CS.take] at h
    | cons v vs =>
      cases v <;> first | (simp [CS.take] at h; done) | skip
      simp only [CS.take] at h
      obtain ⟨mp1, hu, h⟩ := Option.map_eq_some_iff.1 h
      simp only [Prod.mk.injEq] at h
      obtain ⟨_, _, rfl⟩ := h
      exact ⟨(uni_ok hu).1, (uni_ok hu).2.1⟩
  | .mpo o, mp, mp', vs, vs', ds, h => by
    cases vs with
    | nil => simp [CS.take] at h
    | cons v vs =>
      cases v <;> first | (simp [CS.take] at h; done) | skip
      simp only [CS.take] at h
      obtain ⟨mp1, hu, h⟩ := Option.map_eq_some_iff.1 h
      simp only [Prod.mk.injEq] at h
      obtain ⟨_, _, rfl⟩ := h
      exact ⟨(uni_ok hu).1, (uni_ok hu).2.1⟩
  | .fn f xs ys, mp, mp', vs, vs', ds, h => by
    cases vs with
    | nil => simp [CS.take] at h
    | cons v vs =>
      cases v <;> first | (simp [CS.take] at h; done) | skip
      rename_i fn first caps
      cases fn <;> first | (simp [CS.take] at h; done) | skip
      simp only [CS.take] at h
      split at h
      · obtain ⟨p, hp, h⟩ := Option.bind_eq_some_iff.1 h
        obtain ⟨pd, pv, pm⟩ := p
        split at h
        · obtain ⟨q, hq, h⟩ := Option.bind_eq_some_iff.1 h
          obtain ⟨qd, qv, qm⟩ := q
          split at h
          · simp only [Option.some.injEq, Prod.mk.injEq] at h
            obtain ⟨_, _, rfl⟩ := h
            obtain ⟨a1, a2⟩ := CS.takes_sub hp
            obtain ⟨b1, b2⟩ := CS.takes_sub hq
            exact ⟨a1.trans b1, fun hM => b2 (a2 hM)⟩
          · cases h
        · cases h
      · cases h
theorem CS.takes_sub : ∀ {l : List CS} {mp mp' : List (Nat × Nat)} {vs vs' : List (CV S)} {ds : List (Dyn S)}, CS.takes tb mp l vs = some (ds, vs', mp') → Sub mp mp' ∧ (MpOK mp → MpOK mp')
  | [], mp, mp', vs, vs', ds, h => by
    simp only [CS.takes, Option.some.injEq, Prod.mk.injEq] at h
    obtain ⟨_, _, rfl⟩ := h
    exact ⟨Sub.refl _, id⟩
  | s :: l, mp, mp', vs, vs', ds, h => by
    simp only [CS.takes] at h
    obtain ⟨p, hp, h⟩ := Option.bind_eq_some_iff.1 h
    obtain ⟨pd, pv, pm⟩ := p
    obtain ⟨q, hq, h⟩ := Option.map_eq_some_iff.1 h
    obtain ⟨qd, qv, qm⟩ := q
    simp only [Prod.mk.injEq] at h
    obtain ⟨_, _, rfl⟩ := h
    obtain ⟨a1, a2⟩ := CS.take_sub hp
    obtain ⟨b1, b2⟩ := CS.takes_sub hq
    exact ⟨a1.trans b1, fun hM => b2 (a2 hM)⟩
end
mutual
theorem PS.take_sub : ∀ {s : PS} {mp mp' : List (Nat × Nat)} {v : AV S} {ds : List (Dyn S)}, PS.take tb mp s v = some (ds, mp') → Sub mp mp' ∧ (MpOK mp → MpOK mp')
  | .one s, mp, mp', v, ds, h => by
    cases v <;> first | (simp [PS.take] at h; done) | skip
    simp only [PS.take] at h
    obtain ⟨p, hp, h⟩ := Option.bind_eq_some_iff.1 h
    obtain ⟨pd, pv, pm⟩ := p
    split at h
    · simp only [Option.some.injEq, Prod.mk.injEq] at h
      obtain ⟨_, rfl⟩ := h
      exact CS.take_sub hp
    · cases h
  | .agg l, mp, mp', v, ds, h => by
    cases v <;> first | (simp [PS.take] at h; done) | skip
    simp only [PS.take] at h
    obtain ⟨p, hp, h⟩ := Option.bind_eq_some_iff.1 h
    obtain ⟨pd, pv, pm⟩ := p
    split at h
    · simp only [Option.some.injEq, Prod.mk.injEq] at h
      obtain ⟨_, rfl⟩ := h
      exact CS.takes_sub hp
    · cases h
  | .tup l, mp, mp', v, ds, h => by
    cases v <;> first | (simp [PS.take] at h; done) | skip
    simp only [PS.take] at h
    exact PS.takes_sub h
theorem PS.takes_sub : ∀ {l : List PS} {mp mp' : List (Nat × Nat)} {vs : List (AV S)} {ds : List (Dyn S)}, PS.takes tb mp l vs = some (ds, mp') → Sub mp mp' ∧ (MpOK mp → MpOK mp')
  | [], mp, mp', vs, ds, h => by
    cases vs with
    | nil =>
      simp only [PS.takes, Option.some.injEq, Prod.mk.injEq] at h
      obtain ⟨_, rfl⟩ := h
      exact ⟨Sub.refl _, id⟩
    | cons => simp [PS.takes] at h
  | s :: l, mp, mp', vs, ds, h => by
    cases vs with
    | nil => simp [PS.takes] at h
    | cons v vs =>
      simp only [PS.takes] at h
      obtain ⟨p, hp, h⟩ := Option.bind_eq_some_iff.1 h
      obtain ⟨q, hq, h⟩ := Option.map_eq_some_iff.1 h
      obtain ⟨pd, pm⟩ := p
      obtain ⟨qd, qm⟩ := q
      simp only [Prod.mk.injEq] at h
      obtain ⟨_, rfl⟩ := h
      obtain ⟨a1, a2⟩ := PS.take_sub hp
      obtain ⟨b1, b2⟩ := PS.takes_sub hq
      exact ⟨a1.trans b1, fun hM => b2 (a2 hM)⟩
end
theorem takeTms_sub {tm : List (Nat × Nat × AV S)} : ∀ {l : List (Nat × PS)} {mp mp' : List (Nat × Nat)} {ds : List (Dyn S)}, takeTms tb tm mp l = some (ds, mp') → Sub mp mp' ∧ (MpOK mp → MpOK mp')
  | [], mp, mp', ds, h => by
    simp only [takeTms, Option.some.injEq, Prod.mk.injEq] at h
    obtain ⟨_, rfl⟩ := h
    exact ⟨Sub.refl _, id⟩
  | (t, s) :: l, mp, mp', ds, h => by
    simp only [takeTms] at h
    obtain ⟨a, ha, h⟩ := Option.bind_eq_some_iff.1 h
    obtain ⟨p, hp, h⟩ := Option.bind_eq_some_iff.1 h
    obtain ⟨r, hr, h⟩ := Option.map_eq_some_iff.1 h
    obtain ⟨pd, pm⟩ := p
    obtain ⟨rd, rm⟩ := r
    simp only [Prod.mk.injEq] at h
    obtain ⟨_, rfl⟩ := h
    obtain ⟨a1, a2⟩ := PS.take_sub hp
    obtain ⟨b1, b2⟩ := takeTms_sub hr
    exact ⟨a1.trans b1, fun hM => b2 (a2 hM)⟩
theorem OS.take_sub {s : OS} {mp mp' : List (Nat × Nat)} {a : AO S} {ds : List (Dyn S)} (h : OS.take tb mp s a = some (ds, mp')) : Sub mp mp' ∧ (MpOK mp → MpOK mp') := by
  unfold OS.take at h
  split at h
  · split at h
    · obtain ⟨p, hp, h⟩ := Option.bind_eq_some_iff.1 h
      obtain ⟨pd, pv, pm⟩ := p
      split at h
      · simp only [Option.some.injEq, Prod.mk.injEq] at h
        obtain ⟨_, rfl⟩ := h
        exact CS.takes_sub hp
      · cases h
    · cases h
  · split at h
    · simp only [Option.some.injEq, Prod.mk.injEq] at h
      obtain ⟨_, rfl⟩ := h
      exact ⟨Sub.refl _, id⟩
    · cases h
  · split at h
    · simp only [Option.some.injEq, Prod.mk.injEq] at h
      obtain ⟨_, rfl⟩ := h
      exact ⟨Sub.refl _, id⟩
    · cases h
  · split at h
    · exact takeTms_sub h
    · cases h
  · split at h
    · simp only [Option.some.injEq, Prod.mk.injEq] at h
      obtain ⟨_, rfl⟩ := h
      exact ⟨Sub.refl _, id⟩
    · cases h
  · split at h
    · simp only [Option.some.injEq, Prod.mk.injEq] at h
      obtain ⟨_, rfl⟩ := h
      exact ⟨Sub.refl _, id⟩
    · cases h
  · cases h
theorem OS.takes_sub' {ob : List (Nat × Nat × AO S)} : ∀ {l : List OS} {mp mp' : List (Nat × Nat)} {o : Nat} {ds : List (Dyn S)}, OS.takes tb ob mp o l = some (ds, mp') →
    Sub mp mp' ∧ (MpOK mp → MpOK mp') ∧ ∀ i, o ≤ i → i < o + l.length → ∃ q a, look i mp' = some q ∧ look q ob = some a
  | [], mp, mp', o, ds, h => by
    simp only [OS.takes, Option.some.injEq, Prod.mk.injEq] at h
    obtain ⟨rfl, rfl⟩ := h
    exact ⟨Sub.refl _, id, fun i h1 h2 => by simp at h2; omega⟩
  | s :: l, mp, mp', o, ds, h => by
    simp only [OS.takes] at h
    obtain ⟨q, hq, h⟩ := Option.bind_eq_some_iff.1 h
    obtain ⟨a, ha, h⟩ := Option.bind_eq_some_iff.1 h
    obtain ⟨p, hp, h⟩ := Option.bind_eq_some_iff.1 h
    obtain ⟨r, hr, h⟩ := Option.map_eq_some_iff.1 h
    obtain ⟨rd, rm⟩ := r
    simp only [Prod.mk.injEq] at h
    obtain ⟨_, rfl⟩ := h
    obtain ⟨a1, a2⟩ := OS.take_sub hp
    obtain ⟨b1, b2, b3⟩ := OS.takes_sub' hr
    refine ⟨a1.trans b1, fun hM => b2 (a2 hM), fun i h1 h2 => ?_⟩
    by_cases e : i = o
    · subst e; exact ⟨q, a, b1 _ _ (a1 _ _ hq), ha⟩
    · exact b3 i (by omega) (by simp at h2; omega)
theorem OS.takes_ok' {g : GG S} {m : Mem} {ob : List (Nat × Nat × AO S)} : ∀ {l : List OS} {mp mp' mp1 : List (Nat × Nat)} {o : Nat} {ds : List (Dyn S)} {L : List Ent}, OS.takes tb ob mp o l = some (ds, mp') → Sub mp' mp1 → ObR K g m (pick ob (qsOf mp1 o l.length)) L →
      ∀ (g' : GG S) (ids : Nat → Nat) (ds0 : List (Dyn S)) (as : List (AO S)) (ds1 : List (Dyn S)), Ren mp1 g g' ids → OS.fills tb ids l (ds ++ ds0) = some (as, ds1) → ds1 = ds0 ∧ ObL K g' m ids o as L ∧ as.length = l.length
  | [], mp, mp', mp1, o, ds, L, h, hS, hL, g', ids, ds0, as, ds1, hR, hf => by
    simp only [OS.takes, Option.some.injEq, Prod.mk.injEq] at h
    obtain ⟨rfl, rfl⟩ := h
    simp only [List.nil_append, OS.fills] at hf
    cases hf
    exact ⟨rfl, hL, rfl⟩
  | s :: l, mp, mp', mp1, o, ds, L, h, hS, hL, g', ids, ds0, as, ds1, hR, hf => by
    simp only [OS.takes] at h
    obtain ⟨q, hq, h⟩ := Option.bind_eq_some_iff.1 h
    obtain ⟨a, ha, h⟩ := Option.bind_eq_some_iff.1 h
    obtain ⟨p, hp, h⟩ := Option.bind_eq_some_iff.1 h
    obtain ⟨r, hr, h⟩ := Option.map_eq_some_iff.1 h
    obtain ⟨pd, pm⟩ := p
    obtain ⟨rd, rm⟩ := r
    simp only [Prod.mk.injEq] at h
    obtain ⟨rfl, rfl⟩ := h
    have a1 := (OS.take_sub hp).1
    have b1 := (OS.takes_sub' hr).1
    have hq1 : look o mp1 = some q := hS _ _ (b1 _ _ (a1 _ _ hq))
    simp only [List.length_cons, qsOf, hq1, pick, ha, ObR] at hL
    obtain ⟨e, L', rfl, h1, h2, h3⟩ := hL
    obtain ⟨_, _, a3⟩ := OS.take_ok hp h2
    simp only [List.append_assoc, OS.fills] at hf
    obtain ⟨p1, hp1, hf1⟩ := Option.bind_eq_some_iff.1 hf
    obtain ⟨q1, hq1', hf2⟩ := Option.map_eq_some_iff.1 hf1
    obtain ⟨w1, r1⟩ := p1
    obtain ⟨w2, r2⟩ := q1
    clear hf hf1
    obtain ⟨rfl, k2⟩ := a3 g' ids (ids o) _ _ _ (hR.sub (b1.trans hS)) (fun gh hgh => hR _ _ _ hq1 hgh) hp1
    obtain ⟨rfl, l2, l3⟩ := OS.takes_ok' hr hS h3 g' ids _ _ _ hR hq1'
    simp only [Option.some.injEq, Prod.mk.injEq] at hf2
    obtain ⟨rfl, rfl⟩ := hf2
    exact ⟨rfl, ⟨e, L', rfl, k2, l2⟩, by simp [l3]⟩
def gOf (bk : Nat → Option Gh) : GG S := { bk := bk, vv := fun _ => none, oo := fun _ => none }
def keptL : List KS → List Ent → List Ent
  | .kept :: l, e :: L => e :: keptL l L
  | _ :: l, _ :: L => keptL l L
  | _, _ => []
theorem altK_some {γ : Type} {k : (o : Out) → HT S o.ls' → Option γ} {r : γ} : ∀ {os : List Out} {y : AltT S os}, altK os y k = some r → altP os y fun o z => k o z = some r
  | [], _, h => by cases h
  | [o], y, h => h
  | _ :: _ :: _, Sum.inl _, h => h
  | _ :: p :: os, Sum.inr _, h => altK_some (os := p :: os) h
theorem altP_ex {p : (o : Out) → HT S o.ls' → Prop} : ∀ {os : List Out} {y : AltT S os}, altP os y p → ∃ o z, o ∈ os ∧ p o z ∧ ∀ q : (o : Out) → HT S o.ls' → Prop, altP os y q → q o z
  | [], _, h => h.elim
  | [o], y, h => ⟨o, y, List.mem_cons_self, h, fun q hq => hq⟩
  | o :: _ :: _, Sum.inl z, h => ⟨o, z, List.mem_cons_self, h, fun q hq => hq⟩
  | _ :: o' :: os, Sum.inr _, h => by
    obtain ⟨o1, z1, h1, h2, h3⟩ := altP_ex (os := o' :: os) h
    exact ⟨o1, z1, List.mem_cons_of_mem _ h1, h2, fun q hq => h3 q hq⟩
theorem altP_mono {p q : (o : Out) → HT S o.ls' → Prop} : ∀ {os : List Out} {y : AltT S os}, altP os y p → (∀ o z, o ∈ os → p o z → q o z) → altP os y q
  | [], _, h, _ => h.elim
  | [o], y, h, hq => hq o y List.mem_cons_self h
  | o :: _ :: _, Sum.inl z, h, hq => hq o z List.mem_cons_self h
  | _ :: o' :: os, Sum.inr _, h, hq => altP_mono (os := o' :: os) h fun o z ho => hq o z (List.mem_cons_of_mem _ ho)
theorem finishA_some {n : Nat} {v : AV S} {σ0 σ : AS S} : ∀ {os : List Out} {y : AltT S os}, finishA tb n v σ0 σ os = some y → altP os y fun o z => finish tb n o v σ0 σ = some z
  | [], _, h => by cases h
  | [o], y, h => h
  | o :: p :: os, y, h => by
    unfold finishA at h
    split at h
    · rename_i z hz; cases h; exact hz
    · obtain ⟨z, hz, rfl⟩ := Option.map_eq_some_iff.1 h
      exact finishA_some (os := p :: os) hz
theorem altP_choose {α : Type} {p : (o : Out) → HT S o.ls' → Prop} {q : α → (o : Out) → HT S o.ls' → Prop} : ∀ {os : List Out} {y : AltT S os}, altP os y p → (∀ o z, o ∈ os → p o z → ∃ x, q x o z) → ∃ x, altP os y (q x)
  | [], _, h, _ => h.elim
  | [o], y, h, hq => hq o y List.mem_cons_self h
  | o :: _ :: _, Sum.inl z, h, hq => hq o z List.mem_cons_self h
  | _ :: o' :: os, Sum.inr _, h, hq => altP_choose (os := o' :: os) h fun o z ho => hq o z (List.mem_cons_of_mem _ ho)
def Post1 (K : TbOK tb) (n : Nat) (o : Out) (bk : Nat → Option Gh) (L : List Ent) (y : HT S o.ls') (v : Value) (m' : Mem) (L' : List Ent) : Prop :=
  ∃ (bk' : Nat → Option Gh) (Ln : List Ent), L' = keptL o.obs' L ++ Ln ∧ (∀ i, i < n → bk' i = bk i) ∧ (∀ i, o.obs'.length ≤ i → bk' i = none) ∧
    ∀ (g : GG S) (ids : Nat → Nat) (ds : List (Dyn S)) (out : AV S) (ds1 : List (Dyn S)) (l : List (Nat × AO S)), (∀ i h, bk' i = some h → g.bk (ids i) = some h) → permD o.bk' (dynOf o.ls' y) = some ds → PS.fill tb ids o.out ds = some (out, ds1) → OS.outs tb ids 0 o.obs' ds1 = some l →
      avR K g m' out v ∧ AddR K g m' l Ln
def Post (K : TbOK tb) (c : Ctr S) (bk : Nat → Option Gh) (L : List Ent) (y : AltT S c.outs) (v : Value) (m' : Mem) (L' : List Ent) : Prop := altP c.outs y fun o z => Post1 K c.obs.length o bk L z v m' L'
def Does (P : Program) (f : FuncId) (vals : List Value) (w : World) (R : Ending → World → Prop) : Prop :=
  if f ≤ 999999 then Enters P f ∧ Calls P f vals.toArray w R
  else ∃ l args fn tmps asg body, vals = .func (.yield l) #[] #[] :: args ∧ (Instr.yield l args.toArray).run P w = .ok (.round l fn tmps asg body) w ∧ RoundIn (FW none) 0 P l fn tmps asg body w R
theorem Does.mono {P : Program} {f : FuncId} {vals : List Value} {w : World} {R R' : Ending → World → Prop} (h : Does P f vals w R) (hr : ∀ e w', R e w' → R' e w') : Does P f vals w R' := by
  unfold Does at *
  split at h
  · rename_i hf
    rw [if_pos hf]; exact ⟨h.1, Calls.mono h.2 hr⟩
  · rename_i hf
    rw [if_neg hf]
    obtain ⟨l, args, fn, tmps, asg, body, h1, h2, h3⟩ := h
    exact ⟨l, args, fn, tmps, asg, body, h1, h2, h3.mono hr⟩
structure Sound (P : Program) (K : TbOK tb) (c : Ctr S) : Prop where
  go : ∀ (x : HT S c.ls) (y : AltT S c.outs) (bk : Nat → Option Gh) (m : Mem) (vals : List Value) (L : List Ent), c.sem x = some y → (∀ i, c.obs.length ≤ i → bk i = none) →
    (∀ ds args ds1 obs ds2, permD c.bk (dynOf c.ls x) = some ds → PS.fills tb id c.ins ds = some (args, ds1) → OS.fills tb id c.obs ds1 = some (obs, ds2) → avsR K (gOf bk) m args vals ∧ ObL K (gOf bk) m id 0 obs L) → L.length = c.obs.length → Ow m L → K.B m →
    Does P c.f vals m.w fun e w' => ∃ v m' L', e = .returned v ∧ m'.w = w' ∧ St (blocksOf L) m m' L' ∧ Post K c bk L y v m' L'
section
variable {g : GG S} {m : Mem} {ob : List (Nat × Nat × AO S)} {mp : List (Nat × Nat)}
theorem merge_ok : ∀ {l : List KS} {o n : Nat} {Lr Lm : List Ent}, n ≤ l.length → (∀ i, o ≤ i → i < o + n → ∃ q a, look i mp = some q ∧ look q ob = some a) → (∀ i q, look i mp = some q → i < o + n) →
    ObR K g m (pick ob (keptIds mp true o l)) Lr → ObR K g m (pick ob (keptIds mp false o l)) Lm → ∃ L, ObR K g m (pick ob (qsOf mp o n)) L ∧ List.Perm L (Lr ++ Lm) ∧ keptL l L = Lr ∧ L.length = n
  | [], o, n, Lr, Lm, hn, h1, h2, hr, hm => by
    simp only [List.length_nil, Nat.le_zero_eq] at hn
    subst hn
    simp only [keptIds, pick, ObR] at hr hm
    subst hr; subst hm
    exact ⟨[], rfl, List.Perm.refl _, rfl, rfl⟩
  | s :: l, o, 0, Lr, Lm, hn, h1, h2, hr, hm => by
    have hN : look o mp = none := by
      cases h : look o mp with
      | none => rfl
      | some q => have := h2 o q h; omega
    simp only [keptIds, hN] at hr hm
    obtain ⟨L, k1, k2, k3, k4⟩ := merge_ok (n := 0) (Nat.zero_le _) (fun i a b => by omega) (fun i q h => by have := h2 i q h; omega) hr hm
    have : L = [] := List.length_eq_zero_iff.1 k4
    subst this
    refine ⟨[], k1, k2, ?_, rfl⟩
    have hLr : Lr = [] := by
      have := k2.length_eq
      simp only [List.length_nil, List.length_append] at this
      exact List.length_eq_zero_iff.1 (by omega)
    rw [hLr]
    cases s <;> rfl
  | s :: l, o, n + 1, Lr, Lm, hn, h1, h2, hr, hm => by
    obtain ⟨q, a, hq, ha⟩ := h1 o (by omega) (by omega)
    have hn' : n ≤ l.length := by simpa using hn
    have h1' : ∀ i, o + 1 ≤ i → i < o + 1 + n → ∃ q a, look i mp = some q ∧ look q ob = some a := fun i a b => h1 i (by omega) (by omega)
    have h2' : ∀ i q, look i mp = some q → i < o + 1 + n := fun i q h => by have := h2 i q h; omega
    simp only [keptIds, hq] at hr hm
    cases hs : s.isK with
    | true =>
      simp only [hs, beq_self_eq_true, pick, ha, ObR] at hr
      obtain ⟨e, Lr', rfl, g1, g2, g3⟩ := hr
      have hm' : ObR K g m (pick ob (keptIds mp false (o + 1) l)) Lm := by simpa [hs] using hm
      obtain ⟨L, k1, k2, k3, k4⟩ := merge_ok hn' h1' h2' g3 hm'
      refine ⟨e :: L, ?_, ?_, ?_, by simp [k4]⟩
      · simp only [qsOf, hq, pick, ha, ObR]; exact ⟨e, L, rfl, g1, g2, k1⟩
      · exact k2.cons e
      · cases s <;> first | (cases hs; done) | skip
        simp only [keptL, k3]
    | false =>
      simp only [hs, beq_self_eq_true, pick, ha, ObR] at hm
      obtain ⟨e, Lm', rfl, g1, g2, g3⟩ := hm
      have hr' : ObR K g m (pick ob (keptIds mp true (o + 1) l)) Lr := by simpa [hs] using hr
      obtain ⟨L, k1, k2, k3, k4⟩ := merge_ok hn' h1' h2' hr' g3
      refine ⟨e :: L, ?_, ?_, ?_, by simp [k4]⟩
      · simp only [qsOf, hq, pick, ha, ObR]; exact ⟨e, L, rfl, g1, g2, k1⟩
      · exact (k2.cons e).trans List.perm_middle.symm
      · cases s <;> first | (cases hs; done) | simp only [keptL, k3]
theorem outs_len {ids : Nat → Nat} : ∀ {l : List KS} {o : Nat} {ds : List (Dyn S)} {r : List (Nat × AO S)}, OS.outs tb ids o l ds = some r → r.length ≤ l.length
  | [], o, ds, r, h => by
    cases ds with
    | nil => simp only [OS.outs, Option.some.injEq] at h; subst h; simp
    | cons => simp [OS.outs] at h
  | .now s :: l, o, ds, r, h => by
    simp only [OS.outs] at h
    obtain ⟨p, hp, h⟩ := Option.bind_eq_some_iff.1 h
    obtain ⟨q, hq, rfl⟩ := Option.map_eq_some_iff.1 h
    have := outs_len hq
    simp; omega
  | .kept :: l, o, ds, r, h => by
    simp only [OS.outs] at h
    have := outs_len h
    simp; omega
  | .gone :: l, o, ds, r, h => by
    simp only [OS.outs] at h
    have := outs_len h
    simp; omega
theorem st_setB {B B' : List Nat} {m0 m : Mem} {L : List Ent} (h : St B m0 m L) (hb : ∀ b, b ∈ B ↔ b ∈ B') : St B' m0 m L :=
  ⟨h.le, fun b h1 h2 => h.kept b h1 fun h3 => h2 ((hb b).1 h3), fun b o h1 => (h.news b o h1).imp id (fun h2 => h2.imp id (hb b).1), h.ow, fun b h1 => (h.blk b h1).imp (hb b).1 id⟩
end
section
variable {P : Program} {ob : List (Nat × Nat × AO S)} {ct : Nat} {γ : Type} {k : Res S → Option γ} {r : γ} {f : FuncId} {args : List (AV S)}
theorem callK_ok : ∀ {Φ : List (Ctr S)}, (∀ c ∈ Φ, Sound P K c) → callK tb f args ob ct k Φ = some r → ∃ res, k res = some r ∧ res.add.length ≤ 31 ∧
    ∀ (g : GG S) (m : Mem) (vals : List Value) (Lr Lm : List Ent), Fresh g ct → K.B m → avsR K g m args vals → ObR K g m (pick ob res.rd) Lr → ObR K g m (pick ob res.rm) Lm → Ow m (Lr ++ Lm) →
      Does P f vals m.w fun e w' => ∃ v, e = .returned v ∧ Did K g m ct Lr Lm res v w'
  | [], _, h => by simp [callK] at h
  | c :: cs, hΦ, h => by
    simp only [callK] at h
    split at h
    · exact callK_ok (fun c hc => hΦ c (List.mem_cons_of_mem _ hc)) h
    · rename_i hcf
      have hcf := Nat.eq_of_beq_eq_true hcf
      split at h
      · exact callK_ok (fun c hc => hΦ c (List.mem_cons_of_mem _ hc)) h
      · rename_i x mp hx
        have hS := hΦ c List.mem_cons_self
        obtain ⟨⟨pd, mp0⟩, hp, hx1⟩ := Option.bind_eq_some_iff.1 hx
        obtain ⟨⟨qd, mp1⟩, hq, hx2⟩ := Option.bind_eq_some_iff.1 hx1
        obtain ⟨ds, hds, hx3⟩ := Option.bind_eq_some_iff.1 hx2
        obtain ⟨x', hx', hx4⟩ := Option.map_eq_some_iff.1 hx3
        simp only [Prod.mk.injEq] at hx4
        obtain ⟨rfl, rfl⟩ := hx4
        clear hx hx1 hx2 hx3
        obtain ⟨y, hy, h1⟩ := Option.bind_eq_some_iff.1 h
        obtain ⟨o, z, ho, h1, hy2⟩ := altP_ex (altK_some h1)
        split at h1
        · rename_i v l hvl
          obtain ⟨u, hchk, hvl1⟩ := Option.bind_eq_some_iff.1 hvl
          obtain ⟨ds', hds', hvl2⟩ := Option.bind_eq_some_iff.1 hvl1
          obtain ⟨⟨out, ds1⟩, hout, hvl3⟩ := Option.bind_eq_some_iff.1 hvl2
          obtain ⟨l', hl', hvl4⟩ := Option.map_eq_some_iff.1 hvl3
          simp only [Prod.mk.injEq] at hvl4
          obtain ⟨rfl, rfl⟩ := hvl4
          have hfew := c.few
          simp only [Bool.and_eq_true] at hfew
          have hf1 := Nat.le_of_ble_eq_true (List.all_eq_true.1 hfew.2 o ho)
          have hf2 := Nat.le_of_ble_eq_true o.few
          refine ⟨_, h1, Nat.le_trans (outs_len hl') (by omega), fun g m vals Lr Lm hF hB hA hR hM hO => ?_⟩
          have hkey : ∀ i q, look i mp1 = some q → i < c.obs.length := fun i q hi => by
            unfold chkB at hchk
            split at hchk
            · rename_i hb
              have := Nat.le_of_ble_eq_true (List.all_eq_true.1 hb _ (look_mem hi))
              exact this
            · cases hchk
          obtain ⟨s1, s2, s3⟩ := PS.takes_ok hp hA
          obtain ⟨t1, t2, t3⟩ := OS.takes_sub' hq
          have hMp := t2 (s2 MpOK.nil)
          obtain ⟨L, k1, k2, k3, k4⟩ := merge_ok (o := 0) (n := c.obs.length) hf1 (fun i a b => t3 i a (by omega)) (fun i q hi => by have := hkey i q hi; omega) hR hM
          have hRen : Ren mp1 g (gOf fun i => (look i mp1).bind g.bk) id := fun o q h ho hb => by
            show ((look o mp1).bind g.bk) = some h
            rw [ho]; exact hb
          have hdx := dyn_of hx'
          have key := hS.go x' y (fun i => (look i mp1).bind g.bk) m vals L hy (fun i hi => by
            cases hl : look i mp1 with
            | none => rfl
            | some q => have := hkey i q hl; omega) (fun ds2 args2 ds3 obs2 ds4 e1 e2 e3 => by
              rw [hdx] at e1
              have := perm_back c.pok hds e1
              subst this
              obtain ⟨rfl, j2⟩ := s3 _ _ _ _ _ (hRen.sub t1) e2
              obtain ⟨_, j3, _⟩ := OS.takes_ok' hq (Sub.refl _) k1 _ _ [] _ _ hRen (by rw [List.append_nil]; exact e3)
              exact ⟨j2, j3⟩) k4 (hO.perm k2.symm) hB
          rw [hcf] at key
          refine key.mono fun e w' ⟨v', m', L', q1, q2, q3, q4⟩ => ⟨v', q1, ?_⟩
          obtain ⟨bk', Ln, rfl, b1, b2, b3⟩ := hy2 _ q4
          rw [k3] at q3
          let g2 : GG S := { g with bk := fun i => if ct + 1 ≤ i ∧ i < ct + 32 then (match look (i - (ct + 1)) mp1 with | some _ => g.bk i | none => bk' (i - (ct + 1))) else g.bk i }
          have hge : GE g g2 := ⟨fun i z hz => by
            show (if _ then _ else _) = _
            rw [if_neg fun hh => by have := (hF i (by omega) (by omega)).1; rw [this] at hz; cases hz]
            exact hz, fun _ _ h => h, fun _ _ h => h⟩
          obtain ⟨c1, c2⟩ := b3 g2 (callIds mp1 ct) ds' out ds1 l' (fun i z hz => by
            unfold callIds
            split
            · rename_i q hq'
              have : bk' i = g.bk q := by
                rw [b1 i (hkey i q hq')]
                show (look i mp1).bind g.bk = _
                rw [hq']; rfl
              exact hge.bk _ _ (by rw [← this]; exact hz)
            · rename_i hn
              have hi : i < o.obs'.length := Nat.lt_of_not_le fun h' => by rw [b2 i h'] at hz; cases hz
              show (if _ then _ else _) = _
              rw [if_pos (by omega), show ct + 1 + i - (ct + 1) = i by omega, hn]
              exact hz) hds' hout hl'
          refine ⟨m', g2, Ln, q2, st_setB q3 (fun b => ?_), hge, rfl, rfl, fun i hi => ?_, c2, c1⟩
          · rw [mem_blocksOf, mem_blocksOf]
            exact ⟨fun ⟨e, h1, h2⟩ => ⟨e, k2.mem_iff.1 h1, h2⟩, fun ⟨e, h1, h2⟩ => ⟨e, k2.mem_iff.2 h1, h2⟩⟩
          · refine Classical.byContradiction fun hn => hi ?_
            show (if _ then _ else _) = _
            rw [if_neg hn]
        · cases h1
theorem avsR_append {g : GG S} {m : Mem} : ∀ {as bs : List (AV S)} {us vs : List Value}, avsR K g m as us → avsR K g m bs vs → avsR K g m (as ++ bs) (us ++ vs)
  | [], bs, us, vs, h, h' => by simp only [avsR] at h; subst h; exact h'
  | a :: as, bs, us, vs, h, h' => by
    simp only [avsR] at h
    obtain ⟨x, r, rfl, h1, h2⟩ := h
    simp only [List.cons_append, avsR]
    exact ⟨x, r ++ vs, rfl, h1, avsR_append h2 h'⟩
theorem avsR_ones {g : GG S} {m : Mem} : ∀ {vs : List (CV S)} {us : List Value}, cv1R K g m vs us → avsR K g m (vs.map .one) us
  | [], us, h => by simp only [cv1R] at h; subst h; simp only [List.map_nil, avsR]
  | v :: vs, us, h => by
    simp only [cv1R] at h
    obtain ⟨u, us', rfl, h1, h2⟩ := h
    simp only [List.map_cons, avsR]
    exact ⟨u, us', rfl, by simp only [avR]; exact h1, avsR_ones h2⟩
theorem avsR_oprs {g : GG S} {m : Mem} {a : Act} : ∀ {l : List Operand} {xs : List (AV S)}, oprs K g m a l xs → avsR K g m xs (l.map a.eval)
  | [], xs, h => by simp only [oprs] at h; subst h; simp only [List.map_nil, avsR]
  | x :: l, xs, h => by
    obtain ⟨v, vs, rfl, h1, h2⟩ := h
    simp only [List.map_cons, avsR]
    exact ⟨_, _, rfl, h1, avsR_oprs h2⟩
theorem ok_call {o : Oper} {Φ : List (Ctr S)} (hΦ : ∀ c ∈ Φ, Sound P K c) {y : Operand} {ops : Array Operand} {ts : Array TypeId} (ho : o.op = .call ⟨.value y, ops, ts⟩) {f : FuncId} {first caps : List (CV S)} {xs : List (AV S)} (hf : f ≤ 999999)
    (h : callK tb f (first.map .one ++ xs ++ caps.map .one) ob ct k Φ = some r) : Goes P K o (.one (.fn (.func f) first caps) :: xs) ob ct k r := by
  have hox : o.op.operands.toList = y :: ops.toList := by rw [ho]; simp [Op.operands, Call.operands]
  obtain ⟨res, h1, h2, h4⟩ := callK_ok hΦ h
  refine ⟨res, h1, h2, fun g a m Lr Lm hF hB ha hR hM hO => ?_⟩
  rw [hox] at ha
  obtain ⟨v, vs, e, a1, a2⟩ := ha
  cases e
  simp only [avR, cvR] at a1
  obtain ⟨v1, v2, e1, a3, a4⟩ := a1
  have key := h4 g m _ Lr Lm hF hB (avsR_append (avsR_append (avsR_ones a3) (avsR_oprs a2)) (avsR_ones a4)) hR hM hO
  unfold Does at key
  rw [if_pos hf] at key
  obtain ⟨h3, key⟩ := key
  have hrun : (execOp a.eval o).run P m.w = .ok (.enter f (v1 ++ ops.toList.map a.eval ++ v2).toArray) m.w := by
    unfold execOp
    have e2 : a.eval y = .func (.func f) v1.toArray v2.toArray := by simpa using e1
    simp only [ho, resolve, e2, Deferred.ofValue, Sem.run_bind, Sem.run_pure, Result.andThen_ok, invoke]
    rw [h3]
    congr 2
    apply Array.ext'
    simp
  unfold StepTo
  rw [hrun]
  exact key
theorem ok_yield {o : Oper} {Φ : List (Ctr S)} (hΦ : ∀ c ∈ Φ, Sound P K c) {y : Operand} {ops : Array Operand} {ts : Array TypeId} (ho : o.op = .call ⟨.value y, ops, ts⟩) {q rr : Nat} {xs : List (AV S)}
    (h : callK tb (yid rr) (.one (.yl q) :: xs) ob ct k Φ = some r) : Goes P K o (.one (.yl q) :: xs) ob ct k r := by
  have hox : o.op.operands.toList = y :: ops.toList := by rw [ho]; simp [Op.operands, Call.operands]
  obtain ⟨res, h1, h2, h4⟩ := callK_ok hΦ h
  refine ⟨res, h1, h2, fun g a m Lr Lm hF hB ha hR hM hO => ?_⟩
  rw [hox] at ha
  obtain ⟨v, vs, e, a1, a2⟩ := ha
  cases e
  simp only [avR, cvR] at a1
  obtain ⟨gh, l0, e1, e2, e3⟩ := a1
  have key := h4 g m (a.eval y :: ops.toList.map a.eval) Lr Lm hF hB (by simp only [avsR]; exact ⟨_, _, rfl, by simp only [avR, cvR]; exact ⟨gh, l0, e1, e2, e3⟩, avsR_oprs a2⟩) hR hM hO
  unfold Does at key
  rw [if_neg (show ¬ (yid rr ≤ 999999) from Nat.not_le.2 (show 999999 < 1000000 + rr from by omega))] at key
  obtain ⟨l, args, fn, tmps, asg, body, k1, k2, k3⟩ := key
  simp only [List.cons.injEq] at k1
  obtain ⟨k1, rfl⟩ := k1
  have hrun : (execOp a.eval o).run P m.w = .ok (.round l fn tmps asg body) m.w := by
    unfold execOp
    simp only [ho, resolve, k1, Deferred.ofValue, Sem.run_bind, Sem.run_pure, Result.andThen_ok, invoke]
    have e4 : ((ops.toList.map a.eval).toArray : Array Value) = ops.map a.eval := by apply Array.ext'; simp
    rw [e4] at k2
    simpa using k2
  unfold StepTo
  rw [hrun]
  exact k3
end
end E
end Go.Proofs.Ythhmandpjlggcaa
