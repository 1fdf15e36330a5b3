/- Part of what the laws need: plain words, the walker and its laws, the program's functions. -/
import Derived.Test.YtekpafdhgkocaaaGreatZEvB
namespace Go.Proofs.YtekpafdhgkocaaaGreat
open Go.RowKit G
namespace E
variable {S : Nat → Type} {tb : Tb S} {K : cV tb} {g : GG S} {m : Mem}
def Sub (mp mp' : List (Nat × Nat)) : Prop := ∀ o q, look o mp = some q → look o mp' = some q
theorem Sub.refl (mp : List (Nat × Nat)) : Sub mp mp := fun _ _ h => h
theorem Sub.trans {a b c : List (Nat × Nat)} (h : Sub a b) (k : Sub b c) : Sub a c := fun o q hq => k o q (h o q hq)
structure gi (mp : List (Nat × Nat)) : Prop where
 inj : ∀ o o' q, look o mp = some q → look o' mp = some q → o = o'
 small : ∀ o q, look o mp = some q → o ≤ 200
theorem gi.nil : gi [] := ⟨fun _ _ _ h _ => by simp [look] at h, fun _ _ h => by simp [look] at h⟩
theorem ax {α : Type} {t u : Nat} {x : α} {l : List (Nat × α)} : look t ((u, x) :: l) = if u = t then some x else look t l := by
 show (match Nat.beq u t with | true => some x | false => look t l) = _
 by_cases e : u = t
 · subst e; simp
 · rw [jh e, if_neg e]
theorem eA {α : Type} : ∀ {l : List (Nat × α)} {t : Nat} {x : α}, look t l = some x → (t, x) ∈ l
 | [], _, _, h => by cases h
 | (u, y) :: l, t, x, h => by
   rw [ax] at h
   by_cases e : u = t
   · rw [if_pos e] at h; cases h; subst e; exact List.mem_cons_self
   · rw [if_neg e] at h; exact List.mem_cons_of_mem _ (eA h)
theorem du {mp mp' : List (Nat × Nat)} {o q : Nat} (h : KX mp o q = some mp') : Sub mp mp' ∧ (gi mp → gi mp') ∧ look o mp' = some q := by
 unfold KX at h
 split at h
 · rename_i r hr
   split at h
   · rename_i he
     cases h
     exact ⟨Sub.refl _, id, by rw [hr, Nat.eq_of_beq_eq_true he]⟩
   · cases h
 · rename_i hn
   split at h
   · cases h
   · rename_i hb
     cases h
     simp only [Bool.or_eq_false_iff, Bool.not_eq_false'] at hb
     have hq : ∀ o', look o' mp ≠ some q := fun o' h' => by
      have := List.any_eq_false.1 hb.1 _ (eA h')
      simp at this
     refine ⟨fun o' q' h' => ?_, fun hM => ⟨fun a b r ha hb' => ?_, fun a r ha => ?_⟩, by rw [ax, if_pos rfl]⟩
     · rw [ax]
       by_cases e : o = o'
       · subst e; rw [hn] at h'; cases h'
       · rw [if_neg e]; exact h'
     · rw [ax] at ha hb'
       by_cases e : o = a
       · rw [if_pos e] at ha; cases ha
         by_cases e' : o = b
         · omega
         · rw [if_neg e'] at hb'; exact absurd hb' (hq _)
       · rw [if_neg e] at ha
         by_cases e' : o = b
         · rw [if_pos e'] at hb'; cases hb'; exact absurd ha (hq _)
         · rw [if_neg e'] at hb'; exact hM.inj a b r ha hb'
     · rw [ax] at ha
       by_cases e : o = a
       · subst e; exact Nat.le_of_ble_eq_true hb.2
       · rw [if_neg e] at ha; exact hM.small a r ha
def D0 (mp : List (Nat × Nat)) (g g' : GG S) (ids : Nat → Nat) : Prop := ∀ o q h, look o mp = some q → g.bk q = some h → g'.bk (ids o) = some h
theorem D0.sub {mp mp' : List (Nat × Nat)} {g g' : GG S} {ids : Nat → Nat} (h : D0 mp' g g' ids) (k : Sub mp mp') : D0 mp g g' ids := fun o q x ho hx => h o q x (k o q ho) hx
theorem z8 : ∀ {vs : List (CV S)} {us : List Value}, vs.all Qx = true → fD K g m vs us → bq K g m vs us
 | [], _, _, h => by simp only [fD] at h; exact h
 | v :: vs, _, hn, h => by
   simp only [List.all_cons, Bool.and_eq_true] at hn
   simp only [fD] at h
   obtain ⟨u, us', rfl, h1, h2⟩ := h
   have h1 : au K g m v [u] := h1.resolve_right fun h => by cases v <;> first | (simp only [Gt] at h; done) | (have := hn.1; cases this)
   exact ⟨[u], us', rfl, h1, z8 hn.2 h2⟩
theorem Aa : ∀ {vs : List (CV S)} {us : List Value}, vs.all Kh = true → bq K g m vs us → fD K g m vs us
 | [], _, _, h => by simp only [fD]; exact h
 | v :: vs, _, hn, ⟨c1, c2, rfl, h1, h2⟩ => by
   simp only [List.all_cons, Bool.and_eq_true, Kh] at hn
   have hl := h1.len
   rw [Nat.eq_of_beq_eq_true hn.1] at hl
   match c1, hl with
   | [u], _ =>
     simp only [fD]
     exact ⟨u, c2, rfl, .inl h1, Aa hn.2 h2⟩
def Lc (K : cV tb) (g : GG S) (m : Mem) (mp : List (Nat × Nat)) (ds : List (fL S)) (us : List Value) (fill : (Nat → Nat) → List (fL S) → Option (List (CV S) × List (fL S))) : Prop :=
 ∀ (g' : GG S) (ids : Nat → Nat) (ds0 : List (fL S)) (ws : List (CV S)) (ds1 : List (fL S)), D0 mp g g' ids → fill ids (ds ++ ds0) = some (ws, ds1) → ds1 = ds0 ∧ bq K g' m ws us
mutual
theorem CS.ja : ∀ {s : CS} {mp mp' : List (Nat × Nat)} {vs vs' : List (CV S)} {ds : List (fL S)} {us : List Value}, CS.take tb mp s vs = some (ds, vs', mp') → bq K g m vs us →
 Sub mp mp' ∧ (gi mp → gi mp') ∧ ∃ c1 c2, us = c1 ++ c2 ∧ bq K g m vs' c2 ∧ Lc K g m mp' ds c1 (fun ids => CS.fill tb ids s)
 | .af c, mp, mp', vs, vs', ds, us, h, hv => by
   simp only [CS.take] at h
   obtain ⟨p, hp, h⟩ := Option.map_eq_some_iff.1 h
   obtain ⟨x, r⟩ := p
   simp only [Prod.mk.injEq] at h
   obtain ⟨rfl, rfl, rfl⟩ := h
   obtain ⟨c1, c2, e, h1, h2⟩ := LB hp hv
   refine ⟨Sub.refl _, id, c1, c2, e, h2, fun g' ids ds0 ws ds1 hR hf => ?_⟩
   simp only [List.cons_append, List.nil_append, CS.fill] at hf
   split at hf
   · cases hf; exact ⟨rfl, yg h1⟩
   · cases hf
 | .rw o c, mp, mp', vs, vs', ds, us, h, hv => by
   cases vs with
   | nil => simp [CS.take] at h
   | cons v vs =>
     cases v <;> first | (simp [CS.take] at h; done) | skip
     rename_i q d l
     simp only [CS.take] at h
     split at h
     · rename_i hd _
       subst hd
       obtain ⟨mp1, hu, h⟩ := Option.map_eq_some_iff.1 h
       simp only [Prod.mk.injEq] at h
       obtain ⟨rfl, rfl, rfl⟩ := h
       obtain ⟨k1, k2, k3⟩ := du hu
       obtain ⟨c1, c2, e, h1, h2⟩ := hv
       refine ⟨k1, k2, c1, c2, e, h2, fun g' ids ds0 ws ds1 hR hf => ?_⟩
       simp only [List.cons_append, List.nil_append, CS.fill] at hf
       split at hf
       · cases hf
         refine ⟨rfl, fP ?_⟩
         simp only [au] at h1 ⊢
         obtain ⟨gh, l0, ad, j1, j2, j3, j4⟩ := h1
         exact ⟨gh, l0, ad, hR _ _ _ k3 j1, j2, j3, j4⟩
       · cases hf
     · cases h
 | .aw o, mp, mp', vs, vs', ds, us, h, hv => by
   cases vs with
   | nil => simp [CS.take] at h
   | cons v vs =>
     cases v <;> first | (simp [CS.take] at h; done) | skip
     rename_i q
     simp only [CS.take] at h
     obtain ⟨mp1, hu, h⟩ := Option.map_eq_some_iff.1 h
     simp only [Prod.mk.injEq] at h
     obtain ⟨rfl, rfl, rfl⟩ := h
     obtain ⟨k1, k2, k3⟩ := du hu
     obtain ⟨c1, c2, e, h1, h2⟩ := hv
     refine ⟨k1, k2, c1, c2, e, h2, fun g' ids ds0 ws ds1 hR hf => ?_⟩
     simp only [List.nil_append, CS.fill] at hf
     cases hf
     refine ⟨rfl, fP ?_⟩
     simp only [au] at h1 ⊢
     obtain ⟨gh, j1, j2⟩ := h1
     exact ⟨gh, hR _ _ _ k3 j1, j2⟩
 | .ptr o off, mp, mp', vs, vs', ds, us, h, hv => by
   cases vs with
   | nil => simp [CS.take] at h
   | cons v vs =>
     cases v <;> first | (simp [CS.take] at h; done) | skip
     rename_i q off'
     simp only [CS.take] at h
     split at h
     · rename_i he
       obtain rfl := Nat.eq_of_beq_eq_true he
       obtain ⟨mp1, hu, h⟩ := Option.map_eq_some_iff.1 h
       simp only [Prod.mk.injEq] at h
       obtain ⟨rfl, rfl, rfl⟩ := h
       obtain ⟨k1, k2, k3⟩ := du hu
       obtain ⟨c1, c2, e, h1, h2⟩ := hv
       refine ⟨k1, k2, c1, c2, e, h2, fun g' ids ds0 ws ds1 hR hf => ?_⟩
       simp only [List.nil_append, CS.fill] at hf
       cases hf
       refine ⟨rfl, fP ?_⟩
       simp only [au] at h1 ⊢
       obtain ⟨gh, b, j1, j2⟩ := h1
       exact ⟨gh, b, hR _ _ _ k3 j1, j2⟩
     · cases h
 | .dI, mp, mp', vs, vs', ds, us, h, hv => by
   cases vs with
   | nil => simp [CS.take] at h
   | cons v vs =>
     cases v <;> first | (simp [CS.take] at h; done) | skip
     simp only [CS.take, Option.some.injEq, Prod.mk.injEq] at h
     obtain ⟨rfl, rfl, rfl⟩ := h
     obtain ⟨c1, c2, e, h1, h2⟩ := hv
     refine ⟨Sub.refl _, id, c1, c2, e, h2, fun g' ids ds0 ws ds1 hR hf => ?_⟩
     simp only [List.nil_append, CS.fill] at hf
     cases hf
     refine ⟨rfl, fP ?_⟩
     simp only [au] at h1 ⊢; exact h1
 | .aU, mp, mp', vs, vs', ds, us, h, hv => by
   cases vs with
   | nil => simp [CS.take] at h
   | cons v vs =>
     cases v <;> first | (simp [CS.take] at h; done) | skip
     simp only [CS.take, Option.some.injEq, Prod.mk.injEq] at h
     obtain ⟨rfl, rfl, rfl⟩ := h
     obtain ⟨c1, c2, e, h1, h2⟩ := hv
     refine ⟨Sub.refl _, id, c1, c2, e, h2, fun g' ids ds0 ws ds1 hR hf => ?_⟩
     simp only [List.nil_append, CS.fill] at hf
     cases hf
     refine ⟨rfl, fP ?_⟩
     simp only [au] at h1 ⊢; exact h1
 | .bI, mp, mp', vs, vs', ds, us, h, hv => by
   cases vs with
   | nil => simp [CS.take] at h
   | cons v vs =>
     cases v <;> first | (simp [CS.take] at h; done) | skip
     simp only [CS.take, Option.some.injEq, Prod.mk.injEq] at h
     obtain ⟨rfl, rfl, rfl⟩ := h
     obtain ⟨c1, c2, e, h1, h2⟩ := hv
     refine ⟨Sub.refl _, id, c1, c2, e, h2, fun g' ids ds0 ws ds1 hR hf => ?_⟩
     simp only [List.nil_append, CS.fill] at hf
     cases hf
     refine ⟨rfl, fP ?_⟩
     simp only [au] at h1 ⊢; exact h1
 | .tt b, mp, mp', vs, vs', ds, us, h, hv => by
   cases vs with
   | nil => simp [CS.take] at h
   | cons v vs =>
     cases v <;> first | (simp [CS.take] at h; done) | skip
     rename_i c
     simp only [CS.take] at h
     split at h
     · rename_i hb
       have hb := eq_of_beq hb
       subst hb
       simp only [Option.some.injEq, Prod.mk.injEq] at h
       obtain ⟨rfl, rfl, rfl⟩ := h
       obtain ⟨c1, c2, e, h1, h2⟩ := hv
       refine ⟨Sub.refl _, id, c1, c2, e, h2, fun g' ids ds0 ws ds1 hR hf => ?_⟩
       simp only [List.nil_append, CS.fill] at hf
       cases hf
       refine ⟨rfl, fP ?_⟩
       simp only [au] at h1 ⊢; exact h1
     · cases h
 | .yl o, mp, mp', vs, vs', ds, us, h, hv => by
   cases vs with
   | nil => simp [CS.take] at h
   | cons v vs =>
     cases v <;> first | (simp [CS.take] at h; done) | skip
     rename_i q
     simp only [CS.take] at h
     obtain ⟨mp1, hu, h⟩ := Option.map_eq_some_iff.1 h
     simp only [Prod.mk.injEq] at h
     obtain ⟨rfl, rfl, rfl⟩ := h
     obtain ⟨k1, k2, k3⟩ := du hu
     obtain ⟨c1, c2, e, h1, h2⟩ := hv
     refine ⟨k1, k2, c1, c2, e, h2, fun g' ids ds0 ws ds1 hR hf => ?_⟩
     simp only [List.nil_append, CS.fill] at hf
     cases hf
     refine ⟨rfl, fP ?_⟩
     simp only [au] at h1 ⊢
     obtain ⟨gh, b, j1, j2⟩ := h1
     exact ⟨gh, b, hR _ _ _ k3 j1, j2⟩
 | .Qe o, mp, mp', vs, vs', ds, us, h, hv => by
   cases vs with
   | nil => simp [CS.take] at h
   | cons v vs =>
     cases v <;> first | (simp [CS.take] at h; done) | skip
     rename_i q
     simp only [CS.take] at h
     obtain ⟨mp1, hu, h⟩ := Option.map_eq_some_iff.1 h
     simp only [Prod.mk.injEq] at h
     obtain ⟨rfl, rfl, rfl⟩ := h
     obtain ⟨k1, k2, k3⟩ := du hu
     obtain ⟨c1, c2, e, h1, h2⟩ := hv
     refine ⟨k1, k2, c1, c2, e, h2, fun g' ids ds0 ws ds1 hR hf => ?_⟩
     simp only [List.nil_append, CS.fill] at hf
     cases hf
     refine ⟨rfl, fP ?_⟩
     simp only [au] at h1 ⊢
     obtain ⟨gh, b, j1, j2⟩ := h1
     exact ⟨gh, b, hR _ _ _ k3 j1, j2⟩
 | .fn f xs ys, mp, mp', vs, vs', ds, us, h, hv => by
   cases vs with
   | nil => simp [CS.take] at h
   | cons v vs =>
     cases v <;> first | (simp [CS.take] at h; done) | skip
     rename_i fn first caps
     cases fn <;> first | (simp [CS.take] at h; done) | skip
     rename_i gf
     simp only [CS.take] at h
     split at h
     · rename_i he
       simp only [Bool.and_eq_true] at he
       obtain ⟨he, he1, he2⟩ := he
       obtain rfl := Nat.eq_of_beq_eq_true he
       obtain ⟨p, hp, h⟩ := Option.bind_eq_some_iff.1 h
       obtain ⟨pd, pv, pm⟩ := p
       split at h
       · rename_i hpv
         simp only at hpv
         subst hpv
         obtain ⟨q, hq, h⟩ := Option.bind_eq_some_iff.1 h
         obtain ⟨qd, qv, qm⟩ := q
         split at h
         · rename_i hqv
           simp only at hqv
           subst hqv
           simp only [Option.some.injEq, Prod.mk.injEq] at h
           obtain ⟨rfl, rfl, rfl⟩ := h
           obtain ⟨c1, c2, e, h1, h2⟩ := hv
           simp only [au] at h1
           obtain ⟨v1, v2, rfl, g1, g2⟩ := h1
           obtain ⟨a1, a2, b1, b2, a3, a4, a5⟩ := CS.gU hp (z8 he1 g1)
           obtain ⟨d1, d2, e1, e2, d3, d4, d5⟩ := CS.gU hq (z8 he2 g2)
           simp only [bq] at a4 d4
           subst a4; subst d4
           simp only [List.append_nil] at a3 d3
           subst a3; subst d3
           refine ⟨a1.trans d1, fun hM => d2 (a2 hM), _, c2, e, h2, fun g' ids ds0 ws ds1 hR hf => ?_⟩
           simp only [List.append_assoc, CS.fill] at hf
           obtain ⟨p1, hp1, hf⟩ := Option.bind_eq_some_iff.1 hf
           obtain ⟨q1, hq1, hf⟩ := Option.bind_eq_some_iff.1 hf
           obtain ⟨w1, r1⟩ := p1
           obtain ⟨w2, r2⟩ := q1
           obtain ⟨rfl, k2⟩ := a5 g' ids _ _ _ (hR.sub d1) hp1
           obtain ⟨rfl, l2⟩ := d5 g' ids _ _ _ hR hq1
           split at hf
           · rename_i hone
             simp only [Bool.and_eq_true] at hone
             cases hf
             refine ⟨rfl, fP ?_⟩
             simp only [au]
             exact ⟨v1, v2, rfl, Aa hone.1 k2, Aa hone.2 l2⟩
           · cases hf
         · cases h
       · cases h
     · cases h
theorem CS.gU : ∀ {l : List CS} {mp mp' : List (Nat × Nat)} {vs vs' : List (CV S)} {ds : List (fL S)} {us : List Value}, CS.takes tb mp l vs = some (ds, vs', mp') → bq K g m vs us →
 Sub mp mp' ∧ (gi mp → gi mp') ∧ ∃ c1 c2, us = c1 ++ c2 ∧ bq K g m vs' c2 ∧ Lc K g m mp' ds c1 (fun ids => CS.da tb ids l)
 | [], mp, mp', vs, vs', ds, us, h, hv => by
   simp only [CS.takes, Option.some.injEq, Prod.mk.injEq] at h
   obtain ⟨rfl, rfl, rfl⟩ := h
   refine ⟨Sub.refl _, id, [], us, rfl, hv, fun g' ids ds0 ws ds1 hR hf => ?_⟩
   simp only [List.nil_append, CS.da] at hf
   cases hf; exact ⟨rfl, rfl⟩
 | s :: l, mp, mp', vs, vs', ds, us, h, hv => by
   simp only [CS.takes] at h
   obtain ⟨p, hp, h⟩ := Option.bind_eq_some_iff.1 h
   obtain ⟨pd, pv, pm⟩ := p
   obtain ⟨q, hq, h⟩ := Option.map_eq_some_iff.1 h
   obtain ⟨qd, qv, qm⟩ := q
   simp only [Prod.mk.injEq] at h
   obtain ⟨rfl, rfl, rfl⟩ := h
   obtain ⟨a1, a2, b1, b2, rfl, a4, a5⟩ := CS.ja hp hv
   obtain ⟨d1, d2, e1, e2, rfl, d4, d5⟩ := CS.gU hq a4
   refine ⟨a1.trans d1, fun hM => d2 (a2 hM), b1 ++ e1, e2, by rw [List.append_assoc], d4, fun g' ids ds0 ws ds1 hR hf => ?_⟩
   simp only [List.append_assoc, CS.da] at hf
   obtain ⟨p1, hp1, hf⟩ := Option.bind_eq_some_iff.1 hf
   obtain ⟨q1, hq1, hf⟩ := Option.map_eq_some_iff.1 hf
   obtain ⟨w1, r1⟩ := p1
   obtain ⟨w2, r2⟩ := q1
   obtain ⟨rfl, k2⟩ := a5 g' ids _ _ _ (hR.sub d1) hp1
   obtain ⟨rfl, l2⟩ := d5 g' ids _ _ _ hR hq1
   cases hf
   exact ⟨rfl, lK k2 l2⟩
end
def N5 (K : cV tb) (g : GG S) (m : Mem) (mp : List (Nat × Nat)) (ds : List (fL S)) (x : Value) (fill : (Nat → Nat) → List (fL S) → Option (AV S × List (fL S))) : Prop :=
 ∀ (g' : GG S) (ids : Nat → Nat) (ds0 : List (fL S)) (w : AV S) (ds1 : List (fL S)), D0 mp g g' ids → fill ids (ds ++ ds0) = some (w, ds1) → ds1 = ds0 ∧ aA K g' m w x
def L5 (K : cV tb) (g : GG S) (m : Mem) (mp : List (Nat × Nat)) (ds : List (fL S)) (xs : List Value) (fill : (Nat → Nat) → List (fL S) → Option (List (AV S) × List (fL S))) : Prop :=
 ∀ (g' : GG S) (ids : Nat → Nat) (ds0 : List (fL S)) (ws : List (AV S)) (ds1 : List (fL S)), D0 mp g g' ids → fill ids (ds ++ ds0) = some (ws, ds1) → ds1 = ds0 ∧ bU K g' m ws xs
mutual
theorem PS.ja : ∀ {s : PS} {mp mp' : List (Nat × Nat)} {v : AV S} {ds : List (fL S)} {x : Value}, PS.take tb mp s v = some (ds, mp') → aA K g m v x →
 Sub mp mp' ∧ (gi mp → gi mp') ∧ N5 K g m mp' ds x (fun ids => PS.fill tb ids s)
 | .one s, mp, mp', v, ds, x, h, hv => by
   cases v with
   | agg _ => simp [PS.take] at h
   | je _ => simp [PS.take] at h
   | one v =>
     simp only [PS.take] at h
     obtain ⟨p, hp, h⟩ := Option.bind_eq_some_iff.1 h
     obtain ⟨pd, pv, pm⟩ := p
     split at h
     · rename_i hpv
       simp only at hpv
       subst hpv
       simp only [Option.some.injEq, Prod.mk.injEq] at h
       obtain ⟨rfl, rfl⟩ := h
       simp only [aA] at hv
       obtain ⟨a1, a2, b1, b2, a3, a4, a5⟩ := CS.ja hp (fP hv)
       simp only [bq] at a4
       subst a4
       rw [List.append_nil] at a3
       subst a3
       refine ⟨a1, a2, fun g' ids ds0 w ds1 hR hf => ?_⟩
       simp only [PS.fill] at hf
       obtain ⟨q, hq, hf2⟩ := Option.bind_eq_some_iff.1 hf
       obtain ⟨qv, qd⟩ := q
       clear hf
       obtain ⟨rfl, k2⟩ := a5 g' ids _ _ _ hR hq
       split at hf2
       · rename_i hqv
         simp only at hqv
         subst hqv
         cases hf2
         refine ⟨rfl, ?_⟩
         simp only [aA]; exact jJ k2
       · cases hf2
     · cases h
 | .agg l, mp, mp', v, ds, x, h, hv => by
   cases v with
   | one _ => simp [PS.take] at h
   | je _ => simp [PS.take] at h
   | agg vs =>
     simp only [PS.take] at h
     obtain ⟨p, hp, h⟩ := Option.bind_eq_some_iff.1 h
     obtain ⟨pd, pv, pm⟩ := p
     split at h
     · rename_i hpv
       simp only at hpv
       subst hpv
       simp only [Option.some.injEq, Prod.mk.injEq] at h
       obtain ⟨rfl, rfl⟩ := h
       simp only [aA] at hv
       obtain ⟨cs, rfl, hv⟩ := hv
       obtain ⟨a1, a2, b1, b2, a3, a4, a5⟩ := CS.gU hp hv
       simp only [bq] at a4
       subst a4
       rw [List.append_nil] at a3
       subst a3
       refine ⟨a1, a2, fun g' ids ds0 w ds1 hR hf => ?_⟩
       simp only [PS.fill] at hf
       obtain ⟨q, hq, hf2⟩ := Option.map_eq_some_iff.1 hf
       obtain ⟨qv, qd⟩ := q
       clear hf
       obtain ⟨rfl, k2⟩ := a5 g' ids _ _ _ hR hq
       cases hf2
       refine ⟨rfl, ?_⟩
       simp only [aA]; exact ⟨_, rfl, k2⟩
     · cases h
 | .je l, mp, mp', v, ds, x, h, hv => by
   cases v with
   | one _ => simp [PS.take] at h
   | agg _ => simp [PS.take] at h
   | je vs =>
     simp only [PS.take] at h
     simp only [aA] at hv
     obtain ⟨xs, rfl, hv⟩ := hv
     obtain ⟨a1, a2, a3⟩ := PS.gU h hv
     refine ⟨a1, a2, fun g' ids ds0 w ds1 hR hf => ?_⟩
     simp only [PS.fill] at hf
     obtain ⟨q, hq, hf2⟩ := Option.map_eq_some_iff.1 hf
     obtain ⟨qv, qd⟩ := q
     clear hf
     obtain ⟨rfl, k2⟩ := a3 g' ids _ _ _ hR hq
     cases hf2
     refine ⟨rfl, ?_⟩
     simp only [aA]; exact ⟨_, rfl, k2⟩
theorem PS.gU : ∀ {l : List PS} {mp mp' : List (Nat × Nat)} {vs : List (AV S)} {ds : List (fL S)} {xs : List Value}, PS.takes tb mp l vs = some (ds, mp') → bU K g m vs xs →
 Sub mp mp' ∧ (gi mp → gi mp') ∧ L5 K g m mp' ds xs (fun ids => PS.da tb ids l)
 | [], mp, mp', vs, ds, xs, h, hv => by
   cases vs with
   | cons _ _ => simp [PS.takes] at h
   | nil =>
     simp only [PS.takes, Option.some.injEq, Prod.mk.injEq] at h
     obtain ⟨rfl, rfl⟩ := h
     refine ⟨Sub.refl _, id, fun g' ids ds0 ws ds1 hR hf => ?_⟩
     simp only [List.nil_append, PS.da] at hf
     cases hf
     refine ⟨rfl, ?_⟩
     simp only [bU] at hv ⊢
     exact hv
 | s :: l, mp, mp', vs, ds, xs, h, hv => by
   cases vs with
   | nil => simp [PS.takes] at h
   | cons v vs =>
     simp only [PS.takes] at h
     obtain ⟨p, hp, h⟩ := Option.bind_eq_some_iff.1 h
     obtain ⟨pd, pm⟩ := p
     obtain ⟨q, hq, h⟩ := Option.map_eq_some_iff.1 h
     obtain ⟨qd, qm⟩ := q
     simp only [Prod.mk.injEq] at h
     obtain ⟨rfl, rfl⟩ := h
     simp only [bU] at hv
     obtain ⟨x, r, rfl, hv1, hv2⟩ := hv
     obtain ⟨a1, a2, a3⟩ := PS.ja hp hv1
     obtain ⟨b1, b2, b3⟩ := PS.gU hq hv2
     refine ⟨a1.trans b1, fun hM => b2 (a2 hM), fun g' ids ds0 ws ds1 hR hf => ?_⟩
     simp only [List.append_assoc, PS.da] at hf
     obtain ⟨p1, hp1, hf⟩ := Option.bind_eq_some_iff.1 hf
     obtain ⟨q1, hq1, hf⟩ := Option.map_eq_some_iff.1 hf
     obtain ⟨w1, r1⟩ := p1
     obtain ⟨w2, r2⟩ := q1
     obtain ⟨rfl, k2⟩ := a3 g' ids _ _ _ (hR.sub b1) hp1
     obtain ⟨rfl, l2⟩ := b3 g' ids _ _ _ hR hq1
     cases hf
     refine ⟨rfl, ?_⟩
     simp only [bU]; exact ⟨x, r, rfl, k2, l2⟩
end
def N4 (K : cV tb) (g : GG S) (m : Mem) (mp : List (Nat × Nat)) (ds : List (fL S)) (q : Nat) (e : az) (fill : (Nat → Nat) → List (fL S) → Option (AO S × List (fL S))) : Prop :=
 ∀ (g' : GG S) (ids : Nat → Nat) (q' : Nat) (ds0 : List (fL S)) (a' : AO S) (ds1 : List (fL S)), D0 mp g g' ids → (∀ h, g.bk q = some h → g'.bk q' = some h) → fill ids (ds ++ ds0) = some (a', ds1) → ds1 = ds0 ∧ lr K g' m q' a' e
theorem rQ {tm : List (Nat × Nat × AV S)} {val : Nat → Value} (htm : ∀ t aI v, look t tm = some (aI, v) → aA K g m v (val t)) : ∀ {l : List (Nat × PS)} {mp mp' : List (Nat × Nat)} {ds : List (fL S)}, kG tb tm mp l = some (ds, mp') →
 Sub mp mp' ∧ (gi mp → gi mp') ∧ ∀ (g' : GG S) (ids : Nat → Nat) (vid0 : Nat) (ds0 : List (fL S)) (tl : List (Nat × Nat × AV S)) (ds1 : List (fL S)), D0 mp' g g' ids → pz tb ids vid0 l (ds ++ ds0) = some (tl, ds1) →
  ds1 = ds0 ∧ tl.length = l.length ∧ ∀ i x, tl[i]? = some x → x.2.1 = vid0 + i ∧ aA K g' m x.2.2 (val x.1) ∧ ∃ y, look x.1 tm = some y
 | [], mp, mp', ds, h => by
   simp only [kG, Option.some.injEq, Prod.mk.injEq] at h
   obtain ⟨rfl, rfl⟩ := h
   refine ⟨Sub.refl _, id, fun g' ids vid0 ds0 tl ds1 hR hf => ?_⟩
   simp only [List.nil_append, pz] at hf
   cases hf
   exact ⟨rfl, rfl, fun i x hx => by simp at hx⟩
 | (t, s) :: l, mp, mp', ds, h => by
   simp only [kG] at h
   obtain ⟨a, ha, h⟩ := Option.bind_eq_some_iff.1 h
   obtain ⟨p, hp, h⟩ := Option.bind_eq_some_iff.1 h
   obtain ⟨r, hr, h⟩ := Option.map_eq_some_iff.1 h
   obtain ⟨aI, v⟩ := a
   obtain ⟨pd, pm⟩ := p
   obtain ⟨rd, rm⟩ := r
   simp only [Prod.mk.injEq] at h
   obtain ⟨rfl, rfl⟩ := h
   obtain ⟨a1, a2, a3⟩ := PS.ja hp (htm t aI v ha)
   obtain ⟨b1, b2, b3⟩ := rQ htm hr
   refine ⟨a1.trans b1, fun hM => b2 (a2 hM), fun g' ids vid0 ds0 tl ds1 hR hf => ?_⟩
   simp only [List.append_assoc, pz] at hf
   obtain ⟨p1, hp1, hf1⟩ := Option.bind_eq_some_iff.1 hf
   obtain ⟨q1, hq1, hf2⟩ := Option.map_eq_some_iff.1 hf1
   obtain ⟨w1, r1⟩ := p1
   obtain ⟨w2, r2⟩ := q1
   clear hf hf1
   obtain ⟨rfl, k2⟩ := a3 g' ids _ _ _ (hR.sub b1) hp1
   obtain ⟨rfl, l2, l3⟩ := b3 g' ids _ _ _ _ hR hq1
   simp only [Option.some.injEq, Prod.mk.injEq] at hf2
   obtain ⟨rfl, rfl⟩ := hf2
   refine ⟨rfl, by simp [l2], fun i x hx => ?_⟩
   cases i with
   | zero => simp at hx; subst hx; exact ⟨rfl, k2, _, ha⟩
   | succ i =>
     obtain ⟨j1, j2⟩ := l3 i x (by simpa using hx)
     exact ⟨by rw [j1]; omega, j2⟩
theorem LS.EK {a b : LS} (h : LS.same a b = true) : a = b := by
 unfold LS.same at h
 split at h <;> first | rfl | (cases h; done) | skip
 rw [Nat.eq_of_beq_eq_true h]
theorem zp {α : Type} {t : Nat} : ∀ {l : List (Nat × α)} {x : α}, look t l = some x → (t, x) ∈ l
 | [], x, h => by cases h
 | (u, y) :: l, x, h => by
   unfold look at h
   split at h
   · rename_i e; cases h; rw [Nat.eq_of_beq_eq_true e]; exact List.mem_cons_self
   · exact List.mem_cons_of_mem _ (zp h)
theorem HE {α : Type} {t : Nat} {x : α} {l : List (Nat × α)} (h : look t l = some x) : ∃ i : Nat, l[i]? = some (t, x) := List.getElem?_of_mem (zp h)
theorem OS.ja {s : OS} {mp mp' : List (Nat × Nat)} {a : AO S} {ds : List (fL S)} {q : Nat} {e : az} (h : OS.take tb mp s a = some (ds, mp')) (ha : lr K g m q a e) :
 Sub mp mp' ∧ (gi mp → gi mp') ∧ N4 K g m mp' ds q e (fun ids => OS.fill tb ids s) := by
 cases s with
 | box T l =>
   cases a <;> first | (simp [OS.take] at h; done) | skip
   rename_i T' vs
   simp only [OS.take] at h
   split at h
   · rename_i he
     obtain rfl := Nat.eq_of_beq_eq_true he
     obtain ⟨p, hp, h⟩ := Option.bind_eq_some_iff.1 h
     obtain ⟨pd, pv, pm⟩ := p
     split at h
     · rename_i hpv
       simp only at hpv
       subst hpv
       simp only [Option.some.injEq, Prod.mk.injEq] at h
       obtain ⟨rfl, rfl⟩ := h
       obtain ⟨gh, b, us, h1, h2, rfl, h4⟩ := ha
       obtain ⟨a1, a2, b1, b2, a3, a4, a5⟩ := CS.gU hp h4
       simp only [bq] at a4
       subst a4
       rw [List.append_nil] at a3
       subst a3
       refine ⟨a1, a2, fun g' ids q' ds0 w ds1 hR hq hf => ?_⟩
       simp only [OS.fill] at hf
       obtain ⟨r, hr, hf2⟩ := Option.map_eq_some_iff.1 hf
       obtain ⟨rv, rd⟩ := r
       clear hf
       obtain ⟨rfl, k2⟩ := a5 g' ids _ _ _ hR hr
       cases hf2
       exact ⟨rfl, gh, b, _, hq _ h1, h2, rfl, k2⟩
     · cases h
   · cases h
 | row t c =>
   cases a <;> first | (simp [OS.take] at h; done) | skip
   rename_i t' c'
   simp only [OS.take] at h
   split at h
   · rename_i hc he _
     obtain rfl := Nat.eq_of_beq_eq_true he
     subst hc
     simp only [Option.some.injEq, Prod.mk.injEq] at h
     obtain ⟨rfl, rfl⟩ := h
     obtain ⟨gh, h1, rfl⟩ := ha
     refine ⟨Sub.refl _, id, fun g' ids q' ds0 w ds1 hR hq hf => ?_⟩
     simp only [List.nil_append, OS.fill] at hf
     cases hf
     exact ⟨rfl, gh, hq _ h1, rfl⟩
   · cases h
 | arr t c full =>
   cases a <;> first | (simp [OS.take] at h; done) | skip
   rename_i t' c' full' l
   simp only [OS.take] at h
   split at h
   · rename_i hc he _ hf'
     obtain rfl := Nat.eq_of_beq_eq_true he
     subst hc
     have hfl : full = true → full' = true := fun z => by rw [z] at hf'; simpa using hf'
     simp only [Option.some.injEq, Prod.mk.injEq] at h
     obtain ⟨rfl, rfl⟩ := h
     refine ⟨Sub.refl _, id, fun g' ids q' ds0 w ds1 hR hq hf => ?_⟩
     simp only [List.cons_append, List.nil_append, OS.fill] at hf
     split at hf
     · cases hf
       obtain ⟨gh, cs, h1, h2, h3, h4, h5⟩ := ha
       exact ⟨rfl, gh, cs, hq _ h1, h2, h3, h4, fun z => h5 (hfl z)⟩
     · cases hf
   · cases h
 | ni t et kc c =>
   cases a <;> first | (simp [OS.take] at h; done) | skip
   rename_i t' et' kc' c' l hole
   cases hole with
   | some x => simp [OS.take] at h
   | none =>
   simp only [OS.take] at h
   split at h
   · rename_i hk hv he _ _
     simp only [Bool.and_eq_true] at he
     obtain rfl := Nat.eq_of_beq_eq_true he.1
     obtain rfl := Nat.eq_of_beq_eq_true he.2
     subst hk; subst hv
     simp only [Option.some.injEq, Prod.mk.injEq] at h
     obtain ⟨rfl, rfl⟩ := h
     refine ⟨Sub.refl _, id, fun g' ids q' ds0 w ds1 hR hq hf => ?_⟩
     simp only [List.cons_append, List.nil_append, OS.fill] at hf
     split at hf
     · cases hf
       obtain ⟨gh, b, es, clock, ll, h1, h2, h3, h4, h5, h6⟩ := ha
       exact ⟨rfl, gh, b, es, clock, ll, hq _ h1, h2, h3, h4, h5, h6⟩
     · cases hf
   · cases h
 | jf t kc vc qs =>
   cases a <;> first | (simp [OS.take] at h; done) | skip
   rename_i t' kc' vc' l hole q1
   cases hole with
   | some x => simp [OS.take] at h
   | none =>
   simp only [OS.take] at h
   split at h
   · rename_i hk hv he _ _
     obtain rfl := Nat.eq_of_beq_eq_true he
     subst hk; subst hv
     obtain ⟨mp1, hu, h⟩ := Option.map_eq_some_iff.1 h
     simp only [Prod.mk.injEq] at h
     obtain ⟨rfl, rfl⟩ := h
     refine ⟨(du hu).1, (du hu).2.1, fun g' ids q' ds0 w ds1 hR hq hf => ?_⟩
     simp only [List.cons_append, List.nil_append, OS.fill] at hf
     split at hf
     · cases hf
       obtain ⟨gh, b, es, gq, h1, h2, h3, h4, h5, h6, h7, h8⟩ := ha
       exact ⟨rfl, gh, b, es, gq, hq _ h1, h2, hR _ _ _ (du hu).2.2 h3, h4, h5, h6, h7, h8⟩
     · cases hf
   · cases h
 | xu kc os =>
   cases a <;> first | (simp [OS.take] at h; done) | skip
   rename_i kc' o1 st
   simp only [OS.take] at h
   split at h
   · rename_i hk _
     subst hk
     obtain ⟨mp1, hu, h⟩ := Option.map_eq_some_iff.1 h
     simp only [Prod.mk.injEq] at h
     obtain ⟨rfl, rfl⟩ := h
     refine ⟨(du hu).1, (du hu).2.1, fun g' ids q' ds0 w ds1 hR hq hf => ?_⟩
     simp only [List.nil_append, OS.fill] at hf
     cases hf
     obtain ⟨gh, go, r, seen, h1, h2, h3, h4, h5, h6⟩ := ha
     exact ⟨rfl, gh, go, r, seen, hq _ h1, h2, hR _ _ _ (du hu).2.2 h3, h4, h5, trivial⟩
   · cases h
 | map t kc vc =>
   cases a <;> first | (simp [OS.take] at h; done) | skip
   rename_i t' kc' vc' l hole
   cases hole with
   | some x => simp [OS.take] at h
   | none =>
   simp only [OS.take] at h
   split at h
   · rename_i hk hv he _ _
     obtain rfl := Nat.eq_of_beq_eq_true he
     subst hk; subst hv
     simp only [Option.some.injEq, Prod.mk.injEq] at h
     obtain ⟨rfl, rfl⟩ := h
     refine ⟨Sub.refl _, id, fun g' ids q' ds0 w ds1 hR hq hf => ?_⟩
     simp only [List.cons_append, List.nil_append, OS.fill] at hf
     split at hf
     · cases hf
       obtain ⟨gh, b, es, clock, h1, h2, h3, h4, h5⟩ := ha
       exact ⟨rfl, gh, b, es, clock, hq _ h1, h2, h3, h4, h5⟩
     · cases hf
   · cases h
 | loop r st cT =>
   cases a <;> first | (simp [OS.take] at h; done) | skip
   rename_i r' st' tm
   simp only [OS.take] at h
   split at h
   · rename_i hb
     simp only [Bool.and_eq_true] at hb
     obtain rfl := Nat.eq_of_beq_eq_true hb.1
     obtain rfl := LS.EK hb.2
     obtain ⟨gh, l, R, rg, tmps, h1, h2, h3, rfl, h5, h6, h7⟩ := ha
     obtain ⟨s1, s2, s3⟩ := rQ (val := fun t => tmps.getD t undef) h7 h
     refine ⟨s1, s2, fun g' ids q' ds0 w ds1 hR hq hf => ?_⟩
     simp only [OS.fill] at hf
     obtain ⟨p, hp, hf2⟩ := Option.map_eq_some_iff.1 hf
     obtain ⟨pt, pd⟩ := p
     obtain ⟨rfl, k2, k3⟩ := s3 g' ids _ _ _ _ hR hp
     cases hf2
     refine ⟨rfl, gh, l, R, rg, tmps, hq _ h1, h2, h3, rfl, h5, h6, fun t aI v hl => ?_⟩
     obtain ⟨i, hi⟩ := HE hl
     exact (k3 i _ hi).2.1
   · cases h
def CG (K : cV tb) (g : GG S) (m : Mem) (ids : Nat → Nat) : Nat → List (AO S) → List az → Prop
 | _, [], L => L = []
 | o, a :: l, L => ∃ e L', L = e :: L' ∧ lr K g m (ids o) a e ∧ CG K g m ids (o + 1) l L'
theorem wY : ∀ {ls : List Co} {ds : List (fL S)} {x : HT S ls}, nH ls ds = some x → mM ls x = ds
 | [], [], x, h => rfl
 | [], _ :: _, x, h => by simp [nH] at h
 | [c], [], x, h => by simp [nH] at h
 | [c], [⟨c', y⟩], x, h => by
   simp only [nH] at h
   split at h
   · rename_i hc _
     subst hc
     cases h; rfl
   · cases h
 | [c], _ :: _ :: _, x, h => by simp [nH] at h
 | c :: d :: cs, [], x, h => by simp [nH] at h
 | c :: d :: cs, ⟨c', y⟩ :: ds, x, h => by
   simp only [nH] at h
   split at h
   · rename_i hc _
     subst hc
     obtain ⟨z, hz, rfl⟩ := Option.map_eq_some_iff.1 h
     simp only [mM, wY hz]
   · cases h
theorem pI {α : Type} {l : List α} : ∀ {is : List Nat} {l' : List α}, zB l is = some l' → l'.length = is.length ∧ ∀ (k i : Nat), is[k]? = some i → ∃ x, l[i]? = some x ∧ l'[k]? = some x
 | [], l', h => by simp only [zB, Option.some.injEq] at h; subst h; exact ⟨rfl, fun k i h => by simp at h⟩
 | i :: is, l', h => by
   simp only [zB] at h
   obtain ⟨x, hx, h⟩ := Option.bind_eq_some_iff.1 h
   obtain ⟨r, hr, rfl⟩ := Option.map_eq_some_iff.1 h
   obtain ⟨k1, k2⟩ := pI hr
   refine ⟨by simp [k1], fun k j hk => ?_⟩
   cases k with
   | zero => simp at hk; subst hk; exact ⟨x, hx, rfl⟩
   | succ k => simpa using k2 k j (by simpa using hk)
theorem Ee : ∀ {l l' : List Nat}, Ft l l' = true → l = l'
 | [], [], _ => rfl
 | [], _ :: _, h => by simp [Ft] at h
 | _ :: _, [], h => by simp [Ft] at h
 | x :: l, y :: l', h => by
   simp only [Ft, Bool.and_eq_true] at h
   rw [Nat.eq_of_beq_eq_true h.1, Ee h.2]
theorem pJ {pm bk : List Nat} {ds ds1 ds2 : List (fL S)} (hp : B9 pm bk = true) (h1 : kj pm ds = some ds1) (h2 : kj bk ds1 = some ds2) : ds2 = ds := by
 cases pm with
 | nil =>
   cases bk with
   | nil => simp only [kj, Option.some.injEq] at h1 h2; rw [← h2, h1]
   | cons => simp [B9] at hp
 | cons p pm =>
   cases bk with
   | nil => simp [B9] at hp
   | cons b bk =>
     simp only [B9, Bool.and_eq_true] at hp
     obtain ⟨hl, hp⟩ := hp
     have hl := Nat.eq_of_beq_eq_true hl
     simp only [kj] at h1 h2
     split at h1
     · rename_i hl1
       have hl1 := Nat.eq_of_beq_eq_true hl1
       split at h2
       · rename_i hl2
         split at hp
         · rename_i l hb
           have hb' := Ee hp
           subst hb'
           obtain ⟨a1, a2⟩ := pI h1
           obtain ⟨b1, b2⟩ := pI h2
           obtain ⟨c1, c2⟩ := pI hb
           refine List.ext_getElem? fun i => ?_
           by_cases hi : i < (b :: bk).length
           · obtain ⟨j, hj⟩ : ∃ j, (b :: bk)[i]? = some j := ⟨_, List.getElem?_eq_getElem hi⟩
             obtain ⟨x, hx1, hx2⟩ := b2 i j hj
             obtain ⟨k, hk1, hk2⟩ := c2 i j hj
             obtain ⟨y, hy1, hy2⟩ := a2 j k hk1
             rw [List.getElem?_range hi] at hk2
             cases hk2
             rw [hy2] at hx1
             cases hx1
             rw [hx2, hy1]
           · rw [List.getElem?_eq_none (by omega), List.getElem?_eq_none (by omega)]
         · cases hp
       · cases h2
     · cases h1
end E
end Go.Proofs.YtekpafdhgkocaaaGreat
