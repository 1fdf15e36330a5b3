/- Part of what the laws need: plain words, the walker and its laws, the program's functions. -/
import Derived.Test.YtekpafdhgkocaaaGreatZEvI
namespace Go.Proofs.YtekpafdhgkocaaaGreat
open Go.RowKit G
namespace E
variable {S : Nat → Type} {tb : Tb S} {K : cV tb} {g : GG S} {m : Mem}
section
variable {n : Nat} {ds : Cx} {B : List Nat} {m0 : Mem} {rb : Nat → Option Gh} {σ σ1 : AS S} {a : Act} {L : List az}
theorem kr {q : Nat} {ver : Nat} {ao : AO S} {X : List az} (hob : dm K g m σ.ob L) (hl : look q σ.ob = some (ver, ao)) : ∃ e L0 R, lr K g m q ao e ∧ List.Perm L (e :: (L0 ++ R)) ∧ dm K g m (cv [q] σ.ob) L0 := by
 obtain ⟨z, hz1, hz2, hz3⟩ := lT hob
 rw [← hz1, kP] at hl
 obtain ⟨p, hp1, hp2⟩ := Option.map_eq_some_iff.1 hl
 obtain ⟨hp3, hp4⟩ := eI hp1
 have hp5 := (hz3 p hp3).2
 rw [hp2, hp4] at hp5
 have hperm : List.Perm z (z.filter (fun p => has p.1.1 [q]) ++ z.filter fun p => !has p.1.1 [q]) := (List.filter_append_perm _ _).symm
 have hm : p ∈ z.filter fun p => has p.1.1 [q] := List.mem_filter.2 ⟨hp3, by rw [hp4]; exact gE.2 (by simp)⟩
 obtain ⟨A, C, hAC⟩ := List.append_of_mem hm
 rw [hAC] at hperm
 refine ⟨p.2, (z.filter fun p => !has p.1.1 [q]).map Prod.snd, (A ++ C).map Prod.snd, hp5, ?_, ?_⟩
 · rw [← hz2, ← List.map_append, ← List.map_cons (f := Prod.snd)]
   refine List.Perm.map _ (hperm.trans ?_)
   refine ((List.perm_middle (l₁ := A) (l₂ := C) (a := p)).append_right _).trans ?_
   exact List.Perm.cons p List.perm_append_comm
 · have : cv [q] (z.map Prod.fst) = (z.filter fun p => !has p.1.1 [q]).map Prod.fst := by
    rw [oh, List.filter_map]; rfl
   rw [← hz1, this]
   exact kH fun p hp => hz3 p (List.mem_filter.1 hp).1
theorem xJ (hI : Inv K n ds B m0 rb σ g a m L) (x : Gh) : ∃ g1, GE g g1 ∧ g1.bk (σ.ct + 1) = some x ∧ Inv K n ds B m0 rb { σ with ct := σ.ct + 64 } g1 a m L := by
 let g1 : GG S := { bk := fun i => if i = σ.ct + 1 then some x else g.bk i, vv := g.vv, oo := g.oo }
 have ge : GE g g1 := ⟨fun i y hy => by
  show (if i = σ.ct + 1 then some x else g.bk i) = _
  rw [if_neg fun e => by rw [e, (hI.fresh _ (by omega)).1] at hy; cases hy]; exact hy, fun _ _ h => h, fun _ _ h => h⟩
 refine ⟨g1, ge, if_pos rfl, hI.size, hI.defers, hI.at_, fun s aI v h => (let ⟨u, k1, k2⟩ := hI.tm s aI v h; ⟨u, k1, k2.mono ge (Le.refl m)⟩), hI.ob.mono ge (Le.refl m), hI.st, fun i hi => ⟨?_, (hI.fresh i (by simp only at hi; omega)).2.1, (hI.fresh i (by simp only at hi; omega)).2.2⟩, ⟨hI.rt.1, fun j q hj => ?_⟩⟩
 · simp only at hi
   show (if i = σ.ct + 1 then some x else g.bk i) = _
   rw [if_neg (by omega)]; exact (hI.fresh i (by omega)).1
 · obtain ⟨h, k1, k2⟩ := hI.rt.2 j q hj
   exact ⟨h, k1, ge.bk _ _ k2⟩
theorem nU (hI : Inv K n ds B m0 rb σ g a m L) {q : Nat} {ao : AO S} {e : az} (ho : lr K g m q ao e) (hst : St B m0 m ((e :: L) ++ ds.X)) : ∃ g1, GE g g1 ∧ Inv K n ds B m0 rb (Bg σ q ao) g1 a m (e :: L) := by
 let g1 : GG S := { g with oo := fun i => if i = σ.ct + 32 then some (ao, e) else g.oo i }
 have ge : GE g g1 := ⟨fun _ _ h => h, fun _ _ h => h, fun i y hy => by
  show (if i = σ.ct + 32 then some (ao, e) else g.oo i) = _
  rw [if_neg fun e' => by rw [e', (hI.fresh _ (by omega)).2.2] at hy; cases hy]; exact hy⟩
 refine ⟨g1, ge, hI.size, hI.defers, hI.at_, fun s aI v h => (let ⟨u, k1, k2⟩ := hI.tm s aI v h; ⟨u, k1, k2.mono ge (Le.refl m)⟩), ⟨e, L, rfl, if_pos rfl, ho.mono ge (Le.refl m), hI.ob.mono ge (Le.refl m)⟩, hst, fun i hi => ⟨?_, ?_, ?_⟩, hI.rt⟩
 · have hi : σ.ct + 64 ≤ i := hi
   exact (hI.fresh i (by omega)).1
 · have hi : σ.ct + 64 ≤ i := hi
   exact (hI.fresh i (by omega)).2.1
 · have hi : σ.ct + 64 ≤ i := hi
   show (if i = σ.ct + 32 then some (ao, e) else g.oo i) = _
   rw [if_neg (by omega)]; exact (hI.fresh i (by omega)).2.2
theorem Cq (hI : Inv K n ds B m0 rb σ g a m L) {t aI : Nat} {v0 v : AV S} (hs : look t σ.tm = some (aI, v0)) (hv : ∀ u, aA K g m v0 u → aA K g m v u) : Inv K n ds B m0 rb { σ with tm := (t, aI, v) :: mL t σ.tm, ct := σ.ct + 64 } g a m L := by
 refine ⟨hI.size, hI.defers, fun t' vid' v' hl => ?_, fun s vid' v' hl => ?_, hI.ob, hI.st, fun i hi => hI.fresh i (by simp only at hi; omega), hI.rt⟩
 · simp only [ax] at hl
   by_cases e' : t = σ.fb + t'
   · rw [if_pos e'] at hl; cases hl
     exact hI.at_ t' aI v0 (by rw [← e']; exact hs)
   · rw [if_neg e', fy (Ne.symm e')] at hl
     exact hI.at_ _ _ _ hl
 · simp only [ax] at hl
   by_cases e' : t = s
   · rw [if_pos e'] at hl; cases hl
     obtain ⟨u, k1, k2⟩ := hI.tm _ _ _ hs
     exact ⟨u, k1, hv u k2⟩
   · rw [if_neg e', fy (Ne.symm e')] at hl
     exact hI.tm _ _ _ hl
theorem Ab {w w' : CV S} (hv : ∀ cs, au K g m w cs → au K g m w' cs) : ∀ {vs : List (CV S)} {i : Nat} {us : List Value}, vs[i]? = some w → bq K g m vs us → bq K g m (vs.set i w') us
 | [], i, us, h, _ => by simp at h
 | v :: vs, 0, us, h, ⟨c1, c2, e, h1, h2⟩ => by
   simp at h; subst h
   exact ⟨c1, c2, e, hv _ h1, h2⟩
 | v :: vs, i + 1, us, h, ⟨c1, c2, e, h1, h2⟩ => ⟨c1, c2, e, h1, Ab hv (by simpa using h) h2⟩
theorem oO {t i : Nat} {w w' : CV S} (hI : Inv K n ds B m0 rb σ g a m L) (hp : place σ t i = some w) (hv : ∀ cs, au K g m w cs → au K g m w' cs) : ∃ g1 L1, GE g g1 ∧ Inv K n ds B m0 rb (oM σ t i w') g1 a m L1 := by
 unfold place at hp
 unfold oM
 split at hp
 · rename_i aI v hs
   cases i with
   | zero =>
     simp only [Option.some.injEq] at hp
     subst hp
     exact ⟨g, L, GE.refl g, Cq hI hs fun u h => by simp only [aA] at h ⊢; exact hv _ h⟩
   | succ i =>
     simp only at hp ⊢
     split at hp
     case h_2 => cases hp
     case h_1 o off =>
     split at hp
     case h_2 => cases hp
     case h_1 ver T cs hlk =>
     obtain ⟨e, L0, Rst, ho, hperm, hob⟩ := kr (X := []) hI.ob hlk
     obtain ⟨gh, b, us, h1, h2, rfl, h4⟩ := ho
     have hI2 : Inv K n ds B m0 rb { σ with ob := cv [o] σ.ob } g a m L0 := ⟨hI.size, hI.defers, hI.at_, hI.tm, hob, by
      have := hI.st.perm (hperm.append_right _)
      have h5 : List.Perm ((.box b us.toArray T :: (L0 ++ Rst)) ++ ds.X) ((L0 ++ ds.X) ++ (.box b us.toArray T :: Rst)) := by
       show List.Perm (.box b us.toArray T :: ((L0 ++ Rst) ++ ds.X)) _
       refine (List.Perm.cons _ ?_).trans (List.perm_middle (l₁ := L0 ++ ds.X) (l₂ := Rst) (a := az.box b us.toArray T)).symm
       rw [List.append_assoc, List.append_assoc]
       exact List.Perm.append_left L0 List.perm_append_comm
      exact (this.perm h5).ux, hI.fresh, hI.rt⟩
     obtain ⟨g1, k1, k2⟩ := nU hI2 (q := o) (ao := .box T (cs.set i w')) (e := .box b us.toArray T) ⟨gh, b, us, h1, h2, rfl, Ab hv hp h4⟩ (by
      have := hI.st.perm (hperm.append_right _)
      have h5 : List.Perm ((.box b us.toArray T :: (L0 ++ Rst)) ++ ds.X) (((.box b us.toArray T :: L0) ++ ds.X) ++ Rst) := by
       simp only [List.cons_append, List.append_assoc]
       exact List.Perm.cons _ (List.Perm.append_left L0 List.perm_append_comm)
      exact (this.perm h5).ux)
     exact ⟨g1, _, k1, k2⟩
 · rename_i aI vs hs
   cases i with
   | zero => cases hp
   | succ i =>
     simp only at hp ⊢
     exact ⟨g, L, GE.refl g, Cq hI hs fun u h => by
      simp only [aA] at h ⊢
      obtain ⟨cs, e, h1⟩ := h
      exact ⟨cs, e, Ab hv hp h1⟩⟩
 · cases hp
theorem Ia {t i : Nat} {k : LW} (hI : Inv K n ds B m0 rb σ g a m L) (h : H9 σ t i k = some σ1) : ∃ g1 m1 L1, m1.w = m.w ∧ Le m m1 ∧ GE g g1 ∧ Inv K n ds B m0 rb σ1 g1 a m1 L1 := by
 unfold H9 at h
 split at h
 · rename_i e c hp
   cases h
   obtain ⟨g1, k1, k2, k3⟩ := xJ hI ⟨none, none, 0, 0, default⟩
   obtain ⟨g2, L2, k4, k5⟩ := oO (w' := .rw (σ.ct + 1) c []) k3 hp fun cs hc => by
    simp only [au] at hc ⊢
    exact ⟨_, [], none, k2, by rw [hc]; rfl, cC.nil _ _, cC.nil _ _, rfl, fun h => absurd h (by simp)⟩
   obtain ⟨g3, k6, k7⟩ := nU k5 (q := σ.ct + 1) (ao := .row e c) (e := .row none e (0 * zK K c) (0 * zK K c)) ⟨_, k4.bk _ _ k2, rfl⟩ (k5.st.CL (α := Unit) e (zK K c))
   exact ⟨g3, m, _, rfl, Le.refl m, (k1.trans k4).trans k6, k7⟩
 · rename_i e c hp
   cases h
   obtain ⟨g1, k1, k2, k3⟩ := xJ hI ⟨none, none, 0, 0, default⟩
   obtain ⟨g2, L2, k4, k5⟩ := oO (w' := .aw (σ.ct + 1)) k3 hp fun cs hc => by
    simp only [au] at hc ⊢
    exact ⟨_, k2, by rw [hc]⟩
   obtain ⟨g3, k6, k7⟩ := nU k5 (q := σ.ct + 1) (ao := .arr e c true []) (e := .arr none #[] e) ⟨_, #[], k4.bk _ _ k2, rfl, rfl, eh.nil _ _ _, fun _ => ⟨rfl, qL.nil _ _ _⟩⟩ (k5.st.GQ _ _)
   exact ⟨g3, m, _, rfl, Le.refl m, (k1.trans k4).trans k6, k7⟩
 · rename_i o hp
   obtain ⟨⟨ver, ao⟩, hlk, h1⟩ := Option.bind_eq_some_iff.1 h
   clear h
   simp only at h1
   split at h1
   case h_2 => cases h1
   case h_1 e c f l =>
   split at h1
   case h_2 => cases h1
   case h_1 o' hp2 =>
   split at h1
   case h_2 => cases h1
   case h_1 he =>
   obtain rfl := Nat.eq_of_beq_eq_true he
   have h3 := Option.some.inj h1
   subst h3
   obtain ⟨en, L0, Rst, ho, hperm, hob⟩ := kr (X := []) hI.ob hlk
   obtain ⟨gh, cs, h1, h2, rfl, h4, _⟩ := ho
   have hs : St B m0 m (.arr gh.g cs e :: ((L0 ++ ds.X) ++ Rst)) := (hI.st.perm (hperm.append_right _)).perm (by
    simp only [List.cons_append, List.append_assoc]
    exact List.Perm.cons _ (List.Perm.append_left L0 List.perm_append_comm))
   obtain ⟨m1, hw, hle, hS, hE⟩ := St.ze (bj K c) hs h4
   have hI2 : Inv K n ds B m0 rb { σ with ob := cv [o'] σ.ob } g a m1 L0 := ⟨hI.size, hI.defers, hI.at_, fun s aI v h => (let ⟨u, k1, k2⟩ := hI.tm s aI v h; ⟨u, k1, k2.mono (GE.refl _) hle⟩), hob.mono (GE.refl _) hle, hS.ux, hI.fresh, hI.rt⟩
   obtain ⟨g2, L2, k4, k5⟩ := oO (w' := .sl c l) hI2 hp2 fun cs hc => by
    simp only [au] at hc ⊢
    obtain ⟨gh2, j1, j2⟩ := hc
    rw [h1] at j1; cases j1
    exact ⟨gh.ad, gh.cap, by rw [j2, h2], hE⟩
   exact ⟨g2, m1, _, hw, hle, k4, k5⟩
 · cases h
   exact ⟨g, m, L, rfl, Le.refl m, GE.refl g, hI⟩
 · cases h
theorem sT : ∀ {l : List (Nat × Nat × LW)} {σ σ1 : AS S} {g : GG S} {m : Mem} {L : List az}, Inv K n ds B m0 rb σ g a m L → yG l σ = some σ1 → ∃ g1 m1 L1, m1.w = m.w ∧ Le m m1 ∧ GE g g1 ∧ Inv K n ds B m0 rb σ1 g1 a m1 L1
 | [], σ, σ1, g, m, L, hI, h => by simp only [yG, Option.some.injEq] at h; subst h; exact ⟨g, m, L, rfl, Le.refl m, GE.refl g, hI⟩
 | (t, i, k) :: l, σ, σ1, g, m, L, hI, h => by
   simp only [yG] at h
   obtain ⟨σ2, h1, h2⟩ := Option.bind_eq_some_iff.1 h
   obtain ⟨g1, m1, L1, hw, hl, k1, k2⟩ := Ia hI h1
   obtain ⟨g2, m2, L2, hw2, hl2, j1, j2⟩ := sT k2 h2
   exact ⟨g2, m2, L2, hw2.trans hw, hl.trans hl2, k1.trans j1, j2⟩
end
end E
end Go.Proofs.YtekpafdhgkocaaaGreat
