/- Part of what the laws need: plain words, the walker and its laws, the program's functions. -/
import Derived.Test.YtekpafdhgkocaaaGreatZEvH
namespace Go.Proofs.YtekpafdhgkocaaaGreat
open Go.RowKit G
open Go.ChangeMaps (setBlock heap_setBlock_same heap_setBlock_other)
namespace E
variable {S : Nat → Type} {tb : Tb S} {K : cV tb} {P : Program} {o : Oper} {xs : List (AV S)} {ob : List (Nat × Nat × AO S)} {ct : Nat} {γ : Type} {k : iH S → Option γ} {r : γ} {tt : TypeId → Option (TI S)} {g : GG S} {m : Mem}
theorem J5 {l : List (CV S)} (h : Mz l = true) : l = [.bI] := by
 unfold Mz at h
 split at h
 · rfl
 · cases h
theorem HQ {l : List (CV S)} (h : HP l = true) : l = [.aU] := by
 unfold HP at h
 split at h
 · rfl
 · cases h
theorem CA {t : TypeId} {i : TI S} {v : CV S} {z : Value} (hty : aV P t i) (hA : dS i.d = false) (hz : i.zero = [v]) (hv : pa v = [z]) (w : World) : (zeroValue t).run P w = .ok z w := by
 have h0 : zeroOf i = z := by
  unfold zeroOf
  rw [hA, hz]
  simp [gv, hv]
 refine xO ?_
 obtain ⟨inf, j1, j2, _⟩ := info_parts hty.info
 simp [j1, j2, h0]
theorem ur (hT : cn P K tt) {t : TypeId} {i : Co × Co × TypeId} (h : nj tb tt t = some i) :
 ∃ kt se, P.underlying t = some (.map kt se) ∧ eW tt se = some (i.2.2, i.2.1) ∧ (∀ w : World, (zeroValue se).run P w = .ok (.slice none 0 0) w) ∧ dY P kt (fun x v => ∃ m, cd K i.1 m x v) (fM tb i.1) := by
 unfold nj at h
 obtain ⟨ti, hti, h⟩ := Option.bind_eq_some_iff.1 h
 split at h
 · rename_i kt se kc c hd hc
   obtain ⟨si, hsi, h⟩ := Option.bind_eq_some_iff.1 h
   obtain ⟨⟨e1, e2⟩, hec, h⟩ := Option.bind_eq_some_iff.1 h
   split at h
   · rename_i hq hk _
     simp only at hq
     cases h
     subst hq
     simp only [Bool.and_eq_true] at hk
     have htd := (hT.ty t ti hti).td
     rw [hd] at htd
     have hag : dS si.d = false := by
      unfold eW at hec
      rw [hsi, Option.bind_some] at hec
      split at hec
      · rename_i h1 _; rw [h1]; rfl
      · cases hec
     exact ⟨kt, se, htd, hec, CA (hT.ty se si hsi) hag (J5 hk.2) rfl, hT.mp t ti kt se kc _ hti hd hc hk.1⟩
   · cases h
 · cases h
theorem zk (hT : cn P K tt) {t : TypeId} {i : Co} (h : uA tb tt t = some i) :
 ∃ kt se, P.underlying t = some (.map kt se) ∧ (∀ w : World, (zeroValue se).run P w = .ok .nilFunc w) ∧ dY P kt (fun x v => ∃ m, cd K i m x v) (fM tb i) := by
 unfold uA at h
 obtain ⟨ti, hti, h⟩ := Option.bind_eq_some_iff.1 h
 split at h
 · rename_i kt se kc n hd hc
   obtain ⟨si, hsi, h⟩ := Option.bind_eq_some_iff.1 h
   split at h
   · rename_i hk
     cases h
     simp only [Bool.and_eq_true, Bool.not_eq_true'] at hk
     have htd := (hT.ty t ti hti).td
     rw [hd] at htd
     exact ⟨kt, se, htd, CA (hT.ty se si hsi) hk.2.2 (HQ hk.2.1) rfl, hT.mp t ti kt se _ _ hti hd hc hk.1⟩
   · cases h
 · cases h
theorem sV {κ ν : Type} {et : TypeId} {sz : Nat} {gh : Gh} {p' : κ × (ν × Option Gh)} (hp' : p'.2.2 = none) : ∀ {ll : List (κ × (ν × Option Gh))} {j : Nat} {p : κ × (ν × Option Gh)}, ll[j]? = some p → p.2.2 = some gh →
 List.Perm (ll.filterMap (kF et sz)) (az.row gh.g et (gh.cap * sz) (gh.n * sz) :: (ll.set j p').filterMap (kF et sz))
 | [], _, _, h, _ => by simp at h
 | p0 :: ll, 0, p, h, hp => by
   simp at h; subst h
   have h1 : kF et sz p0 = some (az.row gh.g et (gh.cap * sz) (gh.n * sz)) := by unfold kF; rw [hp]; rfl
   have h2 : kF et sz p' = none := by unfold kF; rw [hp']; rfl
   rw [List.set_cons_zero, List.filterMap_cons_some h1, List.filterMap_cons_none h2]
 | p0 :: ll, j + 1, p, h, hp => by
   simp at h
   have ih := sV (et := et) (sz := sz) hp' h hp
   rw [List.set_cons_succ]
   cases h1 : kF et sz p0 with
   | none => rw [List.filterMap_cons_none h1, List.filterMap_cons_none h1]; exact ih
   | some e => rw [List.filterMap_cons_some h1, List.filterMap_cons_some h1]; exact (ih.cons e).trans (List.Perm.swap _ _ _)
theorem II {α : Type} {l : List α} {j : Nat} {x : α} (h : l[j]? = some x) (y : α) : (l.set j y).set j x = l := by
 rw [List.set_set]
 obtain ⟨h1, rfl⟩ := List.getElem?_eq_some_iff.1 h
 exact List.set_getElem_self h1
theorem Cl {α : Type} {l : List α} {j : Nat} {x : α} (h : l[j]? = some x) : l.set j x = l := by
 obtain ⟨h1, rfl⟩ := List.getElem?_eq_some_iff.1 h
 exact List.set_getElem_self h1
theorem EF {κ ν : Type} {et : TypeId} {sz : Nat} {gh : Gh} {p' : κ × (ν × Option Gh)} (hp' : p'.2.2 = some gh) {ll : List (κ × (ν × Option Gh))} {j : Nat} {p : κ × (ν × Option Gh)} (h : ll[j]? = some p) (hp : p.2.2 = none) :
 List.Perm ((ll.set j p').filterMap (kF et sz)) (az.row gh.g et (gh.cap * sz) (gh.n * sz) :: ll.filterMap (kF et sz)) := by
 have h1 : (ll.set j p')[j]? = some p' := by
  rw [List.getElem?_set_self (List.getElem?_eq_some_iff.1 h).1]
 have := sV (et := et) (sz := sz) (p' := p) hp h1 hp'
 rwa [II h] at this
theorem St.Lu {B : List Nat} {m0 m : Mem} : ∀ {D L : List az}, St B m0 m (D ++ L) → St B m0 m L
 | [], _, h => h
 | _ :: _, _, h => St.Lu (St.drop h)
theorem IV {D L R L' R' : List az} {b : Nat} {q q' : Obj} {w' : World} (hO : Ow m (az.cat (.obj b q :: L) :: R)) (hw : m.w.grownBy w' (some b)) (hsz : w'.heap.size = m.w.heap.size) (hb : w'.heap[b]? = some q') (hp : List.Perm (L ++ R) (D ++ (L' ++ R'))) :
 St (ak (az.cat (.obj b q :: L) :: R)) m ⟨w', m.ok⟩ (az.cat (.obj b q' :: L') :: R') := by
 have h1 : St (ak (az.cat (.obj b q :: L) :: R)) m m (.obj b q :: (L ++ R)) := (St.refl hO).Cw
 have h2 : St (ak (az.cat (.obj b q :: L) :: R)) m ⟨w', m.ok⟩ (.obj b q' :: (D ++ (L' ++ R'))) := (h1.jd hw hsz hb).perm (hp.cons _)
 have h3 : St (ak (az.cat (.obj b q :: L) :: R)) m ⟨w', m.ok⟩ (D ++ ((.obj b q' :: L') ++ R')) := h2.perm List.perm_middle.symm
 exact (St.Lu h3).cat
theorem uu {q b : Nat} {gh : Gh} {t et : TypeId} {kc c : Co} {l : List (T S kc × List (T S c))} {hole : Option (T S kc)} {e : az} (hob : lr K g m q (.ni t et kc c l hole) e) (k1 : g.bk q = some gh) (k2 : gh.g = some b) :
 ∃ es clock ll, e = .cat (.obj b (.map es clock) :: ll.filterMap (kF et (zK K c))) ∧ gQ (cd K kc m) (Gv K m c) es clock ll ∧ ll.map (fun p => (p.1, p.2.1)) = l ∧ BL K m kc es ll hole := by
 obtain ⟨gh', b', es, clock, ll, j1, j2, rfl, j4, j5, j6⟩ := hob
 rw [k1] at j1; have e1 := Option.some.inj j1; subst e1
 rw [k2] at j2; have e2 := Option.some.inj j2; subst e2
 exact ⟨es, clock, ll, rfl, j4, j5, j6⟩
theorem wT {b : Nat} {q : Obj} {L R : List az} (hO : Ow m (az.cat (.obj b q :: L) :: R)) : m.w.heap[b]? = some q := hO.Cw.ok (.obj b q) (by simp)
theorem B1 (hT : cn P K tt) {t : TypeId} (ho : o.op = .makeMap t none) {i : Co × Co × TypeId} (hi : nj tb tt t = some i) (h : k { v := .one (.mp (ct + 1)), add := [(ct + 1, .ni t i.2.2 i.1 i.2.1 [] none)] } = some r) : cP P K o [] ob ct k r := by
 refine ⟨_, h, by simp, fun g a m Lr Lm hf _ ha hr hm hO => ?_⟩
 simp only [pick, dm] at hr hm
 subst hr; subst hm
 refine uQ (Ke.nil a) (St.refl (Ow.nil m)) ho fun m' b hle hS => ?_
 have hg := GG.eB (x := ⟨some b, none, 0, 0, default⟩) (hf (ct + 1) (by omega) (by omega)).1
 have hS' : St (ak ([] : List az)) m m' ([az.cat [.obj b (.map #[] 0)]]) := St.cat (L := [.obj b (.map #[] 0)]) (R := []) (by simpa using hS)
 refine ⟨m', g.gg (ct + 1) ⟨some b, none, 0, 0, default⟩, [az.cat [.obj b (.map #[] 0)]], rfl, by simpa using hS', hg, rfl, rfl, GG.dj, ⟨_, [], rfl, ⟨_, b, #[], 0, [], GG.bt, rfl, rfl, gQ.nil, rfl, fun i p h => by simp at h⟩, rfl⟩, ?_⟩
 simp only [aA, au]
 exact ⟨_, b, GG.bt, rfl, rfl⟩
theorem B3 (hT : cn P K tt) {t : TypeId} (ho : o.op = .makeMap t none) {i : Co} (hi : uA tb tt t = some i) (h : k { v := .one (.mp (ct + 1)), add := [(ct + 1, .yB t i [])] } = some r) : cP P K o [] ob ct k r := by
 refine ⟨_, h, by simp, fun g a m Lr Lm hf _ ha hr hm hO => ?_⟩
 simp only [pick, dm] at hr hm
 subst hr; subst hm
 refine uQ (Ke.nil a) (St.refl (Ow.nil m)) ho fun m' b hle hS => ?_
 have hg := GG.eB (x := ⟨some b, none, 0, 0, default⟩) (hf (ct + 1) (by omega) (by omega)).1
 refine ⟨m', g.gg (ct + 1) ⟨some b, none, 0, 0, default⟩, [.obj b (.map #[] 0)], rfl, by simpa using hS, hg, rfl, rfl, GG.dj, ⟨_, [], rfl, ⟨_, b, #[], 0, GG.bt, rfl, rfl, gQ.nil⟩, rfl⟩, ?_⟩
 simp only [aA, au]
 exact ⟨_, b, GG.bt, rfl, rfl⟩
theorem Dv (hT : cn P K tt) {t : TypeId} {x y : Operand} {c : Bool} (ho : o.op = .lookup t x y c) {v : CV S} {key : AV S} (h : uq tb tt t v key c ob k = some r) : cP P K o [.one v, key] ob ct k r := by
 have hox : o.op.operands.toList = [x, y] := by rw [ho]; rfl
 unfold uq at h
 obtain ⟨⟨i1, i2, ec⟩, hi, h1⟩ := Option.bind_eq_some_iff.1 h
 simp only at h1
 obtain ⟨cs, hcs, h2⟩ := Option.bind_eq_some_iff.1 h1
 obtain ⟨xk, hxk, h4⟩ := Option.bind_eq_some_iff.1 h2
 obtain ⟨kt, se, hu, hec, hz, HK⟩ := ur hT hi
 simp only at hec HK
 split at h4
 · rename_i q
   obtain ⟨⟨ver, ao⟩, hq, h5⟩ := Option.bind_eq_some_iff.1 h4
   split at h5
   · rename_i t' et kc c l hao
     simp only at hao; subst hao
     split at h5
     · rename_i hk hv he q1 q2
       clear h h1 h2 h4
       cases hk; cases hv
       refine ⟨_, h5, by simp, fun g a m Lr Lm hf _ ha hr hm hO => ?_⟩
       simp only [pick, dm] at hm
       subst hm
       rw [hox] at ha
       obtain ⟨hv, hw⟩ := cR ha
       simp only [aA, au] at hv
       obtain ⟨gh, b, k1, k2, k3⟩ := hv
       have hx : a.eval x = .map (some b) := by simpa using k3
       obtain ⟨e, rfl, _, hob⟩ := cl hr hq
       obtain ⟨es, clock, ll, rfl, hM, rfl, hh⟩ := uu hob k1 k2
       have hb := wT (by simpa using hO)
       have hkR := gM hcs hxk hw
       have hH : dY P kt (cd K i1 m) (fM tb i1) := HK.sub fun x v h => ⟨m, h⟩
       obtain ⟨u, hu1, hu2⟩ := oK hH hu (hz m.w) hb hM hkR false
       have hrun : (execOp a.eval o).run P m.w = .ok (.value u) m.w := by
        simp [execOp, ho, hx, hu2]
       refine ab.val hrun (ve.pure rfl (by simpa using hO) ?_)
       have hget := BV (eq := fM tb i1) (fun p : List (T S i2) × Option Gh => p.1) ll xk
       simp only [aA, au, vk]
       rw [hget]
       cases hm : eL (fM tb i1) ll xk with
       | none => rw [hm] at hu1; subst hu1; exact ⟨none, 0, rfl, cC.nil m (zK K i2)⟩
       | some y =>
         rw [hm] at hu1
         have hy : y.2 ≠ none := by
          unfold eL at hm
          obtain ⟨p, hp, rfl⟩ := Option.map_eq_some_iff.1 hm
          obtain ⟨j, hj⟩ := List.getElem?_of_mem (List.mem_of_find?_eq_some hp)
          exact hh j p hj
         simp only at hu1
         unfold Gv at hu1
         split at hu1
         · obtain ⟨l0, ad, e1, e2, _⟩ := hu1
           exact ⟨ad, _, by rw [e1]; rfl, e2⟩
         · rename_i hn; exact absurd hn hy
     · cases h5
   · cases h5
 · cases h4
theorem H2 (hT : cn P K tt) {t : TypeId} {x y : Operand} {c : Bool} (ho : o.op = .lookup t x y c) {v : CV S} {key : AV S} (h : uv tb tt t v key c ob ct k = some r) : cP P K o [.one v, key] ob ct k r := by
 have hox : o.op.operands.toList = [x, y] := by rw [ho]; rfl
 unfold uv at h
 obtain ⟨⟨i1, i2, ec⟩, hi, h1⟩ := Option.bind_eq_some_iff.1 h
 simp only at h1
 obtain ⟨cs, hcs, h2⟩ := Option.bind_eq_some_iff.1 h1
 obtain ⟨xk, hxk, h4⟩ := Option.bind_eq_some_iff.1 h2
 obtain ⟨kt, se, hu, hec, hz, HK⟩ := ur hT hi
 simp only at hec HK
 split at h4
 · rename_i q
   obtain ⟨⟨ver, ao⟩, hq, h5⟩ := Option.bind_eq_some_iff.1 h4
   split at h5
   · rename_i t' et kc c l hao
     simp only at hao; subst hao
     split at h5
     · rename_i hk hv he q1 q2
       clear h h1 h2 h4
       cases hk; cases hv
       simp only [Bool.and_eq_true] at he
       have he2 := Nat.eq_of_beq_eq_true he.2
       subst he2
       refine ⟨_, h5, by simp, fun g a m Lr Lm hf _ ha hr hm hO => ?_⟩
       simp only [pick, dm] at hr
       subst hr
       rw [hox] at ha
       obtain ⟨hv, hw⟩ := cR ha
       simp only [aA, au] at hv
       obtain ⟨gh, b, k1, k2, k3⟩ := hv
       have hx : a.eval x = .map (some b) := by simpa using k3
       obtain ⟨e, rfl, _, hob⟩ := cl hm hq
       obtain ⟨es, clock, ll, rfl, hM, rfl, hh⟩ := uu hob k1 k2
       have hO' : Ow m [az.cat (.obj b (.map es clock) :: ll.filterMap (kF et (zK K i2)))] := by simpa using hO
       have hb := wT hO'
       have hkR := gM hcs hxk hw
       have hH : dY P kt (cd K i1 m) (fM tb i1) := HK.sub fun x v h => ⟨m, h⟩
       have hget := BV (eq := fM tb i1) (fun p : List (T S i2) × Option Gh => p.1) ll xk
       obtain ⟨u, hu1, hu2⟩ := oK hH hu (hz m.w) hb hM hkR false
       have hrun : (execOp a.eval o).run P m.w = .ok (.value u) m.w := by
        simp [execOp, ho, hx, hu2]
       refine ab.val hrun ?_
       have hst := (MapKept.stamped_iff es clock).1 hM.st
       rcases hH.find m.w hkR es.toList hM.keys with ⟨_, hno⟩ | ⟨j, e0, _, hj, hke⟩
       · obtain ⟨_, a2⟩ := any_none hH hkR hM.qD hno
         have hg0 : eL (fM tb i1) ll xk = none := by unfold eL; rw [a2]; rfl
         rw [hg0] at hu1
         simp only at hu1
         subst hu1
         have hge := GG.eB (x := ⟨none, none, 0, 0, default⟩) (hf (ct + 1) (by omega) (by omega)).1
         have hS : St (ak [az.cat (.obj b (.map es clock) :: ll.filterMap (kF et (zK K i2)))]) m m [az.cat (.obj b (.map es clock) :: ll.filterMap (kF et (zK K i2))), az.row none et (0 * zK K i2) (0 * zK K i2)] :=
          ((St.refl hO').CL (α := T S i2) et (zK K i2)).perm (List.Perm.swap _ _ _)
         refine ⟨m, _, _, rfl, by simpa using hS, hge, rfl, rfl, GG.dj, ⟨_, _, rfl, ⟨gh, b, es, clock, ll, hge.bk _ _ k1, k2, rfl, hM, rfl, fun i p e h1 _ h3 => absurd h3 (hh i p h1)⟩, ⟨_, [], rfl, ⟨_, GG.bt, rfl⟩, rfl⟩⟩, ?_⟩
         simp only [aA, au, vk]
         rw [hget, hg0]
         exact ⟨_, [], none, GG.bt, rfl, cC.nil _ _, cC.nil _ _, rfl, fun h => by cases h⟩
       · obtain ⟨p, hlj, hen, _, hfind, _⟩ := any_some hH hkR hM.qD hst.2.2 hj hke
         have hg0 : eL (fM tb i1) ll xk = some p.2 := by unfold eL; rw [hfind]; rfl
         rw [hg0] at hu1
         simp only at hu1
         have hpn := hh j p hlj
         cases hp2 : p.2.2 with
         | none => exact absurd hp2 hpn
         | some gh2 =>
         unfold Gv at hu1
         rw [hp2] at hu1
         simp only at hu1
         have hge := GG.eB (x := gh2) (hf (ct + 1) (by omega) (by omega)).1
         have hS : St (ak [az.cat (.obj b (.map es clock) :: ll.filterMap (kF et (zK K i2)))]) m m [az.cat (.obj b (.map es clock) :: (ll.set j (p.1, (p.2.1, none))).filterMap (kF et (zK K i2))), az.row gh2.g et (gh2.cap * zK K i2) (gh2.n * zK K i2)] := by
          have h1 : St (ak [az.cat (.obj b (.map es clock) :: ll.filterMap (kF et (zK K i2)))]) m m (.obj b (.map es clock) :: (ll.filterMap (kF et (zK K i2)) ++ [])) := (St.refl hO').Cw
          rw [List.append_nil] at h1
          exact St.cat (L := .obj b (.map es clock) :: (ll.set j (p.1, (p.2.1, none))).filterMap (kF et (zK K i2))) (R := [az.row gh2.g et (gh2.cap * zK K i2) (gh2.n * zK K i2)])
           (h1.perm (((sV rfl hlj hp2).trans (List.perm_append_singleton _ _).symm).cons _))
         refine ⟨m, _, _, rfl, by simpa using hS, hge, rfl, rfl, GG.dj, ⟨_, _, rfl, ⟨gh, b, es, clock, ll.set j (p.1, (p.2.1, none)), hge.bk _ _ k1, k2, rfl, ⟨hM.st, ?_⟩, ?_, ?_⟩, ⟨_, [], rfl, ⟨gh2, GG.bt, rfl⟩, rfl⟩⟩, ?_⟩
         · have := hM.qD.set (e := e0) (p := (p.1, (p.2.1, none))) ⟨hen.1, by unfold Gv; trivial⟩ j
           rwa [Cl hj] at this
         · show _ = ll.map fun p => (p.1, p.2.1)
           rw [List.map_set]
           exact Cl (by rw [List.getElem?_map, hlj]; rfl)
         · intro i q e h1 h2 h3
           by_cases hij : i = j
           · subst hij
             rw [hj] at h2; cases h2
             rw [hke]; exact hkR
           · rw [List.getElem?_set_ne (Ne.symm hij)] at h1
             exact absurd h3 (hh i q h1)
         · simp only [aA, au, vk]
           rw [hget, hg0]
           obtain ⟨l0, ad, r1, r2⟩ := hu1
           exact ⟨gh2, l0, ad, GG.bt, by rw [r1]; rfl, r2⟩
     · cases h5
   · cases h5
 · cases h4
theorem HI {κ ν μ : Type} (eq : κ → κ → Bool) (f : ν → μ) (l : List (κ × ν)) (x : κ) (v : ν) : jP eq (l.map fun p => (p.1, f p.2)) x (f v) = (jP eq l x v).map fun p => (p.1, f p.2) := by
 unfold jP
 rw [show ((l.map fun p => (p.1, f p.2)).any fun p => eq x p.1) = l.any fun p => eq x p.1 from by rw [List.any_map]; rfl]
 split
 · rw [List.map_map, List.map_map]
   refine List.map_congr_left fun p _ => ?_
   simp only [Function.comp]
   split <;> rfl
 · rw [List.map_append]; rfl
theorem HJ {κ ν : Type} {eq : κ → κ → Bool} {l : List (κ × ν)} {x : κ} {v : ν} {i : Nat} {p : κ × ν} (h : (jP eq l x v)[i]? = some p) : p.2 = v ∨ (l[i]? = some p ∧ eq x p.1 = false) ∨ (l.any fun p => eq x p.1) = false ∧ l[i]? = some p := by
 unfold jP at h
 split at h
 · rw [List.getElem?_map] at h
   obtain ⟨q, hq, rfl⟩ := Option.map_eq_some_iff.1 h
   split
   · exact .inl rfl
   · rename_i hn
     exact .inr (.inl ⟨hq, by simpa using hn⟩)
 · rename_i hn
   rcases Nat.lt_or_ge i l.length with h1 | h1
   · rw [List.getElem?_append_left h1] at h
     exact .inr (.inr ⟨by simpa using hn, h⟩)
   · rw [List.getElem?_append_right h1] at h
     obtain ⟨h2, h3⟩ := List.getElem?_eq_some_iff.1 h
     have : i - l.length = 0 := by simp at h2; omega
     simp only [this, List.getElem_cons_zero] at h3
     subst h3
     exact .inl rfl
theorem Io {κ ν : Type} {et : TypeId} {sz : Nat} {gh : Gh} {ll : List (κ × (ν × Option Gh))} {j : Nat} {p : κ × (ν × Option Gh)} (h : ll[j]? = some p) (x : κ) (v : ν) : ∃ D, List.Perm (ll.filterMap (kF et sz) ++ [az.row gh.g et (gh.cap * sz) (gh.n * sz)]) (D ++ (ll.set j (x, (v, some gh))).filterMap (kF et sz)) := by
 cases hp : p.2.2 with
 | none => exact ⟨[], (List.perm_append_singleton _ _).trans (EF rfl h hp).symm⟩
 | some gh0 =>
   have h1 := sV (et := et) (sz := sz) (p' := (p.1, (p.2.1, none))) rfl h hp
   have hj : j < ll.length := (List.getElem?_eq_some_iff.1 h).1
   have h2 : (ll.set j (p.1, (p.2.1, none)))[j]? = some (p.1, (p.2.1, none)) := List.getElem?_set_self hj
   have h3 := EF (et := et) (sz := sz) (gh := gh) (p' := (x, (v, some gh))) rfl h2 rfl
   rw [List.set_set] at h3
   refine ⟨[az.row gh0.g et (gh0.cap * sz) (gh0.n * sz)], ?_⟩
   refine ((List.perm_append_singleton _ _).trans (h1.cons _)).trans ?_
   exact (List.Perm.swap _ _ _).trans (h3.symm.cons _)
theorem Hq {α : Type} {eq : α → α → Bool} {x : α} {hole : Option α} {k0 : Option γ} (h : Ej eq x hole k0 = some r) : k0 = some r ∧ ∀ y, hole = some y → eq x y = true := by
 unfold Ej at h
 cases hole with
 | none => exact ⟨h, fun y hy => by cases hy⟩
 | some y =>
   obtain ⟨u, h1, h2⟩ := Option.bind_eq_some_iff.1 h
   exact ⟨h2, fun z hz => by cases hz; exact ep h1⟩
theorem Kb (hT : cn P K tt) {t : TypeId} {x y z : Operand} (ho : o.op = .mapUpdate t x y z) {v : CV S} {key : AV S} {w : CV S} (h : zg tb tt t v key w ob k = some r) : cP P K o [.one v, key, .one w] ob ct k r := by
 have hox : o.op.operands.toList = [x, y, z] := by rw [ho]; rfl
 unfold zg at h
 obtain ⟨⟨i1, i2, ec⟩, hi, h1⟩ := Option.bind_eq_some_iff.1 h
 simp only at h1
 obtain ⟨cs, hcs, h2⟩ := Option.bind_eq_some_iff.1 h1
 obtain ⟨xk, hxk, h4⟩ := Option.bind_eq_some_iff.1 h2
 obtain ⟨kt, se, hu, hec, hz, HK⟩ := ur hT hi
 simp only at hec HK
 split at h4
 · rename_i q p d l2
   obtain ⟨⟨ver, ao⟩, hq, h5⟩ := Option.bind_eq_some_iff.1 h4
   obtain ⟨⟨ver2, ao2⟩, hp, h6⟩ := Option.bind_eq_some_iff.1 h5
   split at h6
   · rename_i t' et kc c l hole et' c' hao hao2
     simp only at hao hao2; subst hao; subst hao2
     split at h6
     · rename_i hk hv hc hd he q1 q2 q3 q4
       clear h h1 h2 h4 h5
       cases hk; cases hv; cases hc; cases hd
       simp only [Bool.and_eq_true] at he
       have he2 := Nat.eq_of_beq_eq_true he.2.1
       have he3 := Nat.eq_of_beq_eq_true he.2.2
       subst he2; subst he3
       obtain ⟨h7, hhole⟩ := Hq h6
       simp only [Lj] at hhole
       refine ⟨_, h7, by simp, fun g a m Lr Lm hf _ ha hr hm hO => ?_⟩
       simp only [pick, dm] at hr
       subst hr
       simp only [pick, hq, hp, dm] at hm
       obtain ⟨e1, L1, rfl, _, hob, e2, L2, rfl, _, hob2, rfl⟩ := hm
       rw [hox] at ha
       obtain ⟨hv, hw, hz⟩ := oB ha
       simp only [aA, au] at hv hz
       obtain ⟨gh, b, k1, k2, k3⟩ := hv
       obtain ⟨ghw, l0, ad, w1, w2, w3⟩ := hz
       have hx : a.eval x = .map (some b) := by simpa using k3
       have hz' : a.eval z = .slice ad l2.length (ghw.cap - l0.length) := by simpa using w2
       obtain ⟨gh2, r1, rfl⟩ := hob2
       rw [w1] at r1; have r2 := Option.some.inj r1; subst r2
       obtain ⟨es, clock, ll, rfl, hM, rfl, hh⟩ := uu hob k1 k2
       have hO' : Ow m [az.cat (.obj b (.map es clock) :: ll.filterMap (kF et' (zK K i2))), az.row ghw.g et' (ghw.cap * zK K i2) (ghw.n * zK K i2)] := by simpa using hO
       have hb := wT hO'
       have hkR := gM hcs hxk hw
       have hH : dY P kt (cd K i1 m) (fM tb i1) := HK.sub fun x v h => ⟨m, h⟩
       have hst := (MapKept.stamped_iff es clock).1 hM.st
       obtain ⟨es', clock', hrun, hM', _⟩ := wk hH hu hb hM hkR (v := (l2, some ghw)) (val := a.eval z) (by unfold Gv; exact ⟨l0, ad, hz', w3⟩)
       have hrun' : (execOp a.eval o).run P m.w = .ok .skip (setBlock m.w b (.map es' clock')) := by
        simp [execOp, ho, hx, hrun]
       unfold ab
       rw [hrun']
       have hD : ∃ D, List.Perm (ll.filterMap (kF et' (zK K i2)) ++ [az.row ghw.g et' (ghw.cap * zK K i2) (ghw.n * zK K i2)]) (D ++ ((jP (fM tb i1) ll xk (l2, some ghw)).filterMap (kF et' (zK K i2)) ++ [])) := by
        rw [List.append_nil]
        rcases hH.find m.w hkR es.toList hM.keys with ⟨_, hno⟩ | ⟨j, e0, _, hj, hke⟩
        · obtain ⟨a1, _⟩ := any_none hH hkR hM.qD hno
          have : jP (fM tb i1) ll xk (l2, some ghw) = ll ++ [(xk, (l2, some ghw))] := by unfold jP; rw [if_neg (by rw [a1]; simp)]
          rw [this, List.filterMap_append]
          exact ⟨[], List.Perm.refl _⟩
        · obtain ⟨pp, hlj, _, c3, _, c5, _⟩ := any_some hH hkR hM.qD hst.2.2 hj hke
          have : jP (fM tb i1) ll xk (l2, some ghw) = ll.set j (xk, (l2, some ghw)) := by unfold jP; rw [if_pos c3, c5]
          rw [this]
          exact Io hlj _ _
       obtain ⟨D, hD⟩ := hD
       have hS := IV (q' := .map es' clock') hO' (jQ hb _) (by simp [setBlock]) (heap_setBlock_same hb _) hD
       refine ⟨⟨setBlock m.w b (.map es' clock'), m.ok⟩, g, _, rfl, by simpa using hS, GE.refl g, rfl, rfl, fun i h => absurd rfl h, ⟨_, [], rfl, ⟨gh, b, es', clock', jP (fM tb i1) ll xk (l2, some ghw), k1, k2, rfl, ?_, ?_, ?_⟩, rfl⟩, ?_⟩
       · exact hM'.mono (fun _ _ h => cd.mono K hS.le h) (fun _ _ h => Gv.mono K hS.le h)
       · exact (HI (fM tb i1) (fun p : List (T S i2) × Option Gh => p.1) ll xk (l2, some ghw)).symm
       · intro i u hu
         rcases HJ hu with h1 | ⟨h1, h2⟩ | ⟨h1, h2⟩
         · rw [h1]; simp
         · intro hn
           cases hole with
           | none => exact hh i u h1 hn
           | some y =>
             have hy := hhole y rfl
             obtain ⟨e, he⟩ : ∃ e, es.toList[i]? = some e := by
              have hl := hM.qD.len
              have hi := (List.getElem?_eq_some_iff.1 h1).1
              exact ⟨_, List.getElem?_eq_getElem (by omega)⟩
             have hky := hh i u e h1 he hn
             obtain ⟨u', hu', hen⟩ := hM.qD.at he
             rw [h1] at hu'; cases hu'
             have e1 := (hH.eqv _ _ _ _ hkR hky).1 hy
             have e2 := (hH.eqv _ _ _ _ hkR hen.1).2 e1
             rw [h2] at e2; cases e2
         · intro hn
           cases hole with
           | none => exact hh i u h2 hn
           | some y =>
             have hy := hhole y rfl
             obtain ⟨e, he⟩ : ∃ e, es.toList[i]? = some e := by
              have hl := hM.qD.len
              have hi := (List.getElem?_eq_some_iff.1 h2).1
              exact ⟨_, List.getElem?_eq_getElem (by omega)⟩
             have hky := hh i u e h2 he hn
             obtain ⟨u', hu', hen⟩ := hM.qD.at he
             rw [h2] at hu'; cases hu'
             have e1 := (hH.eqv _ _ _ _ hkR hky).1 hy
             have e2 := (hH.eqv _ _ _ _ hkR hen.1).2 e1
             have := List.any_eq_false.1 h1 u (List.mem_of_getElem? h2)
             rw [e2] at this; exact this rfl
       · simp [AV.iE, aA, bU, undef]
     · cases h6
   · cases h6
 · cases h4
theorem zl {q b : Nat} {gh : Gh} {t : TypeId} {kc : Co} {l : List (T S kc × CV S)} {e : az} (hob : lr K g m q (.yB t kc l) e) (k1 : g.bk q = some gh) (k2 : gh.g = some b) :
 ∃ es clock, e = .obj b (.map es clock) ∧ gQ (cd K kc m) (fun y v => Mq y = true ∧ au K g m y [v]) es clock l := by
 obtain ⟨gh', b', es, clock, j1, j2, rfl, j4⟩ := hob
 rw [k1] at j1; have e1 := Option.some.inj j1; subst e1
 rw [k2] at j2; have e2 := Option.some.inj j2; subst e2
 exact ⟨es, clock, rfl, j4⟩
theorem Ex (hT : cn P K tt) {t : TypeId} {x y z : Operand} (ho : o.op = .mapUpdate t x y z ∨ o.op = .insert t x y z) {v : CV S} {key w : AV S} (h : xo tb tt t v key w ob k = some r) : cP P K o [.one v, key, w] ob ct k r := by
 have hox : o.op.operands.toList = [x, y, z] := by rcases ho with ho | ho <;> rw [ho] <;> rfl
 unfold xo at h
 obtain ⟨i, hi, h1⟩ := Option.bind_eq_some_iff.1 h
 obtain ⟨cs, hcs, h2⟩ := Option.bind_eq_some_iff.1 h1
 obtain ⟨xk, hxk, h4⟩ := Option.bind_eq_some_iff.1 h2
 obtain ⟨kt, se, hu, hz, HK⟩ := zk hT hi
 split at h4
 · rename_i q f
   obtain ⟨⟨ver, ao⟩, hq, h5⟩ := Option.bind_eq_some_iff.1 h4
   split at h5
   · rename_i t' kc l hao
     simp only at hao; subst hao
     split at h5
     · rename_i hk he q1
       clear h h1 h2 h4
       cases hk
       split at h5
       · cases h5
       · rename_i hany
         simp only [Bu] at hany
         simp only [Bool.and_eq_true] at he
         refine ⟨_, h5, by simp, fun g a m Lr Lm hf _ ha hr hm hO => ?_⟩
         simp only [pick, dm] at hr
         subst hr
         rw [hox] at ha
         obtain ⟨hv, hw, hy⟩ := oB ha
         simp only [aA, au] at hv hy
         obtain ⟨gh, b, k1, k2, k3⟩ := hv
         have hx : a.eval x = .map (some b) := by simpa using k3
         obtain ⟨e, rfl, _, hob⟩ := cl hm hq
         obtain ⟨es, clock, rfl, hM⟩ := zl hob k1 k2
         have hO' : Ow m [az.obj b (.map es clock)] := by simpa using hO
         have hb : m.w.heap[b]? = some (.map es clock) := hO'.ok _ List.mem_cons_self
         have hkR := gM hcs hxk hw
         have hH : dY P kt (cd K i m) (fM tb i) := HK.sub fun x v h => ⟨m, h⟩
         obtain ⟨es', clock', hrun, hM', _⟩ := wk hH hu hb hM hkR (v := f) (val := a.eval z) ⟨he.2, hy⟩
         have hrun' : (execOp a.eval o).run P m.w = .ok .skip (setBlock m.w b (.map es' clock')) := by
          rcases ho with ho | ho <;> simp [execOp, ho, hx, hrun]
         unfold ab
         rw [hrun']
         have hS := (St.refl hO').jd (jQ hb (.map es' clock')) (by simp [setBlock]) (heap_setBlock_same hb (.map es' clock'))
         rw [show jP (fM tb i) l xk f = l ++ [(xk, f)] from by unfold jP; rw [hany]; rfl] at hM'
         refine ⟨_, g, [.obj b (.map es' clock')], rfl, by simpa using hS, GE.refl g, rfl, rfl, fun i h => absurd rfl h, ⟨_, [], rfl, ⟨gh, b, es', clock', k1, k2, rfl, ?_⟩, rfl⟩, by simp [AV.iE, aA, bU, undef]⟩
         exact hM'.mono (fun _ _ h => cd.mono K hS.le h) fun _ _ h => ⟨h.1, h.2.mono (GE.refl g) hS.le⟩
     · cases h5
   · cases h5
 · cases h4
theorem BN {q : Nat} {c : Co} {x : T S c} : ∀ {l : List (T S c × CV S)}, xn tb q c x k l = some r → k { v := .one ((eL (fM tb c) l x).getD .aU), rd := [q] } = some r
 | [], h => h
 | p :: l, h => by
   unfold xn at h
   unfold eL
   rw [List.find?_cons]
   split at h
   · rename_i hp; rw [hp]; exact h
   · rename_i hp
     rw [Bool.not_eq_true] at hp
     rw [hp]
     exact BN h
theorem Dw (hT : cn P K tt) {t : TypeId} {x y : Operand} {c : Bool} (ho : o.op = .lookup t x y c) {v : CV S} {key : AV S} (h : uz tb tt t v key c ob k = some r) : cP P K o [.one v, key] ob ct k r := by
 have hox : o.op.operands.toList = [x, y] := by rw [ho]; rfl
 unfold uz at h
 obtain ⟨i, hi, h1⟩ := Option.bind_eq_some_iff.1 h
 obtain ⟨cs, hcs, h2⟩ := Option.bind_eq_some_iff.1 h1
 obtain ⟨xk, hxk, h4⟩ := Option.bind_eq_some_iff.1 h2
 obtain ⟨kt, se, hu, hz, HK⟩ := zk hT hi
 split at h4
 · rename_i q
   obtain ⟨⟨ver, ao⟩, hq, h5⟩ := Option.bind_eq_some_iff.1 h4
   split at h5
   · rename_i t' kc l hao
     simp only at hao; subst hao
     split at h5
     · rename_i hk he q1
       clear h h1 h2 h4
       cases hk
       simp only [Bu] at h5
       refine ⟨_, BN h5, by simp, fun g a m Lr Lm hf _ ha hr hm hO => ?_⟩
       simp only [pick, dm] at hm
       subst hm
       rw [hox] at ha
       obtain ⟨hv, hw⟩ := cR ha
       simp only [aA, au] at hv
       obtain ⟨gh, b, k1, k2, k3⟩ := hv
       have hx : a.eval x = .map (some b) := by simpa using k3
       obtain ⟨e, rfl, _, hob⟩ := cl hr hq
       obtain ⟨es, clock, rfl, hM⟩ := zl hob k1 k2
       have hb : m.w.heap[b]? = some (.map es clock) := (show Ow m [az.obj b (.map es clock)] by simpa using hO).ok _ List.mem_cons_self
       have hkR := gM hcs hxk hw
       have hH : dY P kt (cd K i m) (fM tb i) := HK.sub fun x v h => ⟨m, h⟩
       obtain ⟨u, hu1, hu2⟩ := oK hH hu (hz m.w) hb hM hkR false
       have hrun : (execOp a.eval o).run P m.w = .ok (.value u) m.w := by
        simp [execOp, ho, hx, hu2]
       refine ab.val hrun (ve.pure rfl (by simpa using hO) ?_)
       simp only [aA]
       cases hm : eL (fM tb i) l xk with
       | none => rw [hm] at hu1; subst hu1; simp [au]
       | some f => rw [hm] at hu1; exact hu1.2
     · cases h5
   · cases h5
 · cases h4
end E
end Go.Proofs.YtekpafdhgkocaaaGreat
