/- Part of what the laws need: plain words, the walker and its laws, the program's functions. -/
import Derived.Test.YtekpafdhgkocaaaGreatZEvA
namespace Go.Proofs.YtekpafdhgkocaaaGreat
open Go.RowKit G
open Go.ChangeMaps (setBlock heap_setBlock_same heap_setBlock_other)
namespace E
variable {S : Nat → Type} {tb : Tb S} {K : cV tb} {P : Program} {o : Oper} {xs : List (AV S)} {ob : List (Nat × Nat × AO S)} {ct : Nat} {γ : Type} {k : iH S → Option γ} {r : γ} {tt : TypeId → Option (TI S)} {g : GG S} {m : Mem}
theorem ln (hT : cn P K tt) {t : TypeId} {i : Co × Co × TI S} (h : mP tb tt t = some i) :
 ∃ kt et, P.underlying t = some (.map kt et) ∧ tt et = some i.2.2 ∧ xm tb i.1 = true ∧ EW i.2.1 = true ∧ dS i.2.2.d = false ∧ dY P kt (fun x v => ∃ m, cd K i.1 m x v) (fM tb i.1) := by
 unfold mP at h
 obtain ⟨ti, hti, h⟩ := Option.bind_eq_some_iff.1 h
 split at h
 · rename_i kt et kc vc hd hc
   obtain ⟨ei, hei, h⟩ := Option.bind_eq_some_iff.1 h
   split at h
   · rename_i hk
     cases h
     simp only [Bool.and_eq_true, Bool.not_eq_true'] at hk
     have htd := (hT.ty t ti hti).td
     rw [hd] at htd
     exact ⟨kt, et, htd, hei, hk.1, hk.2.1, hk.2.2, hT.mp t ti kt et kc vc hti hd hc hk.1⟩
   · cases h
 · cases h
theorem mN {c : Co} (hc : ∀ i, c ≠ .st i) {x : T S c} {v : Value} : cd K c m x v ↔ RK K c m x [v] := by
 cases c <;> first | exact Iff.rfl | exact absurd rfl (hc _)
theorem gM {c : Co} {a : AV S} {cs : List (CV S)} {x : T S c} {v : Value} (h1 : kh c a = some cs) (h2 : wh tb c cs = some x) (hv : aA K g m a v) : cd K c m x v := by
 by_cases hs : ∃ i, c = .st i
 · obtain ⟨i, rfl⟩ := hs
   cases a <;> simp only [kh] at h1
   · cases h1
   · cases h1
     simp only [aA] at hv
     obtain ⟨us, rfl, hv⟩ := hv
     exact ⟨us, rfl, oD h2 hv⟩
   · cases h1
 · have hc : ∀ i, c ≠ .st i := fun i e => hs ⟨i, e⟩
   rw [mN hc]
   cases a with
   | one u =>
     have : kh c (.one u) = some [u] := by cases c <;> first | rfl | exact absurd rfl (hc _)
     rw [this] at h1; cases h1
     simp only [aA] at hv
     exact oD h2 (fP hv)
   | agg us => cases c <;> simp [kh] at h1; exact absurd rfl (hc _)
   | je us => cases c <;> simp [kh] at h1
theorem tC {c : Co} (h : EW c = true) : ∀ i, c ≠ .st i := fun i e => by subst e; cases h
theorem mY {c : Co} (h : EW c = true) : Aq c = true := by cases c <;> first | rfl | cases h
theorem tE (hT : cn P K tt) {et : TypeId} {ei : TI S} (hei : tt et = some ei) (hA : dS ei.d = false) {c : Co} {z : T S c} (hz : wh tb c ei.zero = some z) {w : World} : RK K c m z [zeroOf ei] ∧ (zeroValue et).run P w = .ok (zeroOf ei) w := by
 have hty := hT.ty et ei hei
 have h1 : (gv ei.zero).length = 1 := by rw [hty.len, hty.one hA]
 have h2 : gv ei.zero = [zeroOf ei] := by
  unfold zeroOf
  rw [hA]
  match hq : gv ei.zero, h1 with
  | [u], _ => rfl
 refine ⟨by rw [← h2]; exact oD (g := ⟨fun _ => none, fun _ => none, fun _ => none⟩) hz (il hty.JD), xO ?_⟩
 obtain ⟨inf, j1, j2, _⟩ := info_parts hty.info
 simp [j1, j2]
theorem Dx (hT : cn P K tt) {t : TypeId} (ho : o.op = .makeMap t none) {i : Co × Co × TI S} (hi : mP tb tt t = some i) (h : k { v := .one (.mp (ct + 1)), add := [(ct + 1, .map t i.1 i.2.1 [] none)] } = some r) : cP P K o [] ob ct k r := by
 refine ⟨_, h, by simp, fun g a m Lr Lm hf _ ha hr hm hO => ?_⟩
 simp only [pick, dm] at hr hm
 subst hr; subst hm
 refine uQ (Ke.nil a) (St.refl (Ow.nil m)) ho fun m' b hle hS => ?_
 have hg := GG.eB (x := ⟨some b, none, 0, 0, default⟩) (hf (ct + 1) (by omega) (by omega)).1
 refine ⟨m', g.gg (ct + 1) ⟨some b, none, 0, 0, default⟩, [.obj b (.map #[] 0)], rfl, by simpa using hS, hg, rfl, rfl, GG.dj, ⟨_, [], rfl, ⟨_, b, #[], 0, GG.bt, rfl, rfl, gQ.nil, trivial⟩, rfl⟩, ?_⟩
 simp only [aA, au]
 exact ⟨_, b, GG.bt, rfl, rfl⟩
theorem mQ {q ver b : Nat} {gh : Gh} {t : TypeId} {kc vc : Co} {l : List (T S kc × T S vc)} {hole : Option (T S kc × Nat)} {L : List az} (hr : dm K g m (pick ob [q]) L) (hq : look q ob = some (ver, .map t kc vc l hole)) (hO : Ow m L) (k1 : g.bk q = some gh) (k2 : gh.g = some b) :
 ∃ es clock, L = [.obj b (.map es clock)] ∧ m.w.heap[b]? = some (.map es clock) ∧ gQ (cd K kc m) (fun y v => RK K vc m y [v]) es clock l ∧ DM K g m kc es hole := by
 obtain ⟨e, rfl, _, hob⟩ := cl hr hq
 obtain ⟨gh', b', es, clock, j1, j2, rfl, j4, j5⟩ := hob
 rw [k1] at j1; have e1 := Option.some.inj j1; subst e1
 rw [k2] at j2; have e2 := Option.some.inj j2; subst e2
 exact ⟨es, clock, rfl, hO.ok _ List.mem_cons_self, j4, j5⟩
theorem pF {q ver b q0 : Nat} {gh : Gh} {t : TypeId} {kc vc : Co} {l : List (T S kc × T S vc)} {hole : Option (T S kc × Nat)} {L : List az} (hr : dm K g m (pick ob [q]) L) (hq : look q ob = some (ver, .jf t kc vc l hole q0)) (hO : Ow m L) (k1 : g.bk q = some gh) (k2 : gh.g = some b) :
 ∃ es gq, L = [.obj b (.map es gq.n)] ∧ m.w.heap[b]? = some (.map es gq.n) ∧ gQ (cd K kc m) (fun y v => RK K vc m y [v]) es gq.n l ∧ DM K g m kc es hole ∧ g.bk q0 = some gq ∧ gq.cap = b ∧ es.toList.map (fun e => (e.key, e.born)) = gq.sk := by
 obtain ⟨e, rfl, _, hob⟩ := cl hr hq
 obtain ⟨gh', b', es, gq, j1, j2, j3, j4, rfl, j5, j6, j7⟩ := hob
 rw [k1] at j1; have e1 := Option.some.inj j1; subst e1
 rw [k2] at j2; have e2 := Option.some.inj j2; subst e2
 exact ⟨es, gq, rfl, hO.ok _ List.mem_cons_self, j5, j6, j3, j4, j7⟩
theorem FX (hT : cn P K tt) {t : TypeId} {x y : Operand} {c : Bool} (ho : o.op = .lookup t x y c) {v : CV S} {key : AV S} (h : zo tb tt t v key c ob k = some r) : cP P K o [.one v, key] ob ct k r := by
 have hox : o.op.operands.toList = [x, y] := by rw [ho]; rfl
 unfold zo at h
 obtain ⟨⟨i1, i2, ei⟩, hi, h1⟩ := Option.bind_eq_some_iff.1 h
 simp only at h1
 obtain ⟨cs, hcs, h2⟩ := Option.bind_eq_some_iff.1 h1
 obtain ⟨xk, hxk, h3⟩ := Option.bind_eq_some_iff.1 h2
 obtain ⟨z, hz, h4⟩ := Option.bind_eq_some_iff.1 h3
 obtain ⟨kt, et, hu, hei, hkc, hvc, hA, HK⟩ := ln hT hi
 simp only at hei hkc hvc hA HK
 split at h4
 · rename_i q
   obtain ⟨⟨ver, ao⟩, hq, h5⟩ := Option.bind_eq_some_iff.1 h4
   split at h5
   · rename_i t' kc vc l hao
     simp only at hao; subst hao
     split at h5
     · rename_i hk hv he q1 q2
       clear h h1 h2 h3 h4
       cases hk; cases hv
       refine ⟨_, h5, by simp, fun g a m Lr Lm hf _ ha hr hm hO => ?_⟩
       simp only [pick, dm] at hm
       subst hm
       rw [hox] at ha
       obtain ⟨hv, hw⟩ := cR ha
       simp only [aA, au] at hv
       obtain ⟨gh, b, k1, k2, k3⟩ := hv
       have hx : a.eval x = .map (some b) := by simpa using k3
       obtain ⟨es, clock, rfl, hb, hM, _⟩ := mQ hr hq (by simpa using hO) k1 k2
       obtain ⟨hz1, hz2⟩ := tE hT hei hA hz (m := m) (w := m.w)
       obtain ⟨u, hu1, hu2⟩ := oK HK hu hz2 hb (hM.mono (fun x v h => (⟨m, h⟩ : ∃ m, cd K i1 m x v)) fun _ _ h => h) ⟨m, gM hcs hxk hw⟩ c
       have hval : RK K i2 m ((eL (fM tb i1) l xk).getD z) [u] := by
        cases hm : eL (fM tb i1) l xk with
        | none => rw [hm] at hu1; subst hu1; exact hz1
        | some y => rw [hm] at hu1; exact hu1
       have hrun : (execOp a.eval o).run P m.w = .ok (.value (if c then .tuple #[u, .bool (eL (fM tb i1) l xk).isSome] else u)) m.w := by
        simp [execOp, ho, hx, hu2]
       refine ab.val hrun (ve.pure rfl (by simpa using hO) ?_)
       have hone := toCV_ok (g := g) (mY hvc) hval
       unfold Ap
       cases c
       · simp only [aA, fC]; exact hone
       · simp only [aA, fC]
         exact ⟨_, rfl, _, _, rfl, by simp only [aA]; exact hone, _, _, rfl, by simp only [aA, Mc, au], rfl⟩
     · cases h5
   · rename_i t' kc vc l q0 hao
     simp only at hao; subst hao
     split at h5
     · rename_i hk hv he q1 q2
       clear h h1 h2 h3 h4
       cases hk; cases hv
       refine ⟨_, h5, by simp, fun g a m Lr Lm hf _ ha hr hm hO => ?_⟩
       simp only [pick, dm] at hm
       subst hm
       rw [hox] at ha
       obtain ⟨hv, hw⟩ := cR ha
       simp only [aA, au] at hv
       obtain ⟨gh, b, k1, k2, k3⟩ := hv
       have hx : a.eval x = .map (some b) := by simpa using k3
       obtain ⟨es, gq, rfl, hb, hM, _⟩ := pF hr hq (by simpa using hO) k1 k2
       obtain ⟨hz1, hz2⟩ := tE hT hei hA hz (m := m) (w := m.w)
       obtain ⟨u, hu1, hu2⟩ := oK HK hu hz2 hb (hM.mono (fun x v h => (⟨m, h⟩ : ∃ m, cd K i1 m x v)) fun _ _ h => h) ⟨m, gM hcs hxk hw⟩ c
       have hval : RK K i2 m ((eL (fM tb i1) l xk).getD z) [u] := by
        cases hm : eL (fM tb i1) l xk with
        | none => rw [hm] at hu1; subst hu1; exact hz1
        | some y => rw [hm] at hu1; exact hu1
       have hrun : (execOp a.eval o).run P m.w = .ok (.value (if c then .tuple #[u, .bool (eL (fM tb i1) l xk).isSome] else u)) m.w := by
        simp [execOp, ho, hx, hu2]
       refine ab.val hrun (ve.pure rfl (by simpa using hO) ?_)
       have hone := toCV_ok (g := g) (mY hvc) hval
       unfold Ap
       cases c
       · simp only [aA, fC]; exact hone
       · simp only [aA, fC]
         exact ⟨_, rfl, _, _, rfl, by simp only [aA]; exact hone, _, _, rfl, by simp only [aA, Mc, au], rfl⟩
     · cases h5
   · cases h5
 · cases h4
theorem Af {q b : Nat} {gh : Gh} {t : TypeId} {kc vc : Co} {l : List (T S kc × T S vc)} {es es' : Array MapEntry} {clock clock' : Nat} {v : AV S} {u : Value} (h1 : g.bk q = some gh) (h2 : gh.g = some b) (hO : Ow m [az.obj b (.map es clock)])
 (hM : gQ (cd K kc m) (fun y v => RK K vc m y [v]) es' clock' l) (hv : aA K g m v u) :
 ve K g m ct [] [az.obj b (.map es clock)] { v := v, rm := [q], add := [(q, .map t kc vc l none)] } u (setBlock m.w b (.map es' clock')) := by
 have hb : m.w.heap[b]? = some (.map es clock) := hO.ok _ List.mem_cons_self
 have hw : m.w.grownBy (setBlock m.w b (.map es' clock')) (some b) := ⟨rfl, rfl, rfl, by simp [setBlock], fun i _ hi => heap_setBlock_other hb _ (fun e => hi (by rw [e]))⟩
 have hS := (St.refl hO).jd hw (by simp [setBlock]) (heap_setBlock_same hb (.map es' clock'))
 have hle := hS.le
 refine ⟨_, g, [.obj b (.map es' clock')], rfl, by simpa using hS, GE.refl g, rfl, rfl, fun i h => absurd rfl h, ⟨_, [], rfl, ⟨gh, b, es', clock', h1, h2, rfl, ?_, trivial⟩, rfl⟩, hv.mono (GE.refl g) hle⟩
 exact hM.mono (fun _ _ h => cd.mono K hle h) fun y _ h => (bj K vc).mono h hle
theorem Bw {q b q0 : Nat} {gh gq : Gh} {t : TypeId} {kc vc : Co} {l : List (T S kc × T S vc)} {es es' : Array MapEntry} {v : AV S} {u : Value} (h1 : g.bk q = some gh) (h2 : gh.g = some b) (h3 : g.bk q0 = some gq) (h4 : gq.cap = b) (hO : Ow m [az.obj b (.map es gq.n)])
 (hM : gQ (cd K kc m) (fun y v => RK K vc m y [v]) es' gq.n l) (hs : es'.toList.map (fun e => (e.key, e.born)) = gq.sk) (hv : aA K g m v u) :
 ve K g m ct [] [az.obj b (.map es gq.n)] { v := v, rm := [q], add := [(q, .jf t kc vc l none q0)] } u (setBlock m.w b (.map es' gq.n)) := by
 have hb : m.w.heap[b]? = some (.map es gq.n) := hO.ok _ List.mem_cons_self
 have hw : m.w.grownBy (setBlock m.w b (.map es' gq.n)) (some b) := ⟨rfl, rfl, rfl, by simp [setBlock], fun i _ hi => heap_setBlock_other hb _ (fun e => hi (by rw [e]))⟩
 have hS := (St.refl hO).jd hw (by simp [setBlock]) (heap_setBlock_same hb (.map es' gq.n))
 have hle := hS.le
 refine ⟨_, g, [.obj b (.map es' gq.n)], rfl, by simpa using hS, GE.refl g, rfl, rfl, fun i h => absurd rfl h, ⟨_, [], rfl, ⟨gh, b, es', gq, h1, h2, h3, h4, rfl, ?_, trivial, hs⟩, rfl⟩, hv.mono (GE.refl g) hle⟩
 exact hM.mono (fun _ _ h => cd.mono K hle h) fun y _ h => (bj K vc).mono h hle
theorem Ay (hT : cn P K tt) {t : TypeId} {x y z : Operand} (ho : o.op = .mapUpdate t x y z) {v : CV S} {key w : AV S} (h : Ca tb tt t v key w ob k = some r) : cP P K o [.one v, key, w] ob ct k r := by
 have hox : o.op.operands.toList = [x, y, z] := by rw [ho]; rfl
 unfold Ca at h
 obtain ⟨⟨i1, i2, ei⟩, hi, h1⟩ := Option.bind_eq_some_iff.1 h
 simp only at h1
 obtain ⟨cs, hcs, h2⟩ := Option.bind_eq_some_iff.1 h1
 obtain ⟨xk, hxk, h3⟩ := Option.bind_eq_some_iff.1 h2
 obtain ⟨ws, hws, h3⟩ := Option.bind_eq_some_iff.1 h3
 obtain ⟨yv, hyv, h4⟩ := Option.bind_eq_some_iff.1 h3
 obtain ⟨kt, et, hu, hei, hkc, hvc, hA, HK⟩ := ln hT hi
 simp only at hei hkc hvc hA HK
 split at h4
 · rename_i q
   obtain ⟨⟨ver, ao⟩, hq, h5⟩ := Option.bind_eq_some_iff.1 h4
   split at h5
   · rename_i t' kc vc l hao
     simp only at hao; subst hao
     split at h5
     · rename_i hk hv he q1 q2
       clear h h1 h2 h3 h4
       cases hk; cases hv
       refine ⟨_, h5, by simp, fun g a m Lr Lm hf _ ha hr hm hO => ?_⟩
       simp only [pick, dm] at hr
       subst hr
       rw [hox] at ha
       obtain ⟨hv, hw, hy⟩ := oB ha
       simp only [aA, au] at hv
       obtain ⟨gh, b, k1, k2, k3⟩ := hv
       have hx : a.eval x = .map (some b) := by simpa using k3
       obtain ⟨es, clock, rfl, hb, hM, _⟩ := mQ hm hq (by simpa using hO) k1 k2
       have hyR : RK K i2 m yv [a.eval z] := (mN (tC hvc)).1 (gM hws hyv hy)
       have hkR := gM hcs hxk hw
       have hH : dY P kt (cd K i1 m) (fM tb i1) := HK.sub fun x v h => ⟨m, h⟩
       obtain ⟨es', clock', hrun, hM', _⟩ := wk hH hu hb hM hkR hyR
       have hrun' : (execOp a.eval o).run P m.w = .ok .skip (setBlock m.w b (.map es' clock')) := by
        simp [execOp, ho, hx, hrun]
       unfold ab
       rw [hrun']
       exact (Af k1 k2 (by simpa using hO) hM' (by simp [AV.iE, aA, bU, undef]))
     · cases h5
   · rename_i t' kc vc l q0 hao
     simp only at hao; subst hao
     split at h5
     · rename_i hk hv he q1 q2
       cases hk; cases hv
       obtain ⟨_, hck, h5⟩ := Option.bind_eq_some_iff.1 h5
       have hck : (eL (fM tb i1) l xk).isSome = true := by
        unfold dZ at hck; split at hck
        · rename_i hc; exact hc
        · cases hck
       clear h h1 h2 h3 h4
       refine ⟨_, h5, by simp, fun g a m Lr Lm hf _ ha hr hm hO => ?_⟩
       simp only [pick, dm] at hr
       subst hr
       rw [hox] at ha
       obtain ⟨hv, hw, hy⟩ := oB ha
       simp only [aA, au] at hv
       obtain ⟨gh, b, k1, k2, k3⟩ := hv
       have hx : a.eval x = .map (some b) := by simpa using k3
       obtain ⟨es, gq, rfl, hb, hM, _, g3, g4, g5⟩ := pF hm hq (by simpa using hO) k1 k2
       have hyR : RK K i2 m yv [a.eval z] := (mN (tC hvc)).1 (gM hws hyv hy)
       have hkR := gM hcs hxk hw
       have hH : dY P kt (cd K i1 m) (fM tb i1) := HK.sub fun x v h => ⟨m, h⟩
       obtain ⟨es', clock', hrun, hM', hsame⟩ := wk hH hu hb hM hkR hyR
       have hany : (l.any fun p => fM tb i1 xk p.1) = true := by
        cases hb : l.any fun p => fM tb i1 xk p.1 with
        | true => rfl
        | false =>
          have : (l.find? fun p => fM tb i1 xk p.1) = none := List.find?_eq_none.2 fun p hp => by
           have := List.any_eq_false.1 hb p hp
           simpa using this
          unfold eL at hck
          rw [this] at hck; cases hck
       obtain ⟨rfl, hsk⟩ := hsame hany
       have hrun' : (execOp a.eval o).run P m.w = .ok .skip (setBlock m.w b (.map es' gq.n)) := by
        simp [execOp, ho, hx, hrun]
       unfold ab
       rw [hrun']
       exact (Bw k1 k2 g3 g4 (by simpa using hO) hM' (hsk.trans g5) (by simp [AV.iE, aA, bU, undef]))
     · cases h5
   · cases h5
 · cases h4
theorem jQ {w : World} {b clock : Nat} {es : Array MapEntry} (hb : w.heap[b]? = some (.map es clock)) (q' : Obj) : w.grownBy (setBlock w b q') (some b) :=
 ⟨rfl, rfl, rfl, by simp [setBlock], fun i _ hi => heap_setBlock_other hb _ (fun e => hi (by rw [e]))⟩
theorem B5 (hT : cn P K tt) {t : TypeId} {x y : Operand} (ho : o.op = .mapEntry t x y) {v : CV S} {key : AV S} (h : zt tb tt t v key ob ct k = some r) : cP P K o [.one v, key] ob ct k r := by
 have hox : o.op.operands.toList = [x, y] := by rw [ho]; rfl
 unfold zt at h
 obtain ⟨⟨i1, i2, ei⟩, hi, h1⟩ := Option.bind_eq_some_iff.1 h
 simp only at h1
 obtain ⟨cs, hcs, h2⟩ := Option.bind_eq_some_iff.1 h1
 obtain ⟨xk, hxk, h3⟩ := Option.bind_eq_some_iff.1 h2
 obtain ⟨z, hz, h4⟩ := Option.bind_eq_some_iff.1 h3
 obtain ⟨kt, et, hu, hei, hkc, hvc, hA, HK⟩ := ln hT hi
 simp only at hei hkc hvc hA HK
 split at h4
 · rename_i q
   obtain ⟨⟨ver, ao⟩, hq, h5⟩ := Option.bind_eq_some_iff.1 h4
   split at h5
   · rename_i t' kc vc l hao
     simp only at hao; subst hao
     split at h5
     · rename_i hk hv he q1 q2
       clear h h1 h2 h3 h4
       cases hk; cases hv
       refine ⟨_, h5, by simp, fun g a m Lr Lm hf _ ha hr hm hO => ?_⟩
       simp only [pick, dm] at hr
       subst hr
       rw [hox] at ha
       obtain ⟨hv, hw⟩ := cR ha
       simp only [aA, au] at hv
       obtain ⟨gh, b, k1, k2, k3⟩ := hv
       have hx : a.eval x = .map (some b) := by simpa using k3
       obtain ⟨es, clock, rfl, hb, hM, _⟩ := mQ hm hq (by simpa using hO) k1 k2
       have hO' : Ow m [az.obj b (.map es clock)] := by simpa using hO
       obtain ⟨hz1, hz2⟩ := tE hT hei hA hz (m := m) (w := m.w)
       have hkR := gM hcs hxk hw
       have hH : dY P kt (cd K i1 m) (fM tb i1) := HK.sub fun x v h => ⟨m, h⟩
       rcases Ce hH hu hz2 hb hM hkR with ⟨j, e0, p, hj, hlj, hen, hke, hany, hfind, hrun⟩ | ⟨hany, hfind, hno, hrun⟩
       · have hrun' : (execOp a.eval o).run P m.w = .ok (.value (.tuple #[e0.val, .int .i64 (e0.born : Int)])) (setBlock m.w b (.map es clock)) := by
          simp [execOp, ho, hx, hrun]
         unfold ab
         rw [hrun']
         have hS := (St.refl hO').jd (jQ hb (.map es clock)) (by simp [setBlock]) (heap_setBlock_same hb (.map es clock))
         have hg := GG.eB (x := ⟨none, none, 0, e0.born, default⟩) (hf (ct + 1) (by omega) (by omega)).1
         refine ⟨_, g.gg (ct + 1) ⟨none, none, 0, e0.born, default⟩, [.obj b (.map es clock)], rfl, by simpa using hS, hg, rfl, rfl, GG.dj, ⟨_, [], rfl, ⟨gh, b, es, clock, hg.bk _ _ k1, k2, rfl, ?_, ⟨j, e0, _, hj, ?_, GG.bt, rfl⟩⟩, rfl⟩, ?_⟩
         · have : Dm (fM tb i1) l xk z = l := by unfold Dm; rw [if_pos hany]
           show gQ _ _ es clock (Dm (fM tb i1) l xk z)
           rw [this]
           exact hM.mono (fun _ _ h => cd.mono K hS.le h) fun y _ h => (bj K i2).mono h hS.le
         · rw [hke]; exact cd.mono K hS.le hkR
         · simp only [aA, fC]
           refine ⟨_, rfl, _, _, rfl, ?_, _, _, rfl, ?_, rfl⟩
           · simp only [aA]
             have : eL (fM tb i1) l xk = some p.2 := by unfold eL; rw [hfind]; rfl
             rw [this]
             exact toCV_ok (mY hvc) ((bj K i2).mono hen.2 hS.le)
           · simp only [aA, au]
             exact ⟨_, GG.bt, rfl⟩
       · have hrun' : (execOp a.eval o).run P m.w = .ok (.value (.tuple #[zeroOf ei, .int .i64 (clock : Int)])) (setBlock m.w b (.map (es.push ⟨a.eval y, zeroOf ei, clock⟩) (clock + 1))) := by
          simp [execOp, ho, hx, hrun]
         unfold ab
         rw [hrun']
         have hS := (St.refl hO').jd (jQ hb (.map (es.push ⟨a.eval y, zeroOf ei, clock⟩) (clock + 1))) (by simp [setBlock]) (heap_setBlock_same hb (.map (es.push ⟨a.eval y, zeroOf ei, clock⟩) (clock + 1)))
         have hg := GG.eB (x := ⟨none, none, 0, clock, default⟩) (hf (ct + 1) (by omega) (by omega)).1
         refine ⟨_, g.gg (ct + 1) ⟨none, none, 0, clock, default⟩, [.obj b (.map (es.push ⟨a.eval y, zeroOf ei, clock⟩) (clock + 1))], rfl, by simpa using hS, hg, rfl, rfl, GG.dj, ⟨_, [], rfl, ⟨gh, b, _, _, hg.bk _ _ k1, k2, rfl, ?_, ⟨es.toList.length, ⟨a.eval y, zeroOf ei, clock⟩, _, ?_, cd.mono K hS.le hkR, GG.bt, rfl⟩⟩, rfl⟩, ?_⟩
         · have : Dm (fM tb i1) l xk z = l ++ [(xk, z)] := by unfold Dm; rw [if_neg (by rw [hany]; simp)]
           show gQ _ _ _ _ (Dm (fM tb i1) l xk z)
           rw [this]
           refine gQ.mono (fun _ _ h => cd.mono K hS.le h) (fun y _ h => (bj K i2).mono h hS.le) ⟨MapKept.stamped_push hM.st hno, ?_⟩
           rw [Array.toList_push]
           exact hM.qD.app ⟨hkR, hz1⟩
         · rw [Array.toList_push, List.getElem?_append_right (Nat.le_refl _), Nat.sub_self]; rfl
         · simp only [aA, fC]
           refine ⟨_, rfl, _, _, rfl, ?_, _, _, rfl, ?_, rfl⟩
           · simp only [aA]
             have : eL (fM tb i1) l xk = none := by unfold eL; rw [hfind]; rfl
             rw [this]
             exact toCV_ok (mY hvc) ((bj K i2).mono hz1 hS.le)
           · simp only [aA, au]
             exact ⟨_, GG.bt, rfl⟩
     · cases h5
   · rename_i t' kc vc l q0 hao
     simp only at hao; subst hao
     split at h5
     · rename_i hk hv he q1 q2
       cases hk; cases hv
       obtain ⟨_, hck, h5⟩ := Option.bind_eq_some_iff.1 h5
       have hck : (eL (fM tb i1) l xk).isSome = true := by
        unfold dZ at hck; split at hck
        · rename_i hc; exact hc
        · cases hck
       clear h h1 h2 h3 h4
       refine ⟨_, h5, by simp, fun g a m Lr Lm hf _ ha hr hm hO => ?_⟩
       simp only [pick, dm] at hr
       subst hr
       rw [hox] at ha
       obtain ⟨hv, hw⟩ := cR ha
       simp only [aA, au] at hv
       obtain ⟨gh, b, k1, k2, k3⟩ := hv
       have hx : a.eval x = .map (some b) := by simpa using k3
       obtain ⟨es, gq, rfl, hb, hM, _, g3, g4, g5⟩ := pF hm hq (by simpa using hO) k1 k2
       have hO' : Ow m [az.obj b (.map es gq.n)] := by simpa using hO
       obtain ⟨hz1, hz2⟩ := tE hT hei hA hz (m := m) (w := m.w)
       have hkR := gM hcs hxk hw
       have hH : dY P kt (cd K i1 m) (fM tb i1) := HK.sub fun x v h => ⟨m, h⟩
       rcases Ce hH hu hz2 hb hM hkR with ⟨j, e0, p, hj, hlj, hen, hke, hany, hfind, hrun⟩ | ⟨hany, hfind, hno, hrun⟩
       · have hrun' : (execOp a.eval o).run P m.w = .ok (.value (.tuple #[e0.val, .int .i64 (e0.born : Int)])) (setBlock m.w b (.map es gq.n)) := by
          simp [execOp, ho, hx, hrun]
         unfold ab
         rw [hrun']
         have hS := (St.refl hO').jd (jQ hb (.map es gq.n)) (by simp [setBlock]) (heap_setBlock_same hb (.map es gq.n))
         have hg := GG.eB (x := ⟨none, none, 0, e0.born, default⟩) (hf (ct + 1) (by omega) (by omega)).1
         refine ⟨_, g.gg (ct + 1) ⟨none, none, 0, e0.born, default⟩, [.obj b (.map es gq.n)], rfl, by simpa using hS, hg, rfl, rfl, GG.dj, ⟨_, [], rfl, ⟨gh, b, es, gq, hg.bk _ _ k1, k2, hg.bk _ _ g3, g4, rfl, ?_, ⟨j, e0, _, hj, ?_, GG.bt, rfl⟩, g5⟩, rfl⟩, ?_⟩
         · exact hM.mono (fun _ _ h => cd.mono K hS.le h) fun y _ h => (bj K i2).mono h hS.le
         · rw [hke]; exact cd.mono K hS.le hkR
         · simp only [aA, fC]
           refine ⟨_, rfl, _, _, rfl, ?_, _, _, rfl, ?_, rfl⟩
           · simp only [aA]
             have : eL (fM tb i1) l xk = some p.2 := by unfold eL; rw [hfind]; rfl
             rw [this]
             exact toCV_ok (mY hvc) ((bj K i2).mono hen.2 hS.le)
           · simp only [aA, au]
             exact ⟨_, GG.bt, rfl⟩
       · exfalso
         unfold eL at hck
         rw [hfind] at hck
         cases hck
     · cases h5
   · cases h5
 · cases h4
theorem yF (hT : cn P K tt) {t : TypeId} {x y z : Operand} (ho : o.op = .entryStore t x y z) {v s : CV S} {w : AV S} (h : Fv tb tt t v s w ob k = some r) : cP P K o [.one v, .one s, w] ob ct k r := by
 have hox : o.op.operands.toList = [x, y, z] := by rw [ho]; rfl
 unfold Fv at h
 obtain ⟨⟨i1, i2, ei⟩, hi, h1⟩ := Option.bind_eq_some_iff.1 h
 simp only at h1
 obtain ⟨ws, hws, h2⟩ := Option.bind_eq_some_iff.1 h1
 obtain ⟨yv, hyv, h3⟩ := Option.bind_eq_some_iff.1 h2
 obtain ⟨kt, et, hu, hei, hkc, hvc, hA, HK⟩ := ln hT hi
 simp only at hei hkc hvc hA HK
 split at h3
 · rename_i q q' sq
   split at h3
   · obtain ⟨⟨ver, ao⟩, hq, h4⟩ := Option.bind_eq_some_iff.1 h3
     split at h4
     · rename_i t' kc vc l xk sq' hao
       simp only at hao; subst hao
       split at h4
       · rename_i hk hv he q1 q2
         clear h h1 h2 h3
         cases hk; cases hv
         simp only [Bool.and_eq_true] at he
         have he2 := Nat.eq_of_beq_eq_true he.2
         subst he2
         refine ⟨_, h4, by simp, fun g a m Lr Lm hf _ ha hr hm hO => ?_⟩
         simp only [pick, dm] at hr
         subst hr
         rw [hox] at ha
         obtain ⟨hv, hs, hy⟩ := oB ha
         simp only [aA, au] at hv hs
         obtain ⟨gh, b, k1, k2, k3⟩ := hv
         obtain ⟨ghs, s1, s2⟩ := hs
         have hx : a.eval x = .map (some b) := by simpa using k3
         have hsy : a.eval y = .int .i64 (ghs.n : Int) := by simpa using s2
         obtain ⟨es, clock, rfl, hb, hM, j, e0, ghq, hj, hkR, hgq, hgn⟩ := mQ hm hq (by simpa using hO) k1 k2
         rw [s1] at hgq; have r3 := Option.some.inj hgq; subst r3
         have hyR : RK K i2 m yv [a.eval z] := (mN (tC hvc)).1 (gM hws hyv hy)
         have hH : dY P kt (cd K i1 m) (fM tb i1) := HK.sub fun x v h => ⟨m, h⟩
         have hst := (MapKept.stamped_iff es clock).1 hM.st
         obtain ⟨pp, c1, c2, c3, c4, c5, c6⟩ := any_some hH hkR hM.qD hst.2.2 hj rfl
         have hrun := EH (P := P) (t := t) (val := a.eval z) hM.st hj hb
         rw [← hgn, ← hsy] at hrun
         have hrun' : (execOp a.eval o).run P m.w = .ok .skip (setBlock m.w b (.map (es.modify j fun e => { e with val := a.eval z }) clock)) := by
          simp [execOp, ho, hx, hrun]
         unfold ab
         rw [hrun']
         have hmp : jP (fM tb i1) l xk yv = l.set j (xk, yv) := by
          unfold jP; rw [if_pos c3, c5]
         have hM' : gQ (cd K i1 m) (fun y v => RK K i2 m y [v]) (es.modify j fun e => { e with val := a.eval z }) clock (jP (fM tb i1) l xk yv) := by
          rw [hmp]
          refine ⟨MapKept.stamped_modify hM.st _ _ (fun _ _ => rfl) (fun _ _ _ => rfl), ?_⟩
          rw [Array.toList_modify, ChangeMaps.modify_eq_set _ _ _ _ hj]
          exact hM.qD.set ⟨hkR, hyR⟩ j
         exact (Af k1 k2 (by simpa using hO) hM' (by simp [AV.iE, aA, bU, undef]))
       · cases h4
     · rename_i t' kc vc l xk sq' q0 hao
       simp only at hao; subst hao
       split at h4
       · rename_i hk hv he q1 q2
         clear h h1 h2 h3
         cases hk; cases hv
         simp only [Bool.and_eq_true] at he
         have he2 := Nat.eq_of_beq_eq_true he.2
         subst he2
         refine ⟨_, h4, by simp, fun g a m Lr Lm hf _ ha hr hm hO => ?_⟩
         simp only [pick, dm] at hr
         subst hr
         rw [hox] at ha
         obtain ⟨hv, hs, hy⟩ := oB ha
         simp only [aA, au] at hv hs
         obtain ⟨gh, b, k1, k2, k3⟩ := hv
         obtain ⟨ghs, s1, s2⟩ := hs
         have hx : a.eval x = .map (some b) := by simpa using k3
         have hsy : a.eval y = .int .i64 (ghs.n : Int) := by simpa using s2
         obtain ⟨es, gq, rfl, hb, hM, ⟨j, e0, ghq, hj, hkR, hgq, hgn⟩, g3, g4, g5⟩ := pF hm hq (by simpa using hO) k1 k2
         rw [s1] at hgq; have r3 := Option.some.inj hgq; subst r3
         have hyR : RK K i2 m yv [a.eval z] := (mN (tC hvc)).1 (gM hws hyv hy)
         have hH : dY P kt (cd K i1 m) (fM tb i1) := HK.sub fun x v h => ⟨m, h⟩
         have hst := (MapKept.stamped_iff es gq.n).1 hM.st
         obtain ⟨pp, c1, c2, c3, c4, c5, c6⟩ := any_some hH hkR hM.qD hst.2.2 hj rfl
         have hrun := EH (P := P) (t := t) (val := a.eval z) hM.st hj hb
         rw [← hgn, ← hsy] at hrun
         have hrun' : (execOp a.eval o).run P m.w = .ok .skip (setBlock m.w b (.map (es.modify j fun e => { e with val := a.eval z }) gq.n)) := by
          simp [execOp, ho, hx, hrun]
         unfold ab
         rw [hrun']
         have hmp : jP (fM tb i1) l xk yv = l.set j (xk, yv) := by
          unfold jP; rw [if_pos c3, c5]
         have hM' : gQ (cd K i1 m) (fun y v => RK K i2 m y [v]) (es.modify j fun e => { e with val := a.eval z }) gq.n (jP (fM tb i1) l xk yv) := by
          rw [hmp]
          refine ⟨MapKept.stamped_modify hM.st _ _ (fun _ _ => rfl) (fun _ _ _ => rfl), ?_⟩
          rw [Array.toList_modify, ChangeMaps.modify_eq_set _ _ _ _ hj]
          exact hM.qD.set ⟨hkR, hyR⟩ j
         exact (Bw k1 k2 g3 g4 (by simpa using hO) hM' (by
          rw [← g5, Array.toList_modify, ChangeMaps.modify_eq_set _ _ _ _ hj, List.map_set]
          refine List.ext_getElem? fun i => ?_
          rw [List.getElem?_set]
          split
          · rename_i e; subst e
            rw [List.getElem?_map, hj, List.length_map, if_pos (List.getElem?_eq_some_iff.1 hj).1]; rfl
          · rfl) (by simp [AV.iE, aA, bU, undef]))
       · cases h4
     · cases h4
   · cases h3
 · cases h3
theorem FV (hT : cn P K tt) {t kt' : TypeId} {x y : Operand} (ho : o.op = .call ⟨.builtin .delete, #[x, y], #[t, kt']⟩) {v : CV S} {key : AV S} (h : Fp tb tt t v key ob k = some r) : cP P K o [.one v, key] ob ct k r := by
 have hox : o.op.operands.toList = [x, y] := by rw [ho]; rfl
 unfold Fp at h
 obtain ⟨⟨i1, i2, ei⟩, hi, h1⟩ := Option.bind_eq_some_iff.1 h
 simp only at h1
 obtain ⟨cs, hcs, h2⟩ := Option.bind_eq_some_iff.1 h1
 obtain ⟨xk, hxk, h4⟩ := Option.bind_eq_some_iff.1 h2
 obtain ⟨kt, et, hu, hei, hkc, hvc, hA, HK⟩ := ln hT hi
 simp only at hei hkc hvc hA HK
 split at h4
 · rename_i q
   obtain ⟨⟨ver, ao⟩, hq, h5⟩ := Option.bind_eq_some_iff.1 h4
   split at h5
   · rename_i t' kc vc l hao
     simp only at hao; subst hao
     split at h5
     · rename_i hk hv he q1 q2
       clear h h1 h2 h4
       cases hk; cases hv
       refine ⟨_, h5, by simp, fun g a m Lr Lm hf _ ha hr hm hO => ?_⟩
       simp only [pick, dm] at hr
       subst hr
       rw [hox] at ha
       obtain ⟨hv, hw⟩ := cR ha
       simp only [aA, au] at hv
       obtain ⟨gh, b, k1, k2, k3⟩ := hv
       have hx : a.eval x = .map (some b) := by simpa using k3
       obtain ⟨es, clock, rfl, hb, hM, _⟩ := mQ hm hq (by simpa using hO) k1 k2
       have hkR := gM hcs hxk hw
       have hH : dY P kt (cd K i1 m) (fM tb i1) := HK.sub fun x v h => ⟨m, h⟩
       obtain ⟨es', hrun, hM'⟩ := Kw (ty := o.type) (kt2 := kt') hH hu hb hM hkR
       have hrun' : (execOp a.eval o).run P m.w = .ok (.value (.tuple #[])) (setBlock m.w b (.map es' clock)) := by
        simp [execOp, ho, resolve, invoke, builtin, hx, hrun]
       unfold ab
       rw [hrun']
       exact (Af (v := .je []) k1 k2 (by simpa using hO) hM' (by simp only [aA, bU]; exact ⟨[], rfl, rfl⟩))
     · cases h5
   · cases h5
 · cases h4
theorem H4 (hT : cn P K tt) {t : TypeId} {x : Operand} (ho : o.op = .range t x) {v : CV S} (h : uK tb tt t v ob ct k = some r) : cP P K o [.one v] ob ct k r := by
 have hox : o.op.operands.toList = [x] := by rw [ho]; rfl
 unfold uK at h
 obtain ⟨⟨i1, i2, ei⟩, hi, h4⟩ := Option.bind_eq_some_iff.1 h
 simp only at h4
 obtain ⟨kt, et, hu, hei, hkc, hvc, hA, HK⟩ := ln hT hi
 simp only at hei hkc hvc hA HK
 split at h4
 · rename_i q
   obtain ⟨⟨ver, ao⟩, hq, h5⟩ := Option.bind_eq_some_iff.1 h4
   split at h5
   · rename_i t' kc vc l hao
     simp only at hao; subst hao
     split at h5
     · rename_i hk hv he q1 q2
       clear h h4
       cases hk; cases hv
       refine ⟨_, h5, by simp, fun g a m Lr Lm hf _ ha hr hm hO => ?_⟩
       simp only [pick, dm] at hr
       subst hr
       rw [hox] at ha
       have hv := cL ha
       simp only [aA, au] at hv
       obtain ⟨gh, b, k1, k2, k3⟩ := hv
       have hx : a.eval x = .map (some b) := by simpa using k3
       obtain ⟨es, clock, rfl, hb, hM, _⟩ := mQ hm hq (by simpa using hO) k1 k2
       have hO' : Ow m [az.obj b (.map es clock)] := by simpa using hO
       have hrun' : (execOp a.eval o).run P m.w = .ok (.value (.pointer (some ⟨m.w.heap.size, 0, none⟩))) (m.w.alloc (.mapIter (some b) clock #[] clock)) := by
        simp [execOp, ho, hx, Instr.range, run_underlying hu, MapKept.run_getObj_map hb, Result.andThen]
       unfold ab
       rw [hrun']
       have hS := (St.refl hO').new (o := .mapIter (some b) clock #[] clock) rfl (.obj m.w.heap.size (.mapIter (some b) clock #[] clock)) rfl (cI _ _)
       have hle := hS.le
       have hg := GG.eB (x := ⟨some m.w.heap.size, none, b, clock, es.toList.map fun e => (e.key, e.born)⟩) (hf (ct + 1) (by omega) (by omega)).1
       refine ⟨_, g.gg (ct + 1) ⟨some m.w.heap.size, none, b, clock, es.toList.map fun e => (e.key, e.born)⟩, [.obj b (.map es clock), .obj m.w.heap.size (.mapIter (some b) clock #[] clock)], rfl, by simpa using hS.perm (List.Perm.swap _ _ _), hg, rfl, rfl, GG.dj,
        ⟨_, _, rfl, ⟨gh, b, es, _, hg.bk _ _ k1, k2, GG.bt, rfl, rfl, ?_, trivial, rfl⟩, _, [], rfl, ⟨_, gh, m.w.heap.size, #[], GG.bt, rfl, hg.bk _ _ k1, k2, rfl, rfl⟩, rfl⟩, ?_⟩
       · exact hM.mono (fun _ _ h => cd.mono K hle h) fun y _ h => (bj K i2).mono h hle
       · simp only [aA, au]
         exact ⟨_, _, GG.bt, rfl, rfl⟩
     · cases h5
   · cases h5
 · cases h4
theorem Hu {c : Co} {x : T S c} {v : Value} (hc : xm tb c = true) (h : cd K c m x v) : aA K g m (Eo tb c x) v := by
 by_cases hs : ∃ i, c = .st i
 · obtain ⟨i, rfl⟩ := hs
   obtain ⟨cs, rfl, h1⟩ := h
   simp only [Eo, aA]
   exact ⟨cs, rfl, yg h1⟩
 · have hn : ∀ i, c ≠ .st i := fun i e => hs ⟨i, e⟩
   have h1 := (mN hn).1 h
   have e : Eo tb c x = .one (toCV c x) := by cases c <;> first | rfl | exact absurd rfl (hn _)
   rw [e]
   simp only [aA]
   exact toCV_ok (by cases c <;> first | rfl | exact absurd rfl (hn _) | cases hc) h1
theorem HZ (hT : cn P K tt) {x : Operand} (ho : o.op = .entry x) {v : CV S} (h : uh tb tt v ob k = some r) : cP P K o [.one v] ob ct k r := by
 have hox : o.op.operands.toList = [x] := by rw [ho]; rfl
 unfold uh at h
 split at h
 · rename_i q
   obtain ⟨⟨ver, ao⟩, hq, h1⟩ := Option.bind_eq_some_iff.1 h
   split at h1
   · rename_i kc' om xk hao
     simp only at hao; subst hao
     obtain ⟨⟨ver2, ao2⟩, hq2, h2⟩ := Option.bind_eq_some_iff.1 h1
     split at h2
     · rename_i t kc vc l q' hao
       simp only at hao; subst hao
       obtain ⟨⟨i1, i2, ei⟩, hi, h3⟩ := Option.bind_eq_some_iff.1 h2
       obtain ⟨z, hz, h4⟩ := Option.bind_eq_some_iff.1 h3
       simp only at h4 hz
       obtain ⟨kt, et, hu, hei, hkc, hvc, hA, HK⟩ := ln hT hi
       simp only at hei hkc hvc hA HK
       split at h4
       · rename_i hk0 hk hv he e1 e2 e3
         have he := Nat.eq_of_beq_eq_true he
         subst he
         clear h h1 h2 h3 e1 e2 e3
         cases hk0; cases hk; cases hv
         refine ⟨_, h4, by simp, fun g a m Lr Lm hf _ ha hr hm hO => ?_⟩
         simp only [pick, dm] at hm
         subst hm
         rw [hox] at ha
         have hv := cL ha
         simp only [aA, au] at hv
         obtain ⟨gq, rb, k1, k2, k3⟩ := hv
         have hx : a.eval x = .pointer (some ⟨rb, 0, none⟩) := by simpa using k3
         simp only [pick, hq, hq2, dm] at hr
         obtain ⟨e1, L1, rfl, _, hit, e2, L2, rfl, _, hmp, rfl⟩ := hr
         obtain ⟨gh, go, rb', seen, j1, j2, j3, j4, rfl, j, p, j5, j6, j7⟩ := hit
         rw [k1] at j1; have r1 := Option.some.inj j1; subst r1
         rw [k2] at j2; have r2 := Option.some.inj j2; subst r2
         obtain ⟨gm, b, es, gq', m1, m2, m3, m4, rfl, m5, m6, m7⟩ := hmp
         rw [k1] at m3; have r3 := Option.some.inj m3; subst r3
         rw [m1] at j3; have r4 := Option.some.inj j3; subst r4
         rw [m2] at j4; have r5 := Option.some.inj j4
         have hO1 : m.w.heap[rb]? = some (.mapIter (some gq.cap) gq.n seen gq.n) := hO.ok (.obj rb (.mapIter (some gq.cap) gq.n seen gq.n)) (by simp)
         have hO2 : m.w.heap[gq.cap]? = some (.map es gq.n) := by rw [← r5]; exact hO.ok (.obj b (.map es gq.n)) (by simp)
         rw [← m7, List.getElem?_map] at j5
         obtain ⟨e0, he0, rfl⟩ := Option.map_eq_some_iff.1 j5
         have hst := (MapKept.stamped_iff es gq.n).1 m5.st
         obtain ⟨s', rfl⟩ := Array.back?_eq_some_iff.1 j6
         have hmem : e0 ∈ es.toList := List.mem_of_getElem? he0
         have hrun := run_entry_at (P := P) m.w rb gq.cap gq.n s' es gq.n e0 hO1 hO2 hmem hst.2.1
         have hrun' : (execOp a.eval o).run P m.w = .ok (.value (.tuple #[e0.key, e0.val])) m.w := by
          simp [execOp, ho, hx, hrun]
         obtain ⟨pp, p1, p2, p3⟩ := m5.qD.at he0
         have hH : dY P kt (cd K i1 m) (fM tb i1) := HK.sub fun x v h => ⟨m, h⟩
         obtain ⟨p0, c1, c2, c3, c4, _⟩ := any_some hH j7 m5.qD hst.2.2 he0 rfl
         rw [p1] at c1; cases c1
         have hg : eL (fM tb i1) l xk = some pp.2 := by unfold eL; rw [c4]; rfl
         refine ab.val hrun' (ve.pure rfl hO ?_)
         simp only [fC, vl, hg, Option.getD_some, aA]
         exact ⟨_, rfl, _, _, rfl, Hu hkc j7, _, _, rfl, by simp only [aA]; exact toCV_ok (mY hvc) p3, rfl⟩
       · cases h4
     · cases h2
   · cases h1
 · cases h
end E
end Go.Proofs.YtekpafdhgkocaaaGreat
