/- Part of what the laws need: plain words, the walker and its laws, the program's functions. -/
import Derived.Test.YthhmandpjlggcaaZEvA
namespace Go.Proofs.Ythhmandpjlggcaa
open Go.RowKit G
open Go.ChangeMaps (setBlock heap_setBlock_same heap_setBlock_other)
namespace E
variable {S : Nat → Type} {tb : Tb S} {K : TbOK tb} {P : Program} {o : Oper} {xs : List (AV S)} {ob : List (Nat × Nat × AO S)} {ct : Nat} {γ : Type} {k : Res S → Option γ} {r : γ} {tt : TypeId → Option (TI S)} {g : GG S} {m : Mem}
theorem mapTy_ok (hT : TTOK P K tt) {t : TypeId} {i : Co × Co × TI S} (h : mapTy tb tt t = some i) :
    ∃ kt et, P.underlying t = some (.map kt et) ∧ tt et = some i.2.2 ∧ keyCo tb i.1 = true ∧ valCo i.2.1 = true ∧ isAggT i.2.2.d = false ∧ KeyOK P kt (fun x v => ∃ m, keyR K i.1 m x v) (keq tb i.1) := by
  unfold mapTy at h
  obtain ⟨ti, hti, h⟩ := Option.bind_eq_some_iff.1 h
  split at h
  · rename_i kt et kc vc hd hc
    obtain ⟨ei, hei, h⟩ := Option.bind_eq_some_iff.1 h
    split at h
    · rename_i hk
      cases h
      simp only [Bool.and_eq_true, Bool.not_eq_true'] at hk
      have htd := (hT.ty t ti hti).td
      rw [hd] at htd
      exact ⟨kt, et, htd, hei, hk.1, hk.2.1, hk.2.2, hT.mp t ti kt et kc vc hti hd hc hk.1⟩
    · cases h
  · cases h
theorem keyR_one {c : Co} (hc : ∀ i, c ≠ .st i) {x : T S c} {v : Value} : keyR K c m x v ↔ RK K c m x [v] := by
  cases c <;> first | exact Iff.rfl | exact absurd rfl (hc _)
theorem key_ok {c : Co} {a : AV S} {cs : List (CV S)} {x : T S c} {v : Value} (h1 : keyCs c a = some cs) (h2 : pk1 tb c cs = some x) (hv : avR K g m a v) : keyR K c m x v := by
  by_cases hs : ∃ i, c = .st i
  · obtain ⟨i, rfl⟩ := hs
    cases a <;> simp only [keyCs] at h1
    · cases h1
    · cases h1
      simp only [avR] at hv
      obtain ⟨us, rfl, hv⟩ := hv
      exact ⟨us, rfl, pk1_ok h2 hv⟩
    · cases h1
  · have hc : ∀ i, c ≠ .st i := fun i e => hs ⟨i, e⟩
    rw [keyR_one hc]
    cases a with
    | one u =>
      have : keyCs c (.one u) = some [u] := by cases c <;> first | rfl | exact absurd rfl (hc _)
      rw [this] at h1; cases h1
      simp only [avR] at hv
      exact pk1_ok h2 (cvsR_of hv)
    | agg us => cases c <;> simp [keyCs] at h1; exact absurd rfl (hc _)
    | tup us => cases c <;> simp [keyCs] at h1
theorem valCo_st {c : Co} (h : valCo c = true) : ∀ i, c ≠ .st i := fun i e => by subst e; cases h
theorem valCo_no {c : Co} (h : valCo c = true) : noSt c = true := by cases c <;> first | rfl | cases h
theorem zero_val (hT : TTOK P K tt) {et : TypeId} {ei : TI S} (hei : tt et = some ei) (hA : isAggT ei.d = false) {c : Co} {z : T S c} (hz : pk1 tb c ei.zero = some z) {w : World} : RK K c m z [zeroOf ei] ∧ (zeroValue et).run P w = .ok (zeroOf ei) w := by
  have hty := hT.ty et ei hei
  have h1 : (zeroVs ei.zero).length = 1 := by rw [hty.len, hty.one hA]
  have h2 : zeroVs ei.zero = [zeroOf ei] := by
    unfold zeroOf
    rw [hA]
    match hq : zeroVs ei.zero, h1 with
    | [u], _ => rfl
  refine ⟨by rw [← h2]; exact pk1_ok (g := ⟨fun _ => none, fun _ => none, fun _ => none⟩) hz (cvsR_zero hty.cst), run_zero ?_⟩
  obtain ⟨inf, j1, j2, _⟩ := info_parts hty.info
  simp [j1, j2]
theorem ok_makeMap (hT : TTOK P K tt) {t : TypeId} (ho : o.op = .makeMap t none) {i : Co × Co × TI S} (hi : mapTy tb tt t = some i) (h : k { v := .one (.mp (ct + 1)), add := [(ct + 1, .map t i.1 i.2.1 [] none)] } = some r) : Goes P K o [] ob ct k r := by
  refine ⟨_, h, by simp, fun g a m Lr Lm hf _ ha hr hm hO => ?_⟩
  simp only [pick, ObR] at hr hm
  subst hr; subst hm
  refine s_makeMap (Ke.nil a) (St.refl (Ow.nil m)) ho fun m' b hle hS => ?_
  have hg := GG.setB_ge (x := ⟨some b, none, 0, 0⟩) (hf (ct + 1) (by omega) (by omega)).1
  refine ⟨m', g.setB (ct + 1) ⟨some b, none, 0, 0⟩, [.obj b (.map #[] 0)], rfl, by simpa using hS, hg, rfl, rfl, GG.setB_new, ⟨_, [], rfl, ⟨_, b, #[], 0, GG.setB_at, rfl, rfl, MapR.nil, trivial⟩, rfl⟩, ?_⟩
  simp only [avR, cvR]
  exact ⟨_, b, GG.setB_at, rfl, rfl⟩
theorem map_open {q ver b : Nat} {gh : Gh} {t : TypeId} {kc vc : Co} {l : List (T S kc × T S vc)} {hole : Option (T S kc × Nat)} {L : List Ent} (hr : ObR K g m (pick ob [q]) L) (hq : look q ob = some (ver, .map t kc vc l hole)) (hO : Ow m L) (k1 : g.bk q = some gh) (k2 : gh.g = some b) :
    ∃ es clock, L = [.obj b (.map es clock)] ∧ m.w.heap[b]? = some (.map es clock) ∧ MapR (keyR K kc m) (fun y v => RK K vc m y [v]) es clock l ∧ stpR K g m kc es hole := by
  obtain ⟨e, rfl, _, hob⟩ := ObR_one hr hq
  obtain ⟨gh', b', es, clock, j1, j2, rfl, j4, j5⟩ := hob
  rw [k1] at j1; have e1 := Option.some.inj j1; subst e1
  rw [k2] at j2; have e2 := Option.some.inj j2; subst e2
  exact ⟨es, clock, rfl, hO.ok _ List.mem_cons_self, j4, j5⟩
theorem ok_lookup (hT : TTOK P K tt) {t : TypeId} {x y : Operand} {c : Bool} (ho : o.op = .lookup t x y c) {v : CV S} {key : AV S} (h : lookK tb tt t v key c ob k = some r) : Goes P K o [.one v, key] ob ct k r := by
  have hox : o.op.operands.toList = [x, y] := by rw [ho]; rfl
  unfold lookK at h
  obtain ⟨⟨i1, i2, ei⟩, hi, h1⟩ := Option.bind_eq_some_iff.1 h
  simp only at h1
  obtain ⟨cs, hcs, h2⟩ := Option.bind_eq_some_iff.1 h1
  obtain ⟨xk, hxk, h3⟩ := Option.bind_eq_some_iff.1 h2
  obtain ⟨z, hz, h4⟩ := Option.bind_eq_some_iff.1 h3
  obtain ⟨kt, et, hu, hei, hkc, hvc, hA, HK⟩ := mapTy_ok hT hi
  simp only at hei hkc hvc hA HK
  split at h4
  · rename_i q
    obtain ⟨⟨ver, ao⟩, hq, h5⟩ := Option.bind_eq_some_iff.1 h4
    split at h5
    · rename_i t' kc vc l hao
      simp only at hao; subst hao
      split at h5
      · rename_i hk hv he q1 q2
        clear h h1 h2 h3 h4
        cases hk; cases hv
        refine ⟨_, h5, by simp, fun g a m Lr Lm hf _ ha hr hm hO => ?_⟩
        simp only [pick, ObR] at hm
        subst hm
        rw [hox] at ha
        obtain ⟨hv, hw⟩ := oprs_2 ha
        simp only [avR, cvR] at hv
        obtain ⟨gh, b, k1, k2, k3⟩ := hv
        have hx : a.eval x = .map (some b) := by simpa using k3
        obtain ⟨es, clock, rfl, hb, hM, _⟩ := map_open hr hq (by simpa using hO) k1 k2
        obtain ⟨hz1, hz2⟩ := zero_val hT hei hA hz (m := m) (w := m.w)
        obtain ⟨u, hu1, hu2⟩ := run_look HK hu hz2 hb (hM.mono (fun x v h => (⟨m, h⟩ : ∃ m, keyR K i1 m x v)) fun _ _ h => h) ⟨m, key_ok hcs hxk hw⟩ c
        have hval : RK K i2 m ((mget (keq tb i1) l xk).getD z) [u] := by
          cases hm : mget (keq tb i1) l xk with
          | none => rw [hm] at hu1; subst hu1; exact hz1
          | some y => rw [hm] at hu1; exact hu1
        have hrun : (execOp a.eval o).run P m.w = .ok (.value (if c then .tuple #[u, .bool (mget (keq tb i1) l xk).isSome] else u)) m.w := by
          simp [execOp, ho, hx, hu2]
        refine StepTo.val hrun (Did.pure rfl (by simpa using hO) ?_)
        have hone := toCV_ok (g := g) (valCo_no hvc) hval
        unfold mapOut
        cases c
        · simp only [avR, castM]; exact hone
        · simp only [avR, castM]
          exact ⟨_, rfl, _, _, rfl, by simp only [avR]; exact hone, _, _, rfl, by simp only [avR, boB, cvR], rfl⟩
      · cases h5
    · cases h5
  · cases h4
theorem did_map {q b : Nat} {gh : Gh} {t : TypeId} {kc vc : Co} {l : List (T S kc × T S vc)} {es es' : Array MapEntry} {clock clock' : Nat} {v : AV S} {u : Value} (h1 : g.bk q = some gh) (h2 : gh.g = some b) (hO : Ow m [Ent.obj b (.map es clock)])
    (hM : MapR (keyR K kc m) (fun y v => RK K vc m y [v]) es' clock' l) (hv : avR K g m v u) :
    Did K g m ct [] [Ent.obj b (.map es clock)] { v := v, rm := [q], add := [(q, .map t kc vc l none)] } u (setBlock m.w b (.map es' clock')) := by
  have hb : m.w.heap[b]? = some (.map es clock) := hO.ok _ List.mem_cons_self
  have hw : m.w.grownBy (setBlock m.w b (.map es' clock')) (some b) := ⟨rfl, rfl, rfl, by simp [setBlock], fun i _ hi => heap_setBlock_other hb _ (fun e => hi (by rw [e]))⟩
  have hS := (St.refl hO).writeObj hw (by simp [setBlock]) (heap_setBlock_same hb (.map es' clock'))
  have hle := hS.le
  refine ⟨_, g, [.obj b (.map es' clock')], rfl, by simpa using hS, GE.refl g, rfl, rfl, fun i h => absurd rfl h, ⟨_, [], rfl, ⟨gh, b, es', clock', h1, h2, rfl, ?_, trivial⟩, rfl⟩, hv.mono (GE.refl g) hle⟩
  exact hM.mono (fun _ _ h => keyR.mono K hle h) fun y _ h => (rep_RC K vc).mono h hle
theorem ok_mapUpdate (hT : TTOK P K tt) {t : TypeId} {x y z : Operand} (ho : o.op = .mapUpdate t x y z) {v : CV S} {key w : AV S} (h : putK tb tt t v key w ob k = some r) : Goes P K o [.one v, key, w] ob ct k r := by
  have hox : o.op.operands.toList = [x, y, z] := by rw [ho]; rfl
  unfold putK at h
  obtain ⟨⟨i1, i2, ei⟩, hi, h1⟩ := Option.bind_eq_some_iff.1 h
  simp only at h1
  obtain ⟨cs, hcs, h2⟩ := Option.bind_eq_some_iff.1 h1
  obtain ⟨xk, hxk, h3⟩ := Option.bind_eq_some_iff.1 h2
  obtain ⟨ws, hws, h3⟩ := Option.bind_eq_some_iff.1 h3
  obtain ⟨yv, hyv, h4⟩ := Option.bind_eq_some_iff.1 h3
  obtain ⟨kt, et, hu, hei, hkc, hvc, hA, HK⟩ := mapTy_ok hT hi
  simp only at hei hkc hvc hA HK
  split at h4
  · rename_i q
    obtain ⟨⟨ver, ao⟩, hq, h5⟩ := Option.bind_eq_some_iff.1 h4
    split at h5
    · rename_i t' kc vc l hao
      simp only at hao; subst hao
      split at h5
      · rename_i hk hv he q1 q2
        clear h h1 h2 h3 h4
        cases hk; cases hv
        refine ⟨_, h5, by simp, fun g a m Lr Lm hf _ ha hr hm hO => ?_⟩
        simp only [pick, ObR] at hr
        subst hr
        rw [hox] at ha
        obtain ⟨hv, hw, hy⟩ := oprs_3 ha
        simp only [avR, cvR] at hv
        obtain ⟨gh, b, k1, k2, k3⟩ := hv
        have hx : a.eval x = .map (some b) := by simpa using k3
        obtain ⟨es, clock, rfl, hb, hM, _⟩ := map_open hm hq (by simpa using hO) k1 k2
        have hyR : RK K i2 m yv [a.eval z] := (keyR_one (valCo_st hvc)).1 (key_ok hws hyv hy)
        have hkR := key_ok hcs hxk hw
        have hH : KeyOK P kt (keyR K i1 m) (keq tb i1) := HK.sub fun x v h => ⟨m, h⟩
        obtain ⟨es', clock', hrun, hM', _⟩ := run_put hH hu hb hM hkR hyR
        have hrun' : (execOp a.eval o).run P m.w = .ok .skip (setBlock m.w b (.map es' clock')) := by
          simp [execOp, ho, hx, hrun]
        unfold StepTo
        rw [hrun']
        exact (did_map k1 k2 (by simpa using hO) hM' (by simp [AV.und, avR, avsR, undef]))
      · cases h5
    · cases h5
  · cases h4
theorem setBlock_by {w : World} {b clock : Nat} {es : Array MapEntry} (hb : w.heap[b]? = some (.map es clock)) (q' : Obj) : w.grownBy (setBlock w b q') (some b) :=
  ⟨rfl, rfl, rfl, by simp [setBlock], fun i _ hi => heap_setBlock_other hb _ (fun e => hi (by rw [e]))⟩
theorem ok_mapEntry (hT : TTOK P K tt) {t : TypeId} {x y : Operand} (ho : o.op = .mapEntry t x y) {v : CV S} {key : AV S} (h : mentK tb tt t v key ob ct k = some r) : Goes P K o [.one v, key] ob ct k r := by
  have hox : o.op.operands.toList = [x, y] := by rw [ho]; rfl
  unfold mentK at h
  obtain ⟨⟨i1, i2, ei⟩, hi, h1⟩ := Option.bind_eq_some_iff.1 h
  simp only at h1
  obtain ⟨cs, hcs, h2⟩ := Option.bind_eq_some_iff.1 h1
  obtain ⟨xk, hxk, h3⟩ := Option.bind_eq_some_iff.1 h2
  obtain ⟨z, hz, h4⟩ := Option.bind_eq_some_iff.1 h3
  obtain ⟨kt, et, hu, hei, hkc, hvc, hA, HK⟩ := mapTy_ok hT hi
  simp only at hei hkc hvc hA HK
  split at h4
  · rename_i q
    obtain ⟨⟨ver, ao⟩, hq, h5⟩ := Option.bind_eq_some_iff.1 h4
    split at h5
    · rename_i t' kc vc l hao
      simp only at hao; subst hao
      split at h5
      · rename_i hk hv he q1 q2
        clear h h1 h2 h3 h4
        cases hk; cases hv
        refine ⟨_, h5, by simp, fun g a m Lr Lm hf _ ha hr hm hO => ?_⟩
        simp only [pick, ObR] at hr
        subst hr
        rw [hox] at ha
        obtain ⟨hv, hw⟩ := oprs_2 ha
        simp only [avR, cvR] at hv
        obtain ⟨gh, b, k1, k2, k3⟩ := hv
        have hx : a.eval x = .map (some b) := by simpa using k3
        obtain ⟨es, clock, rfl, hb, hM, _⟩ := map_open hm hq (by simpa using hO) k1 k2
        have hO' : Ow m [Ent.obj b (.map es clock)] := by simpa using hO
        obtain ⟨hz1, hz2⟩ := zero_val hT hei hA hz (m := m) (w := m.w)
        have hkR := key_ok hcs hxk hw
        have hH : KeyOK P kt (keyR K i1 m) (keq tb i1) := HK.sub fun x v h => ⟨m, h⟩
        rcases run_ment hH hu hz2 hb hM hkR with ⟨j, e0, p, hj, hlj, hen, hke, hany, hfind, hrun⟩ | ⟨hany, hfind, hno, hrun⟩
        · have hrun' : (execOp a.eval o).run P m.w = .ok (.value (.tuple #[e0.val, .int .i64 (e0.born : Int)])) (setBlock m.w b (.map es clock)) := by
            simp [execOp, ho, hx, hrun]
          unfold StepTo
          rw [hrun']
          have hS := (St.refl hO').writeObj (setBlock_by hb (.map es clock)) (by simp [setBlock]) (heap_setBlock_same hb (.map es clock))
          have hg := GG.setB_ge (x := ⟨none, none, 0, e0.born⟩) (hf (ct + 1) (by omega) (by omega)).1
          refine ⟨_, g.setB (ct + 1) ⟨none, none, 0, e0.born⟩, [.obj b (.map es clock)], rfl, by simpa using hS, hg, rfl, rfl, GG.setB_new, ⟨_, [], rfl, ⟨gh, b, es, clock, hg.bk _ _ k1, k2, rfl, ?_, ⟨j, e0, _, hj, ?_, GG.setB_at, rfl⟩⟩, rfl⟩, ?_⟩
          · have : mens (keq tb i1) l xk z = l := by unfold mens; rw [if_pos hany]
            show MapR _ _ es clock (mens (keq tb i1) l xk z)
            rw [this]
            exact hM.mono (fun _ _ h => keyR.mono K hS.le h) fun y _ h => (rep_RC K i2).mono h hS.le
          · rw [hke]; exact keyR.mono K hS.le hkR
          · simp only [avR, castM]
            refine ⟨_, rfl, _, _, rfl, ?_, _, _, rfl, ?_, rfl⟩
            · simp only [avR]
              have : mget (keq tb i1) l xk = some p.2 := by unfold mget; rw [hfind]; rfl
              rw [this]
              exact toCV_ok (valCo_no hvc) ((rep_RC K i2).mono hen.2 hS.le)
            · simp only [avR, cvR]
              exact ⟨_, GG.setB_at, rfl⟩
        · have hrun' : (execOp a.eval o).run P m.w = .ok (.value (.tuple #[zeroOf ei, .int .i64 (clock : Int)])) (setBlock m.w b (.map (es.push ⟨a.eval y, zeroOf ei, clock⟩) (clock + 1))) := by
            simp [execOp, ho, hx, hrun]
          unfold StepTo
          rw [hrun']
          have hS := (St.refl hO').writeObj (setBlock_by hb (.map (es.push ⟨a.eval y, zeroOf ei, clock⟩) (clock + 1))) (by simp [setBlock]) (heap_setBlock_same hb (.map (es.push ⟨a.eval y, zeroOf ei, clock⟩) (clock + 1)))
          have hg := GG.setB_ge (x := ⟨none, none, 0, clock⟩) (hf (ct + 1) (by omega) (by omega)).1
          refine ⟨_, g.setB (ct + 1) ⟨none, none, 0, clock⟩, [.obj b (.map (es.push ⟨a.eval y, zeroOf ei, clock⟩) (clock + 1))], rfl, by simpa using hS, hg, rfl, rfl, GG.setB_new, ⟨_, [], rfl, ⟨gh, b, _, _, hg.bk _ _ k1, k2, rfl, ?_, ⟨es.toList.length, ⟨a.eval y, zeroOf ei, clock⟩, _, ?_, keyR.mono K hS.le hkR, GG.setB_at, rfl⟩⟩, rfl⟩, ?_⟩
          · have : mens (keq tb i1) l xk z = l ++ [(xk, z)] := by unfold mens; rw [if_neg (by rw [hany]; simp)]
            show MapR _ _ _ _ (mens (keq tb i1) l xk z)
            rw [this]
            refine MapR.mono (fun _ _ h => keyR.mono K hS.le h) (fun y _ h => (rep_RC K i2).mono h hS.le) ⟨MapKept.stamped_push hM.st hno, ?_⟩
            rw [Array.toList_push]
            exact hM.ens.app ⟨hkR, hz1⟩
          · rw [Array.toList_push, List.getElem?_append_right (Nat.le_refl _), Nat.sub_self]; rfl
          · simp only [avR, castM]
            refine ⟨_, rfl, _, _, rfl, ?_, _, _, rfl, ?_, rfl⟩
            · simp only [avR]
              have : mget (keq tb i1) l xk = none := by unfold mget; rw [hfind]; rfl
              rw [this]
              exact toCV_ok (valCo_no hvc) ((rep_RC K i2).mono hz1 hS.le)
            · simp only [avR, cvR]
              exact ⟨_, GG.setB_at, rfl⟩
      · cases h5
    · cases h5
  · cases h4
theorem ok_entryStore (hT : TTOK P K tt) {t : TypeId} {x y z : Operand} (ho : o.op = .entryStore t x y z) {v s : CV S} {w : AV S} (h : estK tb tt t v s w ob k = some r) : Goes P K o [.one v, .one s, w] ob ct k r := by
  have hox : o.op.operands.toList = [x, y, z] := by rw [ho]; rfl
  unfold estK at h
  obtain ⟨⟨i1, i2, ei⟩, hi, h1⟩ := Option.bind_eq_some_iff.1 h
  simp only at h1
  obtain ⟨ws, hws, h2⟩ := Option.bind_eq_some_iff.1 h1
  obtain ⟨yv, hyv, h3⟩ := Option.bind_eq_some_iff.1 h2
  obtain ⟨kt, et, hu, hei, hkc, hvc, hA, HK⟩ := mapTy_ok hT hi
  simp only at hei hkc hvc hA HK
  split at h3
  · rename_i q q' sq
    split at h3
    · obtain ⟨⟨ver, ao⟩, hq, h4⟩ := Option.bind_eq_some_iff.1 h3
      split at h4
      · rename_i t' kc vc l xk sq' hao
        simp only at hao; subst hao
        split at h4
        · rename_i hk hv he q1 q2
          clear h h1 h2 h3
          cases hk; cases hv
          simp only [Bool.and_eq_true] at he
          have he2 := Nat.eq_of_beq_eq_true he.2
          subst he2
          refine ⟨_, h4, by simp, fun g a m Lr Lm hf _ ha hr hm hO => ?_⟩
          simp only [pick, ObR] at hr
          subst hr
          rw [hox] at ha
          obtain ⟨hv, hs, hy⟩ := oprs_3 ha
          simp only [avR, cvR] at hv hs
          obtain ⟨gh, b, k1, k2, k3⟩ := hv
          obtain ⟨ghs, s1, s2⟩ := hs
          have hx : a.eval x = .map (some b) := by simpa using k3
          have hsy : a.eval y = .int .i64 (ghs.n : Int) := by simpa using s2
          obtain ⟨es, clock, rfl, hb, hM, j, e0, ghq, hj, hkR, hgq, hgn⟩ := map_open hm hq (by simpa using hO) k1 k2
          rw [s1] at hgq; have r3 := Option.some.inj hgq; subst r3
          have hyR : RK K i2 m yv [a.eval z] := (keyR_one (valCo_st hvc)).1 (key_ok hws hyv hy)
          have hH : KeyOK P kt (keyR K i1 m) (keq tb i1) := HK.sub fun x v h => ⟨m, h⟩
          have hst := (MapKept.stamped_iff es clock).1 hM.st
          obtain ⟨pp, c1, c2, c3, c4, c5, c6⟩ := any_some hH hkR hM.ens hst.2.2 hj rfl
          have hrun := run_est (P := P) (t := t) (val := a.eval z) hM.st hj hb
          rw [← hgn, ← hsy] at hrun
          have hrun' : (execOp a.eval o).run P m.w = .ok .skip (setBlock m.w b (.map (es.modify j fun e => { e with val := a.eval z }) clock)) := by
            simp [execOp, ho, hx, hrun]
          unfold StepTo
          rw [hrun']
          have hmp : mput (keq tb i1) l xk yv = l.set j (xk, yv) := by
            unfold mput; rw [if_pos c3, c5]
          have hM' : MapR (keyR K i1 m) (fun y v => RK K i2 m y [v]) (es.modify j fun e => { e with val := a.eval z }) clock (mput (keq tb i1) l xk yv) := by
            rw [hmp]
            refine ⟨MapKept.stamped_modify hM.st _ _ (fun _ _ => rfl) (fun _ _ _ => rfl), ?_⟩
            rw [Array.toList_modify, ChangeMaps.modify_eq_set _ _ _ _ hj]
            exact hM.ens.set ⟨hkR, hyR⟩ j
          exact (did_map k1 k2 (by simpa using hO) hM' (by simp [AV.und, avR, avsR, undef]))
        · cases h4
      · cases h4
    · cases h3
  · cases h3
theorem ok_delete (hT : TTOK P K tt) {t kt' : TypeId} {x y : Operand} (ho : o.op = .call ⟨.builtin .delete, #[x, y], #[t, kt']⟩) {v : CV S} {key : AV S} (h : delK tb tt t v key ob k = some r) : Goes P K o [.one v, key] ob ct k r := by
  have hox : o.op.operands.toList = [x, y] := by rw [ho]; rfl
  unfold delK at h
  obtain ⟨⟨i1, i2, ei⟩, hi, h1⟩ := Option.bind_eq_some_iff.1 h
  simp only at h1
  obtain ⟨cs, hcs, h2⟩ := Option.bind_eq_some_iff.1 h1
  obtain ⟨xk, hxk, h4⟩ := Option.bind_eq_some_iff.1 h2
  obtain ⟨kt, et, hu, hei, hkc, hvc, hA, HK⟩ := mapTy_ok hT hi
  simp only at hei hkc hvc hA HK
  split at h4
  · rename_i q
    obtain ⟨⟨ver, ao⟩, hq, h5⟩ := Option.bind_eq_some_iff.1 h4
    split at h5
    · rename_i t' kc vc l hao
      simp only at hao; subst hao
      split at h5
      · rename_i hk hv he q1 q2
        clear h h1 h2 h4
        cases hk; cases hv
        refine ⟨_, h5, by simp, fun g a m Lr Lm hf _ ha hr hm hO => ?_⟩
        simp only [pick, ObR] at hr
        subst hr
        rw [hox] at ha
        obtain ⟨hv, hw⟩ := oprs_2 ha
        simp only [avR, cvR] at hv
        obtain ⟨gh, b, k1, k2, k3⟩ := hv
        have hx : a.eval x = .map (some b) := by simpa using k3
        obtain ⟨es, clock, rfl, hb, hM, _⟩ := map_open hm hq (by simpa using hO) k1 k2
        have hkR := key_ok hcs hxk hw
        have hH : KeyOK P kt (keyR K i1 m) (keq tb i1) := HK.sub fun x v h => ⟨m, h⟩
        obtain ⟨es', hrun, hM'⟩ := run_del (ty := o.type) (kt2 := kt') hH hu hb hM hkR
        have hrun' : (execOp a.eval o).run P m.w = .ok (.value (.tuple #[])) (setBlock m.w b (.map es' clock)) := by
          simp [execOp, ho, resolve, invoke, builtin, hx, hrun]
        unfold StepTo
        rw [hrun']
        exact (did_map (v := .tup []) k1 k2 (by simpa using hO) hM' (by simp only [avR, avsR]; exact ⟨[], rfl, rfl⟩))
      · cases h5
    · cases h5
  · cases h4
end E
end Go.Proofs.Ythhmandpjlggcaa
