/- Part of what the laws need: plain words, the walker and its laws, the program's functions. -/
import Derived.Test.YthhmandpjlggcaaZEvW
namespace Go.Proofs.Ythhmandpjlggcaa
open Go.RowKit G
namespace E
variable {S : Nat → Type} {tb : Tb S} {K : TbOK tb} {P : Program} {tt : TypeId → Option (TI S)} {Φ : List (Ctr S)} {fa : FA} {g : GG S} {m : Mem}
theorem argTm_look : ∀ {l : List (AV S)} {i t vid : Nat} {v : AV S}, look t (argTm i l) = some (vid, v) → vid = 64 + t ∧ i ≤ t ∧ l[t - i]? = some v
  | [], i, t, vid, v, h => by cases h
  | a :: l, i, t, vid, v, h => by
    simp only [argTm, look_cons] at h
    by_cases e : i = t
    · subst e; rw [if_pos rfl] at h; cases h; exact ⟨rfl, Nat.le_refl _, by simp⟩
    · rw [if_neg e] at h
      obtain ⟨h1, h2, h3⟩ := argTm_look h
      refine ⟨h1, by omega, ?_⟩
      rw [show t - i = (t - (i + 1)) + 1 by omega]; simpa using h3
theorem argsK_lk : ∀ {vs : List Value} {i t : Nat} {v : Value}, i ≤ t → vs[t - i]? = some v → lk (argsK i vs) t = some v
  | [], i, t, v, _, h => by simp at h
  | u :: vs, i, t, v, hi, h => by
    unfold argsK lk
    by_cases e : i = t
    · subst e; simp at h; subst h; simp
    · rw [beq_ne e]
      refine argsK_lk (by omega) ?_
      rw [show t - i = (t - (i + 1)) + 1 by omega] at h; simpa using h
theorem avsR_get : ∀ {as : List (AV S)} {us : List Value} {i : Nat} {v : AV S}, avsR K g m as us → as[i]? = some v → ∃ u, us[i]? = some u ∧ avR K g m v u
  | [], us, i, v, _, h => by simp at h
  | a :: as, us, i, v, hr, h => by
    simp only [avsR] at hr
    obtain ⟨x, r, rfl, h1, h2⟩ := hr
    cases i with
    | zero => simp at h; subst h; exact ⟨x, rfl, h1⟩
    | succ i => obtain ⟨u, k1, k2⟩ := avsR_get h2 (by simpa using h); exact ⟨u, by simpa using k1, k2⟩
theorem avsR_len : ∀ {as : List (AV S)} {us : List Value}, avsR K g m as us → us.length = as.length
  | [], us, h => by simp only [avsR] at h; subst h; rfl
  | a :: as, us, h => by simp only [avsR] at h; obtain ⟨x, r, rfl, h1, h2⟩ := h; simp [avsR_len h2]
theorem fills_len {ids : Nat → Nat} : ∀ {l : List PS} {ds ds' : List (Dyn S)} {as : List (AV S)}, PS.fills tb ids l ds = some (as, ds') → as.length = l.length
  | [], ds, ds', as, h => by simp only [PS.fills] at h; cases h; rfl
  | s :: l, ds, ds', as, h => by
    simp only [PS.fills] at h
    obtain ⟨p, hp, h⟩ := Option.bind_eq_some_iff.1 h
    obtain ⟨⟨q1, q2⟩, hq, h⟩ := Option.map_eq_some_iff.1 h
    cases h
    simp [fills_len hq]
theorem ofills_len {ids : Nat → Nat} : ∀ {l : List OS} {ds ds' : List (Dyn S)} {as : List (AO S)}, OS.fills tb ids l ds = some (as, ds') → as.length = l.length
  | [], ds, ds', as, h => by simp only [OS.fills] at h; cases h; rfl
  | s :: l, ds, ds', as, h => by
    simp only [OS.fills] at h
    obtain ⟨p, hp, h⟩ := Option.bind_eq_some_iff.1 h
    obtain ⟨⟨q1, q2⟩, hq, h⟩ := Option.map_eq_some_iff.1 h
    cases h
    simp [ofills_len hq]
theorem ObL_get {ids : Nat → Nat} : ∀ {l : List (AO S)} {L : List Ent} {o i : Nat} {a : AO S}, ObL K g m ids o l L → l[i]? = some a → ∃ e, L[i]? = some e ∧ objR K g m (ids (o + i)) a e
  | [], L, o, i, a, _, h => by simp at h
  | x :: l, L, o, i, a, hr, h => by
    obtain ⟨e, L', rfl, h1, h2⟩ := hr
    cases i with
    | zero => simp at h; subst h; exact ⟨e, rfl, h1⟩
    | succ i =>
      obtain ⟨f, k1, k2⟩ := ObL_get h2 (by simpa using h)
      exact ⟨f, by simpa using k1, by rw [show o + (i + 1) = o + 1 + i by omega]; exact k2⟩
theorem objR_bk {q : Nat} {a : AO S} {e : Ent} (h : objR K g m q a e) : ∃ gh, g.bk q = some gh := by
  cases a with
  | box T cs => obtain ⟨gh, b, vs, h1, _⟩ := h; exact ⟨gh, h1⟩
  | row T c => obtain ⟨gh, h1, _⟩ := h; exact ⟨gh, h1⟩
  | arr T c f l => obtain ⟨gh, cs, h1, _⟩ := h; exact ⟨gh, h1⟩
  | loop r st tm => obtain ⟨gh, _, _, _, _, h1, _⟩ := h; exact ⟨gh, h1⟩
  | map t kc vc l hole => obtain ⟨gh, _, _, _, h1, _⟩ := h; exact ⟨gh, h1⟩
  | gmap t et kc c l hole => obtain ⟨gh, _, _, _, _, h1, _⟩ := h; exact ⟨gh, h1⟩
  | kmap t kc l => obtain ⟨gh, _, _, _, h1, _⟩ := h; exact ⟨gh, h1⟩
theorem ObL.mono {g' : GG S} {m' : Mem} {ids : Nat → Nat} (hg : GE g g') (hm : Le m m') : ∀ {l : List (AO S)} {L : List Ent} {o : Nat}, ObL K g m ids o l L → ObL K g' m' ids o l L
  | [], _, _, h => h
  | _ :: _, _, _, ⟨e, L', h1, h2, h3⟩ => ⟨e, L', h1, h2.mono hg hm, ObL.mono hg hm h3⟩
theorem start_ok {c : Ctr S} {x : HT S c.ls} {σ : AS S} {bk : Nat → Option Gh} {vals : List Value} {L : List Ent} {n : Nat} {a : Act} (h : start tb c x = some σ) (hb : ∀ i, c.obs.length ≤ i → bk i = none)
    (hin : ∀ ds args ds1 obs ds2, permD c.bk (dynOf c.ls x) = some ds → PS.fills tb id c.ins ds = some (args, ds1) → OS.fills tb id c.obs ds1 = some (obs, ds2) → avsR K (gOf bk) m args vals ∧ ObL K (gOf bk) m id 0 obs L) (hO : Ow m L) (hB : K.B m)
    (hn : c.ins.length ≤ 190) (hK : Kn n a (argsK 0 vals)) : ∃ g0, Inv K n ⟨[], []⟩ (blocksOf L) m bk σ g0 a m L ∧ (∀ (i ver : Nat) ao, look i σ.ob = some (ver, ao) → ∃ e, L[i]? = some e ∧ g0.oo ver = some (ao, e)) := by
  unfold start at h
  obtain ⟨ds, hds, h⟩ := Option.bind_eq_some_iff.1 h
  obtain ⟨⟨args, ds1⟩, hp, h⟩ := Option.bind_eq_some_iff.1 h
  obtain ⟨⟨obs, ds2⟩, hq, h⟩ := Option.bind_eq_some_iff.1 h
  simp only [Option.some.injEq] at h hq
  subst h
  obtain ⟨hA, hL⟩ := hin ds args ds1 obs ds2 hds hp hq
  have hlen := avsR_len hA
  rw [fills_len hp] at hlen
  have hol := ofills_len hq
  have hLl := ObL_len hL
  have hfew := c.few
  simp only [Bool.and_eq_true] at hfew
  have hf1 := Nat.le_of_ble_eq_true hfew.1
  let g0 : GG S := { bk := bk, vv := fun i => if 64 ≤ i then vals[i - 64]? else none, oo := fun i => match obs[i]?, L[i]? with | some a, some e => some (a, e) | _, _ => none }
  have ge : GE (gOf bk) g0 := ⟨fun _ _ h => h, fun i y hy => (by cases hy), fun i y hy => (by cases hy)⟩
  have hL' := ObL.mono ge (Le.refl m) hL
  refine ⟨g0, ⟨hK.size, hK.defers, fun t vid v hs => ?_, fun s vid v hs => ?_, numOb_ok hL' (fun i => rfl) fun i b e hb' he => ?_, by rw [List.append_nil]; exact St.refl hO, fun i hi => ⟨hb i ?_, ?_, ?_⟩, ⟨hB, fun j q hj => ?_⟩⟩, fun i ver ao hi => ?_⟩
  · simp only [Nat.zero_add] at hs
    obtain ⟨rfl, _, h2⟩ := argTm_look hs
    obtain ⟨u, h3, h4⟩ := avsR_get hA h2
    show (if _ then _ else _) = _
    rw [if_pos (by omega), show 64 + t - 64 = t by omega]
    simp only [Nat.sub_zero] at h3
    rw [h3, hK.at_ t u (argsK_lk (Nat.zero_le _) (by simpa using h3))]
  · obtain ⟨rfl, _, h2⟩ := argTm_look hs
    obtain ⟨u, h3, h4⟩ := avsR_get hA h2
    refine ⟨u, ?_, h4.mono ge (Le.refl m)⟩
    show (if _ then _ else _) = _
    rw [if_pos (by omega), show 64 + s - 64 = s by omega]
    simpa using h3
  · show (match obs[0 + i]?, L[0 + i]? with | some a, some e => some (a, e) | _, _ => none) = _
    rw [Nat.zero_add, hb', he]
  · simp only at hi; omega
  · simp only at hi
    show (if _ then _ else _) = _
    rw [if_pos (by omega), List.getElem?_eq_none (by omega)]
  · simp only at hi
    show (match obs[i]?, L[i]? with | some a, some e => some (a, e) | _, _ => none) = _
    rw [List.getElem?_eq_none (l := obs) (by omega)]
  · simp only at hj
    have hj1 : j < c.obs.length := by
      have := (List.getElem?_eq_some_iff.1 hj).1
      simpa using this
    rw [List.getElem?_range hj1] at hj
    cases hj
    obtain ⟨e, _, k2⟩ := ObL_get (i := j) hL (List.getElem?_eq_getElem (by omega))
    obtain ⟨gh, k3⟩ := objR_bk k2
    have k4 : bk j = some gh := by rw [Nat.zero_add] at k3; exact k3
    exact ⟨gh, k4, k4⟩
  · simp only at hi
    have key : ∀ (l : List (AO S)) (v i ver : Nat) ao, look i (numOb v l) = some (ver, ao) → ver = i ∧ v ≤ i ∧ l[i - v]? = some ao := fun l => by
      induction l with
      | nil => intro v i ver ao h; cases h
      | cons y l ih =>
        intro v i ver ao h
        simp only [numOb, look_cons] at h
        by_cases e : v = i
        · rw [if_pos e] at h; cases h; exact ⟨e, by omega, by subst e; simp⟩
        · rw [if_neg e] at h
          obtain ⟨h1, h2, h3⟩ := ih _ _ _ _ h
          refine ⟨h1, by omega, ?_⟩
          rw [show i - v = (i - (v + 1)) + 1 by omega]; simpa using h3
    obtain ⟨rfl, _, k3⟩ := key _ _ _ _ _ hi
    simp only [Nat.sub_zero] at k3
    obtain ⟨e, k4, _⟩ := ObL_get hL k3
    exact ⟨e, k4, by show (match obs[ver]?, L[ver]? with | some a, some e => some (a, e) | _, _ => none) = _; rw [k3, k4]⟩
def rvOps : List ResultVar → List Operand
  | [] => []
  | .tmp t :: l => .tmp t :: rvOps l
  | .cell t _ :: l => .tmp t :: rvOps l
section
variable {n : Nat} {ds : Cx} {B : List Nat} {m0 : Mem} {rb : Nat → Option Gh} {σ : AS S} {a : Act} {L : List Ent}
theorem retVals_ok (hT : TTOK P K tt) (hI : Inv K n ds B m0 rb σ g a m L) {Kt : Kt} : ∀ {rs : List ResultVar} {vs : List (AV S)}, (∀ t, Operand.tmp t ∈ rvOps rs → lk Kt t = some (a.eval (.tmp t))) → retVals tt σ rs = some vs → ∃ us, ResL P Kt m.w rs us ∧ avsR K g m vs us
  | [], vs, _, h => by simp only [retVals, Option.some.injEq] at h; subst h; exact ⟨[], .nil, by simp only [avsR]⟩
  | .tmp t :: rs, vs, hk, h => by
    simp only [retVals] at h
    obtain ⟨⟨vid, v⟩, hv, h1⟩ := Option.bind_eq_some_iff.1 h
    obtain ⟨r, hr, rfl⟩ := Option.map_eq_some_iff.1 h1
    obtain ⟨us, k1, k2⟩ := retVals_ok hT hI (fun t ht => hk t (by simp [rvOps, ht])) hr
    exact ⟨_, .tmp (hk t (by simp [rvOps])) k1, by simp only [avsR]; exact ⟨_, _, rfl, (hI.slot hv).2, k2⟩⟩
  | .cell t ty :: rs, vs, hk, h => by
    simp only [retVals] at h
    obtain ⟨⟨vid, v⟩, hv, h1⟩ := Option.bind_eq_some_iff.1 h
    simp only at h1
    split at h1
    · rename_i o
      obtain ⟨⟨ver, ao⟩, hao, h2⟩ := Option.bind_eq_some_iff.1 h1
      simp only at h2
      split at h2
      · rename_i T cs
        obtain ⟨i, hi, h3⟩ := Option.bind_eq_some_iff.1 h2
        obtain ⟨w, hw, h4⟩ := Option.bind_eq_some_iff.1 h3
        obtain ⟨r, hr, rfl⟩ := Option.map_eq_some_iff.1 h4
        obtain ⟨us, k1, k2⟩ := retVals_ok hT hI (fun t ht => hk t (by simp [rvOps, ht])) hr
        have hv2 := (hI.slot hv).2
        simp only [avR, cvR, List.cons.injEq, and_true] at hv2
        obtain ⟨gh, b, g1, g2, g3⟩ := hv2
        obtain ⟨z, hz1, hz2, hz3⟩ := obR_zip hI.ob
        rw [← hz1, lookZ_fst] at hao
        obtain ⟨p, hp1, hp2⟩ := Option.map_eq_some_iff.1 hao
        obtain ⟨hp3, hp4⟩ := lookZ_some hp1
        have hob := (hz3 p hp3).2
        rw [hp2, hp4] at hob
        obtain ⟨gh', b', ws, j1, j2, j3, j4⟩ := hob
        rw [g1] at j1; cases j1
        rw [g2] at j2; cases j2
        have hmem : p.2 ∈ L := by rw [← hz2]; exact List.mem_map_of_mem hp3
        rw [j3] at hmem
        have hok := hI.st.ow.left.ok _ hmem
        have hcell : ∀ k u, ws[k]? = some u → m.w.cell? ⟨b, k, none⟩ = some u := fun k u hu => by
          rw [cell_of_row _ _ _ _ _ _ hok]; simpa using hu
        have hag := (hT.ty ty i hi).agg
        have hkp := hk t (by simp [rvOps])
        rw [g3] at hkp
        split at hw
        · rename_i hA
          obtain ⟨l, hl, rfl⟩ := Option.map_eq_some_iff.1 hw
          obtain ⟨q1, q2⟩ := cutTo_ok hl j4
          refine ⟨.agg (ws.take i.size).toArray :: us, .agg (o := 0) (by rw [hag, hA, List.length_take, Nat.min_eq_left q2]) hkp (fun k u hu => ?_) k1, ?_⟩
          · rw [Nat.zero_add]
            refine hcell k u ?_
            rw [List.getElem?_take] at hu
            split at hu
            · exact hu
            · cases hu
          · simp only [avsR, avR]; exact ⟨_, _, rfl, ⟨_, rfl, q1⟩, k2⟩
        · rename_i hA
          obtain ⟨u, hu, rfl⟩ := Option.map_eq_some_iff.1 hw
          obtain ⟨x, q1, q2⟩ := cell1_ok hu j4
          refine ⟨x :: us, .one (by rw [hag, hA]) hkp (hcell 0 x q1) k1, ?_⟩
          simp only [avsR, avR]; exact ⟨_, _, rfl, q2, k2⟩
      · cases h2
    · cases h1
theorem oneVal_ok {vs : List (AV S)} {us : List Value} (h : avsR K g m vs us) : avR K g m (oneVal vs) (retOf us) := by
  match vs, h with
  | [], h => simp only [avsR] at h; subst h; simp only [oneVal, retOf, avR]; exact ⟨[], rfl, by simp only [avsR]⟩
  | [v], h =>
    simp only [avsR] at h
    obtain ⟨x, r, rfl, h1, rfl⟩ := h
    exact h1
  | v :: w :: vs, h =>
    have h' := h
    simp only [avsR] at h
    obtain ⟨x, r, rfl, h1, y, r', rfl, h2⟩ := h
    simp only [oneVal, retOf, avR]
    exact ⟨_, rfl, h'⟩
theorem outTakes_sub {ob : List (Nat × Nat × AO S)} : ∀ {l : List KS} {mp mp' : List (Nat × Nat)} {o : Nat} {ds : List (Dyn S)}, OS.outTakes tb ob mp o l = some (ds, mp') → Sub mp mp' ∧ (MpOK mp → MpOK mp')
  | [], mp, mp', o, ds, h => by
    simp only [OS.outTakes, Option.some.injEq, Prod.mk.injEq] at h
    obtain ⟨_, rfl⟩ := h
    exact ⟨Sub.refl _, id⟩
  | .now s :: l, mp, mp', o, ds, h => by
    simp only [OS.outTakes] at h
    obtain ⟨q, hq, h⟩ := Option.bind_eq_some_iff.1 h
    obtain ⟨a, ha, h⟩ := Option.bind_eq_some_iff.1 h
    obtain ⟨p, hp, h⟩ := Option.bind_eq_some_iff.1 h
    obtain ⟨r, hr, h⟩ := Option.map_eq_some_iff.1 h
    obtain ⟨rd, rm⟩ := r
    simp only [Prod.mk.injEq] at h
    obtain ⟨_, rfl⟩ := h
    obtain ⟨a1, a2⟩ := OS.take_sub hp
    obtain ⟨b1, b2⟩ := outTakes_sub hr
    exact ⟨a1.trans b1, fun hM => b2 (a2 hM)⟩
  | .kept :: l, mp, mp', o, ds, h => outTakes_sub (l := l) (by simpa only [OS.outTakes] using h)
  | .gone :: l, mp, mp', o, ds, h => outTakes_sub (l := l) (by simpa only [OS.outTakes] using h)
theorem outTakes_ok {ob : List (Nat × Nat × AO S)} : ∀ {l : List KS} {mp mp' mp1 : List (Nat × Nat)} {o : Nat} {ds : List (Dyn S)} {Ln : List Ent}, OS.outTakes tb ob mp o l = some (ds, mp') → Sub mp' mp1 → ObR K g m (pick ob (nowIds mp1 o l)) Ln →
    ∀ (g' : GG S) (ids : Nat → Nat) (r : List (Nat × AO S)), Ren mp1 g g' ids → OS.outs tb ids o l ds = some r → AddR K g' m r Ln
  | [], mp, mp', mp1, o, ds, Ln, h, hS, hL, g', ids, r, hR, hf => by
    simp only [OS.outTakes, Option.some.injEq, Prod.mk.injEq] at h
    obtain ⟨rfl, _⟩ := h
    simp only [OS.outs, Option.some.injEq] at hf
    subst hf
    exact hL
  | .kept :: l, mp, mp', mp1, o, ds, Ln, h, hS, hL, g', ids, r, hR, hf =>
    outTakes_ok (l := l) (by simpa only [OS.outTakes] using h) hS (by simpa only [nowIds] using hL) g' ids r hR (by simpa only [OS.outs] using hf)
  | .gone :: l, mp, mp', mp1, o, ds, Ln, h, hS, hL, g', ids, r, hR, hf =>
    outTakes_ok (l := l) (by simpa only [OS.outTakes] using h) hS (by simpa only [nowIds] using hL) g' ids r hR (by simpa only [OS.outs] using hf)
  | .now s :: l, mp, mp', mp1, o, ds, Ln, h, hS, hL, g', ids, r, hR, hf => by
    simp only [OS.outTakes] at h
    obtain ⟨q, hq, h⟩ := Option.bind_eq_some_iff.1 h
    obtain ⟨a, ha, h⟩ := Option.bind_eq_some_iff.1 h
    obtain ⟨p, hp, h⟩ := Option.bind_eq_some_iff.1 h
    obtain ⟨r1, hr, h⟩ := Option.map_eq_some_iff.1 h
    obtain ⟨pd, pm⟩ := p
    obtain ⟨rd, rm⟩ := r1
    simp only [Prod.mk.injEq] at h
    obtain ⟨rfl, rfl⟩ := h
    have a1 := (OS.take_sub hp).1
    have b1 := (outTakes_sub hr).1
    have hq1 : look o mp1 = some q := hS _ _ (b1 _ _ (a1 _ _ hq))
    simp only [nowIds, hq1, pick, ha, ObR] at hL
    obtain ⟨e, L', rfl, h1, h2, h3⟩ := hL
    obtain ⟨_, _, a3⟩ := OS.take_ok hp h2
    simp only [OS.outs] at hf
    obtain ⟨p1, hp1, hf1⟩ := Option.bind_eq_some_iff.1 hf
    obtain ⟨q1, hq1', hf2⟩ := Option.map_eq_some_iff.1 hf1
    obtain ⟨w1, r1⟩ := p1
    clear hf hf1
    obtain ⟨rfl, k2⟩ := a3 g' ids (ids o) _ _ _ (hR.sub (b1.trans hS)) (fun gh hgh => hR _ _ _ hq1 hgh) hp1
    subst hf2
    exact ⟨e, L', rfl, k2, outTakes_ok hr hS h3 g' ids _ hR hq1'⟩
end
theorem keptL_nil : ∀ l : List KS, keptL l [] = []
  | [] => rfl
  | .kept :: _ => rfl
  | .now _ :: _ => rfl
  | .gone :: _ => rfl
theorem keptL_drop {l : List KS} {L : List Ent} {o : Nat} {s : KS} (hs : s.isK = false) : keptL (s :: l) (L.drop o) = keptL l (L.drop (o + 1)) := by
  by_cases h : o < L.length
  · rw [List.drop_eq_getElem_cons h]
    cases s <;> first | (cases hs; done) | rfl
  · rw [List.drop_of_length_le (by omega), List.drop_of_length_le (by omega), keptL_nil, keptL_nil]
theorem keptL_ok {z : ZL S} {L : List Ent} : ∀ {l : List KS} {o : Nat}, (∀ i ∈ keptPos o l, ∃ p, lookZ z i = some p ∧ L[i]? = some p.2) → keptL l (L.drop o) = (pickZ z (keptPos o l)).map Prod.snd
  | [], o, _ => by simp [keptL, keptPos, pickZ]
  | .kept :: l, o, h => by
    obtain ⟨p, h1, h2⟩ := h o (by simp [keptPos])
    have ih := keptL_ok (l := l) (o := o + 1) fun i hi => h i (by simp [keptPos, hi])
    have hlt : o < L.length := (List.getElem?_eq_some_iff.1 h2).1
    have he : L[o] = p.2 := by rw [List.getElem?_eq_getElem hlt] at h2; exact Option.some.inj h2
    rw [List.drop_eq_getElem_cons hlt, he]
    simp only [keptL, keptPos, pickZ, List.filterMap_cons, h1, List.map_cons]
    rw [ih]; rfl
  | .now s :: l, o, h => by
    rw [keptL_drop rfl]
    exact keptL_ok (l := l) (o := o + 1) h
  | .gone :: l, o, h => by
    rw [keptL_drop rfl]
    exact keptL_ok (l := l) (o := o + 1) h
theorem keptOk_get {σ0 σ : AS S} : ∀ {l : List KS} {o : Nat}, keptOk σ0 σ o l = true → ∀ i ∈ keptPos o l, ∃ ver a0 a1, look i σ0.ob = some (ver, a0) ∧ look i σ.ob = some (ver, a1)
  | [], o, _, i, hi => by cases hi
  | .kept :: l, o, h, i, hi => by
    simp only [keptOk, Bool.and_eq_true] at h
    simp only [keptPos, List.mem_cons] at hi
    rcases hi with rfl | hi
    · have h1 := h.1.2
      split at h1
      · rename_i x y hx hy
        obtain ⟨x1, x2⟩ := x
        obtain ⟨y1, y2⟩ := y
        have := Nat.eq_of_beq_eq_true h1
        simp only at this
        subst this
        exact ⟨x1, x2, y2, hx, hy⟩
      · cases h1
    · exact keptOk_get h.2 i hi
  | .now _ :: l, o, h, i, hi => keptOk_get (l := l) (o := o + 1) h i hi
  | .gone :: l, o, h, i, hi => keptOk_get (l := l) (o := o + 1) h i hi
theorem rtMap_look : ∀ {l : List Nat} {j i q : Nat}, j ≤ i → l[i - j]? = some q → look i (rtMap j l) = some q
  | [], j, i, q, _, h => by simp at h
  | x :: l, j, i, q, hj, h => by
    simp only [rtMap, look_cons]
    by_cases e : j = i
    · subst e; rw [if_pos rfl]; simpa using h
    · rw [if_neg e]
      refine rtMap_look (by omega) ?_
      rw [show i - j = (i - (j + 1)) + 1 by omega] at h; simpa using h
theorem finish_ok {n : Nat} {ds : Cx} {m0 : Mem} {σ : AS S} {a : Act} {c : Ctr S} {y : AltT S c.outs} {σ0 : AS S} {g0 : GG S} {bk : Nat → Option Gh} {L L1 : List Ent} {v : AV S} {u : Value} (hX : ds.X = []) (hI : Inv K n ds (blocksOf L) m0 bk σ g a m L1) (hge : GE g0 g) (hob0 : ∀ (i ver : Nat) ao, look i σ0.ob = some (ver, ao) → ∃ e, L[i]? = some e ∧ g0.oo ver = some (ao, e))
    (r3 : avR K g m v u) (hfin : finishA tb c.obs.length v σ0 σ c.outs = some y) : ∃ L2, St (blocksOf L) m0 m L2 ∧ Post K c bk L y u m L2 := by
  have key : ∃ L2, altP c.outs y fun o z => St (blocksOf L) m0 m L2 ∧ Post1 K c.obs.length o bk L z u m L2 := altP_choose (finishA_some hfin) fun o z ho h1 => by
    unfold finish at h1
    obtain ⟨⟨pd, mp1⟩, hp, h2⟩ := Option.bind_eq_some_iff.1 h1
    obtain ⟨⟨qd, mp2⟩, hq, h3⟩ := Option.bind_eq_some_iff.1 h2
    simp only at h3 hq
    split at h3
    case h_2 => cases h3
    case h_1 hc =>
    obtain ⟨dd, hdd, hof⟩ := Option.bind_eq_some_iff.1 h3
    simp only [Bool.and_eq_true] at hc
    obtain ⟨c1, ⟨c2, c3⟩, c4⟩ := hc
    have c3 := Nat.eq_of_beq_eq_true c3
    obtain ⟨s1, s2, s3⟩ := PS.take_ok hp r3
    obtain ⟨t1, t2⟩ := outTakes_sub hq
    obtain ⟨z1, hz1, hz2, hz3⟩ := obR_zip hI.ob
    obtain ⟨Y, hY⟩ := pickZ_perm (z := z1) (nodupB_ok c2)
    have hkeep : keptL o.obs' L = (pickZ z1 (keptPos 0 o.obs')).map Prod.snd := by
      have := keptL_ok (z := z1) (L := L) (l := o.obs') (o := 0) fun i hi => by
        obtain ⟨ver, a0, a1, k1, k2⟩ := keptOk_get c1 i hi
        obtain ⟨e, k3, k4⟩ := hob0 i ver a0 k1
        rw [← hz1, lookZ_fst] at k2
        obtain ⟨p, hp1, hp2⟩ := Option.map_eq_some_iff.1 k2
        refine ⟨p, hp1, ?_⟩
        have e1 := (hz3 p (lookZ_some hp1).1).1
        rw [hp2] at e1
        simp only at e1
        rw [hge.oo _ _ k4] at e1
        have := Option.some.inj e1
        rw [k3, (Prod.mk.inj this).2]
      simpa using this
    have hLn' : ObR K g m (pick σ.ob (nowIds mp2 0 o.obs')) ((pickZ z1 (nowIds mp2 0 o.obs')).map Prod.snd) := by
      rw [← hz1, ← pickZ_fst]
      exact zip_obR fun p hp => by
        obtain ⟨q, _, hq⟩ := List.mem_filterMap.1 hp
        exact hz3 p (lookZ_some hq).1
    have hSt : St (blocksOf L) m0 m (keptL o.obs' L ++ (pickZ z1 (nowIds mp2 0 o.obs')).map Prod.snd) := by
      have h1 : List.Perm L1 ((keptL o.obs' L ++ (pickZ z1 (nowIds mp2 0 o.obs')).map Prod.snd) ++ Y.map Prod.snd) := by
        rw [← hz2, hkeep, ← List.map_append, ← List.map_append]
        refine List.Perm.map _ ?_
        have : pickZ z1 (keptPos 0 o.obs') ++ pickZ z1 (nowIds mp2 0 o.obs') = pickZ z1 (keptPos 0 o.obs' ++ nowIds mp2 0 o.obs') := by
          simp only [pickZ, List.filterMap_append]
        rw [this]; exact hY
      have h0 := hI.st
      rw [hX, List.append_nil] at h0
      exact (h0.perm h1).keep
    have hkey : ∀ i q, look i mp2 = some q → i < o.obs'.length := fun i q ho =>
      Nat.le_of_ble_eq_true (List.all_eq_true.1 c4 _ (look_mem ho))
    refine ⟨_, hSt, fun i => if i < o.obs'.length then (look i mp2).bind g.bk else none, (pickZ z1 (nowIds mp2 0 o.obs')).map Prod.snd, rfl, fun i hi => ?_, fun i hi => if_neg (by omega), fun gx ids ds out ds1 l hR hds hout houts => ?_⟩
    · obtain ⟨q, hq'⟩ : ∃ q, σ.rt[i]? = some q := ⟨_, List.getElem?_eq_getElem (by omega)⟩
      have hl : look i mp2 = some q := t1 _ _ (s1 _ _ (rtMap_look (Nat.zero_le _) (by simpa using hq')))
      obtain ⟨h, k1, k2⟩ := hI.rt.2 i q hq'
      show (if _ then _ else _) = _
      rw [if_pos (hkey _ _ hl), hl, k1]; exact k2
    · have hRen : Ren mp2 g gx ids := fun i q h ho hbk' => hR i h (by
        show (if _ then _ else _) = _
        rw [if_pos (hkey _ _ ho), ho]; exact hbk')
      rw [dyn_of hof] at hds
      have := perm_back o.pok' hdd hds
      subst this
      obtain ⟨rfl, j2⟩ := s3 _ _ _ _ _ (hRen.sub t1) hout
      exact ⟨j2, outTakes_ok hq (Sub.refl _) hLn' gx ids l hRen houts⟩
  obtain ⟨L2, h⟩ := key
  obtain ⟨o, z, _, h1, _⟩ := altP_ex h
  exact ⟨L2, h1.1, altP_mono h fun o z _ hp => hp.2⟩
theorem evF_sound (hT : TTOK P K tt) (hΦ : ∀ c ∈ Φ, Sound P K c) (hD : ∀ n B m0 rb ds, DrawOK P K tt Φ fa n B m0 rb none ds) {c : Ctr S} {fn : Func} {body : Code} {rs : List ResultVar} {an : An} (hf : P.funcs[c.f]? = some fn) (hb : fn.body = some body) (hrs : fn.results = rs.toArray) (hen : Enters P c.f) (hcf : c.f ≤ 999999)
    (hok : codeOk fn.ntmps body = true) (hrg : RgOK K fa.fn fn.ntmps body) (hsz : (Nat.ble c.ins.length 190 && Nat.ble c.ins.length fn.ntmps) = true) (hev : ∀ x, evF tb tt Φ fa c rs body an x = c.sem x) : Sound P K c := by
  simp only [Bool.and_eq_true] at hsz
  have hsz1 := Nat.le_of_ble_eq_true hsz.1
  have hsz2 := Nat.le_of_ble_eq_true hsz.2
  refine ⟨fun x y bk m vals L hsem hbk hin hLn hO hB => ?_⟩
  unfold Does
  rw [if_pos hcf]
  refine ⟨hen, ?_⟩
  show Spec P c.f vals.toArray m L (Post K c bk L y)
  rw [← hev x] at hsem
  unfold evF at hsem
  split at hsem
  case h_2 => cases hsem
  case h_1 σ0 hst =>
  have hvl : vals.length = c.ins.length := by
    have h := hst
    unfold start at h
    obtain ⟨ds, hds, h⟩ := Option.bind_eq_some_iff.1 h
    obtain ⟨⟨args, ds1⟩, hp, h⟩ := Option.bind_eq_some_iff.1 h
    obtain ⟨⟨obs, ds2⟩, hq, h⟩ := Option.bind_eq_some_iff.1 h
    rw [avsR_len (hin ds args ds1 obs ds2 hds hp hq).1, fills_len hp]
  refine enter fn.ntmps hf hb rfl (by omega) fun a hK => ?_
  obtain ⟨g0, hI0, hob0⟩ := start_ok hst hbk hin hO hB hsz1 hK
  have hI1 : Inv K fn.ntmps ⟨dms [], [.defs []]⟩ (blocksOf L) m bk σ0 g0 a m L := hI0.acted rfl hK.defers (by
    have := hI0.st
    rw [List.append_nil] at this
    exact this.defs0.perm (List.perm_append_comm (l₁ := [Ent.defs []]) (l₂ := L)))
  refine evC_ok (rr := none) hT hΦ (fun _ => rfl) (hD _ _ _ _) body hok hrg an σ0 (AltT S c.outs) _ (AltT S c.outs) id y g0 a m L _ ⟨dms [], [.defs []]⟩ ⟨[], rfl⟩ ?_ hsem hI1 fun ex σ' g' a' m' L' ds' hds' hk hge hle hI => ?_
  · intro δ δ' ψ hψ e ex σ'
    cases ex with
    | exit k => rfl
    | normal => exact bind_map' fun σp => bind_map' fun vs => bind_map' fun z => rfl
    | ret => exact bind_map' fun σp => bind_map' fun vs => bind_map' fun z => rfl
  · obtain ⟨Ds, rfl⟩ := hds'
    have fin : ∀ σp vs, prep fa.pre σ' = some σp → retVals tt σp rs = some vs → finishA tb c.obs.length (oneVal vs) σ0 σp c.outs = some y → fnPost P fn m L (Post K c bk L y) .ret a' m'.w := fun σp vs hpre hvs hfin => by
      have hKn : Kn fn.ntmps a' (kOf a' (rvOps rs)) (dms Ds) := ⟨hI.size, hI.defers, kOf_ke a' _⟩
      refine ret_marks L'.length hKn hI.st (by simp) fun m1 hle1 hS1 a2 hK2 => ?_
      have he : (L' ++ [Ent.defs Ds]).eraseIdx L'.length = L' := by
        rw [List.eraseIdx_append_of_length_le (Nat.le_refl _)]; simp
      rw [he] at hS1
      have hI2 : Inv K fn.ntmps ⟨a'.defers, []⟩ (blocksOf L) m bk σ' g' a' m1 L' := ⟨hI.size, rfl, hI.at_, fun s vid v h => (let ⟨u, k1, k2⟩ := hI.tm s vid v h; ⟨u, k1, k2.mono (GE.refl _) hle1⟩), hI.ob.mono (GE.refl _) hle1, by rw [List.append_nil]; exact hS1, hI.fresh, hI.rt⟩
      obtain ⟨gp, mp, Lp, hw, _, hgp, hIp⟩ := prep_ok hI2 hpre
      rw [← hw]
      obtain ⟨us, r1, r2⟩ := retVals_ok (Kt := kOf a' (rvOps rs)) hT hIp (fun t ht => lk_kOf a' (rvOps rs) t ht) hvs
      obtain ⟨L2, hSt, hP⟩ := finish_ok rfl hIp (hge.trans hgp) hob0 (oneVal_ok r2) hfin
      exact ret_of (K := kOf a' (rvOps rs)) rs us hrs hK2 r1 hSt hP
    cases ex with
    | exit k => cases hk
    | ret =>
      obtain ⟨σp, h0, hk⟩ := Option.bind_eq_some_iff.1 hk
      obtain ⟨vs, h1, h2⟩ := Option.bind_eq_some_iff.1 hk
      obtain ⟨w, h3, h4⟩ := Option.bind_eq_some_iff.1 h2
      have := Option.some.inj h4
      simp only [id] at this
      subst this
      exact fin σp vs h0 h1 h3
    | normal =>
      obtain ⟨σp, h0, hk⟩ := Option.bind_eq_some_iff.1 hk
      obtain ⟨vs, h1, h2⟩ := Option.bind_eq_some_iff.1 hk
      obtain ⟨w, h3, h4⟩ := Option.bind_eq_some_iff.1 h2
      have := Option.some.inj h4
      simp only [id] at this
      subst this
      exact fin σp vs h0 h1 h3
end E
end Go.Proofs.Ythhmandpjlggcaa
