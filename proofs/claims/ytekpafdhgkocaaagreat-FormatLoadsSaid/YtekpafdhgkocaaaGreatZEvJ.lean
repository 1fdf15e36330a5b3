/- Part of what the laws need: plain words, the walker and its laws, the program's functions. -/
import Derived.Test.YtekpafdhgkocaaaGreatZEvU
namespace Go.Proofs.YtekpafdhgkocaaaGreat
open Go.RowKit G
namespace E
variable {S : Nat → Type} {tb : Tb S} {K : cV tb} {P : Program} {tt : TypeId → Option (TI S)} {g : GG S} {m : Mem}
theorem iu {α : Type} {t : Nat} : ∀ {l l' : List (Nat × α)}, look t (l ++ l') = match look t l with | some x => some x | none => look t l'
 | [], l' => rfl
 | (u, x) :: l, l' => by
   rw [List.cons_append, ax, ax]
   by_cases h : u = t
   · rw [if_pos h, if_pos h]
   · rw [if_neg h, if_neg h]; exact iu
theorem lR {J : JA} : ∀ {l : List (Nat × Nat × AV S)} {s : Nat} {x : Nat × AV S}, look s (np J l) = some x → look s l = some x
 | [], s, x, h => h
 | (t, y) :: l, s, x, h => by
   unfold np at h
   rw [ax]
   split at h
   · rename_i hk
     by_cases e : t = s
     · subst e
       exfalso
       have key : ∀ l : List (Nat × Nat × AV S), look t (np J l) = none := fun l => by
        induction l with
        | nil => rfl
        | cons z l ih =>
          obtain ⟨u, z⟩ := z
          unfold np
          split
          · exact ih
          · rename_i hk'
            rw [ax]
            by_cases e : u = t
            · subst e; rw [hk] at hk'; cases hk'
            · rw [if_neg e]; exact ih
       rw [key] at h; cases h
     · rw [if_neg e]; exact lR h
   · rw [ax] at h
     by_cases e : t = s
     · rw [if_pos e] at h ⊢; exact h
     · rw [if_neg e] at h ⊢; exact lR h
theorem vu {tm : List (Nat × Nat × AV S)} : ∀ {l : List (Nat × Nat × AV S)} {s : Nat} {x : Nat × AV S}, AL tm l = true → look s l = some x → ∃ v, look s tm = some (x.1, v)
 | [], s, x, _, h => by cases h
 | (t, y) :: l, s, x, hs, h => by
   simp only [AL, Bool.and_eq_true] at hs
   rw [ax] at h
   by_cases e : t = s
   · subst e
     rw [if_pos rfl] at h; cases h
     have h1 := hs.1
     split at h1
     · rename_i z hz
       obtain ⟨z1, z2⟩ := z
       have := Nat.eq_of_beq_eq_true h1
       simp only at this
       exact ⟨z2, by rw [hz, this]⟩
     · cases h1
   · rw [if_neg e] at h; exact vu hs.2 h
theorem xQ {ob : List (Nat × Nat × AO S)} : ∀ {l : List (Nat × Nat × AO S)} {x : Nat × Nat × AO S}, AJ ob l = true → x ∈ l → ∃ a, look x.1 ob = some (x.2.1, a)
 | [], x, _, h => by cases h
 | (t, y) :: l, x, hs, h => by
   simp only [AJ, Bool.and_eq_true] at hs
   rcases List.mem_cons.1 h with rfl | h
   · have h1 := hs.1
     split at h1
     · rename_i z hz
       obtain ⟨z1, z2⟩ := z
       have := Nat.eq_of_beq_eq_true h1
       simp only at this
       exact ⟨z2, by rw [hz, this]⟩
     · cases h1
   · exact xQ hs.2 h
theorem uy {r : List Nat} : ∀ {ob : List (Nat × Nat × AO S)}, xj r ob = ob.filter fun x => has x.1 r
 | [] => rfl
 | (q, x) :: l => by
   unfold xj
   split
   · rename_i h; rw [List.filter_cons_of_pos (by simp [h]), uy]
   · rename_i h; rw [List.filter_cons_of_neg (by simp [h])]; exact uy
theorem zx {ids : Nat → Nat} : ∀ {l : List (AO S)} {L : List az} {o v : Nat}, CG K g m ids o l L → (∀ i a e, l[i]? = some a → L[i]? = some e → g.oo (v + i) = some (a, e)) → dm K g m (Dp ids o v l) L
 | [], L, o, v, h, _ => h
 | a :: l, L, o, v, h, ho => by
   obtain ⟨e, L', rfl, h1, h2⟩ := h
   exact ⟨e, L', rfl, ho 0 a e rfl rfl, h1, zx h2 fun i b f hb hf => by
    have := ho (i + 1) b f (by simpa using hb) (by simpa using hf)
    rw [← this]; congr 1; omega⟩
theorem pE {t x : Nat} : ∀ {l : List (Nat × Nat)}, look t l = some x → (t, x) ∈ l
 | [], h => by cases h
 | (u, y) :: l, h => by
   rw [ax] at h
   by_cases e : u = t
   · rw [if_pos e] at h; cases h; rw [e]; exact List.mem_cons_self
   · rw [if_neg e] at h; exact List.mem_cons_of_mem _ (pE h)
theorem FQ {l : List (Nat × Nat)} {x : Nat} : ∀ {a b : Nat}, (l.map (·.2)).Nodup → (a, x) ∈ l → (b, x) ∈ l → a = b := by
 induction l with
 | nil => intro a b _ h; cases h
 | cons p l ih =>
   intro a b hn ha hb
   obtain ⟨h1, h2⟩ := List.nodup_cons.1 hn
   rcases List.mem_cons.1 ha with e | ha'
   · rcases List.mem_cons.1 hb with e2 | hb'
     · rw [← e] at e2; exact (Prod.mk.inj e2).1.symm
     · exact absurd (List.mem_map.2 ⟨_, hb', by rw [← e]⟩) h1
   · rcases List.mem_cons.1 hb with e2 | hb'
     · exact absurd (List.mem_map.2 ⟨_, ha', by rw [← e2]⟩) h1
     · exact ih h2 ha' hb'
theorem BX {ids : Nat → Nat} : ∀ {l : List (AO S)} {L : List az} {o v : Nat}, CG K g m ids o l L → (∀ i, ids (o + i) = v + i) → (∀ i a e, l[i]? = some a → L[i]? = some e → g.oo (v + i) = some (a, e)) → dm K g m (BW v l) L
 | [], L, o, v, h, _, _ => h
 | a :: l, L, o, v, h, hi, ho => by
   obtain ⟨e, L', rfl, h1, h2⟩ := h
   refine ⟨e, L', rfl, ho 0 a e rfl rfl, ?_, BX h2 (fun i => ?_) fun i b f hb hf => ?_⟩
   · have := hi 0; simp only [Nat.add_zero] at this; rw [this] at h1; exact h1
   · have := hi (i + 1); rw [show o + 1 + i = o + (i + 1) by omega, this]; omega
   · have := ho (i + 1) b f (by simpa using hb) (by simpa using hf)
     rw [← this]; congr 1; omega
theorem zS {ids : Nat → Nat} : ∀ {l : List (AO S)} {L : List az} {o : Nat}, CG K g m ids o l L → L.length = l.length
 | [], L, o, h => by simp only [CG] at h; subst h; rfl
 | a :: l, L, o, h => by obtain ⟨e, L', rfl, h1, h2⟩ := h; simp [zS h2]
theorem xG {z : ZL S} {f : ((Nat × Nat × AO S) × az) → Nat} : ∀ {z0 : ZL S}, (∀ p0 ∈ z0, ∃ p, lS z (f p0) = some p ∧ p.2 = p0.2) → (cQ z (z0.map f)).map Prod.snd = z0.map Prod.snd
 | [], _ => rfl
 | p0 :: z0, h => by
   obtain ⟨p, h1, h2⟩ := h p0 List.mem_cons_self
   have ih := xG (z0 := z0) fun q hq => h q (List.mem_cons_of_mem _ hq)
   simp only [cQ] at ih
   simp only [cQ, List.map_cons, List.filterMap_cons, h1, h2, ih]
section
variable {n : Nat} {ds ds0 : Cx} {B : List Nat} {m0 ms : Mem} {rb : Nat → Option Gh} {σ0 σ σ1 : AS S} {a a0 : Act} {L L0 : List az} {g0 : GG S}
theorem Cr {L L' Y X : List az} {m : Mem} (h : St B m0 m (L ++ X)) (p : List.Perm L (L' ++ Y)) : St B m0 m (L' ++ X) := by
 have h1 : List.Perm (L ++ X) ((L' ++ X) ++ Y) := (List.Perm.append_right X p).trans (by rw [List.append_assoc, List.append_assoc]; exact List.Perm.append_left _ List.perm_append_comm)
 exact (h.perm h1).ux
theorem pC {J : JA} {z : HT S J.ls} (h0 : Inv K n ds0 B m0 rb σ0 g0 a0 ms L0) (hI : Inv K n ds B m0 rb σ g a m L) (hge : GE g0 g) (hle : Le ms m) (hp : pack tb J σ0 σ = some z) (hu : unpack tb J σ0 z = some σ1) :
 ∃ g1 m1 L1, m1.w = m.w ∧ Le ms m1 ∧ GE g0 g1 ∧ Inv K n ds B m0 rb σ1 g1 a m1 L1 := by
 unfold pack at hp
 obtain ⟨σp, hpre, hp⟩ := Option.bind_eq_some_iff.1 hp
 obtain ⟨gp, mp_, Lp, hw, hle1, hge1, hI⟩ := sT hI hpre
 replace hge := hge.trans hge1
 replace hle := hle.trans hle1
 clear hpre hle1 hge1
 suffices ∃ g1 L1, GE g0 g1 ∧ Inv K n ds B m0 rb σ1 g1 a mp_ L1 by
  obtain ⟨g1, L1, k1, k2⟩ := this
  exact ⟨g1, mp_, L1, hw, hle, k1, k2⟩
 clear hw
 revert hp hI hge hle
 generalize σp = σ, gp = g, mp_ = m, Lp = L
 intro hp hI hge hle
 split at hp
 case h_2 => cases hp
 case h_1 hc =>
 simp only [Bool.and_eq_true] at hc
 obtain ⟨⟨⟨⟨c1, c2⟩, c3⟩, c4⟩, c5⟩ := hc
 have hfx : ∀ o q, look o J.fx = some q → (∃ x, look q σ0.ob = some x) ∧ o ≤ 200 := fun o q h => by
  have := List.all_eq_true.1 c4 _ (pE h)
  simp only [Bool.and_eq_true, Option.isSome_iff_exists] at this
  exact ⟨this.1, Nat.le_of_ble_eq_true this.2⟩
 have hMf : gi J.fx := ⟨fun o o' q h h' => FQ (fJ c5) (pE h) (pE h'), fun o q h => (hfx o q h).2⟩
 obtain ⟨⟨pd, mp0⟩, hp1, hp⟩ := Option.bind_eq_some_iff.1 hp
 obtain ⟨⟨qd, mp⟩, hq1, hp⟩ := Option.bind_eq_some_iff.1 hp
 simp only at hq1 hp
 split at hp
 case h_2 => cases hp
 case h_1 hd =>
 have d2 := hd
 obtain ⟨dd, hdd, hof⟩ := Option.bind_eq_some_iff.1 hp
 unfold unpack at hu
 obtain ⟨de, hde, hu1⟩ := Option.bind_eq_some_iff.1 hu
 obtain ⟨⟨tl, r1⟩, hf1, hu2⟩ := Option.bind_eq_some_iff.1 hu1
 obtain ⟨⟨ol, r2⟩, hf2, hu3⟩ := Option.bind_eq_some_iff.1 hu2
 clear hu hu1 hu2
 simp only [Option.some.injEq] at hu3
 simp only at hf2
 rw [wY hof] at hde
 have := pJ J.LC hdd hde
 subst this
 have c3 := Nat.eq_of_beq_eq_true c3
 have hJ := J.A1
 simp only [Bool.and_eq_true] at hJ
 have hJ1 := Nat.le_of_ble_eq_true hJ.1
 have hJ2 := Nat.le_of_ble_eq_true hJ.2
 let val : Nat → Value := fun s => ((look s σ.tm).bind fun x => g.vv x.1).getD undef
 have hval : ∀ t aI v, look t σ.tm = some (aI, v) → g.vv aI = some (val t) := fun t aI v ht => by
  obtain ⟨u, h1, _⟩ := hI.tm t aI v ht
  show _ = some (((look t σ.tm).bind fun x => g.vv x.1).getD undef)
  rw [ht]
  simp [h1]
 obtain ⟨s1, s2, s3⟩ := rQ (val := val) (fun t aI v ht => by
  obtain ⟨u, h1, h2⟩ := hI.tm t aI v ht
  rw [hval t aI v ht] at h1; cases h1; exact h2) hp1
 obtain ⟨t1, t2, t3⟩ := OS.ly hq1
 have hM := t2 (s2 hMf)
 obtain ⟨z, hz1, hz2, hz3⟩ := lT hI.ob
 obtain ⟨z0, hy1, hy2, hy3⟩ := lT h0.ob
 have hnd := fJ d2
 obtain ⟨Y, hY⟩ := jv (z := z) hnd
 have hkept : ∃ r : Nat → Bool, sK J σ0 = σ0.ob.filter fun x => r x.1 := by
  unfold sK
  rw [oh, uy, List.filter_filter]
  exact ⟨fun q => !has q _ && has q _, rfl⟩
 obtain ⟨r, hr⟩ := hkept
 have hk2 : sK J σ0 = (z0.filter fun p => r p.1.1).map Prod.fst := by rw [hr, ← hy1, List.filter_map]; rfl
 have hk3 : (sK J σ0).map (·.1) = (z0.filter fun p => r p.1.1).map fun p => p.1.1 := by rw [hk2, List.map_map]; rfl
 have hsame : ∀ p0 ∈ z0.filter (fun p => r p.1.1), ∃ p, lS z p0.1.1 = some p ∧ p.2 = p0.2 := fun p0 hp0 => by
  have hm := (List.mem_filter.1 hp0).1
  obtain ⟨x, hx⟩ := xQ c2 (x := p0.1) (by rw [hk2]; exact List.mem_map_of_mem hp0)
  rw [← hz1, kP] at hx
  obtain ⟨p, hp1, hp2⟩ := Option.map_eq_some_iff.1 hx
  refine ⟨p, hp1, ?_⟩
  have e1 := (hz3 p (eI hp1).1).1
  have e2 := hge.oo _ _ (hy3 p0 hm).1
  rw [hp2] at e1
  simp only at e1
  rw [e1] at e2
  have := Option.some.inj e2
  exact (Prod.mk.inj this).2
 have hLK := xG (z := z) hsame
 have hJL : dm K g m (pick σ.ob (uJ mp 0 J.br.length)) ((cQ z (uJ mp 0 J.br.length)).map Prod.snd) := by
  rw [← hz1, ← ju]
  exact kH fun p hp => by
   obtain ⟨q, _, hq⟩ := List.mem_filterMap.1 hp
   exact hz3 p (eI hq).1
 generalize hLJ : (cQ z (uJ mp 0 J.br.length)).map Prod.snd = LJ at hJL
 let g1 : GG S :=
  { bk := fun i => if σ0.ct ≤ i then (look (i - σ0.ct) mp).bind g.bk else g0.bk i
    vv := fun i => if σ0.ct ≤ i then (if σ0.ct + 64 ≤ i then (tl[i - (σ0.ct + 64)]?).map fun x => val x.1 else none) else g0.vv i
    oo := fun i => if σ0.ct ≤ i then (match ol[i - σ0.ct]?, LJ[i - σ0.ct]? with | some a, some e => some (a, e) | _, _ => none) else g0.oo i }
 have ge1 : GE g0 g1 := ⟨fun i x hx => by
  show (if _ then _ else _) = _
  rw [if_neg fun h => by rw [(h0.fresh i h).1] at hx; cases hx]; exact hx, fun i x hx => by
  show (if _ then _ else _) = _
  rw [if_neg fun h => by rw [(h0.fresh i h).2.1] at hx; cases hx]; exact hx, fun i x hx => by
  show (if _ then _ else _) = _
  rw [if_neg fun h => by rw [(h0.fresh i h).2.2] at hx; cases hx]; exact hx⟩
 have hRen : D0 mp g g1 (J.ids σ0.ct) := fun o q h ho hb => by
  unfold JA.ids
  split
  · rename_i q' hq'
    have := t1 _ _ (s1 _ _ hq')
    rw [ho] at this
    cases this
    obtain ⟨⟨ver, ao⟩, hx⟩ := (hfx o q hq').1
    obtain ⟨e, _, _, ho2, _, _⟩ := kr (X := []) h0.ob hx
    have hb0 : ∃ gh, g0.bk q = some gh := by
     cases ao with
     | box T cs => obtain ⟨gh, b, vs, h1, _⟩ := ho2; exact ⟨gh, h1⟩
     | row T c => obtain ⟨gh, h1, _⟩ := ho2; exact ⟨gh, h1⟩
     | arr T c f l => obtain ⟨gh, cs, h1, _⟩ := ho2; exact ⟨gh, h1⟩
     | loop r st tm => obtain ⟨gh, _, _, _, _, h1, _⟩ := ho2; exact ⟨gh, h1⟩
     | map t kc vc l hole => obtain ⟨gh, _, _, _, h1, _⟩ := ho2; exact ⟨gh, h1⟩
     | ni t et kc c l hole => obtain ⟨gh, _, _, _, _, h1, _⟩ := ho2; exact ⟨gh, h1⟩
     | jf t kc vc l hole q => obtain ⟨gh, _, _, _, h1, _⟩ := ho2; exact ⟨gh, h1⟩
     | xu kc o st => obtain ⟨gh, _, _, _, h1, _⟩ := ho2; exact ⟨gh, h1⟩
     | yB t kc l => obtain ⟨gh, _, _, _, h1, _⟩ := ho2; exact ⟨gh, h1⟩
    obtain ⟨gh, hb0⟩ := hb0
    have := hge.bk _ _ hb0
    rw [hb] at this
    cases this
    show (if σ0.ct ≤ q then _ else g0.bk q) = _
    rw [if_neg fun hle => by rw [(h0.fresh q hle).1] at hb0; cases hb0]; exact hb0
  · show (if σ0.ct ≤ σ0.ct + o then (look (σ0.ct + o - σ0.ct) mp).bind g.bk else _) = _
    rw [if_pos (by omega), show σ0.ct + o - σ0.ct = o by omega, ho]; exact hb
 obtain ⟨e1, e2, e3⟩ := s3 g1 _ _ _ _ _ (hRen.sub t1) hf1
 rw [e1] at hf2
 obtain ⟨_, f2, f3⟩ := OS.pO hq1 (Sub.refl _) hJL g1 _ [] _ _ hRen (by rw [List.append_nil]; exact hf2)
 have f4 := zS f2
 refine ⟨g1, LJ ++ (z0.filter fun p => r p.1.1).map Prod.snd, ge1, ?_⟩
 subst hu3
 refine ⟨hI.size, hI.defers, fun t aI v hs => ?_, fun s aI v hs => ?_, mZ (zx f2 fun i x e hx he => ?_) ?_, ?_, fun i hi => ⟨?_, ?_, ?_⟩, ⟨h0.rt.1, fun j q hj => ?_⟩⟩
 ·
  simp only at hs
  rw [iu] at hs
  split at hs
  · rename_i x hx
    cases hs
    obtain ⟨i, hi⟩ := List.getElem?_of_mem (eA hx)
    obtain ⟨e4, e5, y, e6⟩ := e3 i _ hi
    simp only at e4 e6
    show (if _ then _ else _) = _
    rw [if_pos (by omega), if_pos (by omega), e4, show σ0.ct + 64 + i - (σ0.ct + 64) = i by omega, hi]
    obtain ⟨y1, y2⟩ := y
    have e7 := hval _ _ _ e6
    rw [← c3] at e6
    rw [hI.at_ _ _ _ e6] at e7
    exact e7.symm
  · obtain ⟨v', hv'⟩ := vu c1 hs
    have h1 := lR hs
    obtain ⟨u, hu1, _⟩ := h0.tm _ _ _ h1
    rw [← c3] at hv'
    have h2 := hI.at_ _ _ _ hv'
    simp only at h2
    rw [hge.vv _ _ hu1] at h2
    rw [ge1.vv _ _ hu1]; exact h2
 · simp only at hs
   rw [iu] at hs
   split at hs
   · rename_i x hx
     cases hs
     obtain ⟨i, hi⟩ := List.getElem?_of_mem (eA hx)
     obtain ⟨e4, e5, y, e6⟩ := e3 i _ hi
     simp only at e4 e5
     refine ⟨val s, ?_, e5⟩
     show (if _ then _ else _) = _
     rw [if_pos (by omega), if_pos (by omega), e4, show σ0.ct + 64 + i - (σ0.ct + 64) = i by omega, hi]
     rfl
   · obtain ⟨u, hu1, hu2⟩ := h0.tm _ _ _ (lR hs)
     exact ⟨u, ge1.vv _ _ hu1, hu2.mono ge1 hle⟩
 · show (if _ then _ else _) = _
   rw [if_pos (by omega), show σ0.ct + i - σ0.ct = i by omega, hx, he]
 · rw [hk2]
   exact kH fun p hp => by
    obtain ⟨k1, k2⟩ := hy3 p (List.mem_filter.1 hp).1
    exact ⟨ge1.oo _ _ k1, k2.mono ge1 hle⟩
 · refine Cr hI.st (Y := Y.map Prod.snd) ?_
   show List.Perm L ((LJ ++ (z0.filter fun p => r p.1.1).map Prod.snd) ++ Y.map Prod.snd)
   ·
    rw [← hz2, ← hLJ, ← hLK, ← hk3, ← List.map_append, ← List.map_append]
    refine List.Perm.map _ ?_
    have : cQ z (uJ mp 0 J.br.length) ++ cQ z ((sK J σ0).map (·.1)) = cQ z (uJ mp 0 J.br.length ++ (sK J σ0).map (·.1)) := by
     simp only [cQ, List.filterMap_append]
    rw [this]; exact hY
 · simp only at hi
   show (if _ then _ else _) = _
   rw [if_pos (by omega)]
   cases hl : look (i - σ0.ct) mp with
   | none => rfl
   | some q => have := hM.small _ _ hl; omega
 · simp only at hi
   show (if _ then _ else _) = _
   rw [if_pos (by omega), if_pos (by omega), List.getElem?_eq_none (by omega)]; rfl
 · simp only at hi
   show (if _ then _ else _) = _
   rw [if_pos (by omega), List.getElem?_eq_none (l := ol) (by omega)]
 · obtain ⟨h, k1, k2⟩ := h0.rt.2 j _ hj
   exact ⟨h, k1, ge1.bk _ _ k2⟩
end
end E
end Go.Proofs.YtekpafdhgkocaaaGreat
