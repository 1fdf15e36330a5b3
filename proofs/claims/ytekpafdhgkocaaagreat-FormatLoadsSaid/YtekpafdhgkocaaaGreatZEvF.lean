/- Part of what the laws need: plain words, the walker and its laws, the program's functions. -/
import Derived.Test.YtekpafdhgkocaaaGreatZEvW
namespace Go.Proofs.YtekpafdhgkocaaaGreat
open Go.RowKit G
namespace E
variable {S : Nat → Type} {tb : Tb S} {K : cV tb} {P : Program} {tt : TypeId → Option (TI S)} {Φ : List (bO S)} {fa : FA S} {g : GG S} {m : Mem}
theorem qO : ∀ {l : List (AV S)} {i t aI : Nat} {v : AV S}, look t (nV i l) = some (aI, v) → aI = 64 + t ∧ i ≤ t ∧ l[t - i]? = some v
 | [], i, t, aI, v, h => by cases h
 | a :: l, i, t, aI, v, h => by
   simp only [nV, ax] at h
   by_cases e : i = t
   · subst e; rw [if_pos rfl] at h; cases h; exact ⟨rfl, Nat.le_refl _, by simp⟩
   · rw [if_neg e] at h
     obtain ⟨h1, h2, h3⟩ := qO h
     refine ⟨h1, by omega, ?_⟩
     rw [show t - i = (t - (i + 1)) + 1 by omega]; simpa using h3
theorem wH : ∀ {vs : List Value} {i t : Nat} {v : Value}, i ≤ t → vs[t - i]? = some v → lk (rU i vs) t = some v
 | [], i, t, v, _, h => by simp at h
 | u :: vs, i, t, v, hi, h => by
   unfold rU lk
   by_cases e : i = t
   · subst e; simp at h; subst h; simp
   · rw [jh e]
     refine wH (by omega) ?_
     rw [show t - i = (t - (i + 1)) + 1 by omega] at h; simpa using h
theorem wI : ∀ {as : List (AV S)} {us : List Value} {i : Nat} {v : AV S}, bU K g m as us → as[i]? = some v → ∃ u, us[i]? = some u ∧ aA K g m v u
 | [], us, i, v, _, h => by simp at h
 | a :: as, us, i, v, hr, h => by
   simp only [bU] at hr
   obtain ⟨x, r, rfl, h1, h2⟩ := hr
   cases i with
   | zero => simp at h; subst h; exact ⟨x, rfl, h1⟩
   | succ i => obtain ⟨u, k1, k2⟩ := wI h2 (by simpa using h); exact ⟨u, by simpa using k1, k2⟩
theorem rV : ∀ {as : List (AV S)} {us : List Value}, bU K g m as us → us.length = as.length
 | [], us, h => by simp only [bU] at h; subst h; rfl
 | a :: as, us, h => by simp only [bU] at h; obtain ⟨x, r, rfl, h1, h2⟩ := h; simp [rV h2]
theorem uk {ids : Nat → Nat} : ∀ {l : List PS} {ds ds' : List (fL S)} {as : List (AV S)}, PS.da tb ids l ds = some (as, ds') → as.length = l.length
 | [], ds, ds', as, h => by simp only [PS.da] at h; cases h; rfl
 | s :: l, ds, ds', as, h => by
   simp only [PS.da] at h
   obtain ⟨p, hp, h⟩ := Option.bind_eq_some_iff.1 h
   obtain ⟨⟨q1, q2⟩, hq, h⟩ := Option.map_eq_some_iff.1 h
   cases h
   simp [uk hq]
theorem xx {ids : Nat → Nat} : ∀ {l : List OS} {ds ds' : List (fL S)} {as : List (AO S)}, OS.da tb ids l ds = some (as, ds') → as.length = l.length
 | [], ds, ds', as, h => by simp only [OS.da] at h; cases h; rfl
 | s :: l, ds, ds', as, h => by
   simp only [OS.da] at h
   obtain ⟨p, hp, h⟩ := Option.bind_eq_some_iff.1 h
   obtain ⟨⟨q1, q2⟩, hq, h⟩ := Option.map_eq_some_iff.1 h
   cases h
   simp [xx hq]
theorem zQ {ids : Nat → Nat} : ∀ {l : List (AO S)} {L : List az} {o i : Nat} {a : AO S}, CG K g m ids o l L → l[i]? = some a → ∃ e, L[i]? = some e ∧ lr K g m (ids (o + i)) a e
 | [], L, o, i, a, _, h => by simp at h
 | x :: l, L, o, i, a, hr, h => by
   obtain ⟨e, L', rfl, h1, h2⟩ := hr
   cases i with
   | zero => simp at h; subst h; exact ⟨e, rfl, h1⟩
   | succ i =>
     obtain ⟨f, k1, k2⟩ := zQ h2 (by simpa using h)
     exact ⟨f, by simpa using k1, by rw [show o + (i + 1) = o + 1 + i by omega]; exact k2⟩
theorem J7 {q : Nat} {a : AO S} {e : az} (h : lr K g m q a e) : ∃ gh, g.bk q = some gh := by
 cases a with
 | box T cs => obtain ⟨gh, b, vs, h1, _⟩ := h; exact ⟨gh, h1⟩
 | row T c => obtain ⟨gh, h1, _⟩ := h; exact ⟨gh, h1⟩
 | arr T c f l => obtain ⟨gh, cs, h1, _⟩ := h; exact ⟨gh, h1⟩
 | loop r st tm => obtain ⟨gh, _, _, _, _, h1, _⟩ := h; exact ⟨gh, h1⟩
 | map t kc vc l hole => obtain ⟨gh, _, _, _, h1, _⟩ := h; exact ⟨gh, h1⟩
 | ni t et kc c l hole => obtain ⟨gh, _, _, _, _, h1, _⟩ := h; exact ⟨gh, h1⟩
 | jf t kc vc l hole q => obtain ⟨gh, _, _, _, h1, _⟩ := h; exact ⟨gh, h1⟩
 | xu kc o st => obtain ⟨gh, _, _, _, h1, _⟩ := h; exact ⟨gh, h1⟩
 | yB t kc l => obtain ⟨gh, _, _, _, h1, _⟩ := h; exact ⟨gh, h1⟩
theorem CG.mono {g' : GG S} {m' : Mem} {ids : Nat → Nat} (hg : GE g g') (hm : Le m m') : ∀ {l : List (AO S)} {L : List az} {o : Nat}, CG K g m ids o l L → CG K g' m' ids o l L
 | [], _, _, h => h
 | _ :: _, _, _, ⟨e, L', h1, h2, h3⟩ => ⟨e, L', h1, h2.mono hg hm, CG.mono hg hm h3⟩
theorem Cs {c : bO S} {x : HT S c.ls} {σ : AS S} {bk : Nat → Option Gh} {vals : List Value} {L : List az} {n : Nat} {a : Act} (h : start tb c x = some σ) (hb : ∀ i, c.br.length ≤ i → bk i = none)
 (hin : ∀ ds args ds1 br ds2, kj c.bk (mM c.ls x) = some ds → PS.da tb id c.ins ds = some (args, ds1) → OS.da tb id c.br ds1 = some (br, ds2) → bU K (Hk bk) m args vals ∧ CG K (Hk bk) m id 0 br L) (hO : Ow m L) (hB : K.B m)
 (hn : c.ins.length ≤ 190) (hK : Kn n a (rU 0 vals)) : ∃ g0, Inv K n ⟨[], []⟩ (ak L) m bk σ g0 a m L ∧ (∀ (i ver : Nat) ao, look i σ.ob = some (ver, ao) → ∃ e, L[i]? = some e ∧ g0.oo ver = some (ao, e)) := by
 unfold start at h
 obtain ⟨ds, hds, h⟩ := Option.bind_eq_some_iff.1 h
 obtain ⟨⟨args, ds1⟩, hp, h⟩ := Option.bind_eq_some_iff.1 h
 obtain ⟨⟨br, ds2⟩, hq, h⟩ := Option.bind_eq_some_iff.1 h
 simp only [Option.some.injEq] at h hq
 subst h
 obtain ⟨hA, hL⟩ := hin ds args ds1 br ds2 hds hp hq
 have hlen := rV hA
 rw [uk hp] at hlen
 have hol := xx hq
 have hLl := zS hL
 have hfew := c.A1
 simp only [Bool.and_eq_true] at hfew
 have hf1 := Nat.le_of_ble_eq_true hfew.1
 let g0 : GG S := { bk := bk, vv := fun i => if 64 ≤ i then vals[i - 64]? else none, oo := fun i => match br[i]?, L[i]? with | some a, some e => some (a, e) | _, _ => none }
 have ge : GE (Hk bk) g0 := ⟨fun _ _ h => h, fun i y hy => (by cases hy), fun i y hy => (by cases hy)⟩
 have hL' := CG.mono ge (Le.refl m) hL
 refine ⟨g0, ⟨hK.size, hK.defers, fun t aI v hs => ?_, fun s aI v hs => ?_, BX hL' (fun i => rfl) fun i b e hb' he => ?_, by rw [List.append_nil]; exact St.refl hO, fun i hi => ⟨hb i ?_, ?_, ?_⟩, ⟨hB, fun j q hj => ?_⟩⟩, fun i ver ao hi => ?_⟩
 · simp only [Nat.zero_add] at hs
   obtain ⟨rfl, _, h2⟩ := qO hs
   obtain ⟨u, h3, h4⟩ := wI hA h2
   show (if _ then _ else _) = _
   rw [if_pos (by omega), show 64 + t - 64 = t by omega]
   simp only [Nat.sub_zero] at h3
   rw [h3, hK.at_ t u (wH (Nat.zero_le _) (by simpa using h3))]
 · obtain ⟨rfl, _, h2⟩ := qO hs
   obtain ⟨u, h3, h4⟩ := wI hA h2
   refine ⟨u, ?_, h4.mono ge (Le.refl m)⟩
   show (if _ then _ else _) = _
   rw [if_pos (by omega), show 64 + s - 64 = s by omega]
   simpa using h3
 · show (match br[0 + i]?, L[0 + i]? with | some a, some e => some (a, e) | _, _ => none) = _
   rw [Nat.zero_add, hb', he]
 · simp only at hi; omega
 · simp only at hi
   show (if _ then _ else _) = _
   rw [if_pos (by omega), List.getElem?_eq_none (by omega)]
 · simp only at hi
   show (match br[i]?, L[i]? with | some a, some e => some (a, e) | _, _ => none) = _
   rw [List.getElem?_eq_none (l := br) (by omega)]
 · simp only at hj
   have hj1 : j < c.br.length := by
    have := (List.getElem?_eq_some_iff.1 hj).1
    simpa using this
   rw [List.getElem?_range hj1] at hj
   cases hj
   obtain ⟨e, _, k2⟩ := zQ (i := j) hL (List.getElem?_eq_getElem (by omega))
   obtain ⟨gh, k3⟩ := J7 k2
   have k4 : bk j = some gh := by rw [Nat.zero_add] at k3; exact k3
   exact ⟨gh, k4, k4⟩
 · simp only at hi
   have key : ∀ (l : List (AO S)) (v i ver : Nat) ao, look i (BW v l) = some (ver, ao) → ver = i ∧ v ≤ i ∧ l[i - v]? = some ao := fun l => by
    induction l with
    | nil => intro v i ver ao h; cases h
    | cons y l ih =>
      intro v i ver ao h
      simp only [BW, ax] at h
      by_cases e : v = i
      · rw [if_pos e] at h; cases h; exact ⟨e, by omega, by subst e; simp⟩
      · rw [if_neg e] at h
        obtain ⟨h1, h2, h3⟩ := ih _ _ _ _ h
        refine ⟨h1, by omega, ?_⟩
        rw [show i - v = (i - (v + 1)) + 1 by omega]; simpa using h3
   obtain ⟨rfl, _, k3⟩ := key _ _ _ _ _ hi
   simp only [Nat.sub_zero] at k3
   obtain ⟨e, k4, _⟩ := zQ hL k3
   exact ⟨e, k4, by show (match br[ver]?, L[ver]? with | some a, some e => some (a, e) | _, _ => none) = _; rw [k3, k4]⟩
def oL : List ResultVar → List Operand
 | [] => []
 | .tmp t :: l => .tmp t :: oL l
 | .cell t _ :: l => .tmp t :: oL l
section
variable {n : Nat} {ds : Cx} {B : List Nat} {m0 : Mem} {rb : Nat → Option Gh} {σ : AS S} {a : Act} {L : List az}
theorem rA (hT : cn P K tt) (hI : Inv K n ds B m0 rb σ g a m L) {Kt : Kt} : ∀ {rs : List ResultVar} {vs : List (AV S)}, (∀ t, Operand.tmp t ∈ oL rs → lk Kt t = some (a.eval (.tmp t))) → lW tt σ rs = some vs → ∃ us, qN P Kt m.w rs us ∧ bU K g m vs us
 | [], vs, _, h => by simp only [lW, Option.some.injEq] at h; subst h; exact ⟨[], .nil, by simp only [bU]⟩
 | .tmp t :: rs, vs, hk, h => by
   simp only [lW] at h
   obtain ⟨⟨aI, v⟩, hv, h1⟩ := Option.bind_eq_some_iff.1 h
   obtain ⟨r, hr, rfl⟩ := Option.map_eq_some_iff.1 h1
   obtain ⟨us, k1, k2⟩ := rA hT hI (fun t ht => hk t (by simp [oL, ht])) hr
   exact ⟨_, .tmp (hk t (by simp [oL])) k1, by simp only [bU]; exact ⟨_, _, rfl, (hI.slot hv).2, k2⟩⟩
 | .cell t ty :: rs, vs, hk, h => by
   simp only [lW] at h
   obtain ⟨⟨aI, v⟩, hv, h1⟩ := Option.bind_eq_some_iff.1 h
   simp only at h1
   split at h1
   · rename_i o
     obtain ⟨⟨ver, ao⟩, hao, h2⟩ := Option.bind_eq_some_iff.1 h1
     simp only at h2
     split at h2
     · rename_i T cs
       obtain ⟨i, hi, h3⟩ := Option.bind_eq_some_iff.1 h2
       obtain ⟨w, hw, h4⟩ := Option.bind_eq_some_iff.1 h3
       obtain ⟨r, hr, rfl⟩ := Option.map_eq_some_iff.1 h4
       obtain ⟨us, k1, k2⟩ := rA hT hI (fun t ht => hk t (by simp [oL, ht])) hr
       have hv2 := (hI.slot hv).2
       simp only [aA, au, List.cons.injEq, and_true] at hv2
       obtain ⟨gh, b, g1, g2, g3⟩ := hv2
       obtain ⟨z, hz1, hz2, hz3⟩ := lT hI.ob
       rw [← hz1, kP] at hao
       obtain ⟨p, hp1, hp2⟩ := Option.map_eq_some_iff.1 hao
       obtain ⟨hp3, hp4⟩ := eI hp1
       have hob := (hz3 p hp3).2
       rw [hp2, hp4] at hob
       obtain ⟨gh', b', ws, j1, j2, j3, j4⟩ := hob
       rw [g1] at j1; cases j1
       rw [g2] at j2; cases j2
       have hmem : p.2 ∈ L := by rw [← hz2]; exact List.mem_map_of_mem hp3
       rw [j3] at hmem
       have hok := hI.st.ow.left.ok _ hmem
       have hcell : ∀ k u, ws[k]? = some u → m.w.cell? ⟨b, k, none⟩ = some u := fun k u hu => by
        rw [cell_of_row _ _ _ _ _ _ hok]; simpa using hu
       have hag := (hT.ty ty i hi).agg
       have hkp := hk t (by simp [oL])
       rw [g3] at hkp
       split at hw
       · rename_i hA
         obtain ⟨l, hl, rfl⟩ := Option.map_eq_some_iff.1 hw
         obtain ⟨q1, q2⟩ := og hl j4
         refine ⟨.agg (ws.take i.size).toArray :: us, .agg (o := 0) (by rw [hag, hA, List.length_take, Nat.min_eq_left q2]) hkp (fun k u hu => ?_) k1, ?_⟩
         · rw [Nat.zero_add]
           refine hcell k u ?_
           rw [List.getElem?_take] at hu
           split at hu
           · exact hu
           · cases hu
         · simp only [bU, aA]; exact ⟨_, _, rfl, ⟨_, rfl, q1⟩, k2⟩
       · rename_i hA
         obtain ⟨u, hu, rfl⟩ := Option.map_eq_some_iff.1 hw
         obtain ⟨x, q1, q2⟩ := su hu j4
         refine ⟨x :: us, .one (by rw [hag, hA]) hkp (hcell 0 x q1) k1, ?_⟩
         simp only [bU, aA]; exact ⟨_, _, rfl, q2, k2⟩
     · cases h2
   · cases h1
theorem FZ {vs : List (AV S)} {us : List Value} (h : bU K g m vs us) : aA K g m (xz vs) (vq us) := by
 match vs, h with
 | [], h => simp only [bU] at h; subst h; simp only [xz, vq, aA]; exact ⟨[], rfl, by simp only [bU]⟩
 | [v], h =>
   simp only [bU] at h
   obtain ⟨x, r, rfl, h1, rfl⟩ := h
   exact h1
 | v :: w :: vs, h =>
   have h' := h
   simp only [bU] at h
   obtain ⟨x, r, rfl, h1, y, r', rfl, h2⟩ := h
   simp only [xz, vq, aA]
   exact ⟨_, rfl, h'⟩
theorem iW {ob : List (Nat × Nat × AO S)} : ∀ {l : List KS} {mp mp' : List (Nat × Nat)} {o : Nat} {ds : List (fL S)}, OS.fg tb ob mp o l = some (ds, mp') → Sub mp mp' ∧ (gi mp → gi mp')
 | [], mp, mp', o, ds, h => by
   simp only [OS.fg, Option.some.injEq, Prod.mk.injEq] at h
   obtain ⟨_, rfl⟩ := h
   exact ⟨Sub.refl _, id⟩
 | .now s :: l, mp, mp', o, ds, h => by
   simp only [OS.fg] at h
   obtain ⟨q, hq, h⟩ := Option.bind_eq_some_iff.1 h
   obtain ⟨a, ha, h⟩ := Option.bind_eq_some_iff.1 h
   obtain ⟨p, hp, h⟩ := Option.bind_eq_some_iff.1 h
   obtain ⟨r, hr, h⟩ := Option.map_eq_some_iff.1 h
   obtain ⟨rd, rm⟩ := r
   simp only [Prod.mk.injEq] at h
   obtain ⟨_, rfl⟩ := h
   obtain ⟨a1, a2⟩ := OS.gT hp
   obtain ⟨b1, b2⟩ := iW hr
   exact ⟨a1.trans b1, fun hM => b2 (a2 hM)⟩
 | .kept :: l, mp, mp', o, ds, h => iW (l := l) (by simpa only [OS.fg] using h)
 | .gone :: l, mp, mp', o, ds, h => iW (l := l) (by simpa only [OS.fg] using h)
theorem lV {ob : List (Nat × Nat × AO S)} : ∀ {l : List KS} {mp mp' mp1 : List (Nat × Nat)} {o : Nat} {ds : List (fL S)} {Ln : List az}, OS.fg tb ob mp o l = some (ds, mp') → Sub mp' mp1 → dm K g m (pick ob (ie mp1 o l)) Ln →
 ∀ (g' : GG S) (ids : Nat → Nat) (r : List (Nat × AO S)), D0 mp1 g g' ids → OS.outs tb ids o l ds = some r → wu K g' m r Ln
 | [], mp, mp', mp1, o, ds, Ln, h, hS, hL, g', ids, r, hR, hf => by
   simp only [OS.fg, Option.some.injEq, Prod.mk.injEq] at h
   obtain ⟨rfl, _⟩ := h
   simp only [OS.outs, Option.some.injEq] at hf
   subst hf
   exact hL
 | .kept :: l, mp, mp', mp1, o, ds, Ln, h, hS, hL, g', ids, r, hR, hf =>
   lV (l := l) (by simpa only [OS.fg] using h) hS (by simpa only [ie] using hL) g' ids r hR (by simpa only [OS.outs] using hf)
 | .gone :: l, mp, mp', mp1, o, ds, Ln, h, hS, hL, g', ids, r, hR, hf =>
   lV (l := l) (by simpa only [OS.fg] using h) hS (by simpa only [ie] using hL) g' ids r hR (by simpa only [OS.outs] using hf)
 | .now s :: l, mp, mp', mp1, o, ds, Ln, h, hS, hL, g', ids, r, hR, hf => by
   simp only [OS.fg] at h
   obtain ⟨q, hq, h⟩ := Option.bind_eq_some_iff.1 h
   obtain ⟨a, ha, h⟩ := Option.bind_eq_some_iff.1 h
   obtain ⟨p, hp, h⟩ := Option.bind_eq_some_iff.1 h
   obtain ⟨r1, hr, h⟩ := Option.map_eq_some_iff.1 h
   obtain ⟨pd, pm⟩ := p
   obtain ⟨rd, rm⟩ := r1
   simp only [Prod.mk.injEq] at h
   obtain ⟨rfl, rfl⟩ := h
   have a1 := (OS.gT hp).1
   have b1 := (iW hr).1
   have hq1 : look o mp1 = some q := hS _ _ (b1 _ _ (a1 _ _ hq))
   simp only [ie, hq1, pick, ha, dm] at hL
   obtain ⟨e, L', rfl, h1, h2, h3⟩ := hL
   obtain ⟨_, _, a3⟩ := OS.ja hp h2
   simp only [OS.outs] at hf
   obtain ⟨p1, hp1, hf1⟩ := Option.bind_eq_some_iff.1 hf
   obtain ⟨q1, hq1', hf2⟩ := Option.map_eq_some_iff.1 hf1
   obtain ⟨w1, r1⟩ := p1
   clear hf hf1
   obtain ⟨rfl, k2⟩ := a3 g' ids (ids o) _ _ _ (hR.sub (b1.trans hS)) (fun gh hgh => hR _ _ _ hq1 hgh) hp1
   subst hf2
   exact ⟨e, L', rfl, k2, lV hr hS h3 g' ids _ hR hq1'⟩
end
theorem zi : ∀ l : List KS, lf l [] = []
 | [] => rfl
 | .kept :: _ => rfl
 | .now _ :: _ => rfl
 | .gone :: _ => rfl
theorem xh {l : List KS} {L : List az} {o : Nat} {s : KS} (hs : s.Qu = false) : lf (s :: l) (L.drop o) = lf l (L.drop (o + 1)) := by
 by_cases h : o < L.length
 · rw [List.drop_eq_getElem_cons h]
   cases s <;> first | (cases hs; done) | rfl
 · rw [List.drop_of_length_le (by omega), List.drop_of_length_le (by omega), zi, zi]
theorem sJ {z : ZL S} {L : List az} : ∀ {l : List KS} {o : Nat}, (∀ i ∈ fU o l, ∃ p, lS z i = some p ∧ L[i]? = some p.2) → lf l (L.drop o) = (cQ z (fU o l)).map Prod.snd
 | [], o, _ => by simp [lf, fU, cQ]
 | .kept :: l, o, h => by
   obtain ⟨p, h1, h2⟩ := h o (by simp [fU])
   have ih := sJ (l := l) (o := o + 1) fun i hi => h i (by simp [fU, hi])
   have hlt : o < L.length := (List.getElem?_eq_some_iff.1 h2).1
   have he : L[o] = p.2 := by rw [List.getElem?_eq_getElem hlt] at h2; exact Option.some.inj h2
   rw [List.drop_eq_getElem_cons hlt, he]
   simp only [lf, fU, cQ, List.filterMap_cons, h1, List.map_cons]
   rw [ih]; rfl
 | .now s :: l, o, h => by
   rw [xh rfl]
   exact sJ (l := l) (o := o + 1) h
 | .gone :: l, o, h => by
   rw [xh rfl]
   exact sJ (l := l) (o := o + 1) h
theorem nm {σ0 σ : AS S} : ∀ {l : List KS} {o : Nat}, xl σ0 σ o l = true → ∀ i ∈ fU o l, ∃ ver a0 a1, look i σ0.ob = some (ver, a0) ∧ look i σ.ob = some (ver, a1)
 | [], o, _, i, hi => by cases hi
 | .kept :: l, o, h, i, hi => by
   simp only [xl, Bool.and_eq_true] at h
   simp only [fU, List.mem_cons] at hi
   rcases hi with rfl | hi
   · have h1 := h.1.2
     split at h1
     · rename_i x y hx hy
       obtain ⟨x1, x2⟩ := x
       obtain ⟨y1, y2⟩ := y
       have := Nat.eq_of_beq_eq_true h1
       simp only at this
       subst this
       exact ⟨x1, x2, y2, hx, hy⟩
     · cases h1
   · exact nm h.2 i hi
 | .now _ :: l, o, h, i, hi => nm (l := l) (o := o + 1) h i hi
 | .gone :: l, o, h, i, hi => nm (l := l) (o := o + 1) h i hi
theorem xL : ∀ {l : List Nat} {j i q : Nat}, j ≤ i → l[i - j]? = some q → look i (EG j l) = some q
 | [], j, i, q, _, h => by simp at h
 | x :: l, j, i, q, hj, h => by
   simp only [EG, ax]
   by_cases e : j = i
   · subst e; rw [if_pos rfl]; simpa using h
   · rw [if_neg e]
     refine xL (by omega) ?_
     rw [show i - j = (i - (j + 1)) + 1 by omega] at h; simpa using h
theorem zb {n : Nat} {ds : Cx} {m0 : Mem} {σ : AS S} {a : Act} {c : bO S} {y : gH S c.outs} {σ0 : AS S} {g0 : GG S} {bk : Nat → Option Gh} {L L1 : List az} {v : AV S} {u : Value} (hX : ds.X = []) (hI : Inv K n ds (ak L) m0 bk σ g a m L1) (hge : GE g0 g) (hob0 : ∀ (i ver : Nat) ao, look i σ0.ob = some (ver, ao) → ∃ e, L[i]? = some e ∧ g0.oo ver = some (ao, e))
 (r3 : aA K g m v u) (hfin : lM tb c.br.length v σ0 σ c.outs = some y) : ∃ L2, St (ak L) m0 m L2 ∧ aL K c bk L y u m L2 := by
 have key : ∃ L2, wD c.outs y fun o z => St (ak L) m0 m L2 ∧ GL K c.br.length o bk L z u m L2 := vj (sD hfin) fun o z ho h1 => by
  unfold finish at h1
  obtain ⟨⟨pd, mp1⟩, hp, h2⟩ := Option.bind_eq_some_iff.1 h1
  obtain ⟨⟨qd, mp2⟩, hq, h3⟩ := Option.bind_eq_some_iff.1 h2
  simp only at h3 hq
  split at h3
  case h_2 => cases h3
  case h_1 hc =>
  obtain ⟨dd, hdd, hof⟩ := Option.bind_eq_some_iff.1 h3
  simp only [Bool.and_eq_true] at hc
  obtain ⟨c1, ⟨c2, c3⟩, c4⟩ := hc
  have c3 := Nat.eq_of_beq_eq_true c3
  obtain ⟨s1, s2, s3⟩ := PS.ja hp r3
  obtain ⟨t1, t2⟩ := iW hq
  obtain ⟨z1, hz1, hz2, hz3⟩ := lT hI.ob
  obtain ⟨Y, hY⟩ := jv (z := z1) (fJ c2)
  have hkeep : lf o.bh L = (cQ z1 (fU 0 o.bh)).map Prod.snd := by
   have := sJ (z := z1) (L := L) (l := o.bh) (o := 0) fun i hi => by
    obtain ⟨ver, a0, a1, k1, k2⟩ := nm c1 i hi
    obtain ⟨e, k3, k4⟩ := hob0 i ver a0 k1
    rw [← hz1, kP] at k2
    obtain ⟨p, hp1, hp2⟩ := Option.map_eq_some_iff.1 k2
    refine ⟨p, hp1, ?_⟩
    have e1 := (hz3 p (eI hp1).1).1
    rw [hp2] at e1
    simp only at e1
    rw [hge.oo _ _ k4] at e1
    have := Option.some.inj e1
    rw [k3, (Prod.mk.inj this).2]
   simpa using this
  have hLn' : dm K g m (pick σ.ob (ie mp2 0 o.bh)) ((cQ z1 (ie mp2 0 o.bh)).map Prod.snd) := by
   rw [← hz1, ← ju]
   exact kH fun p hp => by
    obtain ⟨q, _, hq⟩ := List.mem_filterMap.1 hp
    exact hz3 p (eI hq).1
  have hSt : St (ak L) m0 m (lf o.bh L ++ (cQ z1 (ie mp2 0 o.bh)).map Prod.snd) := by
   have h1 : List.Perm L1 ((lf o.bh L ++ (cQ z1 (ie mp2 0 o.bh)).map Prod.snd) ++ Y.map Prod.snd) := by
    rw [← hz2, hkeep, ← List.map_append, ← List.map_append]
    refine List.Perm.map _ ?_
    have : cQ z1 (fU 0 o.bh) ++ cQ z1 (ie mp2 0 o.bh) = cQ z1 (fU 0 o.bh ++ ie mp2 0 o.bh) := by
     simp only [cQ, List.filterMap_append]
    rw [this]; exact hY
   have h0 := hI.st
   rw [hX, List.append_nil] at h0
   exact (h0.perm h1).ux
  have hkey : ∀ i q, look i mp2 = some q → i < o.bh.length := fun i q ho =>
   Nat.le_of_ble_eq_true (List.all_eq_true.1 c4 _ (eA ho))
  refine ⟨_, hSt, fun i => if i < o.bh.length then (look i mp2).bind g.bk else none, (cQ z1 (ie mp2 0 o.bh)).map Prod.snd, rfl, fun i hi => ?_, fun i hi => if_neg (by omega), fun gx ids ds out ds1 l hR hds hout houts => ?_⟩
  · obtain ⟨q, hq'⟩ : ∃ q, σ.rt[i]? = some q := ⟨_, List.getElem?_eq_getElem (by omega)⟩
    have hl : look i mp2 = some q := t1 _ _ (s1 _ _ (xL (Nat.zero_le _) (by simpa using hq')))
    obtain ⟨h, k1, k2⟩ := hI.rt.2 i q hq'
    show (if _ then _ else _) = _
    rw [if_pos (hkey _ _ hl), hl, k1]; exact k2
  · have hRen : D0 mp2 g gx ids := fun i q h ho hbk' => hR i h (by
     show (if _ then _ else _) = _
     rw [if_pos (hkey _ _ ho), ho]; exact hbk')
    rw [wY hof] at hds
    have := pJ o.Qz hdd hds
    subst this
    obtain ⟨rfl, j2⟩ := s3 _ _ _ _ _ (hRen.sub t1) hout
    exact ⟨j2, lV hq (Sub.refl _) hLn' gx ids l hRen houts⟩
 obtain ⟨L2, h⟩ := key
 obtain ⟨o, z, _, h1, _⟩ := zU h
 exact ⟨L2, h1.1, yO h fun o z _ hp => hp.2⟩
theorem Fw (hT : cn P K tt) (hΦ : ∀ c ∈ Φ, Sound P K c) (hΨ : ∀ c ∈ fa.nd, jZ P K c) (hD : ∀ n B m0 rb ds, zO P K tt Φ fa n B m0 rb none ds) {c : bO S} {fn : Func} {body : Code} {rs : List ResultVar} {an : An} (hf : P.funcs[c.f]? = some fn) (hb : fn.body = some body) (hrs : fn.results = rs.toArray) (hen : tH P c.f) (hcf : c.f ≤ 999999)
 (hok : codeOk fn.ntmps body = true) (hrg : LY K fa.fn fn.ntmps body) (hsz : (Nat.ble c.ins.length 190 && Nat.ble c.ins.length fn.ntmps) = true) (hev : ∀ x, Om tb tt Φ fa c rs body an x = c.cx x) : Sound P K c := by
 simp only [Bool.and_eq_true] at hsz
 have hsz1 := Nat.le_of_ble_eq_true hsz.1
 have hsz2 := Nat.le_of_ble_eq_true hsz.2
 refine ⟨fun x y bk m vals L hsem hbk hin hLn hO hB => ?_⟩
 unfold qM
 rw [if_pos hcf]
 refine ⟨hen, ?_⟩
 show Spec P c.f vals.toArray m L (aL K c bk L y)
 rw [← hev x] at hsem
 unfold Om at hsem
 split at hsem
 case h_2 => cases hsem
 case h_1 σ0 hst =>
 have hvl : vals.length = c.ins.length := by
  have h := hst
  unfold start at h
  obtain ⟨ds, hds, h⟩ := Option.bind_eq_some_iff.1 h
  obtain ⟨⟨args, ds1⟩, hp, h⟩ := Option.bind_eq_some_iff.1 h
  obtain ⟨⟨br, ds2⟩, hq, h⟩ := Option.bind_eq_some_iff.1 h
  rw [rV (hin ds args ds1 br ds2 hds hp hq).1, uk hp]
 refine enter fn.ntmps hf hb rfl (by omega) fun a hK => ?_
 obtain ⟨g0, hI0, hob0⟩ := Cs hst hbk hin hO hB hsz1 hK
 have hI1 : Inv K fn.ntmps ⟨Gu [], [.defs []]⟩ (ak L) m bk σ0 g0 a m L := hI0.N6 rfl hK.defers (by
  have := hI0.st
  rw [List.append_nil] at this
  exact this.Oh.perm (List.perm_append_comm (l₁ := [az.defs []]) (l₂ := L)))
 refine kZ (rr := none) hT hΦ hΨ (fun _ => rfl) (hD _ _ _ _) body hok hrg an σ0 (gH S c.outs) _ (gH S c.outs) id y g0 a m L _ ⟨Gu [], [.defs []]⟩ ⟨[], rfl⟩ ?_ hsem hI1 fun ex σ' g' a' m' L' ds' hds' hk hge hle hI => ?_
 · intro δ δ' ψ hψ e ex σ'
   cases ex with
   | exit k => rfl
   | normal => exact cb fun σp => cb fun vs => cb fun z => rfl
   | ret => exact cb fun σp => cb fun vs => cb fun z => rfl
 · obtain ⟨Ds, rfl⟩ := hds'
   have fin : ∀ σp vs, yG fa.pre σ' = some σp → lW tt σp rs = some vs → lM tb c.br.length (xz vs) σ0 σp c.outs = some y → xa P fn m L (aL K c bk L y) .ret a' m'.w := fun σp vs hpre hvs hfin => by
    have hKn : Kn fn.ntmps a' (Ht a' (oL rs)) (Gu Ds) := ⟨hI.size, hI.defers, bQ a' _⟩
    refine F3 L'.length hKn hI.st (by simp) fun m1 hle1 hS1 a2 hK2 => ?_
    have he : (L' ++ [az.defs Ds]).eraseIdx L'.length = L' := by
     rw [List.eraseIdx_append_of_length_le (Nat.le_refl _)]; simp
    rw [he] at hS1
    have hI2 : Inv K fn.ntmps ⟨a'.defers, []⟩ (ak L) m bk σ' g' a' m1 L' := ⟨hI.size, rfl, hI.at_, fun s aI v h => (let ⟨u, k1, k2⟩ := hI.tm s aI v h; ⟨u, k1, k2.mono (GE.refl _) hle1⟩), hI.ob.mono (GE.refl _) hle1, by rw [List.append_nil]; exact hS1, hI.fresh, hI.rt⟩
    obtain ⟨gp, mp, Lp, hw, _, hgp, hIp⟩ := sT hI2 hpre
    rw [← hw]
    obtain ⟨us, r1, r2⟩ := rA (Kt := Ht a' (oL rs)) hT hIp (fun t ht => uB a' (oL rs) t ht) hvs
    obtain ⟨L2, hSt, hP⟩ := zb rfl hIp (hge.trans hgp) hob0 (FZ r2) hfin
    exact MP (K := Ht a' (oL rs)) rs us hrs hK2 r1 hSt hP
   cases ex with
   | exit k => cases hk
   | ret =>
     obtain ⟨σp, h0, hk⟩ := Option.bind_eq_some_iff.1 hk
     obtain ⟨vs, h1, h2⟩ := Option.bind_eq_some_iff.1 hk
     obtain ⟨w, h3, h4⟩ := Option.bind_eq_some_iff.1 h2
     have := Option.some.inj h4
     simp only [id] at this
     subst this
     exact fin σp vs h0 h1 h3
   | normal =>
     obtain ⟨σp, h0, hk⟩ := Option.bind_eq_some_iff.1 hk
     obtain ⟨vs, h1, h2⟩ := Option.bind_eq_some_iff.1 hk
     obtain ⟨w, h3, h4⟩ := Option.bind_eq_some_iff.1 h2
     have := Option.some.inj h4
     simp only [id] at this
     subst this
     exact fin σp vs h0 h1 h3
end E
end Go.Proofs.YtekpafdhgkocaaaGreat
