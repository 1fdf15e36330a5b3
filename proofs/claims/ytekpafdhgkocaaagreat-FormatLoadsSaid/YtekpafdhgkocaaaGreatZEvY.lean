/- Part of what the laws need: plain words, the walker and its laws, the program's functions. -/
import Derived.Test.YtekpafdhgkocaaaGreatZEvF
namespace Go.Proofs.YtekpafdhgkocaaaGreat
open Go.RowKit G
namespace E
variable {S : Nat → Type} {tb : Tb S} {K : cV tb} {P : Program} {tt : TypeId → Option (TI S)} {Φ : List (bO S)} {fa : FA S} {g : GG S} {m : Mem}
theorem zD : ∀ {l : List (Nat × Nat × AV S)} {v0 t aI : Nat} {v : AV S}, look t (Ii v0 l) = some (aI, v) → ∃ (i : Nat) (old : Nat), l[i]? = some (t, old, v) ∧ aI = v0 + i ∧ look t l = some (old, v)
 | [], _, _, _, _, h => by cases h
 | (u, w, x) :: l, v0, t, aI, v, h => by
   simp only [Ii, ax] at h
   by_cases e : u = t
   · subst e
     rw [if_pos rfl] at h; cases h
     exact ⟨0, w, rfl, rfl, by rw [ax, if_pos rfl]⟩
   · rw [if_neg e] at h
     obtain ⟨i, old, h1, h2, h3⟩ := zD h
     exact ⟨i + 1, old, by simpa using h1, by omega, by rw [ax, if_neg e]; exact h3⟩
theorem sG {a : Array Value} {p t : Nat} {u : Value} (hp : p < a.size) : (a.setIfInBounds p u).getD t undef = if p = t then u else a.getD t undef := by
 simp only [Array.getD_eq_getD_getElem?, Array.getElem?_setIfInBounds]
 by_cases e : p = t
 · subst e; simp [hp]
 · simp [e]
def CI (K : cV tb) (g : GG S) (m : Mem) (tmps : Array Value) (tm : List (Nat × Nat × AV S)) : Prop := ∀ t aI v, look t tm = some (aI, v) → g.vv aI = some (tmps.getD t undef) ∧ aA K g m v (tmps.getD t undef)
def A3 (K : cV tb) (g : GG S) (m : Mem) : List (Nat × Nat × AV S) → List Value → Prop
 | [], us => us = []
 | x :: l, us => ∃ u us', us = u :: us' ∧ g.vv x.2.1 = some u ∧ aA K g m x.2.2 u ∧ A3 K g m l us'
theorem Cb {n : Nat} : ∀ {ps : List Nat} {l : List (Nat × Nat × AV S)} {us : List Value} {tm tm' : List (Nat × Nat × AV S)} {tmps : Array Value}, xH ps l tm = some tm' → A3 K g m l us → (∀ p ∈ ps, p < n) → tmps.size = n → CI K g m tmps tm →
 us.length = ps.length ∧ ((ps.zip us).foldl (fun t (p, v) => t.setIfInBounds p v) tmps).size = n ∧ CI K g m ((ps.zip us).foldl (fun t (p, v) => t.setIfInBounds p v) tmps) tm'
 | [], [], us, tm, tm', tmps, h, ha, _, hn, hs => by
   simp only [xH, Option.some.injEq] at h
   subst h
   simp only [A3] at ha
   subst ha
   exact ⟨rfl, hn, hs⟩
 | [], _ :: _, us, tm, tm', tmps, h, _, _, _, _ => by simp [xH] at h
 | _ :: _, [], us, tm, tm', tmps, h, _, _, _, _ => by simp [xH] at h
 | p :: ps, (_, aI, v) :: l, us, tm, tm', tmps, h, ha, hp, hn, hs => by
   simp only [xH] at h
   obtain ⟨u, us', rfl, h1, h2, h3⟩ := ha
   have hpn := hp p List.mem_cons_self
   obtain ⟨k1, k2, k3⟩ := Cb (tmps := tmps.setIfInBounds p u) h h3 (fun q hq => hp q (List.mem_cons_of_mem _ hq)) (by simpa using hn) (fun t vid' v' hl => by
    rw [sG (by omega)]
    rw [ax] at hl
    by_cases e : p = t
    · rw [if_pos e] at hl ⊢; cases hl; exact ⟨h1, h2⟩
    · rw [if_neg e] at hl ⊢
      rw [fy (Ne.symm e)] at hl
      exact hs t vid' v' hl)
   exact ⟨by simp [k1], by simpa using k2, by simpa using k3⟩
theorem Bn : ∀ {as : List (AV S)} {us : List Value} {i : Nat}, bU K g m as us → (∀ (k : Nat) u, us[k]? = some u → g.vv (64 + i + k) = some u) → A3 K g m (nV i as) us
 | [], us, i, h, _ => by simp only [bU] at h; subst h; rfl
 | a :: as, us, i, h, hv => by
   simp only [bU] at h
   obtain ⟨x, r, rfl, h1, h2⟩ := h
   exact ⟨x, r, rfl, by have := hv 0 x rfl; simpa using this, h1, Bn h2 fun k u hk => by have := hv (k + 1) u (by simpa using hk); rw [← this]; congr 1; omega⟩
theorem yP : ∀ {as : List (AV S)} {i k : Nat} {v : AV S}, as[k]? = some v → look (i + k) (nV i as) = some (64 + (i + k), v)
 | [], i, k, v, h => by simp at h
 | a :: as, i, 0, v, h => by simp at h; subst h; simp [nV, ax]
 | a :: as, i, k + 1, v, h => by
   simp only [nV, ax]
   rw [if_neg (by omega), show i + (k + 1) = i + 1 + k by omega]
   exact yP (by simpa using h)
section
variable {n : Nat} {ds : Cx} {B : List Nat} {m0 : Mem} {rb : Nat → Option Gh} {σ σ' : AS S} {a : Act} {L : List az}
theorem zr {s0 s1 : LS} {gh0 : Gh} {l : Nat} (hI : Inv K n ds B m0 rb σ g a m L) (hrb : rb 0 = some gh0) (hl : gh0.g = some l) (h : xt s0 s1 σ = some σ') :
 ∃ (R : LoopState → Option Code → Loop) (rg : RG) (tmps : Array Value) (L0 L0' Rst : List az), yJ R rg.ps.toArray tmps rg.kI rg.body ∧ List.Perm (L ++ ds.X) (.obj l (.loop (R (uD s0) (yC s0))) :: (L0 ++ ds.X ++ Rst)) ∧
  ∀ m1, Le m m1 → St B m0 m1 (.obj l (.loop (R (uD s1) (yC s1))) :: (L0 ++ ds.X ++ Rst)) → ∃ g1, GE g g1 ∧ Inv K n ds B m0 rb σ' g1 a m1 (.obj l (.loop (R (uD s1) (yC s1))) :: L0') := by
 unfold xt at h
 obtain ⟨q, hq, h1⟩ := Option.bind_eq_some_iff.1 h
 clear h
 obtain ⟨⟨ver, ao⟩, hlk, h2⟩ := Option.bind_eq_some_iff.1 h1
 clear h1
 simp only at h2
 split at h2
 case h_2 => cases h2
 case h_1 r st1 tm =>
 split at h2
 case h_2 => cases h2
 case h_1 hs =>
 obtain rfl := LS.EK hs
 have h3 := Option.some.inj h2
 subst h3
 obtain ⟨gh1, e1, e2⟩ := hI.rt.2 0 q hq
 rw [hrb] at e1
 cases e1
 obtain ⟨e, L0, Rst, ho, hp, hob⟩ := kr (X := []) hI.ob hlk
 obtain ⟨gh, l', R, rg, tmps, o1, o2, o3, rfl, o5, o6, o7⟩ := ho
 rw [e2] at o1
 cases o1
 rw [hl] at o2
 cases o2
 refine ⟨R, rg, tmps, L0, L0, Rst, o5, ?_, fun m1 hle hS => ?_⟩
 · refine (hp.append_right _).trans ?_
   rw [List.cons_append, List.append_assoc, List.append_assoc]
   exact List.Perm.cons _ (List.Perm.append_left _ List.perm_append_comm)
 · let e1 : az := .obj l (.loop (R (uD s1) (yC s1)))
   let g1 : GG S := { g with oo := fun i => if i = σ.ct + 32 then some (.loop r s1 tm, e1) else g.oo i }
   have ge : GE g g1 := ⟨fun _ _ h => h, fun _ _ h => h, fun i y hy => by
    show (if i = σ.ct + 32 then _ else g.oo i) = _
    rw [if_neg fun e' => by rw [e', (hI.fresh _ (by omega)).2.2] at hy; cases hy]; exact hy⟩
   refine ⟨g1, ge, hI.size, hI.defers, hI.at_, fun s aI v h => (let ⟨u, k1, k2⟩ := hI.tm s aI v h; ⟨u, k1, k2.mono ge hle⟩), ⟨e1, L0, rfl, if_pos rfl, ⟨gh0, l, R, rg, tmps, e2, hl, o3, rfl, o5, o6, fun t aI v h => (o7 t aI v h).mono ge hle⟩, hob.mono ge hle⟩, ?_, fun i hi => ⟨?_, ?_, ?_⟩, ⟨hI.rt.1, fun j q hj => ?_⟩⟩
   · have := (St.ux (L := .obj l (.loop (R (uD s1) (yC s1))) :: (L0 ++ ds.X)) (R := Rst) (by simpa using hS))
     simpa using this
   · have hi : σ.ct + 64 ≤ i := hi
     exact (hI.fresh i (by omega)).1
   · have hi : σ.ct + 64 ≤ i := hi
     exact (hI.fresh i (by omega)).2.1
   · have hi : σ.ct + 64 ≤ i := hi
     show (if i = σ.ct + 32 then _ else g.oo i) = _
     rw [if_neg (by omega)]; exact (hI.fresh i (by omega)).2.2
   · exact hI.rt.2 j q hj
end
theorem Fx (hT : cn P K tt) (hΦ : ∀ c ∈ Φ, Sound P K c) (hΨ : ∀ c ∈ fa.nd, jZ P K c) (hD : ∀ n B m0 rb rr ds, zO P K tt Φ fa n B m0 rb rr ds) {c : bO S} {r n : Nat} {ps : List Nat} {as body : Code} {an : An} (hcf : c.f = NL r) (hrd : fa.rd = true) (hrg : K.rg r = some ⟨ps, as, body, n⟩)
 (hps : (ps.all fun p => Nat.ble (p + 1) n) = true) (hoa : codeOk n as = true) (hob : codeOk n body = true) (hra : cw as = []) (hrb : cw body = []) (hsz : Nat.ble c.ins.length 190 = true) (hev : ∀ x, Oo tb tt Φ fa c r ps as body an x = c.cx x) : Sound P K c := by
 refine ⟨fun x y bk m vals L hsem hbk hin hLn hO hB => ?_⟩
 unfold qM
 rw [if_neg (by rw [hcf]; exact Nat.not_le.2 (show 999999 < 1000000 + r from by omega))]
 rw [← hev x] at hsem
 unfold Oo at hsem
 split at hsem
 case h_2 => cases hsem
 case h_1 σ0 hst =>
 split at hsem
 case h_2 => cases hsem
 case h_1 σ1 hst1 =>
 have hkn := BO (fn := { (default : Func) with ntmps := vals.length }) vals.length rfl (Nat.le_refl _)
 obtain ⟨g0, hI0, hob0⟩ := Cs (n := vals.length) hst hbk hin hO hB (Nat.le_of_ble_eq_true hsz) hkn
 unfold start at hst
 obtain ⟨ds, hds, hst⟩ := Option.bind_eq_some_iff.1 hst
 obtain ⟨⟨args, dr1⟩, hp, hst⟩ := Option.bind_eq_some_iff.1 hst
 obtain ⟨⟨br, dr2⟩, hq, hst⟩ := Option.bind_eq_some_iff.1 hst
 simp only at hq
 obtain ⟨hA, _⟩ := hin ds args dr1 br dr2 hds hp hq
 have hst := Option.some.inj hst
 unfold IU at hst1
 split at hst1
 case h_2 => cases hst1
 case h_1 ver r' tm s0 vid0 lrest hlk htm =>
 split at hst1
 case h_2 => cases hst1
 case h_1 hchk =>
 simp only [Bool.and_eq_true] at hchk
 obtain rfl := Nat.eq_of_beq_eq_true hchk.1
 have htl := Nat.le_of_ble_eq_true hchk.2
 obtain ⟨tm', htm', hσ1⟩ := Option.map_eq_some_iff.1 hst1
 have hct : σ0.ct = 256 := by rw [← hst]
 have hfb : σ0.fb = 0 := by rw [← hst]
 have hrt : σ0.rt = List.range c.br.length := by rw [← hst]
 have htm0 : σ0.tm = nV 0 args := by rw [← hst]
 rw [htm0] at htm
 cases args with
 | nil => cases htm
 | cons av as1 =>
 simp only [nV, List.cons.injEq, Prod.mk.injEq] at htm
 obtain ⟨⟨_, _, rfl⟩, rfl⟩ := htm
 simp only [bU] at hA
 obtain ⟨v0, us, rfl, ha1, ha2⟩ := hA
 simp only [aA, au, List.cons.injEq, and_true] at ha1
 obtain ⟨gh, l, hb0, hgl, rfl⟩ := ha1
 have hb0 : bk 0 = some gh := hb0
 have hbg : ∀ i x, bk i = some x → g0.bk i = some x := fun i x hx => by
  have hi : i < c.br.length := Nat.lt_of_not_le fun h => by rw [hbk i h] at hx; cases hx
  obtain ⟨h, h1, h2⟩ := hI0.rt.2 i i (by rw [hrt, List.getElem?_range hi])
  rw [hx] at h1; cases h1; exact h2
 obtain ⟨e, L0, Rst, ho, hperm, _⟩ := kr (X := []) hI0.ob hlk
 obtain ⟨gh', l', R, rg, tmps, o1, o2, o3, rfl, o5, o6, o7⟩ := ho
 rw [hbg _ _ hb0] at o1
 cases o1
 rw [hgl] at o2
 cases o2
 rw [hrg] at o3
 cases o3
 simp only at o5 o6
 have hfr := hI0.fresh
 rw [hct] at hfr
 let g1 : GG S := { bk := g0.bk, vv := fun j => if 300 ≤ j then (tm[j - 300]?).map (fun x => tmps.getD x.1 undef) else g0.vv j, oo := g0.oo }
 have ge1 : GE g0 g1 := ⟨fun _ _ h => h, fun i x hx => by
  show (if _ then _ else _) = _
  rw [if_neg fun h => by rw [(hfr i (by omega)).2.1] at hx; cases hx]; exact hx, fun _ _ h => h⟩
 have hsl : CI K g1 m tmps (Ii 300 tm) := fun t aI v hl => by
  obtain ⟨i, old, h1, rfl, h3⟩ := zD hl
  refine ⟨?_, (o7 t old v h3).mono ge1 (Le.refl m)⟩
  show (if _ then _ else _) = _
  rw [if_pos (by omega), show 300 + i - 300 = i by omega, h1]; rfl
 have hargs : A3 K g1 m (nV 1 as1) us := Bn ((bU.mono (g' := g0) ⟨fun i x hx => hbg i x hx, fun i x hx => (by cases hx), fun i x hx => (by cases hx)⟩ (Le.refl m) ha2).mono ge1 (Le.refl m)) fun k u hk => by
  obtain ⟨v, hv⟩ : ∃ v, as1[k]? = some v := ⟨_, List.getElem?_eq_getElem (by rw [← rV ha2]; exact (List.getElem?_eq_some_iff.1 hk).1)⟩
  have h1 := hI0.at_ (k + 1) (64 + (0 + (k + 1))) v (by rw [hfb, htm0]; exact yP (i := 0) (k := k + 1) (by simpa using hv))
  rw [hkn.at_ (k + 1) u (wH (Nat.zero_le _) (by simpa using hk))] at h1
  refine ge1.vv _ _ ?_
  rw [← h1]; congr 1; omega
 obtain ⟨hul, hsz1, hsl1⟩ := Cb htm' hargs (fun p hp => Nat.le_of_ble_eq_true (List.all_eq_true.1 hps p hp)) o6 hsl
 let a1 : Act := { tmps := (ps.zip us).foldl (fun t (p, v) => t.setIfInBounds p v) tmps, defers := [] }
 have hI1 : Inv K n ⟨[], []⟩ (ak L) m bk σ1 g1 a1 m L := by
  rw [← hσ1]
  refine ⟨hsz1, rfl, fun t aI v h => ?_, fun s aI v h => ⟨_, hsl1 s aI v h⟩, hI0.ob.mono ge1 (Le.refl m), hI0.st, fun i hi => ⟨(hfr i (by simp only at hi; omega)).1, ?_, (hfr i (by simp only at hi; omega)).2.2⟩, hI0.rt⟩
  · simp only [hfb, Nat.zero_add] at h
    exact (hsl1 t aI v h).1
  · simp only at hi
    show (if _ then _ else _) = _
    rw [if_pos (by omega), List.getElem?_eq_none (by omega)]; rfl
 have hlp := (hI0.st.perm (hperm.append_right _)).BZ 0 rfl
 have o5' := o5
 obtain ⟨fnn, D, rfl⟩ := o5'
 refine ⟨l, us, fnn, (ps.zip us).foldl (fun t (p, v) => t.setIfInBounds p v) tmps, as, body, rfl, ?_, roundIn_of_wpIn (F := FW none) trivial ?_⟩
 · have := run_yield (P := P) (args := us.toArray) hlp (by simpa using hul)
   rw [this]
   congr 2
   simp only
   rw [← Array.foldl_toList, Array.toList_zip]
 · have nk2 : NK fun (γ : Type) (e2 : gH S c.outs → γ) ex σ4 => (xt .busy (JX ex) σ4).bind fun σ5 => (yG fa.pre σ5).bind fun σ6 => (lM tb c.br.length (.one (.tt (Qr ex))) σ0 σ6 c.outs).bind fun y => some (e2 y) :=
    fun δ δ' ψ hψ e ex σ' => cb fun σ5 => cb fun σ6 => cb fun z => rfl
   refine kZ (rr := some l) hT hΦ hΨ (fun h => by rw [hrd] at h; cases h) (hD _ _ _ _ _) as hoa (fun r hr => by rw [hra] at hr; cases hr) an.l1 σ1 (gH S c.outs) _ (gH S c.outs) id y g1 a1 m L _ ⟨[], []⟩ rfl ?_ hsem hI1 fun ex σ2 g2 a2 m2 L2 ds2 hds2 hk hge hle hI2 => ?_
   · intro δ δ' ψ hψ e ex σ'
     cases ex with
     | normal => exact cb fun σ3 => (mi (LA hΨ) body).n3 _ _ _ _ _ _ ψ hψ e nk2
     | ret => rfl
     | exit k => rfl
   · cases ex with
     | ret => cases hk
     | exit k => cases hk
     | normal =>
     obtain ⟨σ3, h3, hk2⟩ := Option.bind_eq_some_iff.1 hk
     obtain rfl : ds2 = ⟨[], []⟩ := hds2
     obtain ⟨R2, rg2, tmps2, M0, M0', Mst, i1, i2, i3⟩ := zr hI2 hb0 hgl h3
     refine rR (Kq i1 (k := 0) (hI2.st.perm i2) rfl fun m3 hle3 hS3 => ?_)
     obtain ⟨g3, ge3, hI3⟩ := i3 m3 hle3 hS3
     refine kZ (rr := some l) hT hΦ hΨ (fun h => by rw [hrd] at h; cases h) (hD _ _ _ _ _) body hob (fun r hr => by rw [hrb] at hr; cases hr) an.r1 σ3 (gH S c.outs) _ (gH S c.outs) id y g3 a2 m3 _ _ ⟨[], []⟩ rfl nk2 hk2 hI3 fun ex σ4 g4 a4 m4 L4 ds4 hds4 hk4 hge4 hle4 hI4 => ?_
     obtain ⟨σ5, h5, hk5⟩ := Option.bind_eq_some_iff.1 hk4
     obtain ⟨σ6, h6, hk5⟩ := Option.bind_eq_some_iff.1 hk5
     obtain ⟨y', hy', hk6⟩ := Option.bind_eq_some_iff.1 hk5
     have := Option.some.inj hk6
     simp only [id] at this
     subst this
     obtain rfl : ds4 = ⟨[], []⟩ := hds4
     obtain ⟨R4, rg4, tmps4, N0, N0', Nst, q1, q2, q3⟩ := zr hI4 hb0 hgl h5
     have fin : ∀ jump b, jump = yC (JX ex) → uD (JX ex) = (if jump.isNone then .ready else .done) → jump.isNone = b → b = (Qr ex) → ∃ v w', (Instr.endRound l jump).run P m4.w = .ok v w' ∧ ∃ v' m' L', Ending.returned v = Ending.returned v' ∧ m'.w = w' ∧ St (ak L) m m' L' ∧ aL K c bk L y' v' m' L' := fun jump b e1 e2 e3 e4 => by
      obtain ⟨m5, r1, r2, r3⟩ := Kx (P := P) (k := 0) jump q1 (hI4.st.perm q2) rfl
      rw [← e2, e1] at r3
      obtain ⟨g5, ge5, hI5⟩ := q3 m5 r2 r3
      obtain ⟨g6, m6, L6', hw6, _, ge6, hI6⟩ := sT hI5 h6
      obtain ⟨L6, s1, s2⟩ := zb (u := .bool b) rfl hI6 (ge1.trans (hge.trans (ge3.trans (hge4.trans (ge5.trans ge6))))) hob0 (by simp only [aA, au]; rw [e4]) hy'
      exact ⟨_, _, r1, _, m6, L6, rfl, hw6, s1, by rw [e3]; exact s2⟩
     cases ex with
     | normal => exact fin none true rfl rfl rfl rfl
     | ret => exact fin (some .ret) false rfl rfl rfl rfl
     | exit k => exact fin (some (.exit k)) false rfl rfl rfl rfl
end E
end Go.Proofs.YtekpafdhgkocaaaGreat
