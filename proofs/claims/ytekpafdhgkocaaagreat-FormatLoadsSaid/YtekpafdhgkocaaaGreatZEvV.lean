/- Part of what the laws need: plain words, the walker and its laws, the program's functions. -/
import Derived.Test.YtekpafdhgkocaaaGreatZEvJ
namespace Go.Proofs.YtekpafdhgkocaaaGreat
open Go.RowKit G
open Go.ChangeMaps (setBlock)
namespace E
variable {S : Nat → Type} {tb : Tb S} {K : cV tb} {P : Program} {tt : TypeId → Option (TI S)} {g : GG S} {m m0 : Mem} {n : Nat} {ds : Cx} {B : List Nat} {rb : Nat → Option Gh} {σ σ2 : AS S} {a : Act} {L : List az}
theorem nr {t s : Nat} : ∀ {l : List (Nat × Nat × AV S)}, look s (Eb t l) = if s = t then none else look s l
 | [] => by unfold Eb; simp [look]
 | (u, x) :: l => by
   have ih := nr (t := t) (s := s) (l := l)
   unfold Eb at ih ⊢
   rw [List.filter_cons]
   by_cases h : u = t
   · subst h
     rw [if_neg (by simp), ih]
     by_cases h2 : s = u
     · rw [if_pos h2, if_pos h2]
     · rw [if_neg h2, if_neg h2, ax, if_neg (Ne.symm h2)]
   · rw [if_pos (by rw [jh h]; rfl), ax, ax, ih]
     by_cases h2 : s = t
     · rw [if_pos h2, if_pos h2, if_neg (by rw [h2]; exact h)]
     · rw [if_neg h2, if_neg h2]
theorem oi (hI : Inv K n ds B m0 rb σ g a m L) (t : Nat) : Inv K n ds B m0 rb (σ.bR t) g a m L := by
 have key : ∀ s aI v, look s (σ.bR t).tm = some (aI, v) → look s σ.tm = some (aI, v) := fun s aI v h => by
  unfold AS.bR at h
  simp only at h
  rw [nr] at h
  split at h
  · cases h
  · exact h
 exact ⟨hI.size, hI.defers, fun t' aI v h => hI.at_ t' aI v (key _ _ _ h), fun s aI v h => hI.tm s aI v (key _ _ _ h), hI.ob, hI.st, hI.fresh, hI.rt⟩
theorem nh (σ : AS S) (t : Nat) : look (σ.fb + t) (σ.bR t).tm = none := by
 unfold AS.bR
 simp only
 rw [nr, if_pos rfl]
theorem ng {t u : Nat} (h : look (σ.fb + u) σ.tm = none) : look (σ.fb + u) (σ.bR t).tm = none := by
 unfold AS.bR
 simp only
 rw [nr]
 split
 · rfl
 · exact h
theorem wb (hI : Inv K n ds B m0 rb σ g a m L) {t : Nat} (ht : look (σ.fb + t) σ.tm = none) (v : Value) : Inv K n ds B m0 rb σ g (a.put (some t) v) m L :=
 ⟨by simp [Act.put, hI.size], hI.defers, fun t' aI x h => by
  rw [Act.eval_put (fun d hd e => by cases hd; cases e; rw [ht] at h; cases h)]
  exact hI.at_ t' aI x h, hI.tm, hI.ob, hI.st, hI.fresh, hI.rt⟩
theorem mz : ∀ {ob : List (Nat × Nat × AO S)} {L : List az} {q ver : Nat} {ao : AO S}, dm K g m ob L → look q ob = some (ver, ao) → ∃ e ∈ L, g.oo ver = some (ao, e) ∧ lr K g m q ao e
 | [], _, _, _, _, _, h => by simp [look] at h
 | (u, x) :: ob, L, q, ver, ao, ⟨e, L', h0, h1, h2, h3⟩, h => by
   subst h0
   rw [ax] at h
   split at h
   · rename_i hu
     subst hu
     cases h
     exact ⟨e, List.mem_cons_self, h1, h2⟩
   · obtain ⟨e', j1, j2⟩ := mz h3 h
     exact ⟨e', List.mem_cons_of_mem _ j1, j2⟩
theorem oy {q o : Nat} (h : o ≠ q) : ∀ {ob : List (Nat × Nat × AO S)}, look o (cv [q] ob) = look o ob
 | [] => rfl
 | (u, x) :: ob => by
   unfold cv
   by_cases hu : u = q
   · subst hu
     rw [show has u [u] = true from gE.2 List.mem_cons_self]
     simp only
     rw [oy h, ax, if_neg (Ne.symm h)]
   · rw [show has u [q] = false from by
      cases hb : has u [q] with
      | false => rfl
      | true => exact absurd (List.mem_singleton.1 (gE.1 hb)) hu]
     simp only
     rw [ax, ax, oy h]
theorem sH {b : Nat} {o : Obj} (hI : Inv K n ds B m0 rb σ g a m L) (h : az.obj b o ∈ L) : m.w.heap[b]? = some o := hI.st.ow.ok (.obj b o) (List.mem_append_left _ h)
structure LU (K : cV tb) (σ : AS S) (g : GG S) (a : Act) (m : Mem) (q it ver o ver2 : Nat) (t : TypeId) (kc vc : Co) (st : Option (Option (T S kc))) (l : List (T S kc × T S vc)) (gq : Gh) (r : Nat) (seen : Array Nat) (es : Array MapEntry) : Prop where
 lq : look q σ.ob = some (ver, .xu kc o st)
 lo : look o σ.ob = some (ver2, .jf t kc vc l none q)
 bk : g.bk q = some gq
 gr : gq.g = some r
 ev : a.eval (.tmp it) = .pointer (some ⟨r, 0, none⟩)
 hr : m.w.heap[r]? = some (.mapIter (some gq.cap) gq.n seen gq.n)
 hb : m.w.heap[gq.cap]? = some (.map es gq.n)
 Ri : Oz K m kc gq.sk seen st
 mp : gQ (cd K kc m) (fun y v => RK K vc m y [v]) es gq.n l
 sk : es.toList.map (fun e => (e.key, e.born)) = gq.sk
theorem JY {q it : Nat} (hI : Inv K n ds B m0 rb σ g a m L) (h : Dn q it σ = true) : ∃ ver o ver2 t kc vc st l gq r seen es, LU K σ g a m q it ver o ver2 t kc vc st l gq r seen es := by
 unfold Dn at h
 split at h
 · rename_i aI q' ver kc o st hit hq
   split at h
   · rename_i ver2 t kc' vc l q2 ho
     simp only [Bool.and_eq_true] at h
     obtain ⟨e1, e2, e3⟩ := h
     obtain rfl := Nat.eq_of_beq_eq_true e1
     obtain rfl := Nat.eq_of_beq_eq_true e2
     split at e3
     · rename_i hk _
       subst hk
       obtain ⟨h1, h2⟩ := hI.slot hit
       simp only [aA, au] at h2
       obtain ⟨gq, r, k1, k2, k3⟩ := h2
       obtain ⟨e, he, _, gh, go, r', seen, j1, j2, j3, j4, rfl, j6⟩ := mz hI.ob hq
       rw [k1] at j1; cases j1
       rw [k2] at j2; cases j2
       obtain ⟨e2, he2, _, gm, b, es, gq', m1, m2, m3, m4, rfl, m5, m6, m7⟩ := mz hI.ob ho
       rw [k1] at m3; cases m3
       rw [m1] at j3; cases j3
       exact ⟨ver, o, ver2, t, _, vc, st, l, gq, r, seen, es, hq, ho, k1, k2, by simpa using k3, sH hI he, by rw [m4]; exact sH hI he2, j6, m5, m7⟩
     · cases e3
   · cases h
 · cases h
theorem J0 {q it nx c ver o ver2 r : Nat} {t : TypeId} {kc vc kx : Co} {st : Option (Option (T S kc))} {l : List (T S kc × T S vc)} {gq : Gh} {seen : Array Nat} {es : Array MapEntry} {x : T S kx}
 (hI : Inv K n ds B m0 rb σ g a m L) (hA : LU K σ g a m q it ver o ver2 t kc vc st l gq r seen es) (h : FO q it nx c x σ = some σ2) {w1 : World} (hw1 : w1 = m.w ∨ w1 = m.w.drew) {j : Nat} {p : Value × Nat} (hsk : gq.sk[j]? = some p) (hx : cd K kx m x p.1) (v1 v2 : Value) :
 ∃ g2 m2 L2, m2.w = setBlock w1 r (.mapIter (some gq.cap) gq.n (seen.push p.2) gq.n) ∧ Le m m2 ∧ GE g g2 ∧ Inv K n ds B m0 rb σ2 g2 ((a.put (some nx) v1).put (some c) v2) m2 L2 ∧ ∃ ao, g2.oo (σ.ct + 32) = some (ao, .obj r (.mapIter (some gq.cap) gq.n (seen.push p.2) gq.n)) := by
 unfold FO at h
 rw [hA.lq] at h
 simp only at h
 split at h
 case h_2 => cases h
 case h_1 hk hat _ =>
 subst hk
 cases h
 have hI1 := oi (oi hI nx) c
 have hI2 : Inv K n ds B m0 rb ((σ.bR nx).bR c) g ((a.put (some nx) v1).put (some c) v2) m L :=
  wb (wb hI1 (ng (σ := σ.bR nx) (nh σ nx)) v1) (nh (σ.bR nx) c) v2
 obtain ⟨e, L0, Rst, ho, hperm, hob⟩ := kr (X := []) hI2.ob (show look q ((σ.bR nx).bR c).ob = some (ver, .xu kx o st) from hA.lq)
 have hmem : e ∈ L := hperm.mem_iff.2 List.mem_cons_self
 obtain ⟨gh, go, r', seen', j1, j2, j3, j4, rfl, j6⟩ := ho
 rw [hA.bk] at j1; cases j1
 rw [hA.gr] at j2; cases j2
 have hh := sH hI hmem
 rw [hA.hr] at hh
 cases hh
 have hst := hI2.st.perm (hperm.append_right ds.X)
 have hr1 : w1.heap[r]? = some (.mapIter (some gq.cap) gq.n seen gq.n) := by rcases hw1 with rfl | rfl <;> exact hA.hr
 have hw : m.w.grownBy (setBlock w1 r (.mapIter (some gq.cap) gq.n (seen.push p.2) gq.n)) (some r) := by
  rcases hw1 with rfl | rfl <;> exact ⟨rfl, rfl, rfl, by simp [setBlock], fun i _ hi => by
   have hne : r ≠ i := fun e => hi (by rw [e])
   first | (simp [setBlock, hne]; done) | (simp [setBlock, hne]; rfl)⟩
 have hsz : (setBlock w1 r (.mapIter (some gq.cap) gq.n (seen.push p.2) gq.n)).heap.size = m.w.heap.size := by rcases hw1 with rfl | rfl <;> simp [setBlock]
 have hbb : (setBlock w1 r (.mapIter (some gq.cap) gq.n (seen.push p.2) gq.n)).heap[r]? = some (.mapIter (some gq.cap) gq.n (seen.push p.2) gq.n) := by
  have hlt : r < w1.heap.size := (Array.getElem?_eq_some_iff.1 hr1).1
  simp [setBlock, hlt]
 have hst' : St B m0 m (az.obj r (.mapIter (some gq.cap) gq.n seen gq.n) :: ((L0 ++ Rst) ++ ds.X)) := hst
 have hS := hst'.jd hw hsz hbb
 have hle : Le m ⟨setBlock w1 r (.mapIter (some gq.cap) gq.n (seen.push p.2) gq.n), m.ok⟩ := ((St.refl hst'.ow).jd hw hsz hbb).le
 have hS2 : St B m0 ⟨setBlock w1 r (.mapIter (some gq.cap) gq.n (seen.push p.2) gq.n), m.ok⟩ ((az.obj r (.mapIter (some gq.cap) gq.n (seen.push p.2) gq.n) :: L0) ++ ds.X) := by
  have h5 : List.Perm (az.obj r (.mapIter (some gq.cap) gq.n (seen.push p.2) gq.n) :: ((L0 ++ Rst) ++ ds.X)) (((az.obj r (.mapIter (some gq.cap) gq.n (seen.push p.2) gq.n) :: L0) ++ ds.X) ++ Rst) := by
   simp only [List.cons_append, List.append_assoc]
   exact List.Perm.cons _ (List.Perm.append_left L0 List.perm_append_comm)
  exact (hS.perm h5).ux
 have hI3 : Inv K n ds B m0 rb { (σ.bR nx).bR c with ob := cv [q] ((σ.bR nx).bR c).ob } g ((a.put (some nx) v1).put (some c) v2) ⟨setBlock w1 r (.mapIter (some gq.cap) gq.n (seen.push p.2) gq.n), m.ok⟩ L0 :=
  ⟨hI2.size, hI2.defers, hI2.at_, fun s aI v h => (let ⟨u, k1, k2⟩ := hI2.tm s aI v h; ⟨u, k1, k2.mono (GE.refl g) hle⟩), hob.mono (GE.refl g) hle, by
   have h5 : List.Perm ((az.obj r (.mapIter (some gq.cap) gq.n (seen.push p.2) gq.n) :: L0) ++ ds.X) ((L0 ++ ds.X) ++ [az.obj r (.mapIter (some gq.cap) gq.n (seen.push p.2) gq.n)]) := by
    rw [List.cons_append]
    exact (List.perm_append_singleton _ _).symm
   exact (hS2.perm h5).ux, hI2.fresh, hI2.rt⟩
 have hobj : lr K g ⟨setBlock w1 r (.mapIter (some gq.cap) gq.n (seen.push p.2) gq.n), m.ok⟩ q (.xu kx o (some (some (vl rfl x)))) (.obj r (.mapIter (some gq.cap) gq.n (seen.push p.2) gq.n)) :=
  ⟨gq, go, r, seen.push p.2, hA.bk, hA.gr, j3, j4, rfl, j, p, hsk, by simp, cd.mono K hle hx⟩
 obtain ⟨g2, k1, k2⟩ := nU hI3 hobj hS2
 refine ⟨g2, _, _, rfl, hle, k1, k2, .xu kx o (some (some (vl rfl x))), ?_⟩
 obtain ⟨e, L', h0, h1, _⟩ := k2.ob
 cases h0
 exact h1
theorem HN {q it nx c ver o ver2 r : Nat} {t : TypeId} {kc vc : Co} {st : Option (Option (T S kc))} {l : List (T S kc × T S vc)} {gq : Gh} {seen : Array Nat} {es : Array MapEntry}
 (hI : Inv K n ds B m0 rb σ g a m L) (hA : LU K σ g a m q it ver o ver2 t kc vc st l gq r seen es) (h : zw q it nx c σ = some σ2) (v1 v2 : Value) :
 ∃ g2 L2, GE g g2 ∧ Inv K n ds B m0 rb σ2 g2 ((a.put (some nx) v1).put (some c) v2) m L2 := by
 unfold zw at h
 rw [hA.lq] at h
 simp only at h
 rw [hA.lo] at h
 split at h
 case h_2 => cases h
 case h_1 e1 _ =>
 cases e1
 cases h
 have hI1 := oi (oi (oi hI nx) c) it
 have hI2 : Inv K n ds B m0 rb (((σ.bR nx).bR c).bR it) g ((a.put (some nx) v1).put (some c) v2) m L :=
  wb (wb hI1 (ng (σ := (σ.bR nx).bR c) (ng (σ := σ.bR nx) (nh σ nx))) v1) (ng (σ := (σ.bR nx).bR c) (nh (σ.bR nx) c)) v2
 have hoq : o ≠ q := fun e => by
  have h1 := hA.lq; have h2 := hA.lo
  rw [e, h1] at h2
  cases h2
 obtain ⟨e, L0, Rst, ho, hperm, hob⟩ := kr (X := []) hI2.ob (show look q (((σ.bR nx).bR c).bR it).ob = some (ver, .xu kc o st) from hA.lq)
 have hI3 : Inv K n ds B m0 rb { (((σ.bR nx).bR c).bR it) with ob := cv [q] (((σ.bR nx).bR c).bR it).ob } g ((a.put (some nx) v1).put (some c) v2) m L0 :=
  ⟨hI2.size, hI2.defers, hI2.at_, hI2.tm, hob, by
   have h5 : List.Perm ((e :: (L0 ++ Rst)) ++ ds.X) ((L0 ++ ds.X) ++ (e :: Rst)) := by
    show List.Perm (e :: ((L0 ++ Rst) ++ ds.X)) _
    refine (List.Perm.cons _ ?_).trans (List.perm_middle (l₁ := L0 ++ ds.X) (l₂ := Rst) (a := e)).symm
    rw [List.append_assoc, List.append_assoc]
    exact List.Perm.append_left L0 List.perm_append_comm
   exact ((hI2.st.perm (hperm.append_right _)).perm h5).ux, hI2.fresh, hI2.rt⟩
 obtain ⟨e2, L1, Rst2, ho2, hperm2, hob2⟩ := kr (X := []) hI3.ob (show look o (cv [q] (((σ.bR nx).bR c).bR it).ob) = some (ver2, .jf t kc vc l none q) from by rw [oy hoq]; exact hA.lo)
 have hp2 : List.Perm ((e2 :: (L1 ++ Rst2)) ++ ds.X) (((e2 :: L1) ++ ds.X) ++ Rst2) := by
  simp only [List.cons_append, List.append_assoc]
  exact List.Perm.cons _ (List.Perm.append_left L1 List.perm_append_comm)
 have hS2 : St B m0 m ((e2 :: L1) ++ ds.X) := ((hI3.st.perm (hperm2.append_right _)).perm hp2).ux
 have hI4 : Inv K n ds B m0 rb { (((σ.bR nx).bR c).bR it) with ob := cv [o] (cv [q] (((σ.bR nx).bR c).bR it).ob) } g ((a.put (some nx) v1).put (some c) v2) m L1 :=
  ⟨hI2.size, hI2.defers, hI2.at_, hI2.tm, hob2, by
   have h5 : List.Perm ((e2 :: L1) ++ ds.X) ((L1 ++ ds.X) ++ [e2]) := by
    rw [List.cons_append]
    exact (List.perm_append_singleton _ _).symm
   exact (hS2.perm h5).ux, hI2.fresh, hI2.rt⟩
 obtain ⟨gm, b, es', gq', m1, m2, m3, m4, rfl, m5, m6, m7⟩ := ho2
 obtain ⟨g2, k1, k2⟩ := nU hI4 (q := o) (ao := .map t kc vc l none) (e := .obj b (.map es' gq'.n)) ⟨gm, b, es', gq'.n, m1, m2, rfl, m5, trivial⟩ hS2
 exact ⟨g2, _, k1, k2⟩
theorem JZ {q it nx c : Nat} {kc : Co} {x : T S kc} (h : FO q it nx c x σ = some σ2) : Dn q it σ = true := by
 unfold FO at h
 split at h
 · split at h
   · rename_i hb; exact hb
   · cases h
 · cases h
theorem HM {q it nx c : Nat} (h : zw q it nx c σ = some σ2) : Dn q it σ = true := by
 unfold zw at h
 split at h
 · split at h
   · rename_i hb; exact hb
   · cases h
 · cases h
theorem F1 {α : Type} (l : List α) : (List.range l.length).filterMap (fun i => l[i]?) = l := by
 have key : ∀ k, k ≤ l.length → (List.range k).filterMap (fun i => l[i]?) = l.take k := fun k => by
  induction k with
  | zero => intro _; simp
  | succ k ih =>
    intro h
    rw [List.range_succ, List.filterMap_append, ih (by omega), List.take_succ_eq_append_getElem (by omega)]
    simp [show k < l.length by omega]
 rw [key _ (Nat.le_refl _), List.take_length]
end E
end Go.Proofs.YtekpafdhgkocaaaGreat
