/- Part of what the laws need: plain words, the walker and its laws, the program's functions. -/
import Derived.Test.YtekpafdhgkocaaaGreatZEvK
namespace Go.Proofs.YtekpafdhgkocaaaGreat
open Go.RowKit G
namespace E
variable {S : Nat → Type} {tb : Tb S} {K : cV tb} {P : Program} {tt : TypeId → Option (TI S)} {g : GG S} {m : Mem}
structure Cx where
 d : List Deferred
 X : List az
structure Inv (K : cV tb) (n : Nat) (ds : Cx) (B : List Nat) (m0 : Mem) (rb : Nat → Option Gh) (σ : AS S) (g : GG S) (a : Act) (m : Mem) (L : List az) : Prop where
 size : a.tmps.size = n
 defers : a.defers = ds.d
 at_ : ∀ t aI v, look (σ.fb + t) σ.tm = some (aI, v) → g.vv aI = some (a.eval (.tmp t))
 tm : ∀ s aI v, look s σ.tm = some (aI, v) → ∃ u, g.vv aI = some u ∧ aA K g m v u
 ob : dm K g m σ.ob L
 st : St B m0 m (L ++ ds.X)
 fresh : ∀ i, σ.ct ≤ i → g.bk i = none ∧ g.vv i = none ∧ g.oo i = none
 rt : K.B m0 ∧ ∀ (j q : Nat), σ.rt[j]? = some q → ∃ h, rb j = some h ∧ g.bk q = some h
theorem wW {v : Value} {c : CV S} (h : vZ v = some c) : au K g m c [v] := by
 unfold vZ at h
 split at h <;> first | (cases h; done) | skip
 · split at h
   · rename_i n hn _
     cases h
     simp only [au]
     rw [lz, hn]
   · cases h
 all_goals (cases h; simp only [au])
theorem oe : ∀ {vs : List Value} {cs : List (CV S)}, mG vs = some cs → bq K g m cs vs
 | [], cs, h => by simp only [mG, Option.some.injEq] at h; subst h; rfl
 | v :: vs, cs, h => by
   simp only [mG] at h
   obtain ⟨x, hx, h⟩ := Option.bind_eq_some_iff.1 h
   obtain ⟨r, hr, rfl⟩ := Option.map_eq_some_iff.1 h
   exact ⟨[v], vs, rfl, wW hx, oe hr⟩
theorem Ml {v w : Value} (h : Qp v w = true) : v = w := by
 unfold Qp at h
 split at h <;> first | rfl | (cases h; done) | skip
 · simp only [Bool.and_eq_true, decide_eq_true_eq] at h
   obtain ⟨rfl, rfl⟩ := h; rfl
 · simp only [beq_iff_eq] at h; subst h; rfl
 · rename_i s s'
   simp only [decide_eq_true_eq] at h
   obtain ⟨⟨l⟩⟩ := s
   obtain ⟨⟨l'⟩⟩ := s'
   simp only at h; subst h; rfl
theorem Ef : ∀ {vs ws : List Value}, Fu vs ws = true → vs = ws
 | [], [], _ => rfl
 | [], _ :: _, h => by simp [Fu] at h
 | _ :: _, [], h => by simp [Fu] at h
 | v :: vs, w :: ws, h => by
   simp only [Fu] at h
   split at h
   · rename_i hv; rw [Ml hv, Ef h]
   · cases h
theorem wV (hT : cn P K tt) {t : TypeId} {v : Value} {x : AV S} (h : z6 tt t v = some x) : aA K g m x v := by
 unfold z6 at h
 split at h
 · rename_i cs
   split at h
   · rename_i i hi
     split at h
     · rename_i he
       cases h
       simp only [aA]
       refine ⟨cs.toList, by simp, ?_⟩
       rw [← Ef he]
       exact il (hT.ty t i hi).JD
     · obtain ⟨l, hl, rfl⟩ := Option.map_eq_some_iff.1 h
       simp only [aA]
       exact ⟨cs.toList, by simp, oe hl⟩
   · obtain ⟨l, hl, rfl⟩ := Option.map_eq_some_iff.1 h
     simp only [aA]
     exact ⟨cs.toList, by simp, oe hl⟩
 · rename_i vs
   split at h
   · rename_i hv
     cases h
     simp only [AV.iE, aA, bU]
     exact ⟨[], by rw [← hv], rfl⟩
   · cases h
 · obtain ⟨l, hl, rfl⟩ := Option.map_eq_some_iff.1 h
   simp only [aA]
   exact wW hl
section
variable {n : Nat} {ds : Cx} {B : List Nat} {m0 : Mem} {rb : Nat → Option Gh} {σ : AS S} {a : Act} {L : List az}
theorem Inv.slot (hI : Inv K n ds B m0 rb σ g a m L) {t : Tmp} {aI : Nat} {v : AV S} (h : σ.get t = some (aI, v)) : g.vv aI = some (a.eval (.tmp t)) ∧ aA K g m v (a.eval (.tmp t)) := by
 have h1 := hI.at_ _ _ _ h
 obtain ⟨u, h2, h3⟩ := hI.tm _ _ _ h
 rw [h1] at h2
 cases h2
 exact ⟨h1, h3⟩
theorem xA (hT : cn P K tt) (hI : Inv K n ds B m0 rb σ g a m L) {t : TypeId} {x : Operand} {v : AV S} (h : lU tt σ t x = some v) : aA K g m v (a.eval x) := by
 cases x with
 | tmp u =>
   simp only [lU] at h
   obtain ⟨⟨aI, v'⟩, hp, rfl⟩ := Option.map_eq_some_iff.1 h
   exact (hI.slot hp).2
 | const c => exact wV hT h
 | func f =>
   simp only [lU, Option.some.injEq] at h
   subst h
   simp only [aA, au]
   exact ⟨[], [], rfl, by simp only [fD], by simp only [fD]⟩
 | global _ => simp [lU] at h
theorem AB (hT : cn P K tt) (hI : Inv K n ds B m0 rb σ g a m L) : ∀ {l : List Operand} {ts : List TypeId} {xs : List (AV S)}, mS tt σ ts l = some xs → lC K g m a l xs ∧ xs.length = l.length
 | [], ts, xs, h => by simp only [mS, Option.some.injEq] at h; subst h; exact ⟨rfl, rfl⟩
 | x :: l, [], xs, h => by
   simp only [mS] at h
   obtain ⟨v, hv, h⟩ := Option.bind_eq_some_iff.1 h
   obtain ⟨r, hr, rfl⟩ := Option.map_eq_some_iff.1 h
   obtain ⟨k1, k2⟩ := AB hT hI hr
   exact ⟨⟨v, r, rfl, xA hT hI hv, k1⟩, by simp [k2]⟩
 | x :: l, t :: ts, xs, h => by
   simp only [mS] at h
   obtain ⟨v, hv, h⟩ := Option.bind_eq_some_iff.1 h
   obtain ⟨r, hr, rfl⟩ := Option.map_eq_some_iff.1 h
   obtain ⟨k1, k2⟩ := AB hT hI hr
   exact ⟨⟨v, r, rfl, xA hT hI hv, k1⟩, by simp [k2]⟩
theorem ns {aI : Nat} {b : Bool} : ∀ {l : List (Nat × Nat × AV S)} {s : Nat}, look s (Ck aI b l) = (look s l).map fun x => if x.1 = aI then (x.1, .one (.tt b)) else x
 | [], s => rfl
 | (t, v, x) :: l, s => by
   unfold Ck
   split
   · rename_i e
     obtain rfl := Nat.eq_of_beq_eq_true e
     rw [ax, ax]
     by_cases h : t = s
     · rw [if_pos h, if_pos h]; simp
     · rw [if_neg h, if_neg h]; exact ns
   · rename_i e
     have e : v ≠ aI := Nat.ne_of_beq_eq_false e
     rw [ax, ax]
     by_cases h : t = s
     · rw [if_pos h, if_pos h]; simp [e]
     · rw [if_neg h, if_neg h]; exact ns
theorem lX (hI : Inv K n ds B m0 rb σ g a m L) {aI : Nat} {b : Bool} (h : g.vv aI = some (.bool b)) : Inv K n ds B m0 rb (σ.gg aI b) g a m L := by
 have key : ∀ s vid' v, look s (σ.gg aI b).tm = some (vid', v) → ∃ v0, look s σ.tm = some (vid', v0) ∧ (v = v0 ∨ vid' = aI ∧ v = .one (.tt b)) := fun s vid' v hs => by
  unfold AS.gg at hs
  rw [ns] at hs
  obtain ⟨⟨vid0, v0⟩, h0, h1⟩ := Option.map_eq_some_iff.1 hs
  by_cases e : vid0 = aI
  · rw [if_pos e] at h1; cases h1; exact ⟨v0, h0, .inr ⟨e, rfl⟩⟩
  · rw [if_neg e] at h1; cases h1; exact ⟨_, h0, .inl rfl⟩
 refine ⟨hI.size, hI.defers, fun t vid' v hs => ?_, fun s vid' v hs => ?_, hI.ob, hI.st, hI.fresh, hI.rt⟩
 · obtain ⟨v0, h0, _⟩ := key _ _ _ hs
   exact hI.at_ _ _ _ h0
 · obtain ⟨v0, h0, h1⟩ := key _ _ _ hs
   rcases h1 with rfl | ⟨rfl, rfl⟩
   · exact hI.tm _ _ _ h0
   · exact ⟨_, h, by simp only [aA, au]⟩
theorem Hw (hI : Inv K n ds B m0 rb σ g a m L) (t : Tmp) : Kn n a [(t, a.eval (.tmp t))] ds.d := ⟨hI.size, hI.defers, Ke.cons rfl (Ke.nil a)⟩
theorem FE {γ : Type} {ops : Array Oper} {o : Oper} {go : Bool → AS S → Option γ} {z : γ} (hI : Inv K n ds B m0 rb σ g a m L) (h : ot ops o.guard σ go = some z) :
 ∃ run σ', go run σ' = some z ∧ Inv K n ds B m0 rb σ' g a m L ∧ Region.wanted o (yielded ops a.tmps) = run := by
 cases hg : o.guard with
 | none => rw [hg] at h; exact ⟨true, σ, h, hI, by simp [Region.wanted, hg]⟩
 | some jb =>
   obtain ⟨j, b⟩ := jb
   rw [hg] at h
   simp only [ot] at h
   split at h
   · rename_i aI v hv
     obtain ⟨t, ht, hv⟩ := Option.bind_eq_some_iff.1 hv
     obtain ⟨h1, h2⟩ := hI.slot hv
     simp only [aA] at h2
     have yes : ∀ c, a.eval (.tmp t) = .bool c → (c == b) = true → Region.wanted o (yielded ops a.tmps) = true := fun c hc hcb =>
      vd (Hw hI t) (by simp only [ou, hg, ht, lk, beq_self_eq_true, Nat.beq_refl, hc]; exact hcb)
     have no : ∀ c, a.eval (.tmp t) = .bool c → (c != b) = true → Region.wanted o (yielded ops a.tmps) = false := fun c hc hcb =>
      jX (Hw hI t) (by simp only [nk, hg, ht, lk, Nat.beq_refl, hc]; exact hcb)
     split at h
     · rename_i c _
       simp only [au, List.cons.injEq, and_true] at h2
       refine ⟨_, σ, h, hI, ?_⟩
       cases hcb : c == b with
       | true => exact yes c h2 hcb
       | false => exact no c h2 (by simp [bne, hcb])
     · rename_i c p d hcp _
       simp only [au, List.cons.injEq, and_true] at h2
       split at h
       · rename_i hp
         have hc := hcp.2 hp
         subst hc
         refine ⟨_, _, h, lX hI (by rw [h1, h2]), ?_⟩
         cases b with
         | true => exact yes _ h2 rfl
         | false => exact no _ h2 rfl
       · rename_i hp
         have hc : c = false := by cases hc : c with | false => rfl | true => exact absurd (hcp.1 hc) hp
         subst hc
         refine ⟨_, _, h, lX hI (by rw [h1, h2]), ?_⟩
         cases b with
         | true => exact no _ h2 rfl
         | false => exact yes _ h2 rfl
     · cases h
   · rename_i aI hv
     obtain ⟨t, ht, hv⟩ := Option.bind_eq_some_iff.1 hv
     obtain ⟨h1, h2⟩ := hI.slot hv
     simp only [aA, bU] at h2
     obtain ⟨l, h2, rfl⟩ := h2
     refine ⟨_, σ, h, hI, jX (Hw hI t) ?_⟩
     simp only [nk, hg, ht, lk, Nat.beq_refl, h2]
   · cases h
theorem fy {α : Type} : ∀ {l : List (Nat × α)} {s t : Nat}, t ≠ s → look t (mL s l) = look t l
 | [], s, t, _ => rfl
 | (u, x) :: l, s, t, h => by
   unfold mL
   split
   · rename_i e
     obtain rfl := Nat.eq_of_beq_eq_true e
     rw [ax, if_neg (Ne.symm h)]
   · rw [ax, ax, fy h]
theorem Ih (hI : Inv K n ds B m0 rb σ g a m L) {ob' : List (Nat × Nat × AO S)} {L' : List az} {g' : GG S} {m' : Mem} {d : Option Tmp} {mv : Option Nat} {v : AV S} {u : Value} (hd : ∀ t, d = some t → t < n) (hge : GE g g') (hle : Le m m')
 (hob : dm K g' m' ob' L') (hst : St B m0 m' (L' ++ ds.X)) (hv : aA K g' m' v u) (hvid : g'.vv (mv.getD σ.ct) = some u) (hf : ∀ i, σ.ct + 64 ≤ i → g'.bk i = none ∧ g'.vv i = none ∧ g'.oo i = none) :
 Inv K n ds B m0 rb { σ.put d mv v with ob := ob', ct := σ.ct + 64 } g' (a.put d u) m' L' := by
 have old : ∀ s aI x, look s σ.tm = some (aI, x) → ∃ y, g'.vv aI = some y ∧ aA K g' m' x y := fun s aI x hs => by
  obtain ⟨y, h1, h2⟩ := hI.tm _ _ _ hs
  exact ⟨y, hge.vv _ _ h1, h2.mono hge hle⟩
 have hrt : K.B m0 ∧ ∀ (j q : Nat), σ.rt[j]? = some q → ∃ h, rb j = some h ∧ g'.bk q = some h := ⟨hI.rt.1, fun j q hj => by
  obtain ⟨h, h1, h2⟩ := hI.rt.2 j q hj
  exact ⟨h, h1, hge.bk _ _ h2⟩⟩
 cases d with
 | none => exact ⟨hI.size, hI.defers, fun t aI x hs => hge.vv _ _ (hI.at_ t aI x hs), old, hob, hst, hf, hrt⟩
 | some d =>
   have hdn := hd d rfl
   refine ⟨by simp [Act.put, hI.size], hI.defers, fun t aI x hs => ?_, fun s aI x hs => ?_, hob, hst, hf, hrt⟩
   · have hs' : look (σ.fb + t) ((σ.fb + d, mv.getD σ.ct, v) :: mL (σ.fb + d) σ.tm) = some (aI, x) := hs
     rw [ax] at hs'
     by_cases e : σ.fb + d = σ.fb + t
     · rw [if_pos e] at hs'
       cases hs'
       have e : d = t := Nat.add_left_cancel e
       subst e
       rw [D.fK (by rw [hI.size]; exact hdn)]
       exact hvid
     · rw [if_neg e, fy (Ne.symm e)] at hs'
       rw [Act.eval_put (fun d' hd' e' => by cases hd'; cases e'; exact e rfl)]
       exact hge.vv _ _ (hI.at_ _ _ _ hs')
   · have hs' : look s ((σ.fb + d, mv.getD σ.ct, v) :: mL (σ.fb + d) σ.tm) = some (aI, x) := hs
     rw [ax] at hs'
     by_cases e : σ.fb + d = s
     · rw [if_pos e] at hs'
       cases hs'
       exact ⟨u, hvid, hv⟩
     · rw [if_neg e, fy (Ne.symm e)] at hs'
       exact old _ _ _ hs'
end
abbrev ZL (S : Nat → Type) := List ((Nat × Nat × AO S) × az)
def zR (K : cV tb) (g : GG S) (m : Mem) (p : (Nat × Nat × AO S) × az) : Prop := g.oo p.1.2.1 = some (p.1.2.2, p.2) ∧ lr K g m p.1.1 p.1.2.2 p.2
theorem lT : ∀ {ob : List (Nat × Nat × AO S)} {L : List az}, dm K g m ob L → ∃ z : ZL S, z.map Prod.fst = ob ∧ z.map Prod.snd = L ∧ ∀ p ∈ z, zR K g m p
 | [], L, h => ⟨[], rfl, h.symm, fun p hp => by cases hp⟩
 | x :: ob, L, h => by
   obtain ⟨e, L', rfl, h1, h2, h3⟩ := h
   obtain ⟨z, rfl, rfl, k⟩ := lT h3
   exact ⟨(x, e) :: z, rfl, rfl, fun p hp => by
    rcases List.mem_cons.1 hp with rfl | hp
    · exact ⟨h1, h2⟩
    · exact k p hp⟩
theorem kH : ∀ {z : ZL S}, (∀ p ∈ z, zR K g m p) → dm K g m (z.map Prod.fst) (z.map Prod.snd)
 | [], _ => rfl
 | p :: z, h => ⟨p.2, _, rfl, (h p List.mem_cons_self).1, (h p List.mem_cons_self).2, kH fun q hq => h q (List.mem_cons_of_mem _ hq)⟩
def lS (z : ZL S) (q : Nat) : Option ((Nat × Nat × AO S) × az) := z.find? fun p => Nat.beq p.1.1 q
def cQ (z : ZL S) (l : List Nat) : ZL S := l.filterMap (lS z)
theorem kP {q : Nat} : ∀ {z : ZL S}, look q (z.map Prod.fst) = (lS z q).map (·.1.2)
 | [] => rfl
 | ((u, x), e) :: z => by
   simp only [List.map_cons, ax, lS, List.find?_cons]
   by_cases h : u = q
   · subst h; simp
   · rw [if_neg h, jh h]; exact kP
theorem eI {q : Nat} {z : ZL S} {p : (Nat × Nat × AO S) × az} (h : lS z q = some p) : p ∈ z ∧ p.1.1 = q :=
 ⟨List.mem_of_find?_eq_some h, Nat.eq_of_beq_eq_true (by have := List.find?_some (p := fun p : (Nat × Nat × AO S) × az => Nat.beq p.1.1 q) h; exact this)⟩
theorem ju {z : ZL S} : ∀ {l : List Nat}, (cQ z l).map Prod.fst = pick (z.map Prod.fst) l
 | [] => rfl
 | q :: l => by
   simp only [cQ, List.filterMap_cons, pick, kP]
   cases h : lS z q with
   | none => exact ju
   | some p =>
     obtain ⟨_, rfl⟩ := eI h
     simp only [List.map_cons, Option.map_some]
     rw [← ju]; rfl
theorem sN {f : Nat → Bool} {q : Nat} (hq : f q = true) : ∀ {z : ZL S}, lS (z.filter fun p => f p.1.1) q = lS z q
 | [] => rfl
 | p :: z => by
   by_cases h : p.1.1 = q
   · rw [List.filter_cons_of_pos (by rw [h]; exact hq)]
     simp [lS, h]
   · have hb : Nat.beq p.1.1 q = false := jh h
     have ih := sN hq (z := z)
     cases hf : f p.1.1 with
     | true => rw [List.filter_cons_of_pos (p := fun p : (Nat × Nat × AO S) × az => f p.1.1) hf]; simp only [lS, List.find?_cons, hb]; exact ih
     | false => rw [List.filter_cons_of_neg (p := fun p : (Nat × Nat × AO S) × az => f p.1.1) (by simp [hf])]; simp only [lS, List.find?_cons, hb] at ih ⊢; exact ih
theorem kD {f : Nat → Bool} {z : ZL S} : ∀ {l : List Nat}, (∀ q ∈ l, f q = true) → cQ (z.filter fun p => f p.1.1) l = cQ z l
 | [], _ => rfl
 | q :: l, h => by
   have ih := kD (z := z) fun q hq => h q (List.mem_cons_of_mem _ hq)
   simp only [cQ, List.filterMap_cons, sN (h q List.mem_cons_self)] at ih ⊢
   rw [ih]
theorem jv : ∀ {l : List Nat} {z : ZL S}, l.Nodup → ∃ Y, List.Perm z (cQ z l ++ Y)
 | [], z, _ => ⟨z, List.Perm.refl _⟩
 | q :: l, z, h => by
   obtain ⟨hq, hl⟩ := List.nodup_cons.1 h
   have hf : ∀ r ∈ l, (!Nat.beq r q) = true := fun r hr => by
    rw [jh fun e => hq (by rw [← e]; exact hr)]; rfl
   obtain ⟨Y, hY⟩ := jv (z := z.filter fun p => !Nat.beq p.1.1 q) hl
   rw [kD hf] at hY
   have hz : List.Perm z (z.filter (fun p => Nat.beq p.1.1 q) ++ z.filter fun p => !Nat.beq p.1.1 q) := (List.filter_append_perm _ _).symm
   simp only [cQ, List.filterMap_cons] at hY ⊢
   cases hk : lS z q with
   | none => exact ⟨z.filter (fun p => Nat.beq p.1.1 q) ++ Y, hz.trans ((List.Perm.append_left _ hY).trans (by
    rw [← List.append_assoc, ← List.append_assoc]
    exact List.Perm.append_right _ List.perm_append_comm))⟩
   | some p =>
     obtain ⟨h1, h2⟩ := eI hk
     have hm : p ∈ z.filter fun p => Nat.beq p.1.1 q := List.mem_filter.2 ⟨h1, by rw [h2]; exact Nat.beq_refl q⟩
     obtain ⟨A, B, hAB⟩ := List.append_of_mem hm
     rw [hAB] at hz
     refine ⟨A ++ B ++ Y, hz.trans (((List.perm_middle (l₁ := A) (l₂ := B) (a := p)).append hY).trans ?_)⟩
     simp only [List.cons_append]
     refine List.Perm.cons p ?_
     rw [← List.append_assoc, ← List.append_assoc]
     exact List.Perm.append_right _ List.perm_append_comm
theorem oh {rm : List Nat} : ∀ {ob : List (Nat × Nat × AO S)}, cv rm ob = ob.filter fun x => !has x.1 rm
 | [] => rfl
 | (q, x) :: l => by
   unfold cv
   split
   · rename_i h; rw [List.filter_cons_of_neg (by simp [h])]; exact oh
   · rename_i h; rw [List.filter_cons_of_pos (by simp [h]), oh]
theorem sQ {ob : List (Nat × Nat × AO S)} {L : List az} {rd rm : List Nat} (h : dm K g m ob L) (hn : (rd ++ rm).Nodup) : ∃ Lr Lm Lz R Y, dm K g m (pick ob rd) Lr ∧ dm K g m (pick ob rm) Lm ∧ dm K g m (cv rm ob) Lz ∧ List.Perm L ((Lr ++ Lm) ++ R) ∧ List.Perm (Lr ++ R) (Lz ++ Y) := by
 obtain ⟨z, rfl, rfl, hz⟩ := lT h
 obtain ⟨n1, n2, n3⟩ := List.nodup_append.1 hn
 have hp : List.Perm z (z.filter (fun p => has p.1.1 rm) ++ z.filter fun p => !has p.1.1 rm) := (List.filter_append_perm _ _).symm
 obtain ⟨Y1, hY1⟩ := jv (z := z.filter fun p => has p.1.1 rm) n2
 obtain ⟨Y2, hY2⟩ := jv (z := z.filter fun p => !has p.1.1 rm) n1
 rw [kD (f := fun q => has q rm) fun q hq => gE.2 hq] at hY1
 rw [kD (f := fun q => !has q rm) fun q hq => by
  cases hh : has q rm with
  | false => rfl
  | true => exact absurd rfl (n3 q hq q (gE.1 hh))] at hY2
 have mem : ∀ l, ∀ p ∈ cQ z l, zR K g m p := fun l p hp => by
  obtain ⟨q, _, hq⟩ := List.mem_filterMap.1 hp
  exact hz p (eI hq).1
 refine ⟨(cQ z rd).map Prod.snd, (cQ z rm).map Prod.snd, (z.filter fun p => !has p.1.1 rm).map Prod.snd, (Y1 ++ Y2).map Prod.snd, Y1.map Prod.snd, ?_, ?_, ?_, ?_, ?_⟩
 · rw [← ju]; exact kH (mem rd)
 · rw [← ju]; exact kH (mem rm)
 · have : cv rm (z.map Prod.fst) = (z.filter fun p => !has p.1.1 rm).map Prod.fst := by
    rw [oh, List.filter_map]; rfl
   rw [this]
   exact kH fun p hp => hz p (List.mem_filter.1 hp).1
 · rw [← List.map_append, ← List.map_append]
   refine List.Perm.map _ (hp.trans ((hY1.append hY2).trans ?_))
   have e1 : List.Perm (cQ z rm ++ Y1 ++ (cQ z rd ++ Y2)) (cQ z rm ++ cQ z rd ++ (Y1 ++ Y2)) := by
    rw [List.append_assoc, List.append_assoc]
    refine List.Perm.append_left _ ?_
    rw [← List.append_assoc, ← List.append_assoc]
    exact List.Perm.append_right _ List.perm_append_comm
   exact e1.trans (List.Perm.append_right _ List.perm_append_comm)
 · rw [← List.map_append, ← List.map_append]
   refine List.Perm.map _ ?_
   refine List.Perm.trans ?_ (List.Perm.append_right Y1 hY2.symm)
   rw [List.append_assoc]
   exact List.Perm.append_left _ List.perm_append_comm
theorem mZ : ∀ {ob ob' : List (Nat × Nat × AO S)} {L L' : List az}, dm K g m ob L → dm K g m ob' L' → dm K g m (ob ++ ob') (L ++ L')
 | [], ob', L, L', h, h' => by simp only [dm] at h; subst h; exact h'
 | x :: ob, ob', L, L', h, h' => by
   obtain ⟨e, L1, rfl, h1, h2, h3⟩ := h
   exact ⟨e, L1 ++ L', rfl, h1, h2, mZ h3 h'⟩
theorem zT : ∀ {l : List (Nat × AO S)} {La : List az} {v : Nat}, wu K g m l La → (∀ i a e, l[i]? = some a → La[i]? = some e → g.oo (v + i) = some (a.2, e)) → dm K g m (nT v l) La
 | [], La, v, h, _ => h
 | (q, a) :: l, La, v, h, ho => by
   obtain ⟨e, L', rfl, h1, h2⟩ := h
   exact ⟨e, L', rfl, ho 0 (q, a) e rfl rfl, h1, zT h2 fun i b f hb hf => by
    have := ho (i + 1) b f (by simpa using hb) (by simpa using hf)
    rw [← this]; congr 1; omega⟩
theorem wv : ∀ {l : List (Nat × AO S)} {La : List az}, wu K g m l La → La.length = l.length
 | [], La, h => by simp only [wu] at h; subst h; rfl
 | _ :: l, La, h => by
   obtain ⟨e, L', rfl, h1, h2⟩ := h
   simp [wv h2]
section
variable {n : Nat} {ds : Cx} {B : List Nat} {m0 : Mem} {rb : Nat → Option Gh} {σ : AS S} {a : Act} {L : List az}
def GG.vU (g : GG S) (g' : GG S) (ct : Nat) (mv : Option Nat) (v : Value) (add : List (Nat × AO S)) (La : List az) : GG S :=
 { bk := g'.bk, vv := fun i => if i = ct ∧ mv = none then some v else g.vv i,
   oo := fun i => if ct + 32 ≤ i then (match add[i - (ct + 32)]?, La[i - (ct + 32)]? with | some a, some e => some (a.2, e) | _, _ => g.oo i) else g.oo i }
theorem IQ {L Lr Lm La Lz R Y X : List az} {m m' : Mem} (h : St B m0 m (L ++ X)) (p1 : List.Perm L ((Lr ++ Lm) ++ R)) (p2 : List.Perm (Lr ++ R) (Lz ++ Y)) (hS : St (ak (Lr ++ Lm)) m m' (Lr ++ La)) : St B m0 m' ((La ++ Lz) ++ X) := by
 have h0 : St B m0 m ((Lr ++ Lm) ++ (R ++ X)) := h.perm ((List.Perm.append_right X p1).trans (by rw [List.append_assoc]))
 have h1 : St B m0 m' ((Lr ++ La) ++ (R ++ X)) := St.frame h0 hS
 have h2 : List.Perm ((Lr ++ La) ++ (R ++ X)) (((La ++ Lz) ++ X) ++ Y) := by
  have e1 : List.Perm ((Lr ++ La) ++ (R ++ X)) (La ++ ((Lr ++ R) ++ X)) := by
   refine (List.Perm.append_right _ List.perm_append_comm).trans ?_
   rw [List.append_assoc, List.append_assoc]
  refine e1.trans ?_
  refine (List.Perm.append_left La (List.Perm.append_right X p2)).trans ?_
  rw [List.append_assoc, List.append_assoc, List.append_assoc]
  exact List.Perm.append_left _ (List.Perm.append_left _ List.perm_append_comm)
 exact (h1.perm h2).ux
theorem AX (hI : Inv K n ds B m0 rb σ g a m L) {d : Option Tmp} {mv : Option Nat} {r : iH S} {v : Value} {w' : World} {Lr Lm Lz R Y : List az} (hd : ∀ t, d = some t → t < n) (A1 : r.add.length ≤ 31)
 (hz : dm K g m (cv r.rm σ.ob) Lz) (p1 : List.Perm L ((Lr ++ Lm) ++ R)) (p2 : List.Perm (Lr ++ R) (Lz ++ Y)) (hD : ve K g m σ.ct Lr Lm r v w') (hmv : ∀ aI, mv = some aI → g.vv aI = some v) :
 ∃ g' m' L', m'.w = w' ∧ GE g g' ∧ Le m m' ∧ Inv K n ds B m0 rb (σ.vU d mv r) g' (a.put d v) m' L' := by
 obtain ⟨m', g', La, rfl, hS, hge, hvv, hoo, hbk, hA, hv⟩ := hD
 have hle := hS.le
 have hfr := hI.fresh
 have hlA := wv hA
 have ge1 : GE g' (g.vU g' σ.ct mv v r.add La) := ⟨fun _ _ h => h, fun i x hx => by
  rw [hvv] at hx
  show (if _ then _ else _) = _
  rw [if_neg fun ⟨e, _⟩ => by subst e; rw [(hfr _ (Nat.le_refl _)).2.1] at hx; cases hx]
  exact hx, fun i x hx => by
  rw [hoo] at hx
  have : i < σ.ct := Nat.lt_of_not_le fun h => by rw [(hfr i h).2.2] at hx; cases hx
  show (if _ then _ else _) = _
  rw [if_neg (by omega)]
  exact hx⟩
 have ge2 : GE g (g.vU g' σ.ct mv v r.add La) := hge.trans ge1
 refine ⟨g.vU g' σ.ct mv v r.add La, m', La ++ Lz, rfl, ge2, hle, ?_⟩
 refine Ih hI (ob' := nT (σ.ct + 32) r.add ++ cv r.rm σ.ob) hd ge2 hle (mZ (zT (hA.mono ge1 (Le.refl _)) fun i x e hx he => ?_) (hz.mono ge2 hle)) ?_ (hv.mono ge1 (Le.refl _)) ?_ fun i hi => ⟨?_, ?_, ?_⟩
 · show (if _ then _ else _) = _
   rw [if_pos (by omega), show σ.ct + 32 + i - (σ.ct + 32) = i by omega, hx, he]
 · exact IQ hI.st p1 p2 hS
 · cases mv with
   | none => show (if _ then _ else _) = _; rw [if_pos ⟨rfl, rfl⟩]
   | some aI => exact ge2.vv _ _ (hmv aI rfl)
 · show g'.bk i = none
   refine Classical.byContradiction fun hn => ?_
   have h1 := (hfr i (by omega)).1
   have := hbk i (by rw [h1]; exact hn)
   omega
 · show (if _ then _ else _) = _
   rw [if_neg (by omega)]; exact (hfr i (by omega)).2.1
 · show (if _ then _ else _) = _
   rw [if_pos (by omega), List.getElem?_eq_none (by omega)]
   exact (hfr i (by omega)).2.2
theorem KI (hI : Inv K n ds B m0 rb σ g a m L) {d : Option Tmp} (hd : ∀ t, d = some t → t < n) :
 ∃ g', GE g g' ∧ Inv K n ds B m0 rb { σ.put d none (AV.iE S) with ct := σ.ct + 64 } g' (a.put d undef) m L := by
 have ge2 : GE g { g with vv := fun i => if i = σ.ct then some undef else g.vv i } := ⟨fun _ _ h => h, fun i x hx => by
  show (if _ then _ else _) = _
  rw [if_neg fun e => by subst e; rw [(hI.fresh _ (by omega)).2.1] at hx; cases hx]
  exact hx, fun _ _ h => h⟩
 have hob : (σ.put d none (AV.iE S)).ob = σ.ob := by cases d <;> rfl
 refine ⟨_, ge2, ?_⟩
 have := Ih hI (ob' := σ.ob) (mv := none) (v := AV.iE S) (u := undef) hd ge2 (Le.refl m) (hI.ob.mono ge2 (Le.refl m)) hI.st (by simp only [AV.iE, aA, bU]; exact ⟨[], rfl, rfl⟩) (if_pos rfl) fun i hi => ⟨(hI.fresh i (by omega)).1, by show (if _ then _ else _) = _; rw [if_neg (by omega)]; exact (hI.fresh i (by omega)).2.1, (hI.fresh i (by omega)).2.2⟩
 rw [← hob] at this
 exact this
theorem ab.exact {o : Oper} {w : World} {aL : Value → World → Prop} {u : Value} (h : ab P o a w aL) (hr : (execOp a.eval o).run P w = .ok (.value u) w) : aL u w := by
 unfold ab at h
 rw [hr] at h
 exact h
theorem HH {o : Oper} {aI : Nat} {w : World} (hI : Inv K n ds B m0 rb σ g a m L) (hm : ka σ o.op = some aI) : ∃ u, (execOp a.eval o).run P w = .ok (.value u) w ∧ g.vv aI = some u := by
 unfold ka at hm
 split at hm
 · rename_i t ho
   obtain ⟨⟨vid', v⟩, hs, rfl⟩ := Option.map_eq_some_iff.1 hm
   exact ⟨a.eval (.tmp t), by simp [execOp, ho], (hI.slot hs).1⟩
 · rename_i t ho
   obtain ⟨⟨vid', v⟩, hs, rfl⟩ := Option.map_eq_some_iff.1 hm
   exact ⟨a.eval (.tmp t), by simp [execOp, ho], (hI.slot hs).1⟩
 · cases hm
theorem KO (hI : Inv K n ds B m0 rb σ g a m L) {o : Oper} {xs : List (AV S)} {r : iH S} (hd : ∀ t, o.dst = some t → t < n) (hx : lC K g m a o.op.operands.toList xs) (hn : eJ (r.rd ++ r.rm) = true) (hO : pR P K o xs σ.ob σ.ct r) :
 ab P o a m.w fun v w' => ∃ g' m' L', m'.w = w' ∧ GE g g' ∧ Le m m' ∧ Inv K n ds B m0 rb (σ.vU o.dst (ka σ o.op) r) g' (a.put o.dst v) m' L' := by
 obtain ⟨Lr, Lm, Lz, R, Y, h1, h2, h3, p1, p2⟩ := sQ hI.ob (fJ hn)
 have hOw : Ow m (Lr ++ Lm) := (hI.st.ow.left.perm p1).left
 have key := hO.did g a m Lr Lm (fun i hi _ => hI.fresh i hi) (K.Bm hI.rt.1 hI.st.le) hx h1 h2 hOw
 cases hm : ka σ o.op with
 | none => exact key.mono fun v w' hD => AX hI hd hO.A1 h3 p1 p2 hD (fun _ h => by cases h)
 | some aI =>
   obtain ⟨u, hr, hu⟩ := HH (P := P) (w := m.w) hI hm
   have hD := E.ab.exact key hr
   unfold ab
   rw [hr]
   exact AX hI hd hO.A1 h3 p1 p2 hD (fun _ h => by cases h; exact hu)
def BA (n : Nat) (o : Oper) : Bool := match o.dst with | some d => Nat.ble (d + 1) n | none => true
theorem sA {o : Oper} (h : BA n o = true) : ∀ t, o.dst = some t → t < n := fun t ht => by
 unfold BA at h
 rw [ht] at h
 exact Nat.le_of_ble_eq_true h
theorem J4 {fa : FA S} (hΨ : ∀ c ∈ fa.nd, jZ P K c) {sq : Bool} {o : Oper} {xs : List (AV S)} {fx : FuncId × List (AV S)} {ob : List (Nat × Nat × AO S)} {ct : Nat} {γ : Type} {k : iH S → Option γ} {z : γ} (h : J3 fa sq o xs = some fx) (hk : jt tb fx.1 fx.2 ob ct k fa.nd = some z) :
 ∃ rd rm : List Nat, (rd ++ rm).Nodup ∧ ∀ (g : GG S) (a : Act) (m : Mem) (Lr Lm : List az), rS g ct → K.B m → lC K g m a o.op.operands.toList xs → dm K g m (pick ob rd) Lr → dm K g m (pick ob rm) Lm → Ow m (Lr ++ Lm) →
  ab P o a m.w fun v w' => ∃ res, k res = some z ∧ res.rd = rd ∧ res.rm = rm ∧ res.add.length ≤ 31 ∧ ve K g m ct Lr Lm res v w' := by
 unfold J3 at h
 split at h
 case h_2 => cases h
 case h_1 =>
 unfold OI at h
 split at h
 case h_2 => cases h
 case h_1 c ho =>
 obtain ⟨cal, ops, ts⟩ := c
 split at h
 case h_2 => cases h
 case h_1 y f first caps args hcal =>
 simp only at hcal
 subst hcal
 split at h
 case h_2 => cases h
 case h_1 hb =>
 cases h
 simp only [Bool.and_eq_true] at hb
 have hf := Nat.le_of_ble_eq_true hb.2
 have hox : o.op.operands.toList = y :: ops.toList := by rw [ho]; simp [Op.operands, Call.operands]
 obtain ⟨rd, rm, hnd, h4⟩ := pG hΨ hk
 refine ⟨rd, rm, hnd, fun g a m Lr Lm hF hB ha hR hM hO => ?_⟩
 rw [hox] at ha
 obtain ⟨v, vs, e, a1, a2⟩ := ha
 cases e
 simp only [aA, au] at a1
 obtain ⟨v1, v2, e1, a3, a4⟩ := a1
 have key := h4 g m _ Lr Lm hF hB (jI (jI (kK a3) (pj a2)) (kK a4)) hR hM hO
 unfold qM at key
 rw [if_pos hf] at key
 obtain ⟨h3, key⟩ := key
 have hrun : (execOp a.eval o).run P m.w = .ok (.enter f (v1 ++ ops.toList.map a.eval ++ v2).toArray) m.w := by
  unfold execOp
  have e2 : a.eval y = .func (.func f) v1.toArray v2.toArray := by simpa using e1
  simp only [ho, resolve, e2, Deferred.ofValue, Sem.run_bind, Sem.run_pure, Result.andThen_ok, invoke]
  rw [h3]
  congr 2
  apply Array.ext'
  simp
 unfold ab
 rw [hrun]
 exact Calls.mono key fun e w' ⟨v, res, hv, hr⟩ => ⟨v, hv, res, hr⟩
theorem sB (hT : cn P K tt) {Φ : List (bO S)} (hΦ : ∀ c ∈ Φ, Sound P K c) {fa : FA S} (hΨ : ∀ c ∈ fa.nd, jZ P K c) {sq : Bool} {ops : Array Oper} {γ : Type} {z : γ} {Q : Exit → Act → World → Prop} {rr : Option Nat} : ∀ {rest : List Oper} {i : Nat} {σ : AS S} {lg : Log} {k : AS S → Log → Option γ} {g : GG S} {a : Act} {m : Mem} {L : List az},
 lL tb tt Φ fa sq ops rest i σ lg k = some z → rest.all (BA n) = true → Inv K n ds B m0 rb σ g a m L →
 (∀ σ' lg' g' a' m' L', k σ' lg' = some z → GE g g' → Le m m' → Inv K n ds B m0 rb σ' g' a' m' L' → Q .normal a' m'.w) → wpListIn (FW rr) 0 P ops Q rest a m.w
 | [], i, σ, lg, k, g, a, m, L, h, _, hI, hQ => by
   simp only [lL] at h
   exact hQ σ lg g a m L h (GE.refl g) (Le.refl m) hI
 | o :: rest, i, σ, lg, k, g, a, m, L, h, hd, hI, hQ => by
   simp only [List.all_cons, Bool.and_eq_true] at hd
   simp only [lL] at h
   obtain ⟨run, σ1, h1, hI1, hw⟩ := FE hI h
   unfold wpListIn
   cases run with
   | false =>
     simp only at h1
     rw [if_neg (by rw [hw]; simp)]
     obtain ⟨g', hge, hI2⟩ := KI hI1 (sA hd.1)
     exact ⟨fun _ _ => trivial, sB hT hΦ hΨ h1 hd.2 hI2 fun σ' lg' g2 a' m' L' hk h3 h4 h5 => hQ σ' lg' g2 a' m' L' hk (hge.trans h3) h4 h5⟩
   | true =>
     simp only at h1
     rw [if_pos hw]
     split at h1
     · rename_i xs hxs
       obtain ⟨hx, hl⟩ := AB hT hI1 hxs
       split at h1
       · rename_i hnd
         rw [sv] at h1
         obtain ⟨r, hr, h2⟩ := Option.bind_eq_some_iff.1 h1
         obtain ⟨r', hr', hO⟩ := D6 hT hΦ hl hr
         cases hr'
         split at h2
         · rename_i hn
           refine (KO hI1 (sA hd.1) hx hn hO).wp fun v w' ⟨g', m', L', e, h3, h4, h5⟩ => ?_
           subst e
           exact sB hT hΦ hΨ h2 hd.2 h5 fun σ' lg' g2 a' m2 L2 hk h6 h7 h8 => hQ σ' lg' g2 a' m2 L2 hk (h3.trans h6) (h4.trans h7) h8
         · cases h2
       · rename_i fx hnd
         obtain ⟨rd, rm, hn, hstep⟩ := J4 hΨ hnd h1
         obtain ⟨Lr, Lm, Lz, R, Y, q1, q2, q3, p1, p2⟩ := sQ hI1.ob hn
         have hOw : Ow m (Lr ++ Lm) := (hI1.st.ow.left.perm p1).left
         refine (hstep g a m Lr Lm (fun i hi _ => hI1.fresh i hi) (K.Bm hI1.rt.1 hI1.st.le) hx q1 q2 hOw).wp fun v w' ⟨res, hk2, e1, e2, hfew, hD⟩ => ?_
         subst e1; subst e2
         obtain ⟨g', m', L', e, h3, h4, h5⟩ := AX hI1 (mv := none) (sA hd.1) hfew q3 p1 p2 hD (fun _ h => by cases h)
         subst e
         exact sB hT hΦ hΨ hk2 hd.2 h5 fun σ' lg' g2 a' m2 L2 hk h6 h7 h8 => hQ σ' lg' g2 a' m2 L2 hk (h3.trans h6) (h4.trans h7) h8
     · cases h1
end
end E
end Go.Proofs.YtekpafdhgkocaaaGreat
