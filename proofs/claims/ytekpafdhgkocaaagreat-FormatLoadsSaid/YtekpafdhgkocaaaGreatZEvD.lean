/- Part of what the laws need: plain words, the walker and its laws, the program's functions. -/
import Derived.Test.YtekpafdhgkocaaaGreatZEvY
namespace Go.Proofs.YtekpafdhgkocaaaGreat
open Go.RowKit G
namespace E
variable {S : Nat → Type} {tb : Tb S} {K : cV tb} {P : Program} {tt : TypeId → Option (TI S)} {Φ : List (bO S)} {fa : FA S} {g : GG S} {m : Mem}
structure Rec (S : Nat → Type) where
 σ : AS S
 σ1 : AS S
 run : Bool
 res : iH S
def Rec.mv (r : Rec S) (o : Oper) : Option Nat := match r.run with | true => ka r.σ1 o.op | false => none
def Rec.next (r : Rec S) (o : Oper) : AS S := r.σ1.vU o.dst (r.mv o) r.res
def Rec.aI (r : Rec S) (o : Oper) : Nat := (r.mv o).getD r.σ.ct
def Rec.wr (r : Rec S) : List Nat := r.res.rm ++ r.res.add.map (·.1)
def wy (ops : Array Oper) (gd : Option (Nat × Bool)) (σ : AS S) (run : Bool) (σ1 : AS S) : Prop := match gd with
 | none => run = true ∧ σ1 = σ
 | some (j, b) => ∃ t aI v, nA ops j = some t ∧ σ.get t = some (aI, v) ∧
  ((∃ c, v = .one (.tt c) ∧ run = (c == b) ∧ σ1 = σ) ∨ (∃ c p d h c0, v = .one (.bo c p d h) ∧ (c0 = true ↔ p) ∧ run = (c0 == b) ∧ σ1 = σ.gg aI c0) ∨ (v = .je [] ∧ run = false ∧ σ1 = σ))
theorem Hm {γ : Type} {z : γ} {ops : Array Oper} {gd : Option (Nat × Bool)} {σ : AS S} {go : Bool → AS S → Option γ} (h : ot ops gd σ go = some z) : ∃ run σ1, go run σ1 = some z ∧ wy ops gd σ run σ1 := by
 cases gd with
 | none => exact ⟨true, σ, h, rfl, rfl⟩
 | some jb =>
   obtain ⟨j, b⟩ := jb
   simp only [ot] at h
   split at h
   · rename_i aI v hv
     obtain ⟨t, ht, hv⟩ := Option.bind_eq_some_iff.1 hv
     split at h
     · rename_i c _
       exact ⟨_, σ, h, t, aI, _, ht, hv, .inl ⟨c, rfl, rfl, rfl⟩⟩
     · rename_i c p d hcp _
       split at h
       · rename_i hp
         exact ⟨_, _, h, t, aI, _, ht, hv, .inr (.inl ⟨c, p, d, hcp, true, rfl, ⟨fun _ => hp, fun _ => rfl⟩, by cases b <;> rfl, rfl⟩)⟩
       · rename_i hp
         exact ⟨_, _, h, t, aI, _, ht, hv, .inr (.inl ⟨c, p, d, hcp, false, rfl, ⟨fun h => (by cases h), fun h => absurd h hp⟩, by cases b <;> rfl, rfl⟩)⟩
     · cases h
   · rename_i aI hv
     obtain ⟨t, ht, hv⟩ := Option.bind_eq_some_iff.1 hv
     exact ⟨_, σ, h, t, aI, _, ht, hv, .inr (.inr ⟨rfl, rfl, rfl⟩)⟩
   · cases h
theorem wy.ct {ops : Array Oper} {gd : Option (Nat × Bool)} {σ σ1 : AS S} {run : Bool} (h : wy ops gd σ run σ1) : σ1.ct = σ.ct ∧ σ1.fb = σ.fb ∧ σ1.rt = σ.rt ∧ σ1.ob = σ.ob := by
 cases gd with
 | none => obtain ⟨_, rfl⟩ := h; exact ⟨rfl, rfl, rfl, rfl⟩
 | some jb =>
   obtain ⟨t, aI, v, _, _, h⟩ := h
   rcases h with ⟨c, _, _, rfl⟩ | ⟨c, p, d, hh, c0, _, _, _, rfl⟩ | ⟨_, _, rfl⟩ <;> exact ⟨rfl, rfl, rfl, rfl⟩
structure Bb (P : Program) (K : cV tb) (tt : TypeId → Option (TI S)) (ops : Array Oper) (o : Oper) (r : Rec S) : Prop where
 gd : wy ops o.guard r.σ r.run r.σ1
 yes : r.run = true → ∃ xs, mS tt r.σ1 (B8 o) o.op.operands.toList = some xs ∧ pR P K o xs r.σ1.ob r.σ1.ct r.res
 nd : eJ (r.res.rd ++ r.res.rm) = true
 no : r.run = false → r.res = { v := AV.iE S }
 mv : ∀ aI, r.run = true → ka r.σ1 o.op = some aI → ∃ t, (o.op = .move (.tmp t) ∨ o.op = .assign (.tmp t)) ∧ r.σ1.get t = some (aI, r.res.v)
def Trace (P : Program) (K : cV tb) (tt : TypeId → Option (TI S)) (ops : Array Oper) : List Oper → AS S → List (Rec S) → AS S → Prop
 | [], σ, [], σN => σN = σ
 | o :: rest, σ, r :: tr, σN => r.σ = σ ∧ Bb P K tt ops o r ∧ Trace P K tt ops rest (r.next o) tr σN
 | _, _, _, _ => False
def Ao : Nat → List (Rec S) → Log → Log
 | _, [], lg => lg
 | i, r :: tr, lg => Ao (i + 1) tr (match r.run with | true => (i, r.res.rd, r.wr) :: lg | false => lg)
theorem ug : ∀ {l : List (Nat × Nat × AO S)}, cv [] l = l
 | [] => rfl
 | (q, x) :: l => by simp only [cv, has, ug]
theorem HG {o : Oper} {σ1 : AS S} {xs : List (AV S)} {r : iH S} (hx : mS tt σ1 (B8 o) o.op.operands.toList = some xs) (hr : core tb tt Φ fa o xs σ1.ob σ1.ct some = some r) {aI : Nat} (hm : ka σ1 o.op = some aI) :
 ∃ t, (o.op = .move (.tmp t) ∨ o.op = .assign (.tmp t)) ∧ σ1.get t = some (aI, r.v) := by
 have key : ∀ t, (o.op = .move (.tmp t) ∨ o.op = .assign (.tmp t)) → (σ1.get t).map (·.1) = some aI → σ1.get t = some (aI, r.v) := fun t ho hv => by
  obtain ⟨⟨vid', v⟩, hg, rfl⟩ := Option.map_eq_some_iff.1 hv
  have hop : o.op.operands.toList = [.tmp t] := by rcases ho with ho | ho <;> rw [ho] <;> rfl
  rw [hop] at hx
  have hxs : xs = [v] := by
   cases hty : B8 o with
   | nil => rw [hty] at hx; simp [mS, lU, hg] at hx; exact hx.symm
   | cons a l => rw [hty] at hx; simp [mS, lU, hg] at hx; exact hx.symm
  subst hxs
  have : r = { v := v } := by
   rcases ho with ho | ho <;> (unfold core at hr; simp only [ho, Option.some.injEq] at hr; exact hr.symm)
  rw [this, hg]
 unfold ka at hm
 split at hm
 · rename_i t ho; exact ⟨t, .inl ho, key t (.inl ho) hm⟩
 · rename_i t ho; exact ⟨t, .inr ho, key t (.inr ho) hm⟩
 · cases hm
theorem w7 (hT : cn P K tt) (hΦ : ∀ c ∈ Φ, Sound P K c) {ops : Array Oper} {γ : Type} {z : γ} : ∀ {rest : List Oper} {i : Nat} {σ : AS S} {lg : Log} {k : AS S → Log → Option γ}, lL tb tt Φ fa false ops rest i σ lg k = some z →
 (∀ o xs σ1, o ∈ rest → mS tt σ1 (B8 o) o.op.operands.toList = some xs → xs.length = o.op.operands.toList.length) →
 ∃ tr σN, Trace P K tt ops rest σ tr σN ∧ k σN (Ao i tr lg) = some z
 | [], i, σ, lg, k, h, _ => ⟨[], σ, rfl, h⟩
 | o :: rest, i, σ, lg, k, h, hlen => by
   simp only [lL, J3] at h
   obtain ⟨run, σ1, h1, hg⟩ := Hm h
   cases run with
   | false =>
     simp only at h1
     have he : ({ σ1.put o.dst none (AV.iE S) with ct := σ1.ct + 64 } : AS S) = σ1.vU o.dst none { v := AV.iE S } := by
      unfold AS.vU
      have : (σ1.put o.dst none (AV.iE S)).ob = σ1.ob := by cases o.dst <;> rfl
      simp only [nT, ug, List.nil_append, ← this]
     rw [he] at h1
     obtain ⟨tr, σN, h2, h3⟩ := w7 hT hΦ h1 fun o xs σ1 ho => hlen o xs σ1 (List.mem_cons_of_mem _ ho)
     exact ⟨⟨σ, σ1, false, { v := AV.iE S }⟩ :: tr, σN, ⟨rfl, ⟨hg, fun h => (by cases h), rfl, fun _ => rfl, fun _ h => (by cases h)⟩, h2⟩, h3⟩
   | true =>
     simp only at h1
     split at h1
     · rename_i xs hxs
       rw [sv] at h1
       obtain ⟨r, hr, h2⟩ := Option.bind_eq_some_iff.1 h1
       obtain ⟨r', hr', hO⟩ := D6 hT hΦ (hlen o xs σ1 List.mem_cons_self hxs) hr
       cases hr'
       split at h2
       · rename_i hn
         obtain ⟨tr, σN, h3, h4⟩ := w7 hT hΦ h2 fun o xs σ1 ho => hlen o xs σ1 (List.mem_cons_of_mem _ ho)
         exact ⟨⟨σ, σ1, true, r⟩ :: tr, σN, ⟨rfl, ⟨hg, fun _ => ⟨xs, hxs, hO⟩, hn, fun h => (by cases h), fun aI _ hm => HG hxs hr hm⟩, h3⟩, h4⟩
       · cases h2
     · cases h1
theorem xB {σ : AS S} : ∀ {l : List Operand} {ts : List TypeId} {xs : List (AV S)}, mS tt σ ts l = some xs → xs.length = l.length
 | [], ts, xs, h => by simp only [mS, Option.some.injEq] at h; subst h; rfl
 | x :: l, [], xs, h => by
   simp only [mS] at h
   obtain ⟨v, hv, h⟩ := Option.bind_eq_some_iff.1 h
   obtain ⟨r, hr, rfl⟩ := Option.map_eq_some_iff.1 h
   simp [xB hr]
 | x :: l, t :: ts, xs, h => by
   simp only [mS] at h
   obtain ⟨v, hv, h⟩ := Option.bind_eq_some_iff.1 h
   obtain ⟨r, hr, rfl⟩ := Option.map_eq_some_iff.1 h
   simp [xB hr]
def nD (tr : List (Rec S)) (σN : AS S) (k : Nat) : AS S := match tr[k]? with | some r => r.σ | none => σN
theorem EU {ops : Array Oper} : ∀ {rest : List Oper} {σ σN : AS S} {tr : List (Rec S)}, Trace P K tt ops rest σ tr σN → tr.length = rest.length ∧ nD tr σN 0 = σ ∧ ∀ (k : Nat) o, rest[k]? = some o → ∃ r, tr[k]? = some r ∧ Bb P K tt ops o r ∧ nD tr σN (k + 1) = r.next o
 | [], σ, σN, [], h => ⟨rfl, h, fun k o hk => by simp at hk⟩
 | [], _, _, _ :: _, h => h.elim
 | _ :: _, _, _, [], h => h.elim
 | o :: rest, σ, σN, r :: tr, h => by
   obtain ⟨rfl, h1, h2⟩ := h
   obtain ⟨k1, k2, k3⟩ := EU h2
   refine ⟨by simp [k1], rfl, fun k o' hk => ?_⟩
   cases k with
   | zero =>
     simp at hk; subst hk
     exact ⟨r, rfl, h1, by rw [← k2]; rfl⟩
   | succ k =>
     obtain ⟨r', j1, j2, j3⟩ := k3 k o' (by simpa using hk)
     exact ⟨r', by simpa using j1, j2, by rw [← j3]; rfl⟩
def LO (rd wr : List Nat) (r : Rec S) : Prop := ∃ x, (x ∈ r.wr ∧ (x ∈ rd ∨ x ∈ wr)) ∨ (x ∈ r.res.rd ∧ x ∈ wr)
theorem Dl {ops : Array Oper} {i : Nat} {r : Rec S} {lg : Log} (h : sM ops ((i, r.res.rd, r.wr) :: lg) = true) : sM ops lg = true ∧ ∀ p ∈ lg, LO p.2.1 p.2.2 r → D.CP ops p.1 i = true := by
 simp only [sM, Bool.and_eq_true] at h
 refine ⟨h.2, fun p hp ⟨x, hx⟩ => ?_⟩
 have := List.all_eq_true.1 h.1 p hp
 simp only [Bool.or_eq_true, Bool.not_eq_true', Bool.or_eq_false_iff] at this
 rcases this with h1 | ⟨h1, h2⟩
 · exact h1
 · exfalso
   rcases hx with ⟨hx, hy⟩ | ⟨hx, hy⟩
   · have := List.any_eq_false.1 h1 x hx
     simp only [Bool.or_eq_true, not_or, Bool.not_eq_true] at this
     rcases hy with hy | hy
     · rw [gE.2 hy] at this; exact absurd this.1 (by simp)
     · rw [gE.2 hy] at this; exact absurd this.2 (by simp)
   · have := List.any_eq_false.1 h2 x hx
     rw [gE.2 hy] at this; exact absurd rfl this
theorem Eu {ops : Array Oper} : ∀ {tr : List (Rec S)} {i : Nat} {lg : Log}, sM ops (Ao i tr lg) = true → sM ops lg = true ∧ (∀ p ∈ lg, ∀ (b : Nat) rb, tr[b]? = some rb → rb.run = true → LO p.2.1 p.2.2 rb → D.CP ops p.1 (i + b) = true) ∧
 ∀ (a b : Nat) ra rb, a < b → tr[a]? = some ra → tr[b]? = some rb → ra.run = true → rb.run = true → LO ra.res.rd ra.wr rb → D.CP ops (i + a) (i + b) = true
 | [], i, lg, h => ⟨h, fun p hp b rb hb => by simp at hb, fun a b ra rb _ ha => by simp at ha⟩
 | r :: tr, i, lg, h => by
   simp only [Ao] at h
   obtain ⟨h1, h2, h3⟩ := Eu h
   cases hr : r.run with
   | true =>
     rw [hr] at h1 h2
     obtain ⟨k1, k2⟩ := Dl h1
     refine ⟨k1, fun p hp b rb hb hrun hc => ?_, fun a b ra rb hab ha hb hra hrb hc => ?_⟩
     · cases b with
       | zero => simp at hb; subst hb; exact k2 p hp hc
       | succ b => rw [show i + (b + 1) = i + 1 + b by omega]; exact h2 p (List.mem_cons_of_mem _ hp) b rb (by simpa using hb) hrun hc
     · cases b with
       | zero => omega
       | succ b =>
         cases a with
         | zero =>
           simp at ha; subst ha
           rw [show i + (b + 1) = i + 1 + b by omega]
           exact h2 _ List.mem_cons_self b rb (by simpa using hb) hrb hc
         | succ a =>
           rw [show i + (b + 1) = i + 1 + b by omega, show i + (a + 1) = i + 1 + a by omega]
           exact h3 a b ra rb (by omega) (by simpa using ha) (by simpa using hb) hra hrb hc
   | false =>
     rw [hr] at h1 h2
     refine ⟨h1, fun p hp b rb hb hrun hc => ?_, fun a b ra rb hab ha hb hra hrb hc => ?_⟩
     · cases b with
       | zero => simp at hb; subst hb; rw [hr] at hrun; cases hrun
       | succ b => rw [show i + (b + 1) = i + 1 + b by omega]; exact h2 p hp b rb (by simpa using hb) hrun hc
     · cases b with
       | zero => omega
       | succ b =>
         cases a with
         | zero => simp at ha; subst ha; rw [hr] at hra; cases hra
         | succ a =>
           rw [show i + (b + 1) = i + 1 + b by omega, show i + (a + 1) = i + 1 + a by omega]
           exact h3 a b ra rb (by omega) (by simpa using ha) (by simpa using hb) hra hrb hc
def Rf (v0 v : AV S) : Prop := v = v0 ∨ ∃ c p d h c0, v0 = .one (.bo c p d h) ∧ (c0 = true ↔ p) ∧ v = .one (.tt c0)
theorem Rf.refl (v : AV S) : Rf v v := .inl rfl
theorem Rf.bo {v0 : AV S} {c : Bool} {p : Prop} {d : Decidable p} {h : c = true ↔ p} (k : Rf v0 (.one (.bo c p d h))) : v0 = .one (.bo c p d h) := by
 rcases k with k | ⟨_, _, _, _, _, _, _, k⟩
 · exact k.symm
 · cases k
theorem Rf.ok {v0 v : AV S} {u : Value} (k : Rf v0 v) (h : aA K g m v0 u) : aA K g m v u := by
 rcases k with rfl | ⟨c, p, d, hc, c0, rfl, h0, rfl⟩
 · exact h
 · simp only [aA, au] at h ⊢
   have : c = c0 := by
    cases c <;> cases c0 <;> first | rfl | skip
    · exact absurd (hc.2 (h0.1 rfl)) (by simp)
    · exact absurd (h0.2 (hc.1 rfl)) (by simp)
   rw [← this]; exact h
section
variable {ops : Array Oper} {tr : List (Rec S)} {σs σN : AS S}
def NM (tr : List (Rec S)) (σs : AS S) (k aI : Nat) (v : AV S) : Prop := (∃ j r, j < k ∧ tr[j]? = some r ∧ aI = σs.ct + 64 * j ∧ Rf r.res.v v) ∨ ∃ s0 v0, look s0 σs.tm = some (aI, v0) ∧ Rf v0 v
def Src (ops : Array Oper) (tr : List (Rec S)) (σs : AS S) (k t aI : Nat) : Prop := (∃ j o r, j < k ∧ ops[j]? = some o ∧ tr[j]? = some r ∧ o.dst = some t ∧ aI = r.aI o) ∨ ((∀ j o, j < k → ops[j]? = some o → o.dst ≠ some t) ∧ ∃ v0, look (σs.fb + t) σs.tm = some (aI, v0))
structure P9 (ops : Array Oper) (tr : List (Rec S)) (σs : AS S) (k : Nat) (σ : AS S) : Prop where
 ct : σ.ct = σs.ct + 64 * k
 fb : σ.fb = σs.fb
 rt : σ.rt = σs.rt
 MI : ∀ s aI v, look s σ.tm = some (aI, v) → NM tr σs k aI v
 src : ∀ t aI v, look (σs.fb + t) σ.tm = some (aI, v) → Src ops tr σs k t aI
 low : ∀ s aI v, s < σs.fb → look s σ.tm = some (aI, v) → ∃ v0, look s σs.tm = some (aI, v0)
theorem zI {k : Nat} {gd : Option (Nat × Bool)} {σ σ1 : AS S} {run : Bool} (h : P9 ops tr σs k σ) (hg : wy ops gd σ run σ1) : ({ σ1 with ct := σ.ct } : AS S) = σ1 ∧ (∀ s aI v, look s σ1.tm = some (aI, v) → NM tr σs k aI v) ∧ (∀ t aI v, look (σs.fb + t) σ1.tm = some (aI, v) → Src ops tr σs k t aI) ∧ ∀ s aI v, s < σs.fb → look s σ1.tm = some (aI, v) → ∃ v0, look s σs.tm = some (aI, v0) := by
 refine ⟨by rw [← hg.ct.1], ?_⟩
 cases gd with
 | none => obtain ⟨_, rfl⟩ := hg; exact ⟨h.MI, h.src, h.low⟩
 | some jb =>
   obtain ⟨t, vid0, v0, _, hget, hg⟩ := hg
   rcases hg with ⟨c, _, _, rfl⟩ | ⟨c, p, d, hh, c0, rfl, h0, _, rfl⟩ | ⟨_, _, rfl⟩
   · exact ⟨h.MI, h.src, h.low⟩
   · have hO := h.MI _ _ _ hget
     have key : ∀ s aI v, look s (σ.gg vid0 c0).tm = some (aI, v) → ∃ v1, look s σ.tm = some (aI, v1) ∧ (v = v1 ∨ aI = vid0 ∧ v = .one (.tt c0)) := fun s aI v hs => by
      unfold AS.gg at hs
      rw [ns] at hs
      obtain ⟨⟨vid1, v1⟩, h1, h2⟩ := Option.map_eq_some_iff.1 hs
      by_cases e : vid1 = vid0
      · rw [if_pos e] at h2; cases h2; exact ⟨v1, h1, .inr ⟨e, rfl⟩⟩
      · rw [if_neg e] at h2; cases h2; exact ⟨_, h1, .inl rfl⟩
     refine ⟨fun s aI v hs => ?_, fun t aI v hs => ?_, fun s aI v hlt hs => ?_⟩
     · obtain ⟨v1, h1, h2⟩ := key _ _ _ hs
       rcases h2 with rfl | ⟨rfl, rfl⟩
       · exact h.MI _ _ _ h1
       · rcases hO with ⟨j, r, j1, j2, j3, j4⟩ | ⟨s0, w0, j1, j2⟩
         · exact .inl ⟨j, r, j1, j2, j3, .inr ⟨c, p, d, hh, c0, j4.bo, h0, rfl⟩⟩
         · exact .inr ⟨s0, w0, j1, .inr ⟨c, p, d, hh, c0, j2.bo, h0, rfl⟩⟩
     · obtain ⟨v1, h1, _⟩ := key _ _ _ hs
       exact h.src _ _ _ h1
     · obtain ⟨v1, h1, _⟩ := key _ _ _ hs
       exact h.low _ _ _ hlt h1
   · exact ⟨h.MI, h.src, h.low⟩
theorem NM.up {k k' aI : Nat} {v : AV S} (h : NM tr σs k aI v) (hk : k ≤ k') : NM tr σs k' aI v := by
 rcases h with ⟨j, r, j1, j2⟩ | h
 · exact .inl ⟨j, r, by omega, j2⟩
 · exact .inr h
theorem IY {k : Nat} {o : Oper} {r : Rec S} (h : P9 ops tr σs k r.σ) (ho : ops[k]? = some o) (hr : tr[k]? = some r) (hs : Bb P K tt ops o r) : P9 ops tr σs (k + 1) (r.next o) := by
 obtain ⟨_, h1, h2, h2'⟩ := zI h hs.gd
 obtain ⟨c1, c2, c3, c4⟩ := hs.gd.ct
 have hput : (r.next o).tm = (r.σ1.put o.dst (r.mv o) r.res.v).tm := rfl
 have hct : (r.next o).ct = r.σ1.ct + 64 := rfl
 have hfb : (r.next o).fb = r.σ1.fb := by unfold Rec.next AS.vU AS.put; cases o.dst <;> rfl
 have hrt : (r.next o).rt = r.σ1.rt := by unfold Rec.next AS.vU AS.put; cases o.dst <;> rfl
 refine ⟨by rw [hct, c1, h.ct]; omega, by rw [hfb, c2, h.fb], by rw [hrt, c3, h.rt], fun s aI v hl => ?_, fun t aI v hl => ?_, fun s aI v hlt hl => ?_⟩
 · rw [hput] at hl
   cases hd : o.dst with
   | none => rw [hd] at hl; exact (h1 s aI v hl).up (by omega)
   | some d =>
     rw [hd] at hl
     have hl' : look s ((r.σ1.fb + d, (r.mv o).getD r.σ1.ct, r.res.v) :: mL (r.σ1.fb + d) r.σ1.tm) = some (aI, v) := hl
     rw [ax] at hl'
     by_cases e : r.σ1.fb + d = s
     · rw [if_pos e] at hl'
       cases hl'
       cases hm : r.mv o with
       | none => exact .inl ⟨k, r, by omega, hr, by show r.σ1.ct = _; rw [c1, h.ct], Rf.refl _⟩
       | some aI =>
         unfold Rec.mv at hm
         split at hm
         · rename_i hrun
           obtain ⟨t, _, k2⟩ := hs.mv aI hrun hm
           exact (h1 _ _ _ k2).up (by omega)
         · cases hm
     · rw [if_neg e, fy (Ne.symm e)] at hl'
       exact (h1 s aI v hl').up (by omega)
 · have up : ∀ aI v, o.dst ≠ some t → look (σs.fb + t) r.σ1.tm = some (aI, v) → Src ops tr σs (k + 1) t aI := fun aI v hd hl => by
    rcases h2 _ _ _ hl with ⟨j, o', r', j1, j2⟩ | ⟨j1, j2⟩
    · exact .inl ⟨j, o', r', by omega, j2⟩
    · refine .inr ⟨fun j o' hj ho' => ?_, j2⟩
      by_cases e : j = k
      · subst e; rw [ho] at ho'; cases ho'; exact hd
      · exact j1 j o' (by omega) ho'
   rw [hput] at hl
   cases hd : o.dst with
   | none => rw [hd] at hl; exact up aI v (by rw [hd]; simp) hl
   | some d =>
     rw [hd] at hl
     have hl' : look (σs.fb + t) ((r.σ1.fb + d, (r.mv o).getD r.σ1.ct, r.res.v) :: mL (r.σ1.fb + d) r.σ1.tm) = some (aI, v) := hl
     rw [ax, c2, h.fb] at hl'
     by_cases e : σs.fb + d = σs.fb + t
     · rw [if_pos e] at hl'
       cases hl'
       exact .inl ⟨k, o, r, by omega, ho, hr, by rw [hd, Nat.add_left_cancel e], by unfold Rec.aI; rw [c1]⟩
     · rw [if_neg e, fy (Ne.symm e)] at hl'
       exact up aI v (by rw [hd]; intro e'; cases e'; exact e rfl) hl'
 · rw [hput] at hl
   cases hd : o.dst with
   | none => rw [hd] at hl; exact h2' s aI v hlt hl
   | some d =>
     rw [hd] at hl
     have hl' : look s ((r.σ1.fb + d, (r.mv o).getD r.σ1.ct, r.res.v) :: mL (r.σ1.fb + d) r.σ1.tm) = some (aI, v) := hl
     have e : ¬ r.σ1.fb + d = s := fun e => by rw [c2, h.fb] at e; omega
     rw [ax, if_neg e, fy (Ne.symm e)] at hl'
     exact h2' s aI v hlt hl'
theorem EO (h : Trace P K tt ops ops.toList σs tr σN) : ∀ k, k ≤ ops.size → P9 ops tr σs k (nD tr σN k)
 | 0, _ => by
   obtain ⟨_, h2, _⟩ := EU h
   rw [h2]
   exact ⟨rfl, rfl, rfl, fun s aI v hs => .inr ⟨s, v, hs, Rf.refl _⟩, fun t aI v hs => .inr ⟨fun j o hj => by omega, v, hs⟩, fun s aI v _ hs => ⟨v, hs⟩⟩
 | k + 1, hk => by
   obtain ⟨_, _, h3⟩ := EU h
   have ho : ops.toList[k]? = some ops[k] := by simp [show k < ops.size by omega]
   obtain ⟨r, k1, k2, k3⟩ := h3 k _ ho
   have ih := EO h k (by omega)
   have : nD tr σN k = r.σ := by unfold nD; rw [k1]
   rw [this] at ih
   rw [k3]
   exact IY ih (by simp at ho ⊢) k1 k2
end
theorem H7 {σ : AS S} {a : Act} (hT : cn P K tt) : ∀ {l : List Operand} {ts : List TypeId} {xs : List (AV S)}, (∀ t aI v, Operand.tmp t ∈ l → σ.get t = some (aI, v) → aA K g m v (a.eval (.tmp t))) → mS tt σ ts l = some xs → lC K g m a l xs := by
 have one : ∀ {t : TypeId} {x : Operand} {v : AV S}, (∀ t aI v, x = .tmp t → σ.get t = some (aI, v) → aA K g m v (a.eval (.tmp t))) → lU tt σ t x = some v → aA K g m v (a.eval x) := fun {t x v} hs h => by
  cases x with
  | tmp u =>
    simp only [lU] at h
    obtain ⟨⟨aI, v'⟩, hp, rfl⟩ := Option.map_eq_some_iff.1 h
    exact hs u aI _ rfl hp
  | const c => exact wV hT h
  | func f =>
    simp only [lU, Option.some.injEq] at h
    subst h
    simp only [aA, au]
    exact ⟨[], [], rfl, by simp only [fD], by simp only [fD]⟩
  | global _ => simp [lU] at h
 intro l
 induction l with
 | nil => intro ts xs _ h; simp only [mS, Option.some.injEq] at h; subst h; rfl
 | cons x l ih =>
   intro ts xs hs h
   cases ts with
   | nil =>
     simp only [mS] at h
     obtain ⟨v, hv, h⟩ := Option.bind_eq_some_iff.1 h
     obtain ⟨r, hr, rfl⟩ := Option.map_eq_some_iff.1 h
     exact ⟨v, r, rfl, one (fun t aI w e => hs t aI w (by rw [e]; exact List.mem_cons_self)) hv, ih (fun t aI w hm => hs t aI w (List.mem_cons_of_mem _ hm)) hr⟩
   | cons t ts =>
     simp only [mS] at h
     obtain ⟨v, hv, h⟩ := Option.bind_eq_some_iff.1 h
     obtain ⟨r, hr, rfl⟩ := Option.map_eq_some_iff.1 h
     exact ⟨v, r, rfl, one (fun t aI w e => hs t aI w (by rw [e]; exact List.mem_cons_self)) hv, ih (fun t aI w hm => hs t aI w (List.mem_cons_of_mem _ hm)) hr⟩
theorem GU {ops : Array Oper} {n : Nat} (ht : D.tidy ops n = true) {i j : Nat} (h : D.K4 ops i j) : i < j := by
 induction h with
 | at_ ho he hb h => have := (D.pP ht ho).2.1 _ he hb; omega
 | step ho he hb _ ih => have := (D.pP ht ho).2.1 _ he hb; omega
theorem uC {q : Nat} : ∀ {l : List (Nat × AO S)} {v : Nat}, q ∉ l.map (·.1) → look q (nT v l) = none
 | [], v, _ => rfl
 | (u, a) :: l, v, h => by
   simp only [List.map_cons, List.mem_cons, not_or] at h
   simp only [nT, ax, if_neg (Ne.symm h.1)]
   exact uC h.2
theorem xr {q : Nat} : ∀ {l : List (Nat × AO S)} {v : Nat}, q ∈ l.map (·.1) → ∃ x, look q (nT v l) = some x
 | [], v, h => by cases h
 | (u, a) :: l, v, h => by
   simp only [nT, ax]
   by_cases e : u = q
   · rw [if_pos e]; exact ⟨_, rfl⟩
   · rw [if_neg e]
     simp only [List.map_cons, List.mem_cons] at h
     exact xr (h.resolve_left fun e' => e e'.symm)
theorem lj {q : Nat} {rm : List Nat} : ∀ {l : List (Nat × Nat × AO S)}, look q (cv rm l) = if q ∈ rm then none else look q l
 | [] => by simp [cv, look]
 | (u, x) :: l => by
   unfold cv
   split
   · rename_i h
     rw [lj, ax]
     by_cases e : u = q
     · subst e; rw [if_pos (gE.1 h), if_pos (gE.1 h)]
     · rw [if_neg e]
   · rename_i h
     rw [ax, ax, lj]
     by_cases e : u = q
     · subst e
       rw [if_pos rfl, if_pos rfl, if_neg fun h' => by rw [gE.2 h'] at h; cases h]
     · rw [if_neg e, if_neg e]
theorem zq {q v : Nat} {r : Rec S} {ob : List (Nat × Nat × AO S)} (h : q ∉ r.wr) : look q (nT v r.res.add ++ cv r.res.rm ob) = look q ob := by
 simp only [Rec.wr, List.mem_append, not_or] at h
 rw [iu, uC h.2, lj, if_neg h.1]
theorem FL {q v : Nat} {r : Rec S} {ob ob' : List (Nat × Nat × AO S)} (h : q ∈ r.wr) : look q (nT v r.res.add ++ cv r.res.rm ob) = look q (nT v r.res.add ++ cv r.res.rm ob') := by
 simp only [Rec.wr, List.mem_append] at h
 rw [iu, iu]
 by_cases ha : q ∈ r.res.add.map (·.1)
 · obtain ⟨x, hx⟩ := xr (v := v) ha
   rw [hx]
 · rw [uC ha, lj, lj, if_pos (h.resolve_right ha), if_pos (h.resolve_right ha)]
theorem sS {ob ob' : List (Nat × Nat × AO S)} : ∀ {l : List Nat}, (∀ q ∈ l, look q ob = look q ob') → pick ob l = pick ob' l
 | [], _ => rfl
 | q :: l, h => by
   simp only [pick, h q List.mem_cons_self, sS fun r hr => h r (List.mem_cons_of_mem _ hr)]
theorem zC : ∀ {ob : List (Nat × Nat × AO S)}, (ob.map (·.1)).Nodup → pick ob (ob.map (·.1)) = ob
 | [], _ => rfl
 | (u, x) :: l, h => by
   simp only [List.map_cons] at h ⊢
   obtain ⟨h1, h2⟩ := List.nodup_cons.1 h
   simp only [pick, ax, if_pos]
   congr 1
   exact (sS (ob' := l) fun q hq => by rw [ax, if_neg fun e => h1 (by rw [e]; exact hq)]).trans (zC h2)
section
variable {n : Nat} {ds : Cx} {B : List Nat} {m0 : Mem} {rb : Nat → Option Gh} {rr : Option Nat}
structure DI (K : cV tb) (n : Nat) (ds : Cx) (B : List Nat) (m0 : Mem) (ops : Array Oper) (tr : List (Rec S)) (σs σN : AS S) (gs : GG S) (as : Act) (ms : Mem) (l : Array Bool) (a : Act) (m : Mem) (g : GG S) (cur : List (Nat × Nat × AO S)) (L : List az) : Prop where
 sO : l.size = ops.size
 size : a.tmps.size = n
 defers : a.defers = ds.d
 rest : ∀ t, (∀ i o, ops[i]? = some o → D.kC l i → o.dst ≠ some t) → a.eval (.tmp t) = as.eval (.tmp t)
 done : ∀ (i : Nat) o r d, ops[i]? = some o → tr[i]? = some r → D.kC l i → o.dst = some d → g.vv (r.aI o) = some (a.eval (.tmp d))
 val : ∀ (i : Nat) r u, tr[i]? = some r → D.kC l i → g.vv (σs.ct + 64 * i) = some u → aA K g m r.res.v u
 AW : ∀ i, i < ops.size → ¬ D.kC l i → ∀ x, σs.ct + 64 * i ≤ x → x < σs.ct + 64 * i + 64 → g.bk x = none ∧ g.vv x = none ∧ g.oo x = none
 Lg : ∀ x, σs.ct + 64 * ops.size ≤ x → g.bk x = none ∧ g.vv x = none ∧ g.oo x = none
 closed : ∀ j o, ops[j]? = some o → D.kC l j → ∀ e ∈ o.after, Region.binds .any e = true → D.kC l e.on
 ge : GE gs g
 le : Le ms m
 ob : dm K g m cur L
 st : St B m0 m (L ++ ds.X)
 cur : ∀ q, ∃ k, k ≤ ops.size ∧ look q cur = look q (nD tr σN k).ob ∧ (∀ (j : Nat) r, j < k → tr[j]? = some r → q ∈ r.wr → D.kC l j) ∧ ∀ (j : Nat) r, k ≤ j → tr[j]? = some r → D.kC l j → q ∉ r.wr
theorem Ea (hT : cn P K tt) (hΦ : ∀ c ∈ Φ, Sound P K c) (hm : P.follows .mixedOrders = true) : zO P K tt Φ fa n B m0 rb rr ds := by
 intro id ops γ κ z σs gs as ms Ls Q h hc hIs hQ
 simp only [codeOk, Bool.not_true, Bool.false_or, Bool.and_eq_true] at hc
 obtain ⟨hdst, ht⟩ := hc
 obtain ⟨tr, σN, hTr, hk⟩ := w7 hT hΦ h fun o xs σ1 _ hx => xB hx
 split at hk
 case h_2 => cases hk
 case h_1 hlg =>
 simp only [Bool.not_true, Bool.false_or, Bool.and_eq_true] at hlg
 have hlog := (Eu hlg.1).2.2
 have hnd := fJ hlg.2
 obtain ⟨hlen, hst0, htr⟩ := EU hTr
 have hsyn := EO hTr
 have rec_at : ∀ (i : Nat) o, ops[i]? = some o → ∃ r, tr[i]? = some r ∧ Bb P K tt ops o r ∧ nD tr σN (i + 1) = r.next o ∧ nD tr σN i = r.σ := fun i o ho => by
  obtain ⟨r, k1, k2, k3⟩ := htr i o (by simpa using ho)
  exact ⟨r, k1, k2, k3, by unfold nD; rw [k1]⟩
 have rec_at' : ∀ (i : Nat) r, tr[i]? = some r → ∃ o, ops[i]? = some o ∧ Bb P K tt ops o r ∧ nD tr σN (i + 1) = r.next o ∧ nD tr σN i = r.σ := fun i r hr => by
  have hi : i < tr.length := (List.getElem?_eq_some_iff.1 hr).1
  rw [hlen] at hi
  have hi : i < ops.size := by simpa using hi
  have ho : ops[i]? = some ops[i] := by simp [hi]
  obtain ⟨r', k1, k2⟩ := rec_at i _ ho
  rw [hr] at k1; cases k1
  exact ⟨_, ho, k2⟩
 have obN : ∀ (i : Nat) r o, tr[i]? = some r → ops[i]? = some o → (nD tr σN (i + 1)).ob = nT (r.σ.ct + 32) r.res.add ++ cv r.res.rm (nD tr σN i).ob := fun i r o hr ho => by
  obtain ⟨r', k1, k2, k3, k4⟩ := rec_at i o ho
  rw [hr] at k1; cases k1
  obtain ⟨c1, _, _, c4⟩ := k2.gd.ct
  rw [k3, k4, ← c4, ← c1]; rfl
 have obSame : ∀ q a b, a ≤ b → b ≤ ops.size → (∀ (j : Nat) r, a ≤ j → j < b → tr[j]? = some r → q ∉ r.wr) → look q (nD tr σN b).ob = look q (nD tr σN a).ob := fun q a b hab => by
  induction b with
  | zero => intro _ _; have : a = 0 := by omega
            subst this; rfl
  | succ b ih =>
    intro hb hj
    by_cases e : a = b + 1
    · subst e; rfl
    · have ho : ops[b]? = some ops[b] := by simp [show b < ops.size by omega]
      obtain ⟨r, k1, _⟩ := rec_at b _ ho
      rw [obN b r _ k1 ho, zq (hj b r (by omega) (by omega) k1)]
      exact ih (by omega) (by omega) fun j r h1 h2 h3 => hj j r h1 (by omega) h3
 have writer_eq : ∀ (i : Nat) o d, ops[i]? = some o → o.dst = some d → D.writer ops d = some i := fun i o d ho hd => ((D.pP ht ho).1 d hd).1
 have fin : ∀ l a m g cur L, DI K n ds B m0 ops tr σs σN gs as ms l a m g cur L → Region.ready .any ops l = [] → Q .normal a m.w := fun l a m g cur L I hr => by
  have hd := D.GS ht I.sO hr
  have hs := hsyn ops.size (Nat.le_refl _)
  have hN : nD tr σN ops.size = σN := by
   unfold nD; rw [List.getElem?_eq_none (by rw [hlen]; simp)]
  rw [hN] at hs
  obtain ⟨zz, hz1, hz2, hz3⟩ := lT I.ob
  obtain ⟨Y, hY⟩ := jv (z := zz) hnd
  have hpk : pick cur (σN.ob.map (·.1)) = σN.ob := by
   rw [sS (ob' := σN.ob) fun q _ => ?_]
   · exact zC hnd
   · obtain ⟨k, k1, k2, k3, k4⟩ := I.cur q
     have e := obSame q k ops.size k1 (Nat.le_refl _) fun j r h1 h2 h3 => k4 j r h1 h3 (hd j h2)
     rw [hN] at e
     rw [k2]; exact e.symm
  refine hQ σN g a m ((cQ zz (σN.ob.map (·.1))).map Prod.snd) hk I.ge I.le ⟨I.size, I.defers, fun t aI v hl => ?_, fun s aI v hl => ?_, ?_, ?_, fun x hx => I.Lg x (by rw [← hs.ct]; exact hx), ⟨hIs.rt.1, fun j q hj => ?_⟩⟩
  · rw [hs.fb] at hl
    rcases hs.src _ _ _ hl with ⟨j, o, r, j1, j2, j3, j4, j5⟩ | ⟨j1, v0, j2⟩
    · rw [j5]; exact I.done j o r t j2 j3 (hd j j1) j4
    · have := hIs.at_ _ _ _ j2
      rw [I.rest t fun i o ho _ => j1 i o (Array.getElem?_eq_some_iff.1 ho).1 ho]
      exact I.ge.vv _ _ this
  · have hu : ∃ u, g.vv aI = some u := by
     by_cases hlt : s < σs.fb
     · obtain ⟨v0, h0⟩ := hs.low s aI v hlt hl
       obtain ⟨u, h1, _⟩ := hIs.tm _ _ _ h0
       exact ⟨u, I.ge.vv _ _ h1⟩
     · have e : s = σs.fb + (s - σs.fb) := by omega
       rw [e] at hl
       rcases hs.src _ _ _ hl with ⟨j, o, r, j1, j2, j3, j4, j5⟩ | ⟨j1, v0, j2⟩
       · rw [j5]; exact ⟨_, I.done j o r _ j2 j3 (hd j j1) j4⟩
       · exact ⟨_, I.ge.vv _ _ (hIs.at_ _ _ _ j2)⟩
    obtain ⟨u, hu⟩ := hu
    rcases hs.MI _ _ _ hl with ⟨j, r, j1, j2, j3, j4⟩ | ⟨s0, v0, j1, j2⟩
    · exact ⟨u, hu, j4.ok (I.val j r u j2 (hd j j1) (by rw [← j3]; exact hu))⟩
    · obtain ⟨u', h1, h2⟩ := hIs.tm _ _ _ j1
      have := I.ge.vv _ _ h1
      rw [hu] at this; cases this
      exact ⟨u, hu, j2.ok (h2.mono I.ge I.le)⟩
  · have h1 : dm K g m (pick cur (σN.ob.map (·.1))) ((cQ zz (σN.ob.map (·.1))).map Prod.snd) := by
     rw [← hz1, ← ju]
     exact kH fun p hp => by
      obtain ⟨q, _, hq⟩ := List.mem_filterMap.1 hp
      exact hz3 p (eI hq).1
    rw [hpk] at h1; exact h1
  · have h1 : List.Perm L ((cQ zz (σN.ob.map (·.1))).map Prod.snd ++ Y.map Prod.snd) := by
     rw [← hz2, ← List.map_append]; exact hY.map _
    exact Cr I.st h1
  · rw [hs.rt] at hj
    obtain ⟨h, h1, h2⟩ := hIs.rt.2 j q hj
    exact ⟨h, h1, I.ge.bk _ _ h2⟩
 have step : ∀ l a m g cur L, DI K n ds B m0 ops tr σs σN gs as ms l a m g cur L → ∀ i ∈ Region.ready .any ops l, ∀ (KK : Act → World → Prop), (∀ a' m' g' cur' L', DI K n ds B m0 ops tr σs σN gs as ms (l.setIfInBounds i true) a' m' g' cur' L' → KK a' m'.w) → wpOpIn (FW rr) 0 P ops Q i KK a m.w := fun l a m g cur L I i hi KK hKK => by
  obtain ⟨h0, o, ho, hall⟩ := Go.mem_ready.1 hi
  have hlt : i < ops.size := (Array.getElem?_eq_some_iff.1 ho).1
  have hll : i < l.size := by have := I.sO; omega
  have hnl : ¬ D.kC l i := (D.xf hll).1 h0
  have hall' : ∀ e ∈ o.after, Region.binds .any e = true → D.kC l e.on := hall
  obtain ⟨t1, t2, t3⟩ := D.pP ht ho
  have before : ∀ j, D.CP ops j i = true → D.kC l j := fun j hj => D.wE I.closed j i o ho hall' hj
  have behind : ∀ j oj, ops[j]? = some oj → D.CP ops i j = true → ¬ D.kC l j := fun j oj hoj hj hl' => hnl (D.wE I.closed i j oj hoj (I.closed j oj hoj hl') hj)
  obtain ⟨r, hr, hst, hnx, hσ⟩ := rec_at i o ho
  have hsy := hsyn i (by omega)
  rw [hσ] at hsy
  obtain ⟨_, g1, g2, _⟩ := zI hsy hst.gd
  obtain ⟨c1, c2, c3, c4⟩ := hst.gd.ct
  have src_ok : ∀ t aI, t ∈ o.looksAt ops → Src ops tr σs i t aI → g.vv aI = some (a.eval (.tmp t)) := fun t aI hta hs => by
   rcases hs with ⟨j, oj, rj, j1, j2, j3, j4, j5⟩ | ⟨j1, v0, j2⟩
   · have hj : D.kC l j := by
      rcases t3 t hta j (writer_eq j oj t j2 j4) with h | h | h
      · exact before j h
      · have := GU ht (D.tJ h); omega
      · omega
     rw [j5]; exact I.done j oj rj t j2 j3 hj j4
   · rw [I.rest t fun j oj hoj hj hdt => ?_]
     · exact I.ge.vv _ _ (hIs.at_ _ _ _ j2)
     · rcases t3 t hta j (writer_eq j oj t hoj hdt) with h | h | h
       · exact j1 j oj (GU ht (D.tJ h)) hoj hdt
       · exact behind j oj hoj h hj
       · subst h; exact hnl hj
  have org_ok : ∀ aI v u, NM tr σs i aI v → g.vv aI = some u → aA K g m v u := fun aI v u hO hu => by
   rcases hO with ⟨j, rj, j1, j2, j3, j4⟩ | ⟨s0, v0, j1, j2⟩
   · by_cases hj : D.kC l j
     · exact j4.ok (I.val j rj u j2 hj (by rw [← j3]; exact hu))
     · have := (I.AW j (by omega) hj aI (by omega) (by omega)).2.1
       rw [hu] at this; cases this
   · obtain ⟨u', h1, h2⟩ := hIs.tm _ _ _ j1
     have := I.ge.vv _ _ h1
     rw [hu] at this; cases this
     exact j2.ok (h2.mono I.ge I.le)
  have slot1 : ∀ t aI v, t ∈ o.looksAt ops → r.σ1.get t = some (aI, v) → g.vv aI = some (a.eval (.tmp t)) ∧ aA K g m v (a.eval (.tmp t)) := fun t aI v hta hg => by
   have hg' : look (r.σ1.fb + t) r.σ1.tm = some (aI, v) := hg
   rw [c2, hsy.fb] at hg'
   have h1 := src_ok t aI hta (g2 _ _ _ hg')
   exact ⟨h1, org_ok aI v _ (g1 _ _ _ hg') h1⟩
  have hkn : ∀ t, Kn n a [(t, a.eval (.tmp t))] ds.d := fun t => ⟨I.size, I.defers, Ke.cons rfl (Ke.nil a)⟩
  have hwant : Region.wanted o (yielded ops a.tmps) = r.run := by
   have hgd := hst.gd
   cases hg : o.guard with
   | none => rw [hg] at hgd; rw [hgd.1]; simp [Region.wanted, hg]
   | some jb =>
     obtain ⟨j, b⟩ := jb
     rw [hg] at hgd
     obtain ⟨t, aI, v, hsl, hget, hgd⟩ := hgd
     have hta : t ∈ o.looksAt ops := by
      unfold Oper.looksAt
      unfold nA at hsl
      simp [hg, hsl]
     have hget' : look (r.σ.fb + t) r.σ.tm = some (aI, v) := hget
     rw [hsy.fb] at hget'
     have e1 := src_ok t aI hta (hsy.src _ _ _ hget')
     have e2 := org_ok aI v _ (hsy.MI _ _ _ hget') e1
     have yes : ∀ c, a.eval (.tmp t) = .bool c → (c == b) = true → Region.wanted o (yielded ops a.tmps) = true := fun c hc hcb =>
      vd (hkn t) (by simp only [ou, hg, hsl, lk, Nat.beq_refl, hc]; exact hcb)
     have no : ∀ c, a.eval (.tmp t) = .bool c → (c != b) = true → Region.wanted o (yielded ops a.tmps) = false := fun c hc hcb =>
      jX (hkn t) (by simp only [nk, hg, hsl, lk, Nat.beq_refl, hc]; exact hcb)
     have fromB : ∀ c, a.eval (.tmp t) = .bool c → Region.wanted o (yielded ops a.tmps) = (c == b) := fun c hc => by
      cases hcb : c == b with
      | true => exact yes c hc hcb
      | false => exact no c hc (by simp [bne, hcb])
     rcases hgd with ⟨c, rfl, hrun, _⟩ | ⟨c, p, d, hh, c0, rfl, hc0, hrun, _⟩ | ⟨rfl, hrun, _⟩
     · simp only [aA, au, List.cons.injEq, and_true] at e2
       rw [hrun]; exact fromB c e2
     · simp only [aA, au, List.cons.injEq, and_true] at e2
       have : c = c0 := by
        cases c <;> cases c0 <;> first | rfl | skip
        · exact absurd (hh.2 (hc0.1 rfl)) (by simp)
        · exact absurd (hc0.2 (hh.1 rfl)) (by simp)
       subst this
       rw [hrun]; exact fromB c e2
     · simp only [aA, bU] at e2
       obtain ⟨l', e2, rfl⟩ := e2
       rw [hrun]
       refine jX (hkn t) ?_
       simp only [nk, hg, hsl, lk, Nat.beq_refl, e2]
  have hdi : ∀ d, o.dst = some d → d < n := sA (List.all_eq_true.1 hdst o (by
   have := List.mem_of_getElem? (l := ops.toList) (i := i) (by simpa using ho); exact this))
  have next : ∀ v m' g' cur' L', GE g g' → Le m m' → dm K g' m' cur' L' → St B m0 m' (L' ++ ds.X) → cur' = nT (r.σ.ct + 32) r.res.add ++ cv r.res.rm cur → (∀ d, o.dst = some d → g'.vv (r.aI o) = some v) → (∀ u, g'.vv (σs.ct + 64 * i) = some u → aA K g' m' r.res.v u) →
   (∀ x, (x < σs.ct + 64 * i ∨ σs.ct + 64 * i + 64 ≤ x) → g'.bk x = g.bk x ∧ g'.vv x = g.vv x ∧ g'.oo x = g.oo x) → DI K n ds B m0 ops tr σs σN gs as ms (l.setIfInBounds i true) (a.put o.dst v) m' g' cur' L' := fun v m' g' cur' L' hge hle hob hs hcur hvid hval hout => by
   have hev : ∀ t, o.dst ≠ some t → (a.put o.dst v).eval (.tmp t) = a.eval (.tmp t) := fun t hne => by
    cases hd : o.dst with
    | none => rfl
    | some d => exact Act.eval_put (fun d' hd' e' => by cases hd'; cases e'; exact hne hd)
   have sl : ∀ k, D.kC (l.setIfInBounds i true) k ↔ k = i ∨ D.kC l k := fun k => D.KH hll k
   refine ⟨by simpa using I.sO, ?_, ?_, fun t hne => ?_, fun j oj rj d hoj hrj hj hd => ?_, fun j rj u hrj hj hu => ?_, fun j hjs hj x hx1 hx2 => ?_, fun x hx => ?_, fun j oj hoj hj e he hbd => ?_, I.ge.trans hge, I.le.trans hle, hob, hs, fun q => ?_⟩
   · rw [← I.size]; cases hd : o.dst <;> simp [Act.put]
   · rw [← I.defers]; cases hd : o.dst <;> rfl
   · rw [hev t fun hd => hne i o ho ((sl i).2 (.inl rfl)) hd]
     exact I.rest t fun j oj hoj hj => hne j oj hoj ((sl j).2 (.inr hj))
   · rcases (sl j).1 hj with rfl | hj'
     · rw [ho] at hoj; cases hoj
       rw [hr] at hrj; cases hrj
       rw [hvid d hd, hd, D.fK (by rw [I.size]; exact hdi d hd)]
     · have hne : o.dst ≠ some d := fun hd' => by
        have h1 := writer_eq i o d ho hd'
        rw [writer_eq j oj d hoj hd] at h1
        cases h1; exact hnl hj'
       rw [hev d hne]
       exact hge.vv _ _ (I.done j oj rj d hoj hrj hj' hd)
   · rcases (sl j).1 hj with rfl | hj'
     · rw [hr] at hrj; cases hrj
       exact hval u hu
     · by_cases e : j = i
       · subst e; exact absurd hj' hnl
       · have := (hout (σs.ct + 64 * j) (by omega)).2.1
         rw [this] at hu
         exact (I.val j rj u hrj hj' hu).mono hge hle
   · have hne : j ≠ i := fun e => hj ((sl j).2 (.inl e))
     have hj' : ¬ D.kC l j := fun h => hj ((sl j).2 (.inr h))
     obtain ⟨o1, o2, o3⟩ := hout x (by omega)
     rw [o1, o2, o3]
     exact I.AW j hjs hj' x hx1 hx2
   · obtain ⟨o1, o2, o3⟩ := hout x (by omega)
     rw [o1, o2, o3]
     exact I.Lg x hx
   · rw [sl]
     rcases (sl j).1 hj with rfl | hj'
     · rw [ho] at hoj; cases hoj
       exact .inr (hall' e he hbd)
     · exact .inr (I.closed j oj hoj hj' e he hbd)
   · obtain ⟨k, k1, k2, k3, k4⟩ := I.cur q
     by_cases hq : q ∈ r.wr
     · have hrun : r.run = true := by
        cases hrun : r.run with
        | true => rfl
        | false => rw [Rec.wr, hst.no hrun] at hq; simp at hq
       refine ⟨i + 1, by omega, ?_, fun j rj hj hrj hw => ?_, fun j rj hj hrj hjl => ?_⟩
       · rw [hcur, obN i r o hr ho]; exact FL hq
       · by_cases e : j = i
         · exact (sl j).2 (.inl e)
         · have hrunj : rj.run = true := by
            cases hrun : rj.run with
            | true => rfl
            | false =>
              obtain ⟨oj, _, hstj, _⟩ := rec_at' j rj hrj
              rw [Rec.wr, hstj.no hrun] at hw; simp at hw
           have := hlog j i rj r (by omega) hrj hr hrunj hrun ⟨q, .inl ⟨hq, .inr hw⟩⟩
           rw [Nat.zero_add, Nat.zero_add] at this
           exact (sl j).2 (.inr (before j this))
       · intro hw
         rcases (sl j).1 hjl with e | hjl'
         · omega
         · have hrunj : rj.run = true := by
            cases hrun : rj.run with
            | true => rfl
            | false =>
              obtain ⟨oj, _, hstj, _⟩ := rec_at' j rj hrj
              rw [Rec.wr, hstj.no hrun] at hw; simp at hw
           have := hlog i j r rj (by omega) hr hrj hrun hrunj ⟨q, .inl ⟨hw, .inr hq⟩⟩
           rw [Nat.zero_add, Nat.zero_add] at this
           obtain ⟨oj, hoj, _⟩ := rec_at' j rj hrj
           exact behind j oj hoj this hjl'
     · refine ⟨k, k1, ?_, fun j rj hj hrj hw => (sl j).2 (.inr (k3 j rj hj hrj hw)), fun j rj hj hrj hjl => ?_⟩
       · rw [hcur, zq hq]; exact k2
       · rcases (sl j).1 hjl with rfl | hjl'
         · rw [hr] at hrj; cases hrj; exact hq
         · exact k4 j rj hj hrj hjl'
  have hct : r.σ.ct = σs.ct + 64 * i := hsy.ct
  unfold wpOpIn
  simp only [ho]
  cases hrun : r.run with
  | false =>
    rw [if_neg (by rw [hwant, hrun]; simp)]
    have geu : GE g { g with vv := fun x => if x = σs.ct + 64 * i then some undef else g.vv x } := ⟨fun _ _ h => h, fun x y hy => by
     show (if x = σs.ct + 64 * i then some undef else g.vv x) = _
     rw [if_neg fun e => by rw [e, (I.AW i hlt hnl _ (Nat.le_refl _) (by omega)).2.1] at hy; cases hy]
     exact hy, fun _ _ h => h⟩
    refine ⟨fun _ _ => trivial, hKK _ m _ cur L (next undef m _ cur L geu (Le.refl m) (I.ob.mono geu (Le.refl m)) I.st ?_ ?_ ?_ fun x hx => ⟨rfl, by
     show (if x = σs.ct + 64 * i then some undef else g.vv x) = _
     rw [if_neg (by omega)], rfl⟩)⟩
    · rw [hst.no hrun]; simp only [nT, ug, List.nil_append]
    · intro d hd
      have : r.aI o = σs.ct + 64 * i := by unfold Rec.aI Rec.mv; rw [hrun, ← hct]; rfl
      rw [this]
      show (if σs.ct + 64 * i = σs.ct + 64 * i then some undef else g.vv (σs.ct + 64 * i)) = some undef
      rw [if_pos rfl]
    · intro u hu
      have : u = undef := by
       have h1 : (if σs.ct + 64 * i = σs.ct + 64 * i then some undef else g.vv (σs.ct + 64 * i)) = some u := hu
       rw [if_pos rfl] at h1
       exact (Option.some.inj h1).symm
      subst this
      rw [hst.no hrun]
      simp only [AV.iE, aA, bU]
      exact ⟨[], rfl, rfl⟩
  | true =>
    rw [if_pos (by rw [hwant, hrun])]
    obtain ⟨xs, hxs, hO⟩ := hst.yes hrun
    have inop : ∀ t, Operand.tmp t ∈ o.op.operands.toList → t ∈ o.looksAt ops := fun t hm => by
     unfold Oper.looksAt
     refine List.mem_append_left _ (List.mem_filterMap.2 ⟨_, hm, rfl⟩)
    have hopr := H7 (K := K) (g := g) (m := m) (a := a) hT (fun t aI v hm hg => (slot1 t aI v (inop t hm) hg).2) hxs
    have lookq : ∀ q, (q ∈ r.res.rd ∨ q ∈ r.wr) → look q cur = look q (nD tr σN i).ob := fun q hq => by
     obtain ⟨k, k1, k2, k3, k4⟩ := I.cur q
     rw [k2]
     have runs : ∀ (j : Nat) rj, tr[j]? = some rj → q ∈ rj.wr → rj.run = true := fun j rj hrj hw => by
      cases hrun : rj.run with
      | true => rfl
      | false =>
        obtain ⟨oj, _, hstj, _⟩ := rec_at' j rj hrj
        rw [Rec.wr, hstj.no hrun] at hw; simp at hw
     by_cases hki : k ≤ i
     · refine (obSame q k i hki (by omega) fun j rj h1 h2 h3 hw => ?_).symm
       have := hlog j i rj r h2 h3 hr (runs j rj h3 hw) hrun ⟨q, hq.elim (fun h => .inr ⟨h, hw⟩) fun h => .inl ⟨h, .inr hw⟩⟩
       rw [Nat.zero_add, Nat.zero_add] at this
       exact k4 j rj h1 h3 (before j this) hw
     · refine obSame q i k (by omega) k1 fun j rj h1 h2 h3 hw => ?_
       have hj := k3 j rj h2 h3 hw
       by_cases e : j = i
       · subst e; exact hnl hj
       · have := hlog i j r rj (by omega) hr h3 hrun (runs j rj h3 hw) ⟨q, .inl ⟨hw, hq⟩⟩
         rw [Nat.zero_add, Nat.zero_add] at this
         obtain ⟨oj, hoj, _⟩ := rec_at' j rj h3
         exact behind j oj hoj this hj
    obtain ⟨Lr, Lm, Lz, R, Y, h1, h2, h3, p1, p2⟩ := sQ I.ob (fJ hst.nd)
    have hOw : Ow m (Lr ++ Lm) := (I.st.ow.left.perm p1).left
    have hob1 : r.σ1.ob = (nD tr σN i).ob := by rw [c4, hσ]
    have hct1 : r.σ1.ct = σs.ct + 64 * i := by rw [c1, hct]
    rw [sS (ob' := r.σ1.ob) fun q hq => by rw [hob1]; exact lookq q (.inl hq)] at h1
    rw [sS (ob' := r.σ1.ob) fun q hq => by rw [hob1]; exact lookq q (.inr (List.mem_append_left _ hq))] at h2
    have hfr := I.AW i hlt hnl
    have key := hO.did g a m Lr Lm (fun x hx1 hx2 => hfr x (by omega) (by omega)) (K.Bm (K.Bm hIs.rt.1 hIs.st.le) I.le) hopr h1 h2 hOw
    have key2 : ab P o a m.w fun v w' => ve K g m r.σ1.ct Lr Lm r.res v w' ∧ ∀ aI, ka r.σ1 o.op = some aI → g.vv aI = some v := by
     cases hmv : ka r.σ1 o.op with
     | none => exact key.mono fun v w' hD => ⟨hD, fun _ h => by cases h⟩
     | some aI =>
       obtain ⟨t, hot, hgt⟩ := hst.mv aI hrun hmv
       have hta : t ∈ o.looksAt ops := inop t (by rcases hot with e | e <;> rw [e] <;> simp [Op.operands])
       have hrn : (execOp a.eval o).run P m.w = .ok (.value (a.eval (.tmp t))) m.w := by rcases hot with e | e <;> simp [execOp, e]
       have hD := E.ab.exact key hrn
       unfold ab
       rw [hrn]
       exact ⟨hD, fun _ h => by cases h; exact (slot1 t aI _ hta hgt).1⟩
    refine key2.wp fun v w' ⟨hD, hmv⟩ => ?_
    obtain ⟨m', g', La, rfl, hS, hge, hvv, hoo, hbk, hA, hv⟩ := hD
    have hlA := wv hA
    have A1 := hO.A1
    have hmvr : r.mv o = ka r.σ1 o.op := by unfold Rec.mv; rw [hrun]
    have ge1 : GE g' (g.vU g' r.σ1.ct (r.mv o) v r.res.add La) := ⟨fun _ _ h => h, fun x y hx => by
     rw [hvv] at hx
     show (if _ then _ else _) = _
     rw [if_neg fun ⟨e, _⟩ => by subst e; rw [(hfr _ (by omega) (by omega)).2.1] at hx; cases hx]
     exact hx, fun x y hx => by
     rw [hoo] at hx
     show (if _ then _ else _) = _
     by_cases hx1 : r.σ1.ct + 32 ≤ x
     · rw [if_pos hx1]
       have : r.σ1.ct + 64 ≤ x := Nat.le_of_not_lt fun h => by rw [(hfr x (by omega) (by omega)).2.2] at hx; cases hx
       rw [List.getElem?_eq_none (by omega)]
       exact hx
     · rw [if_neg hx1]; exact hx⟩
    have ge2 := hge.trans ge1
    have hle := hS.le
    refine hKK _ m' _ (nT (r.σ.ct + 32) r.res.add ++ cv r.res.rm cur) (La ++ Lz) (next v m' (g.vU g' r.σ1.ct (r.mv o) v r.res.add La) _ _ ge2 hle (mZ (zT (hA.mono ge1 (Le.refl _)) fun x b e hx he => ?_) (h3.mono ge2 hle)) ?_ rfl (fun d hd => ?_) (fun u hu => ?_) fun x hx => ⟨?_, ?_, ?_⟩)
    · rw [← c1]
      show (if r.σ1.ct + 32 ≤ r.σ1.ct + 32 + x then _ else _) = _
      rw [if_pos (by omega), show r.σ1.ct + 32 + x - (r.σ1.ct + 32) = x by omega, hx, he]
    · exact IQ I.st p1 p2 hS
    · have hvd : r.aI o = (r.mv o).getD r.σ1.ct := by unfold Rec.aI; rw [c1]
      rw [hvd]
      cases hq : r.mv o with
      | none =>
        show (if r.σ1.ct = r.σ1.ct ∧ (none : Option Nat) = none then some v else g.vv _) = _
        rw [if_pos ⟨rfl, rfl⟩]
      | some aI =>
        rw [hq] at ge2
        exact ge2.vv aI v (hmv aI (by rw [← hmvr, hq]))
    · have hu' : (if σs.ct + 64 * i = r.σ1.ct ∧ r.mv o = none then some v else g.vv (σs.ct + 64 * i)) = some u := hu
      by_cases hq : r.mv o = none
      · rw [if_pos ⟨hct1.symm, hq⟩] at hu'
        cases hu'
        exact hv.mono ge1 (Le.refl _)
      · rw [if_neg fun ⟨_, e⟩ => hq e, (hfr _ (Nat.le_refl _) (by omega)).2.1] at hu'
        cases hu'
    · show g'.bk x = g.bk x
      refine Classical.byContradiction fun hn => ?_
      have := hbk x hn
      omega
    · show (if x = r.σ1.ct ∧ r.mv o = none then some v else g.vv x) = _
      rw [if_neg (by omega)]
    · show (if r.σ1.ct + 32 ≤ x then (match r.res.add[x - (r.σ1.ct + 32)]?, La[x - (r.σ1.ct + 32)]? with | some a, some e => some (a.2, e) | _, _ => g.oo x) else g.oo x) = _
      by_cases hx1 : r.σ1.ct + 32 ≤ x
      · rw [if_pos hx1, List.getElem?_eq_none (by omega)]
      · rw [if_neg hx1]
 have go : ∀ (fuel : Nat) (l : Array Bool) (a : Act) (m : Mem) (g : GG S) cur L, D.left ops l ≤ fuel → DI K n ds B m0 ops tr σs σN gs as ms l a m g cur L → wpAnyIn (FW rr) 0 P .any ops Q fuel l a m.w := by
  intro fuel
  induction fuel with
  | zero =>
    intro l a m g cur L hf I
    have hr : Region.ready .any ops l = [] := by
     refine Classical.byContradiction fun hne => ?_
     obtain ⟨i, hi⟩ := List.exists_mem_of_ne_nil _ hne
     obtain ⟨h0, o, ho, _⟩ := Go.mem_ready.1 hi
     have hlt : i < ops.size := (Array.getElem?_eq_some_iff.1 ho).1
     have := D.BP (ops := ops) I.sO hlt ((D.xf (by have := I.sO; omega)).1 h0)
     omega
    exact ⟨hr, fin l a m g cur L I hr⟩
  | succ fuel ih =>
    intro l a m g cur L hf I
    refine ⟨fin l a m g cur L I, fun i hi => step l a m g cur L I i hi _ fun a' m' g' cur' L' I' => ih _ a' m' g' cur' L' ?_ I'⟩
    obtain ⟨h0, o, ho, _⟩ := Go.mem_ready.1 hi
    have hlt : i < ops.size := (Array.getElem?_eq_some_iff.1 ho).1
    have := D.BP (ops := ops) I.sO hlt ((D.xf (by have := I.sO; omega)).1 h0)
    omega
 refine wpIn_region_any hm ?_
 have hle : Le ms (ms.up ms.w.drew) := Le.up ms (Below.refl _ _).drew
 have nol : ∀ i, ¬ D.kC (Array.replicate ops.size false) i := D.yD ops.size
 refine go ops.size (Array.replicate ops.size false) as (ms.up ms.w.drew) gs σs.ob Ls ?_ ⟨by simp, hIs.size, hIs.defers, fun _ _ => rfl, fun i _ _ _ _ _ h => absurd h (nol i), fun i _ _ _ h => absurd h (nol i), fun i hi _ x h1 h2 => hIs.fresh x (by omega), fun x h1 => hIs.fresh x (by omega), fun j _ _ h => absurd h (nol j), GE.refl gs, hle, hIs.ob.mono (GE.refl gs) hle, hIs.st.drew, fun q => ⟨0, Nat.zero_le _, by rw [hst0], fun j _ h => by omega, fun j _ _ _ h => absurd h (nol j)⟩⟩
 unfold D.left
 exact Nat.le_trans List.countP_le_length (by simp)
end
def MR (P : Program) (r : Nat) : Option RG := (P.funcs[r / 1000]?).bind fun fn => fn.body.bind fun c => ((cw c).find? fun q => Nat.beq (oH q.2.1) (r % 1000)).map fun q => ⟨q.1.toList, q.2.1, q.2.2, fn.ntmps⟩
def NQ (P : Program) (r : Nat) : Code := match MR P r with | some x => x.kI | none => .skip
def NR (P : Program) (r : Nat) : Code := match MR P r with | some x => x.body | none => .skip
theorem za {α : Type} {k : α → Nat} : ∀ {l : List α} {x : α}, eJ (l.map k) = true → x ∈ l → l.find? (fun y => Nat.beq (k y) (k x)) = some x
 | [], x, _, h => by cases h
 | y :: l, x, hn, h => by
   have hn' := List.nodup_cons.1 (fJ hn)
   rcases List.mem_cons.1 h with rfl | h
   · simp
   · have hne : k y ≠ k x := fun e => hn'.1 (by rw [e]; exact List.mem_map_of_mem h)
     rw [List.find?_cons, jh hne]
     unfold eJ at hn
     simp only [List.map_cons] at hn
     split at hn
     · cases hn
     · exact za hn h
theorem MQ {f : Nat} {fn : Func} {c : Code} (hK : ∀ r, K.rg r = MR P r) (hf : P.funcs[f]? = some fn) (hb : fn.body = some c) (hn : (eJ ((cw c).map fun q => oH q.2.1) && (cw c).all fun q => Nat.ble (oH q.2.1 + 1) 1000) = true) : LY K f fn.ntmps c := fun r hr => by
 simp only [Bool.and_eq_true] at hn
 have h1 := Nat.le_of_ble_eq_true (List.all_eq_true.1 hn.2 r hr)
 rw [hK]
 unfold MR
 rw [show (f * 1000 + oH r.2.1) / 1000 = f by omega, show (f * 1000 + oH r.2.1) % 1000 = oH r.2.1 by omega, hf]
 simp only [Option.bind_some, hb]
 rw [za (k := fun q : Array Nat × Code × Code => oH q.2.1) hn.1 hr]; rfl
theorem Hi (hT : cn P K tt) (hm : P.follows .mixedOrders = true) (hΦ : ∀ c ∈ Φ, Sound P K c) {c : bO S} {fn : Func} {body : Code} {rs : List ResultVar} {an : An} (hf : P.funcs[c.f]? = some fn) (hb : fn.body = some body) (hrs : fn.results = rs.toArray) (hnm : (fn.name == "runtime.NumGoroutine") = false) (hcf : (Nat.ble c.f 999999 && Nat.beq fa.fn c.f && eJ ((cw body).map fun q => oH q.2.1) && (cw body).all fun q => Nat.ble (oH q.2.1 + 1) 1000) = true) (hK : ∀ r, K.rg r = MR P r)
 (hok : codeOk fn.ntmps body = true) (hsz : (Nat.ble c.ins.length 190 && Nat.ble c.ins.length fn.ntmps) = true) (hev : ∀ x, Om tb tt Φ fa c rs body an x = c.cx x) (hΨ : ∀ c ∈ fa.nd, jZ P K c := by intro c hc; cases hc) : Sound P K c := by
 simp only [Bool.and_eq_true] at hcf
 obtain ⟨⟨⟨h1, h2⟩, h3⟩, h4⟩ := hcf
 have h2 := Nat.eq_of_beq_eq_true h2
 exact Fw hT hΦ hΨ (fun n B m0 rb ds => Ea hT hΦ hm) hf hb hrs (Fs hf hnm (by rw [hb]; rfl)) (Nat.le_of_ble_eq_true h1) hok (h2 ▸ MQ hK hf hb (by simp only [Bool.and_eq_true]; exact ⟨h3, h4⟩)) hsz hev
theorem K3 (hT : cn P K tt) (hm : P.follows .mixedOrders = true) (hΦ : ∀ c ∈ Φ, Sound P K c) {c : bO S} {r n : Nat} {ps : List Nat} {kI body : Code} {an : An} (hcf : c.f = NL r) (hrd : fa.rd = true) (hrg : K.rg r = some ⟨ps, kI, body, n⟩)
 (hps : (ps.all fun p => Nat.ble (p + 1) n) = true) (hoa : codeOk n kI = true) (hob : codeOk n body = true) (hra : cw kI = []) (hrb : cw body = []) (hsz : Nat.ble c.ins.length 190 = true) (hev : ∀ x, Oo tb tt Φ fa c r ps kI body an x = c.cx x) (hΨ : ∀ c ∈ fa.nd, jZ P K c := by intro c hc; cases hc) : Sound P K c :=
 Fx hT hΦ hΨ (fun n B m0 rb rr ds => Ea hT hΦ hm) hcf hrd hrg hps hoa hob hra hrb hsz hev
theorem FC {c : bO S} {F : (HT S c.ls → Option (gH S c.outs)) → HT S c.ls → Option (gH S c.outs)} (h : ∀ g, Sound P K { c with cx := g } → Sound P K { c with cx := F g }) : Sound P K { c with cx := Fix F } := by
 have key : ∀ k, Sound P K { c with cx := Fix.it F k } := fun k => by
  induction k with
  | zero => exact ⟨fun x y bk m vals L hs => by cases hs⟩
  | succ k ih => exact h _ ih
 refine ⟨fun x y bk m vals L hs => ?_⟩
 obtain ⟨k, hk⟩ := GC hs
 exact (key k).go x y bk m vals L hk
end E
end Go.Proofs.YtekpafdhgkocaaaGreat
