/- Part of what the laws need: plain words, the walker and its laws, the program's functions. -/
import Derived.Test.YtekpafdhgkocaaaGreatZPBase
import Derived.Test.YtekpafdhgkocaaaGreatZEG
namespace Go.Proofs.YtekpafdhgkocaaaGreat
open G
namespace G
def dk (c : G.Command) : Int := if c.kind = 1 then c.len else (c.data.length : Int)
def dA (c : G.Command) : Int := c.to + dk c
theorem pc (c : G.Command) : G.dL c = some ⟨c.to, dk c⟩ := by unfold G.dL G.jk dk; split <;> rfl
theorem vV (c : G.Command) : G.dg c = some (dk c) := by unfold G.dg dk; split <;> rfl
theorem m8 (c : G.Command) : G.cK c = some ⟨c.to, dk c⟩ := by unfold G.cK; rw [vV]; rfl
def A2 (o n : Int) : Bool := decide (0 ≤ o ∧ 0 ≤ n ∧ o + n ≤ 4611686018427387903)
theorem l9 {o n : Int} : A2 o n = true ↔ 0 ≤ o ∧ 0 ≤ n ∧ o + n ≤ 4611686018427387903 := by unfold A2; simp
theorem Bf (e : G.bL) : G.fk e = some (A2 e.off e.len) := by
 have hm : dr e.off e.len ≥ 0 ↔ 0 ≤ e.off ∧ 0 ≤ e.len := by unfold dr; split <;> omega
 unfold G.fk A2
 by_cases h : 0 ≤ e.off ∧ 0 ≤ e.len
 · rw [if_pos (hm.2 h)]
   split
   · rw [eK (by omega) (by omega)]; congr 1; rw [decide_eq_decide]; omega
   · congr 1; symm; rw [decide_eq_false_iff_not]; omega
 · rw [if_neg (fun k => h (hm.1 k))]
   congr 1; symm; rw [decide_eq_false_iff_not]
   omega
theorem E4 (e : G.bL) : G.e8 e = some (A2 e.off e.len) := by
 unfold G.e8 A2 G.cJ
 simp only [Option.bind_some]
 split
 · split
   · split
     · rw [eK (by omega) (by omega)]; congr 1; rw [decide_eq_decide]; omega
     · congr 1; symm; rw [decide_eq_false_iff_not]; omega
   · congr 1; symm; rw [decide_eq_false_iff_not]; omega
 · congr 1; symm; rw [decide_eq_false_iff_not]; omega
def vM (c : G.Command) : Int :=
 if c.kind ≠ 1 ∧ c.kind ≠ 2 then 11 else if dk c = 0 then 7 else if A2 c.to (dk c) = false then 2 else
  if c.kind = 1 then (if c.data.length = 0 ∧ A2 c.from_ c.len = true then 0 else 2) else if c.from_ = 0 ∧ c.len = 0 then 0 else 2
theorem Gw (c : G.Command) : G.jB c = some (vM c) := by
 have e1 : G.jk c = some ⟨⟨c.to, dk c⟩⟩ := by unfold G.jk dk; split <;> rfl
 unfold G.jB vM
 simp only [e1, Bf, Option.bind_some]
 by_cases k1 : c.kind = 1
 · by_cases t0 : dk c = 0
   · simp [k1, t0]
   · cases hv : A2 c.to (dk c)
     · simp [k1, t0, hv]
     · by_cases d0 : c.data.length = 0
       · cases hw : A2 c.from_ c.len <;> simp [k1, t0, hv, d0, hw]
       · have : ¬ (c.data.length : Int) = 0 := by omega
         simp [k1, t0, hv, d0, this]
 · by_cases k2 : c.kind = 2
   · by_cases t0 : dk c = 0
     · simp [k2, t0]
     · cases hv : A2 c.to (dk c)
       · simp [k2, t0, hv]
       · by_cases f0 : c.from_ = 0
         · by_cases l0 : c.len = 0 <;> simp [k2, t0, hv, f0, l0]
         · simp [k2, t0, hv, f0]
   · simp [k1, k2]
theorem E0 (c : G.Command) : G.gD c = some (vM c) := by
 unfold G.gD vM G.iO
 simp only [m8, vV, E4, Option.bind_some]
 by_cases k1 : c.kind = 1
 · by_cases t0 : dk c = 0
   · simp [k1, t0]
   · cases hv : A2 c.to (dk c)
     · simp [k1, t0, hv]
     · by_cases d0 : c.data.length = 0
       · have : ¬ (c.data.length : Int) > 0 := by omega
         cases hw : A2 c.from_ c.len <;> simp [k1, t0, hv, d0, hw]
       · have : 0 < c.data.length := by omega
         simp [k1, t0, hv, d0, this]
 · by_cases k2 : c.kind = 2
   · by_cases t0 : dk c = 0
     · simp [k2, t0]
     · cases hv : A2 c.to (dk c)
       · simp [k2, t0, hv]
       · by_cases f0 : c.from_ = 0
         · by_cases l0 : c.len = 0 <;> simp [k2, t0, hv, f0, l0]
         · simp [k2, t0, hv, f0]
   · simp [k1, k2]
theorem ue {c : G.Command} (h : vM c = 0) : 0 ≤ c.to ∧ 1 ≤ dk c ∧ dA c ≤ 4611686018427387903 ∧ (c.kind = 1 → 0 ≤ c.from_ ∧ 0 ≤ c.len ∧ c.from_ + c.len ≤ 4611686018427387903 ∧ c.data = []) ∧ (c.kind ≠ 1 → c.kind = 2 ∧ c.from_ = 0 ∧ c.len = 0) := by
 unfold vM at h
 split at h
 · omega
 · rename_i hk
   split at h
   · omega
   · rename_i ht
     split at h
     · omega
     · rename_i hv
       have hv' := l9.1 (by simpa using hv)
       refine ⟨hv'.1, by omega, hv'.2.2, fun k1 => ?_, fun k1 => ?_⟩
       · rw [if_pos k1] at h
         split at h
         · rename_i hd
           have := l9.1 hd.2
           exact ⟨this.1, this.2.1, this.2.2, List.eq_nil_of_length_eq_zero hd.1⟩
         · omega
       · rw [if_neg k1] at h
         split at h
         · rename_i hd
           exact ⟨by omega, hd.1, hd.2⟩
         · omega
def EL (d : G.Delta) (c : G.Command) : Int := if vM c ≠ 0 then vM c else if c.kind = 1 ∧ c.from_ + c.len > d.bp then 5 else if dA c > d.aP then 6 else 0
theorem zH (d : G.Delta) (c : G.Command) : G.kp d c = some (EL d c) := by
 unfold G.kp EL G.kW G.eH
 simp only [Gw, pc, Option.bind_some]
 by_cases h : vM c = 0
 · have hz := ue h
   simp only [h, ne_eq, not_true_eq_false, if_false]
   have e1 : IntKind.i64.wrap (c.to + dk c) = dA c := eK (by unfold dA at hz; omega) (by unfold dA at hz; omega)
   by_cases k1 : c.kind = 1
   · have h2 := hz.2.2.2.1 k1
     have e2 : IntKind.i64.wrap (c.from_ + c.len) = c.from_ + c.len := eK (by omega) (by omega)
     by_cases h3 : c.from_ + c.len > d.bp <;> by_cases h4 : dA c > d.aP <;> simp [k1, h3, h4, e1, e2]
   · by_cases h4 : dA c > d.aP <;> simp [k1, h4, e1]
 · simp only [h, ne_eq, not_false_eq_true, if_true]
theorem xR (d : G.Delta) (c : G.Command) : G.fR d c = some (EL d c) := by
 unfold G.fR EL
 simp only [E0, vV, Option.bind_some]
 by_cases h : vM c = 0
 · have hz := ue h
   simp only [h, ne_eq, not_true_eq_false, if_false]
   have e1 : IntKind.i64.wrap (c.to + dk c) = dA c := eK (by unfold dA at hz; omega) (by unfold dA at hz; omega)
   by_cases k1 : c.kind = 1
   · have h2 := hz.2.2.2.1 k1
     have e2 : IntKind.i64.wrap (c.from_ + c.len) = c.from_ + c.len := eK (by omega) (by omega)
     by_cases h3 : c.from_ + c.len > d.bp <;> by_cases h4 : dA c > d.aP <;> simp [k1, h3, h4, e1, e2]
   · by_cases h4 : dA c > d.aP <;> simp [k1, h4, e1]
 · simp only [h, ne_eq, not_false_eq_true, if_true]
structure Good (d : G.Delta) (c : G.Command) : Prop where
 KU : 0 ≤ c.to
 BQ : 1 ≤ dk c
 fits : dA c ≤ d.aP
 max : dA c ≤ 4611686018427387903
 copy : c.kind = 1 → 0 ≤ c.from_ ∧ 0 ≤ c.len ∧ c.from_ + c.len ≤ d.bp ∧ c.from_ + c.len ≤ 4611686018427387903 ∧ c.data = []
 lit : c.kind ≠ 1 → c.kind = 2 ∧ c.from_ = 0 ∧ c.len = 0
theorem oQ {d : G.Delta} {c : G.Command} : EL d c = 0 ↔ Good d c := by
 constructor
 · intro h
   unfold EL at h
   split at h
   · rename_i h1; exact absurd h h1
   · rename_i h1
     have hz := ue (by simpa using h1)
     split at h
     · omega
     · rename_i h2
       split at h
       · omega
       · rename_i h3
         exact ⟨hz.1, hz.2.1, by omega, hz.2.2.1, fun k => by have := hz.2.2.2.1 k; exact ⟨this.1, this.2.1, by have := fun q => h2 ⟨k, q⟩; omega, this.2.2.1, this.2.2.2⟩, hz.2.2.2.2⟩
 · intro h
   have hc : vM c = 0 := by
    unfold vM
    have hk : ¬ (c.kind ≠ 1 ∧ c.kind ≠ 2) := fun k => k.2 (h.lit k.1).1
    have := h.KU; have := h.BQ; have := h.max
    rw [if_neg hk, if_neg (by omega), if_neg (by rw [l9.2 ⟨h.KU, by omega, h.max⟩]; simp)]
    by_cases k1 : c.kind = 1
    · have hq := h.copy k1
      rw [if_pos k1, if_pos ⟨by rw [hq.2.2.2.2]; rfl, l9.2 ⟨hq.1, hq.2.1, hq.2.2.2.1⟩⟩]
    · have hq := h.lit k1
      rw [if_neg k1, if_pos ⟨hq.2.1, hq.2.2⟩]
   unfold EL
   rw [if_neg (by simpa using hc), if_neg (fun k => by have := (h.copy k.1).2.2.1; omega), if_neg (by have := h.fits; omega)]
theorem MT {d : G.Delta} {c : G.Command} : EL d c ≠ 0 ↔ ¬ Good d c := not_congr oQ
def ov (a b : G.Command) : Bool := decide (a.to < dA b ∧ b.to < dA a)
theorem Kk (a b : G.Command) : ov a b = ov b a := by unfold ov; rw [decide_eq_decide]; omega
theorem wz {d : G.Delta} {a b : G.Command} (ha : Good d a) (hb : Good d b) : ∃ e, G.iI ⟨a.to, dk a⟩ ⟨b.to, dk b⟩ = some (e, ov a b) := by
 have := ha.KU; have := hb.KU; have := ha.max; have := hb.max; have := ha.BQ; have := hb.BQ
 unfold G.iI G.eH G.k9
 simp only [Option.bind_some]
 unfold dA at *
 rw [eK (x := a.to + dk a) (by omega) (by omega), eK (x := b.to + dk b) (by omega) (by omega)]
 have hx : dr (a.to + dk a) (b.to + dk b) - imax a.to b.to ≤ 4611686018427387903 ∧ -4611686018427387903 ≤ dr (a.to + dk a) (b.to + dk b) - imax a.to b.to ∧ (dr (a.to + dk a) (b.to + dk b) - imax a.to b.to < 1 ↔ ¬ (a.to < b.to + dk b ∧ b.to < a.to + dk a)) := by
  unfold dr imax; split <;> split <;> omega
 rw [eK (by omega) (by omega)]
 unfold ov dA
 split
 · rename_i h
   exact ⟨_, by rw [decide_eq_false (hx.2.2.1 h)]; rfl⟩
 · rename_i h
   exact ⟨_, by rw [decide_eq_true (Classical.not_not.1 (fun k => h (hx.2.2.2 k)))]; rfl⟩
theorem vi {d : G.Delta} {a b : G.Command} (ha : Good d a) (hb : Good d b) : ∃ e, G.ft ⟨a.to, dk a⟩ ⟨b.to, dk b⟩ = some e ∧ decide (e.len > 0) = ov a b := by
 have := ha.KU; have := hb.KU; have := ha.max; have := hb.max; have := ha.BQ; have := hb.BQ
 unfold G.ft
 simp only
 unfold dA at *
 rw [eK (x := a.to + dk a) (by omega) (by omega), eK (x := b.to + dk b) (by omega) (by omega)]
 have hx : dr (a.to + dk a) (b.to + dk b) - imax a.to b.to ≤ 4611686018427387903 ∧ -4611686018427387903 ≤ dr (a.to + dk a) (b.to + dk b) - imax a.to b.to ∧ (imax a.to b.to ≥ dr (a.to + dk a) (b.to + dk b) ↔ ¬ (a.to < b.to + dk b ∧ b.to < a.to + dk a)) := by
  unfold dr imax; split <;> split <;> omega
 unfold ov dA
 split
 · rename_i h
   exact ⟨_, rfl, by rw [decide_eq_false (hx.2.2.1 h)]; rfl⟩
 · rename_i h
   refine ⟨_, rfl, ?_⟩
   rw [eK (by omega) (by omega), decide_eq_decide]
   constructor
   · intro _; exact Classical.not_not.1 (fun k => h (hx.2.2.2 k))
   · intro _; show dr (a.to + dk a) (b.to + dk b) - imax a.to b.to > 0; omega
abbrev cat (l : List G.Command) (i : Nat) : G.Command := l.getD i default
theorem eo {l : List G.Command} {i : Nat} (h : i < l.length) : cat l i = l[i] := by simp [cat, h]
def Ez (l : List G.Command) (i : Nat) : Bool := (l.take i).any fun c => ov (cat l i) c
end G
end Go.Proofs.YtekpafdhgkocaaaGreat
namespace Go.Proofs.YtekpafdhgkocaaaGreat
open G
namespace G
def Ix (l : List G.Command) (x : Int) : Prop := 0 ≤ x ∧ x < l.length
def key (l : List G.Command) (x : Int) : Int := (l.getD x.toNat default).to
theorem z5 {l : List G.Command} {x y : Int} (hx : Ix l x) (hy : Ix l y) : ∃ c, G.dN x y l = some c ∧ (c < 0 ↔ key l x < key l y) := by
 unfold G.dN G.j9 G.jA key
 obtain ⟨h1, h2⟩ := hx
 obtain ⟨h3, h4⟩ := hy
 rw [pB (k := x.toNat) default (by omega) (by omega), pB (k := y.toNat) default (by omega) (by omega)]
 simp only [Option.bind_some, bne_self_eq_false, Bool.false_eq_true, if_false]
 generalize (l.getD x.toNat default).to = p
 generalize (l.getD y.toNat default).to = q
 split
 · exact ⟨_, rfl, by omega⟩
 · split
   · exact ⟨_, rfl, by omega⟩
   · exact ⟨_, rfl, by omega⟩
def sw (ys : List Int) (i j : Nat) : List Int := (ys.set i (ys.getD j 0)).set j (ys.getD i 0)
theorem sG (ys : List Int) (i p : Nat) (v : Int) : (ys.set i v).getD p 0 = if p = i ∧ i < ys.length then v else ys.getD p 0 := by
 simp only [List.getD_eq_getElem?_getD, List.getElem?_set]
 by_cases h : i = p
 · subst h
   by_cases h2 : i < ys.length <;> simp [h2]
 · rw [if_neg h, if_neg (fun k => h k.1.symm)]
theorem u6 {ys : List Int} {i j : Nat} (hi : i < ys.length) (hj : j < ys.length) (p : Nat) : (sw ys i j).getD p 0 = if p = j then ys.getD i 0 else if p = i then ys.getD j 0 else ys.getD p 0 := by
 unfold sw
 rw [sG, sG]
 simp only [List.length_set]
 by_cases h1 : p = j
 · rw [if_pos ⟨h1, hj⟩, if_pos h1]
 · rw [if_neg (fun k => h1 k.1), if_neg h1]
   by_cases h2 : p = i
   · rw [if_pos ⟨h2, hi⟩, if_pos h2]
   · rw [if_neg (fun k => h2 k.1), if_neg h2]
theorem wm {ys : List Int} {i j : Nat} (hi : i < ys.length) (hj : j < ys.length) : (sw ys i j).Perm ys := by
 unfold sw
 have e1 : ys.getD j 0 = ys[j] := by simp [hj]
 have e2 : ys.getD i 0 = ys[i] := by simp [hi]
 rw [e1, e2]
 exact List.set_set_perm hi hj
structure Pm (xs ys : List Int) (lo hi : Nat) : Prop where
 perm : ys.Perm xs
 out : ∀ p, p < lo ∨ hi ≤ p → ys.getD p 0 = xs.getD p 0
theorem Pm.refl (xs : List Int) (lo hi : Nat) : Pm xs xs lo hi := ⟨.refl _, fun _ _ => rfl⟩
theorem Pm.trans {xs ys zs : List Int} {lo hi : Nat} (h : Pm xs ys lo hi) (k : Pm ys zs lo hi) : Pm xs zs lo hi := ⟨k.perm.trans h.perm, fun p hp => (k.out p hp).trans (h.out p hp)⟩
theorem Pm.mono {xs ys : List Int} {lo hi lo' hi' : Nat} (h : Pm xs ys lo hi) (h1 : lo' ≤ lo) (h2 : hi ≤ hi') : Pm xs ys lo' hi' := ⟨h.perm, fun p hp => h.out p (by omega)⟩
theorem Pm.len {xs ys : List Int} {lo hi : Nat} (h : Pm xs ys lo hi) : ys.length = xs.length := h.perm.length_eq
theorem Pm.sw {xs ys : List Int} {lo hi i j : Nat} (h : Pm xs ys lo hi) (hi1 : lo ≤ i ∧ i < hi) (hj1 : lo ≤ j ∧ j < hi) (hl : hi ≤ xs.length) : Pm xs (sw ys i j) lo hi := by
 have hlen := h.len
 refine ⟨(wm (by omega) (by omega)).trans h.perm, fun p hp => ?_⟩
 rw [u6 (by omega) (by omega), if_neg (by omega), if_neg (by omega)]
 exact h.out p hp
def kf (l : List G.Command) (ys : List Int) : Prop := ∀ x ∈ ys, Ix l x
theorem Pm.all {l : List G.Command} {xs ys : List Int} {lo hi : Nat} (h : Pm xs ys lo hi) (ha : kf l xs) : kf l ys := fun x hx => ha x (h.perm.mem_iff.1 hx)
theorem kf.get {l : List G.Command} {ys : List Int} (h : kf l ys) {p : Nat} (hp : p < ys.length) : Ix l (ys.getD p 0) := by
 have : ys.getD p 0 = ys[p] := by simp [hp]
 rw [this]; exact h _ (List.getElem_mem hp)
def mA (l : List G.Command) (ys : List Int) (lo hi : Nat) : Prop := ∀ p q, lo ≤ p → p < q → q < hi → key l (ys.getD p 0) ≤ key l (ys.getD q 0)
theorem mA.iV {l : List G.Command} {xs ys : List Int} {lo hi a b : Nat} (h : mA l xs lo hi) (hp : Pm xs ys a b) (hd : hi ≤ a ∨ b ≤ lo) : mA l ys lo hi := fun p q h1 h2 h3 => by
 rw [hp.out p (by omega), hp.out q (by omega)]; exact h p q h1 h2 h3
def E9 : Nat := 1125899906842624
theorem hZ : E9 = 1125899906842624 := rfl
section
variable {l : List G.Command}
theorem FF {a i : Nat} {ys : List Int} {w : Int × List Int} (hw : w.1 = (i : Int)) (hall : kf l ys) (hi : i < ys.length) (ha : a ≤ i) (hb : ys.length ≤ E9) (hs : mA l ys a i) :
 ∃ zs, Iter (G.aO (a : Int) l w) ((i : Int), ys) = some (.inl (((i + 1 : Nat) : Int), zs)) ∧ Pm ys zs a (i + 1) ∧ mA l zs a (i + 1) := by
 rw [hZ] at hb
 obtain ⟨r, hr, zs, rfl, h1, h2⟩ := bP (f := G.aO (a : Int) l w)
  (fun k s => ∃ (j : Nat) (zs : List Int), s = ((j : Int), zs) ∧ k = j ∧ a ≤ j ∧ j ≤ i ∧ Pm ys zs a (i + 1) ∧ ∀ p q, a ≤ p → p < q → q ≤ i → q ≠ j → key l (zs.getD p 0) ≤ key l (zs.getD q 0))
  (fun r => ∃ zs, r = .inl (((i + 1 : Nat) : Int), zs) ∧ Pm ys zs a (i + 1) ∧ mA l zs a (i + 1)) (by
  rintro k s ⟨j, zs, rfl, hkj, hj1, hj2, hp, ho⟩
  have hlen := hp.len
  have hal := hp.all hall
  unfold G.aO
  have done : (∀ p, a ≤ p → p < j → key l (zs.getD p 0) ≤ key l (zs.getD j 0)) → mA l zs a (i + 1) := fun hd p q h1 h2 h3 => by
   by_cases hq : q = j
   · subst hq; exact hd p h1 h2
   · exact ho p q h1 h2 (by omega) hq
  by_cases hja : j > a
  · have hj' : IntKind.i64.wrap ((j : Int) - 1) = ((j - 1 : Nat) : Int) := by rw [eK (by omega) (by omega)]; omega
    obtain ⟨c, hc, hcl⟩ := z5 (l := l) (hal.get (p := j) (by omega)) (hal.get (p := j - 1) (by omega))
    rw [if_pos (show (j : Int) > (a : Int) by omega), hj', bn (0 : Int) (show j < zs.length by omega), bn (0 : Int) (show j - 1 < zs.length by omega)]
    simp only [Option.bind_some, hc]
    by_cases hlt : c < 0
    · left
      rw [if_pos (by simpa using hlt)]
      obtain ⟨x, hx⟩ := jM (l := zs.set j (zs.getD (j - 1) 0)) (i := ((j - 1 : Nat) : Int)) (k := j - 1) rfl (by simp; omega)
      simp only [Int.toNat_natCast, hx, Option.bind_some]
      refine ⟨j - 1, _, rfl, by omega, j - 1, sw zs j (j - 1), rfl, rfl, by omega, by omega, hp.sw (by omega) (by omega) (by omega), fun p q h1 h2 h3 h4 => ?_⟩
      rw [u6 (by omega) (by omega), u6 (by omega) (by omega)]
      have hk := hcl.1 hlt
      by_cases e1 : p = j - 1
      · rw [if_pos e1]
        by_cases e2 : q = j
        · rw [if_neg (by omega), if_pos e2]; omega
        · rw [if_neg h4, if_neg e2]
          exact ho j q (by omega) (by omega) h3 e2
      · rw [if_neg e1]
        by_cases e3 : p = j
        · rw [if_pos e3, if_neg h4, if_neg (by omega)]
          exact ho (j - 1) q (by omega) (by omega) h3 (by omega)
        · rw [if_neg e3, if_neg h4]
          by_cases e2 : q = j
          · rw [if_pos e2]; exact ho p (j - 1) h1 (by omega) (by omega) (by omega)
          · rw [if_neg e2]; exact ho p q h1 h2 h3 e2
    · right
      rw [if_neg (by simpa using hlt)]
      refine ⟨_, rfl, zs, by rw [hw, ea (n := 1125899906842625) (by omega) (by omega)], hp, done fun p h1 h2 => ?_⟩
      have hk : key l (zs.getD (j - 1) 0) ≤ key l (zs.getD j 0) := by
       have := fun h => hlt (hcl.2 h)
       omega
      by_cases e : p = j - 1
      · rw [e]; exact hk
      · exact Int.le_trans (ho p (j - 1) h1 (by omega) (by omega) (by omega)) hk
  · right
    rw [if_neg (show ¬ (j : Int) > (a : Int) by omega)]
    simp only [Option.bind_some, Bool.false_eq_true, if_false]
    exact ⟨_, rfl, zs, by rw [hw, ea (n := 1125899906842625) (by omega) (by omega)], hp, done fun p h1 h2 => by omega⟩) i ((i : Int), ys) ⟨i, ys, rfl, rfl, ha, Nat.le_refl _, Pm.refl _ _ _, fun p q h1 h2 h3 h4 => hs p q h1 h2 (by omega)⟩
 exact ⟨zs, hr, h1, h2⟩
theorem sI {a b : Nat} {ys : List Int} (hall : kf l ys) (hab : a ≤ b) (hbl : b ≤ ys.length) (hb : ys.length ≤ E9) :
 ∃ zs, G.aJ ys (a : Int) (b : Int) l = some zs ∧ Pm ys zs a b ∧ mA l zs a b := by
 have hb' := hb
 rw [hZ] at hb'
 unfold G.aJ
 rw [ea (k := a) (n := 1125899906842625) (by omega) (by omega)]
 refine bP (fun k s => ∃ (i : Nat) (zs : List Int), s = ((i : Int), zs) ∧ k = b + 1 - i ∧ a + 1 ≤ i ∧ (i ≤ b ∨ i = a + 1) ∧ Pm ys zs a b ∧ mA l zs a i)
  (fun zs => Pm ys zs a b ∧ mA l zs a b) ?_ _ _ ⟨a + 1, ys, rfl, rfl, Nat.le_refl _, .inr rfl, Pm.refl _ _ _, fun p q h1 h2 h3 => by omega⟩
 rintro k s ⟨i, zs, rfl, rfl, h1, h2, hp, hs⟩
 have hlen := hp.len
 unfold G.bT
 by_cases hib : i < b
 · left
   rw [if_pos (show (i : Int) < (b : Int) by omega)]
   obtain ⟨ws, hw, h3, h4⟩ := FF (l := l) (a := a) (i := i) (ys := zs) (w := ((i : Int), zs)) rfl (hp.all hall) (by omega) (by omega) (by rw [hZ]; omega) hs
   exact ⟨b + 1 - (i + 1), _, hw, by omega, i + 1, ws, rfl, rfl, by omega, .inl (by omega), hp.trans (h3.mono (Nat.le_refl _) (by omega)), h4⟩
 · right
   rw [if_neg (show ¬ (i : Int) < (b : Int) by omega)]
   exact ⟨_, rfl, hp, fun p q h3 h4 h5 => hs p q h3 h4 (by omega)⟩
theorem nE {a b n : Nat} {ys : List Int} (hab : a + n ≤ b) (hbl : b + n ≤ ys.length) (hb : ys.length ≤ E9) :
 ∃ zs, G.aF ys (a : Int) (b : Int) (n : Int) l = some zs ∧ zs.Perm ys ∧
  ∀ p, zs.getD p 0 = if a ≤ p ∧ p < a + n then ys.getD (p - a + b) 0 else if b ≤ p ∧ p < b + n then ys.getD (p - b + a) 0 else ys.getD p 0 := by
 rw [hZ] at hb
 unfold G.aF
 refine bP (fun k s => ∃ (i : Nat) (zs : List Int), s = ((i : Int), zs) ∧ k = n - i ∧ i ≤ n ∧ zs.Perm ys ∧ ∀ p, zs.getD p 0 = if a ≤ p ∧ p < a + i then ys.getD (p - a + b) 0 else if b ≤ p ∧ p < b + i then ys.getD (p - b + a) 0 else ys.getD p 0)
  (fun zs : List Int => zs.Perm ys ∧ ∀ p, zs.getD p 0 = if a ≤ p ∧ p < a + n then ys.getD (p - a + b) 0 else if b ≤ p ∧ p < b + n then ys.getD (p - b + a) 0 else ys.getD p 0) ?_ _ _
  ⟨0, ys, rfl, rfl, Nat.zero_le _, .refl _, fun p => by rw [if_neg (by omega), if_neg (by omega)]⟩
 rintro k s ⟨i, zs, rfl, rfl, hi, hp, hg⟩
 have hlen := hp.length_eq
 unfold G.cf
 by_cases hin : i < n
 · left
   have e1 : IntKind.i64.wrap ((a : Int) + (i : Int)) = ((a + i : Nat) : Int) := by rw [eK (by omega) (by omega)]; omega
   have e2 : IntKind.i64.wrap ((b : Int) + (i : Int)) = ((b + i : Nat) : Int) := by rw [eK (by omega) (by omega)]; omega
   rw [if_pos (show (i : Int) < (n : Int) by omega), e1, e2, bn (0 : Int) (show b + i < zs.length by omega), bn (0 : Int) (show a + i < zs.length by omega)]
   obtain ⟨x, hx⟩ := jM (l := zs.set (a + i) (zs.getD (b + i) 0)) (i := ((b + i : Nat) : Int)) (k := b + i) rfl (by simp; omega)
   simp only [Option.bind_some, Int.toNat_natCast, hx, ea hin (by omega)]
   refine ⟨n - (i + 1), _, rfl, by omega, i + 1, sw zs (a + i) (b + i), rfl, rfl, by omega, (wm (by omega) (by omega)).trans hp, fun p => ?_⟩
   rw [u6 (by omega) (by omega), hg (a + i), hg (b + i), hg p]
   repeat' split
   all_goals first | rfl | omega | (congr 1; omega)
 · right
   rw [if_neg (show ¬ (i : Int) < (n : Int) by omega)]
   have : i = n := by omega
   subst this
   exact ⟨_, rfl, hp, hg⟩
def xK (f : Nat → Int) (lo m hi p : Nat) : Int := if p < lo ∨ hi ≤ p then f p else if p < lo + (hi - m) then f (p + (m - lo)) else f (p - (hi - m))
theorem F4 {a m b : Nat} {ys : List Int} (ham : a < m) (hmb : m < b) (hbl : b ≤ ys.length) (hb : ys.length ≤ E9) :
 ∃ zs, G.aQ ys (a : Int) (m : Int) (b : Int) l = some zs ∧ zs.Perm ys ∧ ∀ p, zs.getD p 0 = xK (fun p => ys.getD p 0) a m b p := by
 have hb' := hb
 rw [hZ] at hb'
 unfold G.aQ
 have e1 : IntKind.i64.wrap ((m : Int) - (a : Int)) = ((m - a : Nat) : Int) := by rw [eK (by omega) (by omega)]; omega
 have e2 : IntKind.i64.wrap ((b : Int) - (m : Int)) = ((b - m : Nat) : Int) := by rw [eK (by omega) (by omega)]; omega
 rw [e1, e2]
 obtain ⟨r, hr, i, zs, rfl, hi1, hi2, hi3, hp, hg⟩ := bP (f := G.bC (m : Int) l)
  (fun k s => ∃ (i j : Nat) (zs : List Int), s = ((i : Int), (j : Int), zs) ∧ k = i + j ∧ 0 < i ∧ 0 < j ∧ i ≤ m - a ∧ j ≤ b - m ∧ zs.Perm ys ∧ ∀ p, xK (fun p => ys.getD p 0) a m b p = xK (fun p => zs.getD p 0) (m - i) m (m + j) p)
  (fun r => ∃ (i : Nat) (zs : List Int), r = ((i : Int), zs) ∧ 0 < i ∧ i ≤ m - a ∧ i ≤ b - m ∧ zs.Perm ys ∧ ∀ p, xK (fun p => ys.getD p 0) a m b p = xK (fun p => zs.getD p 0) (m - i) m (m + i) p) (by
  rintro k s ⟨i, j, zs, rfl, rfl, h1, h2, h3, h4, hp, hg⟩
  have hlen := hp.length_eq
  have e3 : IntKind.i64.wrap ((m : Int) - (i : Int)) = ((m - i : Nat) : Int) := by rw [eK (by omega) (by omega)]; omega
  unfold G.bC
  by_cases hij : i = j
  · right
    subst hij
    rw [if_neg (by simp)]
    exact ⟨_, rfl, i, zs, rfl, h1, h3, h4, hp, hg⟩
  · left
    rw [if_pos (show ((i : Int), (j : Int), zs).1 ≠ ((i : Int), (j : Int), zs).2.1 by simp; omega)]
    by_cases hgt : i > j
    · rw [if_pos (show ((i : Int), (j : Int), zs).1 > ((i : Int), (j : Int), zs).2.1 by simp; omega)]
      obtain ⟨ws, hw, hq, hz⟩ := nE (l := l) (a := m - i) (b := m) (n := j) (ys := zs) (by omega) (by omega) (by rw [hZ]; omega)
      have e4 : IntKind.i64.wrap ((i : Int) - (j : Int)) = ((i - j : Nat) : Int) := by rw [eK (by omega) (by omega)]; omega
      simp only [e3, hw, Option.bind_some, e4]
      refine ⟨i - j + j, _, rfl, by omega, i - j, j, ws, rfl, rfl, by omega, h2, by omega, h4, hq.trans hp, fun p => ?_⟩
      rw [hg p]
      unfold xK
      simp only [hz]
      repeat' split
      all_goals first | rfl | omega | (congr 1; omega)
    · rw [if_neg (show ¬ ((i : Int), (j : Int), zs).1 > ((i : Int), (j : Int), zs).2.1 by simp; omega)]
      have e5 : IntKind.i64.wrap (IntKind.i64.wrap ((m : Int) + (j : Int)) - (i : Int)) = ((m + j - i : Nat) : Int) := by rw [eK (x := (m : Int) + (j : Int)) (by omega) (by omega), eK (by omega) (by omega)]; omega
      obtain ⟨ws, hw, hq, hz⟩ := nE (l := l) (a := m - i) (b := m + j - i) (n := i) (ys := zs) (by omega) (by omega) (by rw [hZ]; omega)
      have e4 : IntKind.i64.wrap ((j : Int) - (i : Int)) = ((j - i : Nat) : Int) := by rw [eK (by omega) (by omega)]; omega
      simp only [e3, e5, hw, Option.bind_some, e4]
      refine ⟨i + (j - i), _, rfl, by omega, i, j - i, ws, rfl, rfl, h1, by omega, h3, by omega, hq.trans hp, fun p => ?_⟩
      rw [hg p]
      unfold xK
      simp only [hz]
      repeat' split
      all_goals first | rfl | omega | (congr 1; omega)) _ _
  ⟨m - a, b - m, ys, rfl, rfl, by omega, by omega, Nat.le_refl _, Nat.le_refl _, .refl _, fun p => by rw [show m - (m - a) = a by omega, show m + (b - m) = b by omega]⟩
 rw [hr]
 have hlen := hp.length_eq
 have e3 : IntKind.i64.wrap ((m : Int) - (i : Int)) = ((m - i : Nat) : Int) := by rw [eK (by omega) (by omega)]; omega
 simp only [Option.bind_some, e3]
 obtain ⟨ws, hw, hq, hz⟩ := nE (l := l) (a := m - i) (b := m) (n := i) (ys := zs) (by omega) (by omega) (by rw [hZ]; omega)
 rw [hw]
 refine ⟨ws, rfl, hq.trans hp, fun p => ?_⟩
 rw [hz p, hg p]
 unfold xK
 repeat' split
 all_goals first | rfl | omega | (congr 1; omega)
end
end G
end Go.Proofs.YtekpafdhgkocaaaGreat
namespace Go.Proofs.YtekpafdhgkocaaaGreat
open G
namespace G
theorem zY {f : Int × Int → Option ((Int × Int) ⊕ Int)} (T : Nat → Prop) (lo hi : Nat) (hle : lo ≤ hi)
 (hstep : ∀ i j : Nat, lo ≤ i → i < j → j ≤ hi → (T ((i + j) / 2) ∧ f ((i : Int), (j : Int)) = some (.inl ((((i + j) / 2 + 1 : Nat) : Int), (j : Int)))) ∨ (¬ T ((i + j) / 2) ∧ f ((i : Int), (j : Int)) = some (.inl ((i : Int), (((i + j) / 2 : Nat) : Int)))))
 (hend : ∀ i : Nat, f ((i : Int), (i : Int)) = some (.inr (i : Int))) (mono : ∀ p q, lo ≤ p → p ≤ q → q < hi → T q → T p) :
 ∃ s : Nat, Iter f ((lo : Int), (hi : Int)) = some (s : Int) ∧ lo ≤ s ∧ s ≤ hi ∧ (∀ p, lo ≤ p → p < s → T p) ∧ ∀ p, s ≤ p → p < hi → ¬ T p := by
 obtain ⟨r, hr, s, rfl, h⟩ := bP (f := f)
  (fun k s => ∃ i j : Nat, s = ((i : Int), (j : Int)) ∧ k = j - i ∧ lo ≤ i ∧ i ≤ j ∧ j ≤ hi ∧ (∀ p, lo ≤ p → p < i → T p) ∧ ∀ p, j ≤ p → p < hi → ¬ T p)
  (fun r => ∃ s : Nat, r = (s : Int) ∧ lo ≤ s ∧ s ≤ hi ∧ (∀ p, lo ≤ p → p < s → T p) ∧ ∀ p, s ≤ p → p < hi → ¬ T p) (by
  rintro k s ⟨i, j, rfl, rfl, h1, h2, h3, h4, h5⟩
  by_cases hij : i < j
  · left
    rcases hstep i j h1 hij h3 with ⟨ht, hf⟩ | ⟨ht, hf⟩
    · exact ⟨j - ((i + j) / 2 + 1), _, hf, by omega, (i + j) / 2 + 1, j, rfl, rfl, by omega, by omega, h3, fun p hp1 hp2 => mono p _ hp1 (by omega) (by omega) ht, h5⟩
    · exact ⟨(i + j) / 2 - i, _, hf, by omega, i, (i + j) / 2, rfl, rfl, h1, by omega, by omega, h4, fun p hp1 hp2 ht' => ht (mono _ p (by omega) hp1 hp2 ht')⟩
  · right
    have : i = j := by omega
    subst this
    exact ⟨_, hend i, i, rfl, h1, h3, h4, h5⟩) _ _
  ⟨lo, hi, rfl, rfl, Nat.le_refl _, hle, Nat.le_refl _, fun p h1 h2 => by omega, fun p h1 h2 => by omega⟩
 exact ⟨s, hr, h⟩
section
variable {l : List G.Command}
theorem fV {ys zs : List Int} {lo m hi : Nat} (hz : ∀ p, zs.getD p 0 = xK (fun p => ys.getD p 0) lo m hi p) (p : Nat) :
 key l (zs.getD p 0) = if p < lo ∨ hi ≤ p then key l (ys.getD p 0) else if p < lo + (hi - m) then key l (ys.getD (p + (m - lo)) 0) else key l (ys.getD (p - (hi - m)) 0) := by
 rw [hz]; unfold xK; split
 · rfl
 · split <;> rfl
theorem DC {ys zs : List Int} {lo m hi : Nat} (hp : zs.Perm ys) (hz : ∀ p, zs.getD p 0 = xK (fun p => ys.getD p 0) lo m hi p) : Pm ys zs lo hi := ⟨hp, fun p h => by rw [hz]; unfold xK; rw [if_pos h]⟩
theorem HF {i j : Nat} (h : i + j ≤ 9223372036854775807) : IntKind.i64.wrap (bN .u64 (IntKind.u64.wrap (IntKind.i64.wrap ((i : Int) + (j : Int)))) 1) = (((i + j) / 2 : Nat) : Int) := Mx (by omega) h
theorem OX {ys : List Int} {a b : Nat} (hall : kf l ys) (hab : a + 1 < b) (hbl : b ≤ ys.length) (hb : ys.length ≤ E9) (hs : mA l ys (a + 1) b) :
 ∃ zs, (∀ fx, G.ay fx ys (a : Int) ((a + 1 : Nat) : Int) (b : Int) l = some zs) ∧ Pm ys zs a b ∧ mA l zs a b := by
 have hb' := hb
 rw [hZ] at hb'
 obtain ⟨s, hs1, h1, h2, h3, h4⟩ := zY (f := G.aX ys (a : Int) l) (fun p => key l (ys.getD p 0) < key l (ys.getD a 0)) (a + 1) b (by omega)
  (fun i j hi hij hj => by
   obtain ⟨c, hc, hcl⟩ := z5 (l := l) (hall.get (p := (i + j) / 2) (by omega)) (hall.get (p := a) (by omega))
   unfold G.aX
   rw [if_pos (show ((i : Int), (j : Int)).1 < ((i : Int), (j : Int)).2 by simp; omega)]
   simp only [HF (show i + j ≤ 9223372036854775807 by omega)]
   rw [bn (0 : Int) (show (i + j) / 2 < ys.length by omega), bn (0 : Int) (show a < ys.length by omega)]
   simp only [Option.bind_some, hc]
   by_cases hlt : c < 0
   · left
     rw [if_pos hlt, ea (n := 1125899906842625) (by omega) (by omega)]
     exact ⟨hcl.1 hlt, rfl⟩
   · right
     rw [if_neg hlt]
     exact ⟨fun h => hlt (hcl.2 h), rfl⟩)
  (fun i => by unfold G.aX; rw [if_neg (by simp)])
  (fun p q hp hpq hq ht => by
   by_cases e : p = q
   · subst e; exact ht
   · exact Int.lt_of_le_of_lt (hs p q hp (by omega) hq) ht)
 obtain ⟨r, hr, zs, rfl, hp, hz⟩ := bP (f := G.bu (s : Int))
  (fun k st => ∃ (i : Nat) (zs : List Int), st = ((i : Int), zs) ∧ k = s - 1 - i ∧ a ≤ i ∧ i ≤ s - 1 ∧ zs.Perm ys ∧ ∀ p, zs.getD p 0 = xK (fun p => ys.getD p 0) a (a + 1) (i + 1) p)
  (fun r => ∃ zs : List Int, r = .inr zs ∧ zs.Perm ys ∧ ∀ p, zs.getD p 0 = xK (fun p => ys.getD p 0) a (a + 1) s p) (by
   rintro k st ⟨i, zs, rfl, rfl, hi1, hi2, hp, hz⟩
   have hlen := hp.length_eq
   unfold G.bu
   have e1 : IntKind.i64.wrap ((s : Int) - 1) = ((s - 1 : Nat) : Int) := by rw [eK (by omega) (by omega)]; omega
   rw [e1]
   by_cases hlt : i < s - 1
   · left
     have e2 : IntKind.i64.wrap ((i : Int) + 1) = ((i + 1 : Nat) : Int) := ea (n := 1125899906842625) (by omega) (by omega)
     rw [if_pos (show ((i : Int), zs).1 < ((s - 1 : Nat) : Int) by simp; omega)]
     obtain ⟨x, hx⟩ := jM (l := zs.set i (zs.getD (i + 1) 0)) (i := ((i + 1 : Nat) : Int)) (k := i + 1) rfl (by simp; omega)
     simp only [e2, bn (0 : Int) (show i + 1 < zs.length by omega), bn (0 : Int) (show i < zs.length by omega), Option.bind_some, Int.toNat_natCast, hx]
     refine ⟨s - 1 - (i + 1), _, rfl, by omega, i + 1, sw zs i (i + 1), rfl, rfl, by omega, by omega, (wm (by omega) (by omega)).trans hp, fun p => ?_⟩
     rw [u6 (by omega) (by omega), hz i, hz (i + 1), hz p]
     unfold xK
     repeat' split
     all_goals first | rfl | omega | (congr 1; omega)
   · right
     rw [if_neg (show ¬ ((i : Int), zs).1 < ((s - 1 : Nat) : Int) by simp; omega)]
     exact ⟨_, rfl, zs, rfl, hp, by rw [show s = i + 1 by omega]; exact hz⟩) _ _
  ⟨a, ys, rfl, rfl, Nat.le_refl _, by omega, .refl _, fun p => by unfold xK; (repeat' split); all_goals (first | rfl | omega | (congr 1; omega))⟩
 refine ⟨zs, fun fx => ?_, (DC hp hz).mono (Nat.le_refl _) h2, fun p q h5 h6 h7 => ?_⟩
 · unfold G.ay
   rw [if_pos (by rw [eK (by omega) (by omega)]; omega), hs1]
   simp only [Option.bind_some, hr, zh]
 · rw [fV hz, fV hz]
   by_cases c1 : p < a + (s - (a + 1))
   · rw [if_neg (by omega), if_pos c1]
     by_cases c2 : q < a + (s - (a + 1))
     · rw [if_neg (by omega), if_pos c2]; exact hs _ _ (by omega) (by omega) (by omega)
     · by_cases c3 : s ≤ q
       · rw [if_pos (.inr c3)]; exact hs _ _ (by omega) (by omega) h7
       · rw [if_neg (by omega), if_neg c2]
         have := h3 (p + (a + 1 - a)) (by omega) (by omega)
         rw [show q - (s - (a + 1)) = a by omega]; exact Int.le_of_lt this
   · by_cases c3 : s ≤ p
     · rw [if_pos (.inr c3), if_pos (.inr (by omega))]; exact hs _ _ (by omega) h6 h7
     · rw [if_neg (by omega), if_neg c1, if_pos (.inr (by omega)), show p - (s - (a + 1)) = a by omega]
       have := h4 q (by omega) h7
       omega
theorem OY {ys : List Int} {a m : Nat} (hall : kf l ys) (ham : a + 1 < m) (hbl : m + 1 ≤ ys.length) (hb : ys.length ≤ E9) (hs : mA l ys a m) :
 ∃ zs, (∀ fx, G.ay fx ys (a : Int) (m : Int) ((m + 1 : Nat) : Int) l = some zs) ∧ Pm ys zs a (m + 1) ∧ mA l zs a (m + 1) := by
 have hb' := hb
 rw [hZ] at hb'
 obtain ⟨s, hs1, h1, h2, h3, h4⟩ := zY (f := G.aY ys (m : Int) l) (fun p => ¬ key l (ys.getD m 0) < key l (ys.getD p 0)) a m (by omega)
  (fun i j hi hij hj => by
   obtain ⟨c, hc, hcl⟩ := z5 (l := l) (hall.get (p := m) (by omega)) (hall.get (p := (i + j) / 2) (by omega))
   unfold G.aY
   rw [if_pos (show ((i : Int), (j : Int)).1 < ((i : Int), (j : Int)).2 by simp; omega)]
   simp only [HF (show i + j ≤ 9223372036854775807 by omega)]
   rw [bn (0 : Int) (show (i + j) / 2 < ys.length by omega), bn (0 : Int) (show m < ys.length by omega)]
   simp only [Option.bind_some, hc]
   by_cases hlt : c < 0
   · right
     rw [if_neg (by simpa using hlt)]
     exact ⟨fun h => h (hcl.1 hlt), rfl⟩
   · left
     rw [if_pos (by simpa using hlt), ea (n := 1125899906842625) (by omega) (by omega)]
     exact ⟨fun h => hlt (hcl.2 h), rfl⟩)
  (fun i => by unfold G.aY; rw [if_neg (by simp)])
  (fun p q hp hpq hq ht => by
   by_cases e : p = q
   · subst e; exact ht
   · have := hs p q hp (by omega) hq
     omega)
 obtain ⟨r, hr, zs, rfl, hp, hz⟩ := bP (f := G.bw (s : Int))
  (fun k st => ∃ (i : Nat) (zs : List Int), st = ((i : Int), zs) ∧ k = i ∧ s ≤ i ∧ i ≤ m ∧ zs.Perm ys ∧ ∀ p, zs.getD p 0 = xK (fun p => ys.getD p 0) i m (m + 1) p)
  (fun r => ∃ zs : List Int, r = .inr zs ∧ zs.Perm ys ∧ ∀ p, zs.getD p 0 = xK (fun p => ys.getD p 0) s m (m + 1) p) (by
   rintro k st ⟨i, zs, rfl, rfl, hi1, hi2, hp, hz⟩
   have hlen := hp.length_eq
   unfold G.bw
   by_cases hlt : s < k
   · left
     have e2 : IntKind.i64.wrap ((k : Int) - 1) = ((k - 1 : Nat) : Int) := by rw [eK (by omega) (by omega)]; omega
     rw [if_pos (show ((k : Int), zs).1 > (s : Int) by simp; omega)]
     obtain ⟨x, hx⟩ := jM (l := zs.set k (zs.getD (k - 1) 0)) (i := ((k - 1 : Nat) : Int)) (k := k - 1) rfl (by simp; omega)
     simp only [e2, bn (0 : Int) (show k - 1 < zs.length by omega), bn (0 : Int) (show k < zs.length by omega), Option.bind_some, Int.toNat_natCast, hx]
     refine ⟨k - 1, _, rfl, by omega, k - 1, sw zs k (k - 1), rfl, rfl, by omega, by omega, (wm (by omega) (by omega)).trans hp, fun p => ?_⟩
     rw [u6 (by omega) (by omega), hz k, hz (k - 1), hz p]
     unfold xK
     repeat' split
     all_goals first | rfl | omega | (congr 1; omega)
   · right
     rw [if_neg (show ¬ ((k : Int), zs).1 > (s : Int) by simp; omega)]
     exact ⟨_, rfl, zs, rfl, hp, by rw [show s = k by omega]; exact hz⟩) _ _
  ⟨m, ys, rfl, rfl, h2, Nat.le_refl _, .refl _, fun p => by unfold xK; (repeat' split); all_goals (first | rfl | omega | (congr 1; omega))⟩
 refine ⟨zs, fun fx => ?_, (DC hp hz).mono h1 (Nat.le_refl _), fun p q h5 h6 h7 => ?_⟩
 · unfold G.ay
   rw [if_neg (by rw [eK (by omega) (by omega)]; omega)]
   simp only [Option.bind_some, jr]
   rw [if_pos (by rw [eK (by omega) (by omega)]; omega), hs1]
   simp only [Option.bind_some, hr, zh]
 · rw [fV hz, fV hz]
   by_cases c1 : p < s
   · rw [if_pos (.inl c1)]
     by_cases c2 : q < s
     · rw [if_pos (.inl c2)]; exact hs _ _ h5 h6 (by omega)
     · rw [if_neg (by omega)]
       by_cases c3 : q < s + (m + 1 - m)
       · rw [if_pos c3, show q + (m - s) = m by omega]
         have := h3 p h5 c1
         omega
       · rw [if_neg c3]; exact hs _ _ h5 (by omega) (by omega)
   · rw [if_neg (by omega), if_neg (show ¬ (q < s ∨ m + 1 ≤ q) by omega), if_neg (show ¬ q < s + (m + 1 - m) by omega)]
     by_cases c3 : p < s + (m + 1 - m)
     · rw [if_pos c3, show p + (m - s) = m by omega]
       have := h4 (q - (m + 1 - m)) (by omega) (by omega)
       omega
     · rw [if_neg c3]; exact hs _ _ (by omega) (by omega) (by omega)
theorem OZ {ys : List Int} {a m b : Nat} (hall : kf l ys) (ham : a + 1 < m) (hmb : m + 1 < b) (hbl : b ≤ ys.length) (hb : ys.length ≤ E9) (hs1 : mA l ys a m) (hs2 : mA l ys m b) :
 ∃ (ws : List Int) (s e c : Nat), (∀ fx, G.ay fx ys (a : Int) (m : Int) (b : Int) l =
  (if a < s ∧ s < c then fx (ws, (a : Int), (s : Int), (c : Int), l) else some ws).bind fun v => if c < e ∧ e < b then fx (v, (c : Int), (e : Int), (b : Int), l) else some v) ∧
  a < c ∧ c < b ∧ a ≤ s ∧ s ≤ c ∧ c ≤ e ∧ e ≤ b ∧ Pm ys ws a b ∧ mA l ws a s ∧ mA l ws s c ∧ mA l ws c e ∧ mA l ws e b ∧ ∀ p q, a ≤ p → p < c → c ≤ q → q < b → key l (ws.getD p 0) ≤ key l (ws.getD q 0) := by
 have hb' := hb
 rw [hZ] at hb'
 obtain ⟨c, hc⟩ : ∃ c, c = (a + b) / 2 := ⟨_, rfl⟩
 have eN : IntKind.i64.wrap ((c : Int) + (m : Int)) = ((c + m : Nat) : Int) := by rw [eK (by omega) (by omega)]; omega
 obtain ⟨lo, hi, hlo, hv3⟩ : ∃ lo hi : Nat, ((m ≤ c ∧ lo = a ∧ hi = m) ∨ (c < m ∧ lo = c + m - b ∧ hi = c)) ∧
  (if (m : Int) > (c : Int) then some ((IntKind.i64.wrap (((c + m : Nat) : Int) - (b : Int))), (c : Int)) else some ((a : Int), (m : Int))) = some ((lo : Int), (hi : Int)) := by
  by_cases h : c < m
  · refine ⟨c + m - b, c, .inr ⟨h, rfl, rfl⟩, ?_⟩
    rw [if_pos (by omega), eK (by omega) (by omega)]
    rw [show ((c + m : Nat) : Int) - (b : Int) = ((c + m - b : Nat) : Int) by omega]
  · exact ⟨a, m, .inl ⟨by omega, rfl, rfl⟩, by rw [if_neg (by omega)]⟩
 obtain ⟨s, hsr, h1, h2, h3, h4⟩ := zY (f := G.aZ ys (a : Int) (m : Int) (b : Int) l) (fun p => ¬ key l (ys.getD (c + m - 1 - p) 0) < key l (ys.getD p 0)) lo hi (by omega)
  (fun i j hi1 hij hj => by
   obtain ⟨d, hd⟩ : ∃ d, d = (i + j) / 2 := ⟨_, rfl⟩
   obtain ⟨v, hv, hvl⟩ := z5 (l := l) (hall.get (p := c + m - 1 - d) (by omega)) (hall.get (p := d) (by omega))
   unfold G.aZ
   rw [if_pos (show ((i : Int), (j : Int)).1 < ((i : Int), (j : Int)).2 by simp; omega)]
   simp only [HF (show i + j ≤ 9223372036854775807 by omega), HF (show a + b ≤ 9223372036854775807 by omega), ← hc, ← hd, eN]
   have e1 : IntKind.i64.wrap (IntKind.i64.wrap (((c + m : Nat) : Int) - 1) - (d : Int)) = ((c + m - 1 - d : Nat) : Int) := by rw [eK (x := ((c + m : Nat) : Int) - 1) (by omega) (by omega), eK (by omega) (by omega)]; omega
   rw [e1, bn (0 : Int) (show c + m - 1 - d < ys.length by omega), bn (0 : Int) (show d < ys.length by omega)]
   simp only [Option.bind_some, hv]
   by_cases hlt : v < 0
   · right
     rw [if_neg (by simpa using hlt)]
     exact ⟨fun h => h (hvl.1 hlt), rfl⟩
   · left
     rw [if_pos (by simpa using hlt), ea (n := 1125899906842625) (by omega) (by omega)]
     exact ⟨fun h => hlt (hvl.2 h), rfl⟩)
  (fun i => by unfold G.aZ; rw [if_neg (by simp)])
  (fun p q hp hpq hq ht => by
   by_cases e : p = q
   · subst e; exact ht
   · have k1 := hs1 p q (by omega) (by omega) (by omega)
     have k2 := hs2 (c + m - 1 - q) (c + m - 1 - p) (by omega) (by omega) (by omega)
     omega)
 obtain ⟨e, he⟩ : ∃ e, e = c + m - s := ⟨_, rfl⟩
 have eE : IntKind.i64.wrap (((c + m : Nat) : Int) - (s : Int)) = (e : Int) := by rw [eK (by omega) (by omega)]; omega
 obtain ⟨ws, hw, hp, hz⟩ : ∃ ws : List Int, ((if (s : Int) < (m : Int) then some (decide ((m : Int) < (e : Int))) else some false).bind fun v5 =>
  if v5 = true then (G.aQ ys (s : Int) (m : Int) (e : Int) l).bind fun y3 => some y3 else some ys) = some ws ∧ ws.Perm ys ∧ ∀ p, ws.getD p 0 = xK (fun p => ys.getD p 0) s m e p := by
  by_cases hsm : s < m
  · rw [if_pos (by omega)]
    by_cases hme : m < e
    · obtain ⟨ws, h5, h6, h7⟩ := F4 (l := l) (a := s) (m := m) (b := e) (ys := ys) hsm hme (by omega) hb
      simp only [Option.bind_some, show ((m : Int) < (e : Int)) = True by simp; omega, decide_true, if_true, h5]
      exact ⟨ws, rfl, h6, h7⟩
    · simp only [Option.bind_some, show ((m : Int) < (e : Int)) = False by simp; omega, decide_false, Bool.false_eq_true, if_false]
      refine ⟨ys, rfl, .refl _, fun p => ?_⟩
      unfold xK
      repeat' split
      all_goals first | rfl | omega | (congr 1; omega)
  · rw [if_neg (by omega)]
    refine ⟨ys, rfl, .refl _, fun p => ?_⟩
    unfold xK
    repeat' split
    all_goals first | rfl | omega | (congr 1; omega)
 refine ⟨ws, s, e, c, fun fx => ?_, by omega, by omega, by omega, by omega, by omega, by omega, (DC hp hz).mono (by omega) (by omega), ?_, ?_, ?_, ?_, ?_⟩
 · unfold G.ay
   rw [if_neg (by rw [eK (by omega) (by omega)]; omega)]
   simp only [Option.bind_some, jr]
   rw [if_neg (by rw [eK (by omega) (by omega)]; omega)]
   simp only [Option.bind_some, jr, HF (show a + b ≤ 9223372036854775807 by omega), ← hc, eN, hv3, hsr, eE]
   rw [← Option.bind_assoc, hw]
   simp only [Option.bind_some]
   have k1 : (if (a : Int) < (s : Int) then some (decide ((s : Int) < (c : Int))) else some false) = some (decide (a < s ∧ s < c)) := by
    by_cases h5 : a < s
    · rw [if_pos (by omega)]; congr 1; simp only [decide_eq_decide]; omega
    · rw [if_neg (by omega)]; congr 1; simp; omega
   have k2 : (if (c : Int) < (e : Int) then some (decide ((e : Int) < (b : Int))) else some false) = some (decide (c < e ∧ e < b)) := by
    by_cases h5 : c < e
    · rw [if_pos (by omega)]; congr 1; simp only [decide_eq_decide]; omega
    · rw [if_neg (by omega)]; congr 1; simp; omega
   simp only [k1, k2, Option.bind_some, decide_eq_true_eq, D3]
 · exact fun p q h5 h6 h7 => by rw [fV hz, fV hz, if_pos (.inl (by omega)), if_pos (.inl h7)]; exact hs1 p q h5 h6 (by omega)
 · exact fun p q h5 h6 h7 => by
    rw [fV hz, fV hz, if_neg (by omega), if_neg (show ¬ (q < s ∨ e ≤ q) by omega), if_pos (by omega), if_pos (by omega)]; exact hs2 _ _ (by omega) (by omega) (by omega)
 · exact fun p q h5 h6 h7 => by
    rw [fV hz, fV hz, if_neg (by omega), if_neg (show ¬ (q < s ∨ e ≤ q) by omega), if_neg (by omega), if_neg (by omega)]; exact hs1 _ _ (by omega) (by omega) (by omega)
 · exact fun p q h5 h6 h7 => by rw [fV hz, fV hz, if_pos (.inr h5), if_pos (.inr (by omega))]; exact hs2 p q (by omega) h6 h7
 · intro p q h5 h6 h7 h8
   rw [fV hz, fV hz]
   by_cases c1 : p < s
   · rw [if_pos (.inl c1)]
     by_cases c2 : q < e
     · rw [if_neg (by omega), if_neg (by omega)]; exact hs1 _ _ h5 (by omega) (by omega)
     · rw [if_pos (.inr (by omega))]
       have k1 := h3 (s - 1) (by omega) (by omega)
       rw [show c + m - 1 - (s - 1) = e by omega] at k1
       have k2 : key l (ys.getD p 0) ≤ key l (ys.getD (s - 1) 0) := by
        by_cases ee : p = s - 1
        · rw [ee]; exact Int.le_refl _
        · exact hs1 _ _ h5 (by omega) (by omega)
       have k3 : key l (ys.getD e 0) ≤ key l (ys.getD q 0) := by
        by_cases ee : e = q
        · rw [ee]; exact Int.le_refl _
        · exact hs2 _ _ (by omega) (by omega) h8
       omega
   · rw [if_neg (by omega), if_pos (by omega)]
     by_cases c2 : q < e
     · rw [if_neg (by omega), if_neg (by omega)]
       have k1 := h4 s (Nat.le_refl _) (by omega)
       rw [show c + m - 1 - s = e - 1 by omega] at k1
       have k2 : key l (ys.getD (p + (m - s)) 0) ≤ key l (ys.getD (e - 1) 0) := by
        by_cases ee : p + (m - s) = e - 1
        · rw [ee]; exact Int.le_refl _
        · exact hs2 _ _ (by omega) (by omega) (by omega)
       have k3 : key l (ys.getD s 0) ≤ key l (ys.getD (q - (e - m)) 0) := by
        by_cases ee : s = q - (e - m)
        · rw [← ee]; exact Int.le_refl _
        · exact hs1 _ _ (by omega) (by omega) (by omega)
       omega
     · rw [if_pos (.inr (by omega))]; exact hs2 _ _ (by omega) (by omega) h8
theorem mA.join {zs : List Int} {a c b : Nat} (h1 : mA l zs a c) (h2 : mA l zs c b) (h3 : ∀ p q, a ≤ p → p < c → c ≤ q → q < b → key l (zs.getD p 0) ≤ key l (zs.getD q 0)) : mA l zs a b := fun p q h4 h5 h6 => by
 by_cases hq : q < c
 · exact h1 p q h4 h5 hq
 · by_cases hp : p < c
   · exact h3 p q h4 hp (by omega) h6
   · exact h2 p q (by omega) h5 h6
theorem Pm.any {xs zs : List Int} {lo hi : Nat} (h : Pm xs zs lo hi) (hl : hi ≤ xs.length) {p : Nat} (h1 : lo ≤ p) (h2 : p < hi) : ∃ q, lo ≤ q ∧ q < hi ∧ zs.getD p 0 = xs.getD q 0 := by
 have hlen := h.len
 have split : ∀ ws : List Int, ws.length = xs.length → ws = ws.take lo ++ ((ws.drop lo).take (hi - lo) ++ ws.drop hi) := fun ws hw => by
  have := List.take_append_drop (hi - lo) (ws.drop lo)
  rw [List.drop_drop, show lo + (hi - lo) = hi by omega] at this
  rw [this, List.take_append_drop]
 have e1 : zs.take lo = xs.take lo := List.ext_getElem? fun i => by
  simp only [List.getElem?_take]
  split
  · have := h.out i (.inl (by assumption))
    simp only [List.getD_eq_getElem?_getD] at this
    rw [List.getElem?_eq_getElem (by omega), List.getElem?_eq_getElem (by omega)] at this ⊢
    simpa using this
  · rfl
 have e2 : zs.drop hi = xs.drop hi := List.ext_getElem? fun i => by
  simp only [List.getElem?_drop]
  have := h.out (hi + i) (.inr (by omega))
  simp only [List.getD_eq_getElem?_getD] at this
  by_cases hi' : hi + i < xs.length
  · rw [List.getElem?_eq_getElem (by omega), List.getElem?_eq_getElem hi'] at this ⊢
    simpa using this
  · rw [List.getElem?_eq_none (by omega), List.getElem?_eq_none (by omega)]
 have hp := h.perm
 rw [split zs hlen, split xs rfl, e1, e2] at hp
 have hm := (List.perm_append_right_iff _).1 ((List.perm_append_left_iff _).1 hp)
 have hmem : zs.getD p 0 ∈ (zs.drop lo).take (hi - lo) := by
  have : zs.getD p 0 = zs[p] := by simp [show p < zs.length by omega]
  rw [this]
  refine List.mem_iff_getElem?.2 ⟨p - lo, ?_⟩
  rw [List.getElem?_take, if_pos (by omega), List.getElem?_drop, show lo + (p - lo) = p by omega, List.getElem?_eq_getElem (by omega)]
 obtain ⟨i, hi'⟩ := List.mem_iff_getElem?.1 (hm.mem_iff.1 hmem)
 rw [List.getElem?_take] at hi'
 split at hi'
 · rw [List.getElem?_drop] at hi'
   refine ⟨lo + i, by omega, by omega, ?_⟩
   rw [List.getD_eq_getElem?_getD (l := xs), hi']; rfl
 · cases hi'
theorem IX {ys : List Int} {a m b : Nat} (hall : kf l ys) (ham : a < m) (hmb : m < b) (hbl : b ≤ ys.length) (hb : ys.length ≤ E9) (hs1 : mA l ys a m) (hs2 : mA l ys m b) :
 ∃ zs, G.aN ys (a : Int) (m : Int) (b : Int) l = some zs ∧ Pm ys zs a b ∧ mA l zs a b := by
 unfold G.aN
 obtain ⟨r, hr, a', b', ha', hb2, hp, hs⟩ := E1 (F := G.aK)
  (fun k x => ∃ (ys : List Int) (a m b : Nat), x = (ys, (a : Int), (m : Int), (b : Int), l) ∧ k = b - a ∧ a < m ∧ m < b ∧ b ≤ ys.length ∧ ys.length ≤ E9 ∧ kf l ys ∧ mA l ys a m ∧ mA l ys m b)
  (fun x r => ∃ a b : Nat, x.2.1 = (a : Int) ∧ x.2.2.2.1 = (b : Int) ∧ Pm x.1 r a b ∧ mA l r a b) (by
  rintro k x ⟨ys, a, m, b, rfl, rfl, ham, hmb, hbl, hb, hall, hs1, hs2⟩ f g hfg
  unfold G.aK
  by_cases c1 : m = a + 1
  · subst c1
    obtain ⟨zs, h1, h2, h3⟩ := OX hall hmb hbl hb hs2
    exact ⟨zs, h1 f, h1 g, a, b, rfl, rfl, h2, h3⟩
  · by_cases c2 : b = m + 1
    · subst c2
      obtain ⟨zs, h1, h2, h3⟩ := OY hall (by omega) hbl hb hs1
      exact ⟨zs, h1 f, h1 g, a, m + 1, rfl, rfl, h2, h3⟩
    · obtain ⟨ws, s, e, c, h1, k1, k2, k3, k4, k5, k6, hp, t1, t2, t3, t4, hx⟩ := OZ hall (by omega) (by omega) hbl hb hs1 hs2
      have hlen := hp.len
      simp only [h1]
      obtain ⟨us, hf, hg, hpu, hsu⟩ : ∃ us, (if a < s ∧ s < c then f (ws, (a : Int), (s : Int), (c : Int), l) else some ws) = some us ∧ (if a < s ∧ s < c then g (ws, (a : Int), (s : Int), (c : Int), l) else some ws) = some us ∧ Pm ws us a c ∧ mA l us a c := by
       by_cases h2 : a < s ∧ s < c
       · obtain ⟨r, hr1, hr2, a', b', q1, q2, q3, q4⟩ := hfg (c - a) (ws, (a : Int), (s : Int), (c : Int), l) (by omega) ⟨ws, a, s, c, rfl, rfl, h2.1, h2.2, by omega, by omega, hp.all hall, t1, t2⟩
         simp only at q1 q2 q3
         have e1 : a' = a := by omega
         have e2 : b' = c := by omega
         subst e1 e2
         exact ⟨r, by rw [if_pos h2]; exact hr1, by rw [if_pos h2]; exact hr2, q3, q4⟩
       · refine ⟨ws, by rw [if_neg h2], by rw [if_neg h2], Pm.refl _ _ _, ?_⟩
         by_cases h3 : s = a
         · rw [h3] at t2; exact t2
         · rw [show c = s by omega]; exact t1
      have hlu := hpu.len
      obtain ⟨vs, hf2, hg2, hpv, hsv⟩ : ∃ vs, (if c < e ∧ e < b then f (us, (c : Int), (e : Int), (b : Int), l) else some us) = some vs ∧ (if c < e ∧ e < b then g (us, (c : Int), (e : Int), (b : Int), l) else some us) = some vs ∧ Pm us vs c b ∧ mA l vs c b := by
       by_cases h2 : c < e ∧ e < b
       · obtain ⟨r, hr1, hr2, a', b', q1, q2, q3, q4⟩ := hfg (b - c) (us, (c : Int), (e : Int), (b : Int), l) (by omega) ⟨us, c, e, b, rfl, rfl, h2.1, h2.2, by omega, by omega, hpu.all (hp.all hall), t3.iV hpu (.inr (Nat.le_refl _)), t4.iV hpu (.inr (by omega))⟩
         simp only at q1 q2 q3
         have e1 : a' = c := by omega
         have e2 : b' = b := by omega
         subst e1 e2
         exact ⟨r, by rw [if_pos h2]; exact hr1, by rw [if_pos h2]; exact hr2, q3, q4⟩
       · refine ⟨us, by rw [if_neg h2], by rw [if_neg h2], Pm.refl _ _ _, ?_⟩
         by_cases h3 : e = c
         · rw [h3] at t4; exact t4.iV hpu (.inr (Nat.le_refl _))
         · rw [show b = e by omega]; exact t3.iV hpu (.inr (Nat.le_refl _))
      refine ⟨vs, by rw [hf]; exact hf2, by rw [hg]; exact hg2, a, b, rfl, rfl, (hp.trans (hpu.mono (Nat.le_refl _) (by omega))).trans (hpv.mono (by omega) (Nat.le_refl _)), (hsu.iV hpv (.inl (Nat.le_refl _))).join hsv fun p q h2 h3 h4 h5 => ?_⟩
      rw [hpv.out p (.inl h3)]
      obtain ⟨p', hp1, hp2, e1⟩ := hpu.any (by omega) h2 h3
      obtain ⟨q', hq1, hq2, e2⟩ := hpv.any (by omega) h4 h5
      rw [e1, e2, hpu.out q' (.inr hq1)]
      exact hx p' q' hp1 hp2 hq1 hq2) (k := b - a) (x := (ys, (a : Int), (m : Int), (b : Int), l)) ⟨ys, a, m, b, rfl, rfl, ham, hmb, hbl, hb, hall, hs1, hs2⟩
 simp only at ha' hb2 hp
 have e1 : a' = a := by omega
 have e2 : b' = b := by omega
 subst e1 e2
 exact ⟨r, hr, hp, hs⟩
end
end G
end Go.Proofs.YtekpafdhgkocaaaGreat
namespace Go.Proofs.YtekpafdhgkocaaaGreat
open G
namespace G
section
variable {l : List G.Command}
def A5 (l : List G.Command) (zs : List Int) (s lo n : Nat) : Prop := ∀ k, mA l zs (lo + k * s) (min (lo + k * s + s) n)
theorem A5.next {zs : List Int} {s lo n : Nat} (h : A5 l zs s lo n) (j : Nat) : A5 l zs s (lo + j * s) n := fun k => by
 have := h (j + k)
 rw [Nat.add_mul] at this
 rwa [show lo + j * s + k * s = lo + (j * s + k * s) by omega]
theorem A5.iV {xs ys : List Int} {s lo n a b : Nat} (h : A5 l xs s lo n) (hp : Pm xs ys a b) (hb : b ≤ lo) : A5 l ys s lo n := fun k => (h k).iV hp (.inr (by omega))
theorem A5.first {zs : List Int} {s lo n : Nat} (h : A5 l zs s lo n) : mA l zs lo (min (lo + s) n) := by have := h 0; simpa using this
theorem A5.second {zs : List Int} {s lo n : Nat} (h : A5 l zs s lo n) : mA l zs (lo + s) (min (lo + s + s) n) := by have := h 1; simpa using this
def ym (l : List G.Command) (zs : List Int) (s hi : Nat) : Prop := ∀ k, k * s + s ≤ hi → mA l zs (k * s) (k * s + s)
theorem ym.iV {xs ys : List Int} {s hi a b : Nat} (h : ym l xs s hi) (hp : Pm xs ys a b) (ha : hi ≤ a) : ym l ys s hi := fun k hk => (h k hk).iV hp (.inl (by omega))
theorem BU {n s : Nat} {ys : List Int} {w : Int × List Int} (hw : w.1 = (s : Int)) (hall : kf l ys) (hn : n = ys.length) (hb : ys.length ≤ E9) (hs : 0 < s) (hsn : s < n) (hB : A5 l ys s 0 n) :
 ∃ (a : Nat) (zs : List Int), Iter (G.bf (n : Int) l w) (0, IntKind.i64.wrap (2 * w.1), ys) = some ((a : Int), zs) ∧ Pm ys zs 0 n ∧ (∃ t, a = t * (2 * s)) ∧ a ≤ n ∧ n < a + 2 * s ∧ ym l zs (2 * s) a ∧ A5 l zs s a n := by
 have hb' := hb
 rw [hZ] at hb'
 have e2 : IntKind.i64.wrap (2 * w.1) = ((2 * s : Nat) : Int) := by rw [hw, eK (by omega) (by omega)]; omega
 obtain ⟨r, hr, a, zs, rfl, h⟩ := bP (f := G.bf (n : Int) l w)
  (fun k st => ∃ (a : Nat) (zs : List Int), st = ((a : Int), ((a + 2 * s : Nat) : Int), zs) ∧ k = n - a ∧ Pm ys zs 0 n ∧ (∃ t, a = t * (2 * s)) ∧ a ≤ n ∧ ym l zs (2 * s) a ∧ A5 l zs s a n)
  (fun r => ∃ (a : Nat) (zs : List Int), r = ((a : Int), zs) ∧ Pm ys zs 0 n ∧ (∃ t, a = t * (2 * s)) ∧ a ≤ n ∧ n < a + 2 * s ∧ ym l zs (2 * s) a ∧ A5 l zs s a n) (by
   rintro k st ⟨a, zs, rfl, rfl, hp, ⟨t, ht⟩, ha, hu, hbk⟩
   have hlen := hp.len
   unfold G.bf
   by_cases hlt : a + 2 * s ≤ n
   · left
     rw [if_pos (show ((a : Int), ((a + 2 * s : Nat) : Int), zs).2.1 ≤ (n : Int) by simp; omega)]
     have e3 : IntKind.i64.wrap ((a : Int) + w.1) = ((a + s : Nat) : Int) := by rw [hw, eK (by omega) (by omega)]; omega
     have e4 : IntKind.i64.wrap (((a + 2 * s : Nat) : Int) + IntKind.i64.wrap (2 * w.1)) = ((a + 2 * s + 2 * s : Nat) : Int) := by rw [e2, eK (by omega) (by omega)]; omega
     have f1 := hbk.first
     have f2 := hbk.second
     rw [show min (a + s) n = a + s by omega] at f1
     rw [show min (a + s + s) n = a + 2 * s by omega] at f2
     obtain ⟨ws, h1, h2, h3⟩ := IX (l := l) (ys := zs) (a := a) (m := a + s) (b := a + 2 * s) (hp.all hall) (by omega) (by omega) (by omega) (by omega) f1 f2
     simp only [e3, h1, Option.bind_some, e4]
     refine ⟨n - (a + 2 * s), _, rfl, by omega, a + 2 * s, ws, rfl, rfl, hp.trans (h2.mono (Nat.zero_le _) hlt), ⟨t + 1, by rw [Nat.add_mul]; omega⟩, hlt, fun k hk => ?_, ?_⟩
     · by_cases hk2 : k * (2 * s) + 2 * s ≤ a
       · exact (hu.iV h2 (Nat.le_refl _)) k hk2
       · have : k = t := by
          rcases Nat.lt_trichotomy k t with h | h | h
          · have h' := Nat.mul_le_mul_right (2 * s) (show k + 1 ≤ t from h)
            rw [Nat.add_mul] at h'
            omega
          · exact h
          · have h' := Nat.mul_le_mul_right (2 * s) (show t + 1 ≤ k from h)
            rw [Nat.add_mul] at h'
            omega
         subst this
         rw [← ht]; exact h3
     · have := (hbk.next 2).iV h2 (by omega)
       exact this
   · right
     rw [if_neg (show ¬ ((a : Int), ((a + 2 * s : Nat) : Int), zs).2.1 ≤ (n : Int) by simp; omega)]
     exact ⟨_, rfl, a, zs, rfl, hp, ⟨t, ht⟩, ha, by omega, hu, hbk⟩) n (0, IntKind.i64.wrap (2 * w.1), ys)
  ⟨0, ys, by rw [e2]; simp, rfl, Pm.refl _ _ _, ⟨0, by simp⟩, Nat.zero_le _, fun k hk => by omega, hB⟩
 exact ⟨a, zs, hr, h⟩
theorem CR {zs : List Int} {s a n : Nat} (hs : 0 < s) (ht : ∃ t, a = t * s) (hu : ym l zs s a) (hl : mA l zs a (min (a + s) n)) (hn : n ≤ a + s) : A5 l zs s 0 n := by
 obtain ⟨t, rfl⟩ := ht
 intro k
 rw [Nat.zero_add]
 by_cases h1 : k < t
 · have : (k + 1) * s ≤ t * s := Nat.mul_le_mul_right s h1
   rw [Nat.add_mul] at this
   have h2 := hu k (by omega)
   exact fun p q h3 h4 h5 => h2 p q h3 h4 (by omega)
 · by_cases h2 : k = t
   · subst h2; exact hl
   · have : (t + 1) * s ≤ k * s := Nat.mul_le_mul_right s (by omega)
     rw [Nat.add_mul] at this
     exact fun p q h3 h4 h5 => by omega
theorem Ai {n : Nat} {ys : List Int} (hall : kf l ys) (hn : n = ys.length) (hb : ys.length ≤ E9) :
 ∃ (a : Nat) (zs : List Int), Iter (G.bc (n : Int) l) (0, 20, ys) = some ((a : Int), zs) ∧ Pm ys zs 0 n ∧ (∃ t, a = t * 20) ∧ a ≤ n ∧ n < a + 20 ∧ ym l zs 20 a := by
 have hb' := hb
 rw [hZ] at hb'
 obtain ⟨r, hr, a, zs, rfl, h⟩ := bP (f := G.bc (n : Int) l)
  (fun k st => ∃ (a : Nat) (zs : List Int), st = ((a : Int), ((a + 20 : Nat) : Int), zs) ∧ k = n - a ∧ Pm ys zs 0 n ∧ (∃ t, a = t * 20) ∧ a ≤ n ∧ ym l zs 20 a)
  (fun r => ∃ (a : Nat) (zs : List Int), r = ((a : Int), zs) ∧ Pm ys zs 0 n ∧ (∃ t, a = t * 20) ∧ a ≤ n ∧ n < a + 20 ∧ ym l zs 20 a) (by
   rintro k st ⟨a, zs, rfl, rfl, hp, ⟨t, ht⟩, ha, hu⟩
   have hlen := hp.len
   unfold G.bc
   by_cases hlt : a + 20 ≤ n
   · left
     rw [if_pos (show ((a : Int), ((a + 20 : Nat) : Int), zs).2.1 ≤ (n : Int) by simp; omega)]
     have e4 : IntKind.i64.wrap (((a + 20 : Nat) : Int) + 20) = ((a + 20 + 20 : Nat) : Int) := by rw [eK (by omega) (by omega)]; omega
     obtain ⟨ws, h1, h2, h3⟩ := sI (l := l) (ys := zs) (a := a) (b := a + 20) (hp.all hall) (by omega) (by omega) (by omega)
     simp only [h1, Option.bind_some, e4]
     refine ⟨n - (a + 20), _, rfl, by omega, a + 20, ws, rfl, rfl, hp.trans (h2.mono (Nat.zero_le _) hlt), ⟨t + 1, by omega⟩, hlt, fun k hk => ?_⟩
     by_cases hk2 : k * 20 + 20 ≤ a
     · exact (hu.iV h2 (Nat.le_refl _)) k hk2
     · have : k = t := by omega
       subst this
       rw [← ht]; exact h3
   · right
     rw [if_neg (show ¬ ((a : Int), ((a + 20 : Nat) : Int), zs).2.1 ≤ (n : Int) by simp; omega)]
     exact ⟨_, rfl, a, zs, rfl, hp, ⟨t, ht⟩, ha, by omega, hu⟩) n (0, 20, ys)
  ⟨0, ys, rfl, rfl, Pm.refl _ _ _, ⟨0, rfl⟩, Nat.zero_le _, fun k hk => by omega⟩
 exact ⟨a, zs, hr, h⟩
theorem Gj {ys : List Int} (hall : kf l ys) (hb : ys.length ≤ E9) : ∃ zs, G.aW ys l = some zs ∧ zs.Perm ys ∧ mA l zs 0 ys.length := by
 have hb' := hb
 rw [hZ] at hb'
 obtain ⟨n, hn⟩ : ∃ n, n = ys.length := ⟨_, rfl⟩
 unfold G.aW G.bK
 rw [← hn]
 obtain ⟨a, zs, h1, hp, ht, ha1, ha2, hu⟩ := Ai hall hn hb
 have hlen := hp.len
 obtain ⟨ws, h2, hp2, hs2⟩ := sI (l := l) (ys := zs) (a := a) (b := n) (hp.all hall) ha1 (by omega) (by omega)
 have hB : A5 l ws 20 0 n := CR (by omega) ht (hu.iV hp2 (Nat.le_refl _)) (by rw [show min (a + 20) n = n by omega]; exact hs2) (by omega)
 rw [h1]
 simp only [Option.bind_some, h2, D3]
 obtain ⟨r, hr, h3, h4⟩ := bP (f := G.bD (n : Int) l)
  (fun k st => ∃ (s : Nat) (zs : List Int), st = ((s : Int), zs) ∧ k = n + 20 - s ∧ 20 ≤ s ∧ s ≤ 2 * n + 20 ∧ Pm ys zs 0 n ∧ A5 l zs s 0 n)
  (fun zs => Pm ys zs 0 n ∧ mA l zs 0 n) (by
   rintro k st ⟨s, zs, rfl, rfl, h5, h6, hp, hB⟩
   have hlen := hp.len
   unfold G.bD
   by_cases hlt : s < n
   · left
     rw [if_pos (show ((s : Int), zs).1 < (n : Int) by simp; omega)]
     obtain ⟨a, us, q1, q2, ⟨t, q3⟩, q4, q5, q6, q7⟩ := BU (l := l) (n := n) (s := s) (ys := zs) (w := ((s : Int), zs)) rfl (hp.all hall) (by omega) (by omega) (by omega) hlt hB
     have hl2 := q2.len
     have e1 : IntKind.i64.wrap ((a : Int) + (s : Int)) = ((a + s : Nat) : Int) := by rw [eK (by omega) (by omega)]; omega
     have e2 : IntKind.i64.wrap ((s : Int) * 2) = ((2 * s : Nat) : Int) := by rw [eK (by omega) (by omega)]; omega
     have f1 := q7.first
     have f2 := q7.second
     simp only [q1, Option.bind_some, e1, e2]
     by_cases hm : a + s < n
     · rw [if_pos (by omega)]
       rw [show min (a + s) n = a + s by omega] at f1
       rw [show min (a + s + s) n = n by omega] at f2
       obtain ⟨vs, g1, g2, g3⟩ := IX (l := l) (ys := us) (a := a) (m := a + s) (b := n) (q2.all (hp.all hall)) (by omega) hm (by omega) (by omega) f1 f2
       simp only [g1, Option.bind_some]
       exact ⟨n + 20 - 2 * s, _, rfl, by omega, 2 * s, vs, rfl, rfl, by omega, by omega, (hp.trans q2).trans (g2.mono (Nat.zero_le _) (Nat.le_refl _)), CR (by omega) ⟨t, q3⟩ (q6.iV g2 (Nat.le_refl _)) (by rw [show min (a + 2 * s) n = n by omega]; exact g3) (by omega)⟩
     · rw [if_neg (by omega)]
       rw [show min (a + s) n = n by omega] at f1
       exact ⟨n + 20 - 2 * s, _, rfl, by omega, 2 * s, us, rfl, rfl, by omega, by omega, hp.trans q2, CR (by omega) ⟨t, q3⟩ q6 (by rw [show min (a + 2 * s) n = n by omega]; exact f1) (by omega)⟩
   · right
     rw [if_neg (show ¬ ((s : Int), zs).1 < (n : Int) by simp; omega)]
     have := hB.first
     rw [show min (0 + s) n = n by omega] at this
     exact ⟨_, rfl, hp, this⟩) n (20, ws)
  ⟨20, ws, rfl, by omega, by omega, by omega, hp.trans (hp2.mono (Nat.zero_le _) (Nat.le_refl _)), hB⟩
 exact ⟨r, hr, h3.perm, h4⟩
def BM (n : Nat) : List Int := (List.range n).map fun k : Nat => (k : Int)
theorem El (l : List G.Command) : kf l (BM l.length) := fun x hx => by
 obtain ⟨k, hk, rfl⟩ := List.mem_map.1 hx
 have := List.mem_range.1 hk
 exact ⟨by omega, by omega⟩
theorem Gi (h : l.length ≤ 17592186044416) : ∃ ord, G.kq l = some (l, ord) ∧ ord.Perm (BM l.length) ∧ mA l ord 0 l.length := by
 unfold G.kq
 rw [bg (by omega)]
 have h1 : Iter (G.gW l) (0, List.replicate l.length 0) = some (BM l.length) := by
  refine bA l.length (fun k => ((k : Int), (BM k) ++ List.replicate (l.length - k) 0)) _ (fun k hk => ?_) ?_ (by simp [BM])
  · unfold G.gW
    rw [if_pos (by simp; omega)]
    obtain ⟨x, hx⟩ := jM (l := BM k ++ List.replicate (l.length - k) (0 : Int)) (i := (k : Int)) (k := k) rfl (by simp [BM]; omega)
    simp only [hx, Option.bind_some, ea hk (by omega), Int.toNat_natCast]
    congr 3
    rw [show BM (k + 1) = BM k ++ [(k : Int)] by simp [BM, List.range_succ], List.set_append_right _ _ (by simp [BM])]
    rw [show l.length - k = (l.length - (k + 1)) + 1 by omega, List.replicate_succ]
    simp [BM]
  · unfold G.gW
    rw [if_neg (by simp)]
    simp
 rw [Int.toNat_natCast, h1]
 simp only [Option.bind_some]
 have hl : (BM l.length).length = l.length := by simp [BM]
 obtain ⟨zs, h2, h3, h4⟩ := Gj (l := l) (El l) (by rw [hl, hZ]; omega)
 have hz := h3.length_eq
 rw [h2]
 simp only [Option.bind_some]
 exact ⟨zs, rfl, h3, by rw [hl] at h4; exact h4⟩
end
end G
end Go.Proofs.YtekpafdhgkocaaaGreat
namespace Go.Proofs.YtekpafdhgkocaaaGreat
open G
namespace G
def LP (l : List G.Command) (o : Int) : Prop := ∃ c ∈ l, c.to ≤ o ∧ o < dA c
def qA (l : List G.Command) : Prop := ∃ i j, i < l.length ∧ j < l.length ∧ i ≠ j ∧ ov (cat l i) (cat l j) = true
structure GF (l : List G.Command) (t : Int) : Prop where
 pos : 0 ≤ t
 QX : ∀ o, 0 ≤ o → o < t → LP l o
 not : ¬ LP l t
 Qk : t = 0 ∨ ∃ c ∈ l, t = dA c
theorem nf {l : List G.Command} {i : Nat} (h : i < l.length) : cat l i ∈ l := by
 have : cat l i = l[i] := by simp [cat, h]
 rw [this]; exact List.getElem_mem h
theorem Ew {l : List G.Command} {c : G.Command} (h : c ∈ l) : ∃ i, i < l.length ∧ cat l i = c := by
 obtain ⟨i, hi, e⟩ := List.getElem_of_mem h
 exact ⟨i, hi, by rw [eo hi, e]⟩
structure Ord (l : List G.Command) (ord : List Int) : Prop where
 perm : ord.Perm (BM l.length)
 Rd : mA l ord 0 l.length
section
variable {l : List G.Command} {ord : List Int}
theorem Ord.len (h : Ord l ord) : ord.length = l.length := by rw [h.perm.length_eq]; simp [BM]
def pg (l : List G.Command) (ord : List Int) (k : Nat) : G.Command := cat l (ord.getD k 0).toNat
theorem Ord.ix (h : Ord l ord) {k : Nat} (hk : k < l.length) : Ix l (ord.getD k 0) := by
 have hl := h.len
 refine kf.get (l := l) (fun x hx => ?_) (by omega)
 exact El l x (h.perm.mem_iff.1 hx)
theorem Ord.le (h : Ord l ord) {p q : Nat} (hpq : p ≤ q) (hq : q < l.length) : (pg l ord p).to ≤ (pg l ord q).to := by
 by_cases e : p = q
 · subst e; exact Int.le_refl _
 · exact h.Rd p q (Nat.zero_le _) (by omega) hq
theorem Ord.inj (h : Ord l ord) {p q : Nat} (hp : p < l.length) (hq : q < l.length) (e : (ord.getD p 0).toNat = (ord.getD q 0).toNat) : p = q := by
 have hl := h.len
 have hn : ord.Nodup := by
  rw [h.perm.nodup_iff]
  show List.Pairwise _ _
  unfold BM
  rw [List.pairwise_map]
  exact List.Pairwise.imp (fun h k => h (by omega)) (List.nodup_range (n := l.length))
 have i1 := (h.ix hp).1
 have i2 := (h.ix hq).1
 have e' : ord.getD p 0 = ord.getD q 0 := by omega
 have e1 : ord.getD p 0 = ord[p] := by simp [show p < ord.length by omega]
 have e2 : ord.getD q 0 = ord[q] := by simp [show q < ord.length by omega]
 rw [e1, e2] at e'
 have hpw := List.pairwise_iff_getElem.1 (show List.Pairwise (· ≠ ·) ord from hn)
 rcases Nat.lt_trichotomy p q with k | k | k
 · exact absurd e' (hpw p q _ _ k)
 · exact k
 · exact absurd e'.symm (hpw q p _ _ k)
theorem Ord.MV (h : Ord l ord) {i : Nat} (hi : i < l.length) : ∃ k, k < l.length ∧ (ord.getD k 0).toNat = i := by
 have hl := h.len
 have hm : (i : Int) ∈ ord := h.perm.mem_iff.2 (List.mem_map.2 ⟨i, List.mem_range.2 hi, rfl⟩)
 obtain ⟨k, hk, e⟩ := List.getElem_of_mem hm
 exact ⟨k, by omega, by simp [hk, e]⟩
theorem Ord.mem (h : Ord l ord) {k : Nat} (hk : k < l.length) : pg l ord k ∈ l := by
 have := h.ix hk
 obtain ⟨h1, h2⟩ := this
 exact nf (by omega)
theorem Ord.any (h : Ord l ord) {c : G.Command} (hc : c ∈ l) : ∃ k, k < l.length ∧ pg l ord k = c := by
 obtain ⟨i, hi, e⟩ := Ew hc
 obtain ⟨k, hk, e'⟩ := h.MV hi
 exact ⟨k, hk, by unfold pg; rw [e', e]⟩
structure A6 (l : List G.Command) (ord : List Int) (k : Nat) (e : Int) : Prop where
 zero : k = 0 → e = 0
 last : ∀ j, k = j + 1 → e = dA (pg l ord j)
 apart : ∀ p q, p < q → q < k → dA (pg l ord p) ≤ (pg l ord q).to
theorem A6.le {k : Nat} {e : Int} (h : A6 l ord k e) (hg : ∀ c ∈ l, 0 ≤ c.to ∧ 1 ≤ dk c) (ho : Ord l ord) (hk : k ≤ l.length) {p : Nat} (hp : p < k) : dA (pg l ord p) ≤ e := by
 obtain ⟨j, rfl⟩ : ∃ j, k = j + 1 := ⟨k - 1, by omega⟩
 rw [h.last j rfl]
 by_cases e' : p = j
 · subst e'; exact Int.le_refl _
 · have h1 := h.apart p j (by omega) (by omega)
   have h2 := hg _ (ho.mem (k := j) (by omega))
   unfold dA at *; omega
def QT (l : List G.Command) (ord : List Int) (k : Nat) (e g : Int) : Prop :=
 0 ≤ e ∧ ((g = -1 ∧ ∀ o, 0 ≤ o → o < e → ∃ p, p < k ∧ (pg l ord p).to ≤ o ∧ o < dA (pg l ord p)) ∨
 (0 ≤ g ∧ g < e ∧ (∀ o, 0 ≤ o → o < g → ∃ p, p < k ∧ (pg l ord p).to ≤ o ∧ o < dA (pg l ord p)) ∧ (∀ p, p < k → ¬ ((pg l ord p).to ≤ g ∧ g < dA (pg l ord p))) ∧ (g = 0 ∨ ∃ p, p < k ∧ g = dA (pg l ord p))))
theorem I5 (hg : ∀ c ∈ l, 0 ≤ c.to ∧ 1 ≤ dk c ∧ dA c ≤ 4611686018427387903) (hn : l.length ≤ 17592186044416) :
 (qA l ∧ G.jL l = some (0, true)) ∨ (¬ qA l ∧ ∃ t, G.jL l = some (t, false) ∧ GF l t) := by
 obtain ⟨ord, hs, hp, hsr⟩ := Gi hn
 have ho : Ord l ord := ⟨hp, hsr⟩
 have hlen := ho.len
 unfold G.jL G.dP
 rw [hs]
 simp only [Option.bind_some]
 obtain ⟨r, hr, hq⟩ := bP (f := G.c9 ord l)
  (fun n st => ∃ (k : Nat) (e g : Int), st = ((k : Int), 0, false, e, g) ∧ n = l.length - k ∧ k ≤ l.length ∧ A6 l ord k e ∧ QT l ord k e g)
  (fun r => (∃ e g, r = .inl (0, true, e, g) ∧ qA l) ∨ ∃ e g, r = .inr (0, false, e, g) ∧ A6 l ord l.length e ∧ QT l ord l.length e g) (by
   rintro n st ⟨k, e, g, rfl, rfl, hk, hc, hgap⟩
   unfold G.c9 G.kX
   by_cases hlt : k < l.length
   · have hix := ho.ix hlt
     have hm := ho.mem hlt
     have hgo := hg _ hm
     rw [if_pos (show ((k : Int), (0 : Int), false, e, g).1 < ((ord.length : Nat) : Int) by simp; omega)]
     simp only [bn (0 : Int) (show k < ord.length by omega), Option.bind_some]
     rw [pB (k := (ord.getD k 0).toNat) default (by have := hix.1; omega) (by have h8 := hix.1; have h9 := hix.2; omega)]
     simp only [Option.bind_some, pc]
     rw [show l.getD (ord.getD k 0).toNat default = pg l ord k from rfl]
     by_cases h1 : (pg l ord k).to < e
     · right
       rw [if_pos h1]
       refine ⟨_, rfl, .inl ⟨_, _, rfl, ?_⟩⟩
       have hk0 : k ≠ 0 := fun h => by have := hc.zero h; omega
       have hl := hc.last (k - 1) (by omega)
       have hle := ho.le (p := k - 1) (q := k) (by omega) hlt
       have hix' := ho.ix (k := k - 1) (by omega)
       refine ⟨(ord.getD (k - 1) 0).toNat, (ord.getD k 0).toNat, by have h8 := hix'.1; have h9 := hix'.2; omega, by have h8 := hix.1; have h9 := hix.2; omega, fun h => by have := ho.inj (by omega) hlt h; omega, ?_⟩
       show ov (pg l ord (k - 1)) (pg l ord k) = true
       unfold ov
       rw [decide_eq_true_eq]
       unfold dA at *
       omega
     · left
       rw [if_neg h1]
       have hnew : A6 l ord (k + 1) (dA (pg l ord k)) := ⟨fun h => by omega, fun j hj => by rw [show j = k by omega], fun p q hpq hqk => by
        by_cases hq : q = k
        · subst hq
          have := hc.le (fun c hc' => ⟨(hg c hc').1, (hg c hc').2.1⟩) ho (by omega) hpq
          omega
        · exact hc.apart p q hpq (by omega)⟩
       have e1 : G.eH ⟨(pg l ord k).to, dk (pg l ord k)⟩ = some (dA (pg l ord k)) := by
        unfold G.eH
        simp only
        rw [eK (by omega) (by unfold dA at hgo; omega)]; rfl
       have e2 : IntKind.i64.wrap ((k : Int) + 1) = ((k + 1 : Nat) : Int) := ea hlt (by omega)
       obtain ⟨h0, hgp⟩ := hgap
       have he : e < dA (pg l ord k) ∨ e = (pg l ord k).to ∧ e < dA (pg l ord k) := .inl (by unfold dA; omega)
       have he' : e < dA (pg l ord k) := by unfold dA; omega
       rcases hgp with ⟨rfl, hcov⟩ | ⟨hg0, hge, hcov, hnot, hcand⟩
       · by_cases h2 : (pg l ord k).to > e
         · simp only [h2, if_true, Option.bind_some, show ((-1 : Int) < 0) = True by simp, decide_true, e1, e2]
           refine ⟨l.length - (k + 1), _, rfl, by omega, k + 1, _, e, rfl, rfl, by omega, hnew, by omega, .inr ⟨h0, he', fun o h3 h4 => ?_, fun p hp' => ?_, ?_⟩⟩
           · obtain ⟨p, h5, h6⟩ := hcov o h3 h4
             exact ⟨p, by omega, h6⟩
           · by_cases hpk : p = k
             · subst hpk; omega
             · have := hc.le (fun c hc' => ⟨(hg c hc').1, (hg c hc').2.1⟩) ho (by omega) (p := p) (by omega)
               omega
           · by_cases hk0 : k = 0
             · exact .inl (hc.zero hk0)
             · exact .inr ⟨k - 1, by omega, hc.last (k - 1) (by omega)⟩
         · simp only [h2, if_false, Option.bind_some, Bool.false_eq_true, e1, e2]
           refine ⟨l.length - (k + 1), _, rfl, by omega, k + 1, _, -1, rfl, rfl, by omega, hnew, by omega, .inl ⟨rfl, fun o h3 h4 => ?_⟩⟩
           by_cases h5 : o < e
           · obtain ⟨p, h6, h7⟩ := hcov o h3 h5
             exact ⟨p, by omega, h7⟩
           · exact ⟨k, by omega, by omega, h4⟩
       · have hng : ¬ g < 0 := by omega
         have hres : (if (pg l ord k).to > e then some (decide (g < 0)) else some false) = some false := by
          split
          · rw [decide_eq_false hng]
          · rfl
         simp only [hres, Option.bind_some, Bool.false_eq_true, if_false, e1, e2]
         refine ⟨l.length - (k + 1), _, rfl, by omega, k + 1, _, g, rfl, rfl, by omega, hnew, by omega, .inr ⟨hg0, by omega, fun o h3 h4 => ?_, fun p hp' => ?_, ?_⟩⟩
         · obtain ⟨p, h5, h6⟩ := hcov o h3 h4
           exact ⟨p, by omega, h6⟩
         · by_cases hpk : p = k
           · subst hpk; omega
           · exact hnot p (by omega)
         · rcases hcand with h | ⟨p, h5, h6⟩
           · exact .inl h
           · exact .inr ⟨p, by omega, h6⟩
   · right
     rw [if_neg (show ¬ ((k : Int), (0 : Int), false, e, g).1 < ((ord.length : Nat) : Int) by simp; omega)]
     have : k = l.length := by omega
     subst this
     exact ⟨_, rfl, .inr ⟨e, g, rfl, hc, hgap⟩⟩) l.length (0, 0, false, 0, -1)
  ⟨0, 0, -1, rfl, rfl, Nat.zero_le _, ⟨fun _ => rfl, fun j hj => by omega, fun p q h1 h2 => by omega⟩, Int.le_refl _, .inl ⟨rfl, fun o h1 h2 => by omega⟩⟩
 rcases hq with ⟨_, _, rfl, hm⟩ | ⟨e, g, rfl, hc, h0, hgap⟩
 · left
   rw [hr]
   exact ⟨hm, rfl⟩
 · right
   rw [hr]
   simp only [Option.bind_some, jr]
   have hgl : ∀ c ∈ l, 0 ≤ c.to ∧ 1 ≤ dk c := fun c hc' => ⟨(hg c hc').1, (hg c hc').2.1⟩
   refine ⟨fun ⟨i, j, hi, hj, hne, hov⟩ => ?_, ?_⟩
   · obtain ⟨p, hp1, hp2⟩ := ho.MV hi
     obtain ⟨q, hq1, hq2⟩ := ho.MV hj
     have hpq : p ≠ q := fun h => hne (by rw [← hp2, ← hq2, h])
     have k1 : cat l i = pg l ord p := by unfold pg; rw [hp2]
     have k2 : cat l j = pg l ord q := by unfold pg; rw [hq2]
     rw [k1, k2] at hov
     unfold ov at hov
     rw [decide_eq_true_eq] at hov
     rcases Nat.lt_or_gt_of_ne hpq with h | h
     · have := hc.apart p q h hq1; omega
     · have := hc.apart q p h hp1; omega
   · rcases hgap with ⟨rfl, hcov⟩ | ⟨hg0, hge, hcov, hnot, hcand⟩
     · rw [if_neg (by omega)]
       refine ⟨e, rfl, h0, fun o h1 h2 => ?_, fun ⟨c, hcl, h1, h2⟩ => ?_, ?_⟩
       · obtain ⟨p, h3, h4⟩ := hcov o h1 h2
         exact ⟨_, ho.mem h3, h4⟩
       · obtain ⟨k, hk, rfl⟩ := ho.any hcl
         have := hc.le hgl ho (Nat.le_refl _) hk
         omega
       · by_cases hk0 : l.length = 0
         · exact .inl (hc.zero hk0)
         · exact .inr ⟨_, ho.mem (k := l.length - 1) (by omega), hc.last (l.length - 1) (by omega)⟩
     · rw [if_pos (by omega)]
       refine ⟨g, rfl, hg0, fun o h1 h2 => ?_, fun ⟨c, hcl, h1, h2⟩ => ?_, ?_⟩
       · obtain ⟨p, h3, h4⟩ := hcov o h1 h2
         exact ⟨_, ho.mem h3, h4⟩
       · obtain ⟨k, hk, rfl⟩ := ho.any hcl
         exact hnot k hk ⟨h1, h2⟩
       · rcases hcand with h | ⟨p, h3, h4⟩
         · exact .inl h
         · exact .inr ⟨_, ho.mem h3, h4⟩
end
end G
end Go.Proofs.YtekpafdhgkocaaaGreat
namespace Go.Proofs.YtekpafdhgkocaaaGreat
open G
namespace G
theorem uE {l : List G.Command} : qA l ↔ ∃ i, i < l.length ∧ Ez l i = true := by
 have key : ∀ i j, i < l.length → j < i → ov (cat l i) (cat l j) = true → ∃ i, i < l.length ∧ Ez l i = true := fun i j hi hj h => by
  refine ⟨i, hi, ?_⟩
  unfold Ez
  rw [List.any_eq_true]
  refine ⟨cat l j, ?_, h⟩
  rw [eo (by omega)]
  exact List.mem_take_iff_getElem.2 ⟨j, by omega, rfl⟩
 constructor
 · rintro ⟨i, j, hi, hj, hne, h⟩
   rcases Nat.lt_or_gt_of_ne hne with k | k
   · exact key j i hj k (by rw [Kk]; exact h)
   · exact key i j hi k h
 · rintro ⟨i, hi, h⟩
   unfold Ez at h
   rw [List.any_eq_true] at h
   obtain ⟨c, hc, h⟩ := h
   obtain ⟨j, hj, rfl⟩ := List.mem_take_iff_getElem.1 hc
   refine ⟨i, j, hi, by omega, by omega, ?_⟩
   rw [eo (i := j) (by omega)]; exact h
section
variable {d : G.Delta}
theorem xE (hg : ∀ c ∈ d.commands, Good d c) (hn : d.commands.length ≤ 17592186044416) {i : Nat} (hi : i < d.commands.length) :
 Iter (G.dF d.commands (i : Int) (d.commands.take i)) 0 = some (if Ez d.commands i = true then .inr (i : Int) else .inl ((i + 1 : Nat) : Int)) := by
 have hl : (d.commands.take i).length = i := by simp; omega
 have hK := ij (f := G.dF d.commands (i : Int) (d.commands.take i)) (d.commands.take i) (fun c => ov (cat d.commands i) c) (fun k => (k : Int)) (fun _ => .inr (i : Int)) (.inl ((i + 1 : Nat) : Int))
  (fun k h hb => by
   obtain ⟨e, he⟩ := wz (hg _ (nf hi)) (hg _ (List.mem_of_mem_take (List.getElem_mem h)))
   unfold G.dF
   rw [if_pos (by omega), dh h, bn default hi]
   simp only [Option.bind_some, pc, he, hb, Bool.false_eq_true, if_false]
   rw [ea (n := 17592186044417) (by omega) (by omega)])
  (fun k h hb => by
   obtain ⟨e, he⟩ := wz (hg _ (nf hi)) (hg _ (List.mem_of_mem_take (List.getElem_mem h)))
   unfold G.dF
   rw [if_pos (by omega), dh h, bn default hi]
   simp only [Option.bind_some, pc, he, hb, if_true])
  (by unfold G.dF; rw [if_neg (by omega), ea (n := 17592186044417) (by omega) (by omega)]) (s := 0) rfl
 rcases hK with ⟨ha, he⟩ | ⟨k, h, hb, _, he⟩
 · rw [he, if_neg]
   unfold Ez; rw [List.any_eq_true]
   rintro ⟨c, hc, h⟩
   rw [ha c hc] at h; cases h
 · rw [he, if_pos]
   unfold Ez; rw [List.any_eq_true]
   exact ⟨_, List.getElem_mem h, hb⟩
theorem vn (hg : ∀ c ∈ d.commands, Good d c) (hn : d.commands.length ≤ 17592186044416) {i : Nat} (hi : i < d.commands.length) :
 Iter (G.cM d (i : Int)) 0 = some (if Ez d.commands i = true then .inr (.inr (4, (i : Int))) else .inl ((i + 1 : Nat) : Int)) := by
 have hl : (d.commands.take i).length = i := by simp; omega
 have hK := ij (f := G.cM d (i : Int)) (d.commands.take i) (fun c => ov (cat d.commands i) c) (fun k => (k : Int)) (fun _ => .inr (.inr (4, (i : Int)))) (.inl ((i + 1 : Nat) : Int))
  (fun k h hb => by
   obtain ⟨e, he, he2⟩ := vi (hg _ (nf hi)) (hg _ (List.mem_of_mem_take (List.getElem_mem h)))
   have hk : (d.commands.take i)[k] = d.commands[k]'(by omega) := List.getElem_take
   rw [hk] at he he2 hb
   unfold G.cM
   rw [if_pos (by omega), bn default hi, dh (show k < d.commands.length by omega)]
   simp only [Option.bind_some, m8, he]
   rw [if_neg (by rw [hb] at he2; simpa using he2), ea (n := 17592186044417) (by omega) (by omega)])
  (fun k h hb => by
   obtain ⟨e, he, he2⟩ := vi (hg _ (nf hi)) (hg _ (List.mem_of_mem_take (List.getElem_mem h)))
   have hk : (d.commands.take i)[k] = d.commands[k]'(by omega) := List.getElem_take
   rw [hk] at he he2 hb
   unfold G.cM
   rw [if_pos (by omega), bn default hi, dh (show k < d.commands.length by omega)]
   simp only [Option.bind_some, m8, he]
   rw [if_pos (by rw [hb] at he2; simpa using he2)])
  (by unfold G.cM; rw [if_neg (by omega), ea (n := 17592186044417) (by omega) (by omega)]) (s := 0) rfl
 rcases hK with ⟨ha, he⟩ | ⟨k, h, hb, _, he⟩
 · rw [he, if_neg]
   unfold Ez; rw [List.any_eq_true]
   rintro ⟨c, hc, h⟩
   rw [ha c hc] at h; cases h
 · rw [he, if_pos]
   unfold Ez; rw [List.any_eq_true]
   exact ⟨_, List.getElem_mem h, hb⟩
def pb (l : List G.Command) (i : Nat) : Prop := i < l.length ∧ Ez l i = true ∧ ∀ j, j < i → Ez l j = false
theorem pb.unique {l : List G.Command} {i j : Nat} (h : pb l i) (k : pb l j) : i = j := by
 rcases Nat.lt_trichotomy i j with q | q | q
 · have := k.2.2 i q; rw [h.2.1] at this; cases this
 · exact q
 · have := h.2.2 j q; rw [k.2.1] at this; cases this
theorem Dy (hg : ∀ c ∈ d.commands, Good d c) (hn : d.commands.length ≤ 17592186044416) (hm : qA d.commands) :
 ∃ i, pb d.commands i ∧ G.jC d.commands = some (i : Int) := by
 have hK := ij (f := G.eV d.commands) (List.range d.commands.length) (fun i => Ez d.commands i) (fun k => (k : Int)) (fun k => (k : Int)) (-1)
  (fun k h hb => by
   simp at h hb
   unfold G.eV
   rw [if_pos (by omega), lu (by omega)]
   simp only [Option.bind_some, Int.toNat_natCast]
   rw [xE hg hn h, hb]; rfl)
  (fun k h hb => by
   simp at h hb
   unfold G.eV
   rw [if_pos (by omega), lu (by omega)]
   simp only [Option.bind_some, Int.toNat_natCast]
   rw [xE hg hn h, hb]; rfl)
  (by unfold G.eV; simp) (s := 0) rfl
 unfold G.jC
 rcases hK with ⟨ha, he⟩ | ⟨k, h, hb, hj, he⟩
 · obtain ⟨i, hi, h⟩ := uE.1 hm
   have := ha i (List.mem_range.2 hi)
   rw [h] at this; cases this
 · simp at h hb
   exact ⟨k, ⟨h, hb, fun j hjk => by simpa using hj j hjk⟩, he⟩
theorem vo (hg : ∀ c ∈ d.commands, Good d c) (hn : d.commands.length ≤ 17592186044416) :
 (¬ qA d.commands ∧ Iter (G.cg d) 0 = some (.inl ())) ∨ (qA d.commands ∧ ∃ i, pb d.commands i ∧ Iter (G.cg d) 0 = some (.inr (4, (i : Int)))) := by
 have hK := ij (f := G.cg d) (List.range d.commands.length) (fun i => Ez d.commands i) (fun k => (k : Int)) (fun k => .inr (4, (k : Int))) (.inl ())
  (fun k h hb => by
   simp at h hb
   unfold G.cg
   rw [if_pos (by omega), vn hg hn h, hb]; rfl)
  (fun k h hb => by
   simp at h hb
   unfold G.cg
   rw [if_pos (by omega), vn hg hn h, hb]; rfl)
  (by unfold G.cg; simp) (s := 0) rfl
 rcases hK with ⟨ha, he⟩ | ⟨k, h, hb, hj, he⟩
 · refine .inl ⟨fun hm => ?_, he⟩
   obtain ⟨i, hi, h⟩ := uE.1 hm
   have := ha i (List.mem_range.2 hi)
   rw [h] at this; cases this
 · simp at h hb
   exact .inr ⟨uE.2 ⟨k, h, hb⟩, k, ⟨h, hb, fun j hjk => by simpa using hj j hjk⟩, he⟩
theorem CF (hg : ∀ c ∈ d.commands, Good d c) (hn : d.commands.length ≤ 17592186044416) (o : Int) : ∃ r, G.ef d o = some r ∧ (r < 0 ↔ ¬ LP d.commands o) ∧ (0 ≤ r → ∃ k : Nat, ∃ h : k < d.commands.length, r = (k : Int) ∧ d.commands[k].to ≤ o ∧ o < dA d.commands[k]) := by
 have hh : ∀ c ∈ d.commands, G.iR c o = some (decide (c.to ≤ o ∧ o < dA c)) := fun c hc => by
  have h1 := hg c hc
  unfold G.iR G.la
  have := h1.KU; have := h1.max; have := h1.BQ
  simp only [m8, Option.bind_some]
  unfold dA at *
  rw [eK (by omega) (by omega)]
  by_cases h : o ≥ c.to
  · rw [if_pos h]; simp only [Option.bind_some]; congr 1; rw [decide_eq_decide]; omega
  · rw [if_neg h]; simp only [Option.bind_some]; congr 1; symm; rw [decide_eq_false_iff_not]; omega
 have hK := ij (f := G.dR d o) d.commands (fun c => decide (c.to ≤ o ∧ o < dA c)) (fun k => (k : Int)) (fun k => (k : Int)) (-1)
  (fun k h hb => by
   unfold G.dR
   rw [if_pos (by omega), dh h]
   simp only [Option.bind_some, hh _ (List.getElem_mem h), hb, Bool.false_eq_true, if_false]
   rw [ea (n := 17592186044417) (by omega) (by omega)])
  (fun k h hb => by
   unfold G.dR
   rw [if_pos (by omega), dh h]
   simp only [Option.bind_some, hh _ (List.getElem_mem h), hb, if_true])
  (by unfold G.dR; simp) (s := 0) rfl
 unfold G.ef
 rcases hK with ⟨ha, he⟩ | ⟨k, h, hb, hj, he⟩
 · refine ⟨-1, he, ?_, fun h => by omega⟩
   refine ⟨fun _ ⟨c, hc, h⟩ => ?_, fun _ => by omega⟩
   have := ha c hc
   simp only [decide_eq_false_iff_not] at this
   exact this h
 · refine ⟨(k : Int), he, ⟨fun h => by omega, fun hnc => absurd ⟨_, List.getElem_mem h, by simpa using hb⟩ hnc⟩, fun _ => ⟨k, h, rfl, by simpa using hb⟩⟩
theorem GA (hg : ∀ c ∈ d.commands, Good d c) (hn : d.commands.length ≤ 17592186044416) (o : Int) : ∃ r, G.ef d o = some r ∧ (r < 0 ↔ ¬ LP d.commands o) := by
 obtain ⟨r, h1, h2, _⟩ := CF hg hn o
 exact ⟨r, h1, h2⟩
theorem Ei (hg : ∀ c ∈ d.commands, Good d c) (hn : d.commands.length ≤ 17592186044416) {t : Int} (ht : GF d.commands t) :
 G.iP d = some (if t < d.aP then t else -1) := by
 unfold G.iP
 obtain ⟨r, hr, hq⟩ := bP (f := G.iQ d)
  (fun m st => ∃ (k : Nat) (out : Int), st = (out, (k : Int) - 1) ∧ m = d.commands.length + 1 - k ∧ k ≤ d.commands.length + 1 ∧ (out = -1 ∨ (t ≤ out ∧ out < d.aP)) ∧ (t < d.aP → (0 < k ∧ t = 0 ∨ ∃ j, j + 1 < k ∧ t = dA (cat d.commands j)) → out = t))
  (fun r => r = if t < d.aP then t else -1) (by
   rintro m st ⟨k, out, rfl, rfl, hk, h1, h2⟩
   unfold G.iQ
   by_cases hlt : k < d.commands.length + 1
   · left
     rw [if_pos (show (out, (k : Int) - 1).2 < (d.commands.length : Int) by simp; omega)]
     obtain ⟨v, hv, hv0, hvc⟩ : ∃ v, (if (out, (k : Int) - 1).2 ≥ 0 then (idx d.commands (out, (k : Int) - 1).2).bind fun x2 => (idx d.commands (out, (k : Int) - 1).2).bind fun x3 => (G.dg x3).bind fun y2 => some (IntKind.i64.wrap (x2.to + y2)) else some 0) = some v ∧ 0 ≤ v ∧ (k = 0 ∧ v = 0 ∨ ∃ j, j + 1 = k ∧ v = dA (cat d.commands j)) := by
      by_cases hk0 : k = 0
      · subst hk0
        exact ⟨0, by rw [if_neg (by simp)], Int.le_refl _, .inl ⟨rfl, rfl⟩⟩
      · have hgo := hg _ (nf (l := d.commands) (i := k - 1) (by omega))
        rw [if_pos (by simp; omega)]
        simp only [pB (k := k - 1) default (show (k : Int) - 1 = ((k - 1 : Nat) : Int) by omega) (show k - 1 < d.commands.length by omega), Option.bind_some, vV]
        have := hgo.KU; have := hgo.max; have := hgo.BQ
        refine ⟨dA (cat d.commands (k - 1)), ?_, by unfold dA at *; omega, .inr ⟨k - 1, by omega, rfl⟩⟩
        unfold dA at *
        show some (IntKind.i64.wrap ((cat d.commands (k - 1)).to + dk (cat d.commands (k - 1)))) = _
        rw [eK (by omega) (by omega)]
     rw [hv]
     obtain ⟨f, hf, hfc⟩ := GA hg hn v
     obtain ⟨b, hb, hbi⟩ : ∃ b, (if v < d.aP then (G.ef d v).bind fun y1 => if y1 < 0 then (if (out, (k : Int) - 1).1 < 0 then some true else some (decide (v < (out, (k : Int) - 1).1))) else some false else some false) = some b ∧ (b = true ↔ v < d.aP ∧ ¬ LP d.commands v ∧ (out < 0 ∨ v < out)) := by
      by_cases c1 : v < d.aP
      · rw [if_pos c1, hf]
        simp only [Option.bind_some]
        by_cases c2 : f < 0
        · rw [if_pos c2]
          have c2' := hfc.1 c2
          by_cases c3 : out < 0
          · exact ⟨true, by rw [if_pos c3], by simp [c1, c2', c3]⟩
          · exact ⟨_, by rw [if_neg c3], by simp [c1, c2', c3]⟩
        · exact ⟨false, by rw [if_neg c2], by simp only [Bool.false_eq_true, false_iff]; exact fun h => c2 (hfc.2 h.2.1)⟩
      · exact ⟨false, by rw [if_neg c1], by simp [c1]⟩
     simp only [Option.bind_some]
     rw [hb]
     simp only [Option.bind_some]
     have hw : IntKind.i64.wrap ((k : Int) - 1 + 1) = ((k + 1 : Nat) : Int) - 1 := by rw [eK (by omega) (by omega)]; omega
     have hvt : ¬ LP d.commands v → t ≤ v := fun h => by
      refine Int.not_lt.1 fun hlt' => h (ht.QX v hv0 hlt')
     by_cases hbt : b = true
     · have hb' := hbi.1 hbt
       rw [if_pos hbt, hw]
       refine ⟨d.commands.length + 1 - (k + 1), _, rfl, by omega, k + 1, v, rfl, rfl, by omega, .inr ⟨hvt hb'.2.1, hb'.1⟩, fun htn hc => ?_⟩
       have h3 := hvt hb'.2.1
       have key : (0 < k ∧ t = 0 ∨ ∃ j, j + 1 < k ∧ t = dA (cat d.commands j)) → v = t := fun hc => by
        have q1 := h2 htn hc
        have q2 := ht.pos
        have q3 := hb'.2.2
        clear hvc hc h2
        omega
       rcases hc with ⟨_, h0⟩ | ⟨j, hj, hjt⟩
       · rcases hvc with ⟨h4, h5⟩ | ⟨j, h4, h5⟩
         · omega
         · exact key (.inl ⟨by omega, h0⟩)
       · by_cases hjk : j + 1 = k
         · rcases hvc with ⟨h4, h5⟩ | ⟨j', h4, h5⟩
           · omega
           · have : j' = j := by omega
             subst this; omega
         · exact key (.inr ⟨j, by omega, hjt⟩)
     · have hb' := fun h => hbt (hbi.2 h)
       rw [if_neg hbt, hw]
       refine ⟨d.commands.length + 1 - (k + 1), _, rfl, by omega, k + 1, out, rfl, rfl, by omega, h1, fun htn hc => ?_⟩
       have hvis : v = t → out = t := fun hvt' => by
        have := ht.pos
        have h6 : ¬ (out < 0 ∨ v < out) := fun h => hb' ⟨by clear hvc hc h2; omega, by rw [hvt']; exact ht.not, h⟩
        clear hvc hc h2
        omega
       rcases hc with ⟨_, h0⟩ | ⟨j, hj, hjt⟩
       · rcases hvc with ⟨h4, h5⟩ | ⟨j, h4, h5⟩
         · exact hvis (by omega)
         · exact h2 htn (.inl ⟨by omega, h0⟩)
       · by_cases hjk : j + 1 = k
         · rcases hvc with ⟨h4, h5⟩ | ⟨j', h4, h5⟩
           · omega
           · have : j' = j := by omega
             subst this
             exact hvis (by omega)
         · exact h2 htn (.inr ⟨j, by omega, hjt⟩)
   · right
     rw [if_neg (show ¬ (out, (k : Int) - 1).2 < (d.commands.length : Int) by simp; omega)]
     refine ⟨_, rfl, ?_⟩
     by_cases htn : t < d.aP
     · rw [if_pos htn]
       refine h2 htn ?_
       rcases ht.Qk with h | ⟨c, hc, h⟩
       · exact .inl ⟨by omega, h⟩
       · obtain ⟨i, hi, rfl⟩ := Ew hc
         exact .inr ⟨i, by omega, h⟩
     · rw [if_neg htn]
       rcases h1 with h | h
       · exact h
       · omega) (d.commands.length + 1) ((-1), (-1))
  ⟨0, -1, by simp, by omega, by omega, .inl rfl, fun _ h => by rcases h with h | ⟨j, h, _⟩ <;> omega⟩
 rw [hr, hq]
end
def Gq (d : G.Delta) : Prop := 0 ≤ d.bp ∧ d.bp ≤ 4611686018427387903 ∧ 0 ≤ d.aP ∧ d.aP ≤ 4611686018427387903
instance (d : G.Delta) : Decidable (Gq d) := by unfold Gq; infer_instance
def GD (d : G.Delta) (e p : Int) : Prop :=
 (¬ Gq d ∧ e = 2 ∧ p = -1) ∨ (Gq d ∧ ∃ i, i < d.commands.length ∧ (∀ j, j < i → Good d (cat d.commands j)) ∧ ¬ Good d (cat d.commands i) ∧ e = EL d (cat d.commands i) ∧ p = i) ∨
 (Gq d ∧ (∀ c ∈ d.commands, Good d c) ∧ qA d.commands ∧ ∃ i : Nat, pb d.commands i ∧ e = 4 ∧ p = i) ∨
 (Gq d ∧ (∀ c ∈ d.commands, Good d c) ∧ ¬ qA d.commands ∧ ∃ t, GF d.commands t ∧ ((t < d.aP ∧ e = 3 ∧ p = t) ∨ (¬ t < d.aP ∧ e = 0 ∧ p = 0)))
theorem LN {d : G.Delta} (hn : d.commands.length ≤ 17592186044416) : ∃ e p, GD d e p ∧ G.iq d = some ⟨e, p⟩ ∧ G.ff d = some (e, p) := by
 have h1 : ((G.fF d.bp).bind fun y4 => if y4 = false then some true else (G.fF d.aP).bind fun y5 => some (!y5)) = some (decide (¬ Gq d)) := by
  unfold G.fF Gq
  simp only [Bf, Option.bind_some]
  by_cases a : A2 0 d.bp = true
  · rw [a, if_neg (by simp)]
    congr 1
    have a' := l9.1 a
    by_cases b : A2 0 d.aP = true
    · have b' := l9.1 b
      rw [b]; symm; exact decide_eq_false (fun h => h (by omega))
    · have b' := fun h => b (l9.2 h)
      rw [show A2 0 d.aP = false by simpa using b]; symm; exact decide_eq_true (fun h => b' (by omega))
  · have a' := fun h => a (l9.2 h)
    rw [show A2 0 d.bp = false by simpa using a, if_pos rfl]
    congr 1; symm; exact decide_eq_true (fun h => a' (by omega))
 have h2 : (if d.bp < 0 then some true else if d.aP < 0 then some true else (G.cJ).bind fun y6 => if d.bp > y6 then some true else (G.cJ).bind fun y7 => some (decide (d.aP > y7))) = some (decide (¬ Gq d)) := by
  unfold G.cJ Gq
  simp only [Option.bind_some]
  split
  · congr 1; symm; rw [decide_eq_true_eq]; omega
  · split
    · congr 1; symm; rw [decide_eq_true_eq]; omega
    · split
      · congr 1; symm; rw [decide_eq_true_eq]; omega
      · congr 1; rw [decide_eq_decide]; omega
 unfold G.iq G.ff
 rw [h1, h2]
 by_cases hr : Gq d
 · simp only [hr, not_true_eq_false, decide_false, Option.bind_some, Bool.false_eq_true, if_false]
   have hA := ij (f := G.gj d) d.commands (fun c => decide (EL d c ≠ 0)) (fun k => (k : Int)) (fun k => .inr (⟨EL d (cat d.commands k), (k : Int)⟩ : G.eR)) (.inl ())
    (fun k h hb => by
     unfold G.gj
     rw [if_pos (by omega), dh h]
     simp only [Option.bind_some, zH]
     rw [if_neg (by simpa using hb), ea (n := 17592186044417) (by omega) (by omega)])
    (fun k h hb => by
     unfold G.gj
     rw [if_pos (by omega), dh h]
     simp only [Option.bind_some, zH]
     rw [if_pos (by simpa using hb), eo h])
    (by unfold G.gj; simp) (s := 0) rfl
   have hB := ij (f := G.dy d) d.commands (fun c => decide (EL d c ≠ 0)) (fun k => (k : Int)) (fun k => .inr (EL d (cat d.commands k), (k : Int))) (.inl ())
    (fun k h hb => by
     unfold G.dy
     rw [if_pos (by omega), dh h]
     simp only [Option.bind_some, xR]
     rw [if_neg (by simpa using hb), ea (n := 17592186044417) (by omega) (by omega)])
    (fun k h hb => by
     unfold G.dy
     rw [if_pos (by omega), dh h]
     simp only [Option.bind_some, xR]
     rw [if_pos (by simpa using hb), eo h])
    (by unfold G.dy; simp) (s := 0) rfl
   rcases hA with ⟨ha, he⟩ | ⟨k, h, hb, hj, he⟩
   · rcases hB with ⟨_, hf⟩ | ⟨k, h, hb, _, _⟩
     · have hg : ∀ c ∈ d.commands, Good d c := fun c hc => oQ.1 (by simpa using ha c hc)
       simp only [he, hf, Option.bind_some, jr]
       rcases I5 (l := d.commands) (fun c hc => ⟨(hg c hc).KU, (hg c hc).BQ, (hg c hc).max⟩) hn with ⟨hm, ht⟩ | ⟨hm, t, ht, hte⟩
       · obtain ⟨i, hi, ho⟩ := Dy hg hn hm
         rcases vo hg hn with ⟨hm', _⟩ | ⟨_, j, hj, ho'⟩
         · exact absurd hm hm'
         · have := hi.unique hj
           subst this
           refine ⟨4, (i : Int), .inr (.inr (.inl ⟨hr, hg, hm, i, hi, rfl, rfl⟩)), ?_, ?_⟩
           · rw [ht]; simp only [Option.bind_some, if_true, ho]
           · rw [ho']; rfl
       · rcases vo hg hn with ⟨_, ho'⟩ | ⟨hm', _⟩
         · have := hte.pos
           by_cases hlt : t < d.aP
           · refine ⟨3, t, .inr (.inr (.inr ⟨hr, hg, hm, t, hte, .inl ⟨hlt, rfl, rfl⟩⟩)), ?_, ?_⟩
             · rw [ht]; simp [hlt]
             · rw [ho']; simp only [Option.bind_some, jr, Ei hg hn hte, if_pos hlt]; rw [if_pos (by omega)]
           · refine ⟨0, 0, .inr (.inr (.inr ⟨hr, hg, hm, t, hte, .inr ⟨hlt, rfl, rfl⟩⟩)), ?_, ?_⟩
             · rw [ht]; simp [hlt]
             · rw [ho']; simp only [Option.bind_some, jr, Ei hg hn hte, if_neg hlt]; rw [if_neg (by omega)]
         · exact absurd hm' hm
     · have := ha _ (List.getElem_mem h)
       rw [hb] at this; cases this
   · rcases hB with ⟨ha, _⟩ | ⟨k', h', hb', hj', hf⟩
     · have := ha _ (List.getElem_mem h)
       rw [hb] at this; cases this
     · have : k = k' := by
        rcases Nat.lt_trichotomy k k' with q | q | q
        · have := hj' k q; rw [hb] at this; cases this
        · exact q
        · have := hj k' q; rw [hb'] at this; cases this
       subst this
       refine ⟨EL d (cat d.commands k), (k : Int), .inr (.inl ⟨hr, k, h, fun j hjk => ?_, ?_, rfl, rfl⟩), ?_, ?_⟩
       · rw [eo (by omega)]; exact oQ.1 (by simpa using hj j hjk)
       · rw [eo h]; exact MT.1 (by simpa using hb)
       · rw [he]; rfl
       · rw [hf]; rfl
 · exact ⟨2, -1, .inl ⟨hr, rfl, rfl⟩, by simp [hr], by simp [hr]⟩
structure VD (d : G.Delta) : Prop where
 Rc : Gq d
 Qt : ∀ c ∈ d.commands, Good d c
 apart : ¬ qA d.commands
 full : ∀ o, 0 ≤ o → o < d.aP → LP d.commands o
theorem GD.zero {d : G.Delta} {e p : Int} (h : GD d e p) : (e = 0 ↔ VD d) ∧ (e = 0 → p = 0) := by
 rcases h with ⟨h1, rfl, rfl⟩ | ⟨h1, i, hi, _, hb, rfl, rfl⟩ | ⟨h1, h2, h3, i, _, rfl, rfl⟩ | ⟨h1, h2, h3, t, ht, ⟨h4, rfl, rfl⟩ | ⟨h4, rfl, rfl⟩⟩
 · exact ⟨⟨fun h => by omega, fun h => absurd h.Rc h1⟩, fun h => by omega⟩
 · exact ⟨⟨fun h => absurd (oQ.1 h) hb, fun h => absurd (h.Qt _ (nf hi)) hb⟩, fun h => absurd (oQ.1 h) hb⟩
 · exact ⟨⟨fun h => by omega, fun h => absurd h3 h.apart⟩, fun h => by omega⟩
 · exact ⟨⟨fun h => by omega, fun h => absurd (h.full p ht.pos h4) ht.not⟩, fun h => by omega⟩
 · exact ⟨⟨fun _ => ⟨h1, h2, h3, fun o h5 h6 => ht.QX o h5 (by omega)⟩, fun _ => rfl⟩, fun _ => rfl⟩
end G
end Go.Proofs.YtekpafdhgkocaaaGreat
namespace Go.Proofs.YtekpafdhgkocaaaGreat
open G
namespace G
theorem GM (a b : G.Command) : G.g9 a b = some (decide (a = b)) := by
 unfold G.g9
 obtain ⟨a1, a2, a3, a4, a5⟩ := a
 obtain ⟨b1, b2, b3, b4, b5⟩ := b
 simp only [G.Command.mk.injEq]
 by_cases h1 : a1 = b1
 · by_cases h2 : a2 = b2
   · by_cases h3 : a3 = b3
     · by_cases h4 : a4 = b4 <;> simp [h1, h2, h3, h4]
     · simp [h1, h2, h3]
   · simp [h1, h2]
 · simp [h1]
theorem BR {a b : List G.Command} (hl : a.length = b.length) : (∀ i, i < a.length → cat a i = cat b i) ↔ a = b := by
 constructor
 · intro h
   refine List.ext_getElem hl fun i h1 h2 => ?_
   rw [← eo h1, ← eo h2]; exact h i h1
 · rintro rfl i _; rfl
theorem JU {f : Int → Option (Int ⊕ Bool)} {a b : List G.Command} (hl : a.length = b.length) (hf : ∀ k : Nat, f (k : Int) = if k < a.length then some (if cat a k = cat b k then .inl ((k + 1 : Nat) : Int) else .inr false) else some (.inr true)) : Iter f 0 = some (decide (a = b)) := by
 have hK := ij (f := f) (List.range a.length) (fun k => decide (cat a k ≠ cat b k)) (fun k => (k : Int)) (fun _ => false) true
  (fun k h hb => by
   have hb' : cat a k = cat b k := by simpa using hb
   simp at h; rw [hf, if_pos h, if_pos hb'])
  (fun k h hb => by
   have hb' : ¬ cat a k = cat b k := by simpa using hb
   simp at h; rw [hf, if_pos h, if_neg hb'])
  (by rw [hf, if_neg (by simp)]) (s := 0) rfl
 rcases hK with ⟨ha, he⟩ | ⟨k, h, hb, _, he⟩
 · rw [he]; congr 1; symm; rw [decide_eq_true_eq]
   exact (BR hl).1 fun i hi => by simpa using ha i (List.mem_range.2 hi)
 · simp at h hb
   rw [he]; congr 1; symm; rw [decide_eq_false_iff_not]
   exact fun e => hb ((BR hl).2 e k h)
theorem LM (a b : List G.Command) (hn : a.length ≤ 9223372036854775807) : G.iM a b = some (decide (a = b)) := by
 unfold G.iM
 by_cases hl : a.length = b.length
 · rw [if_neg (by simp; omega)]
   refine JU hl fun k => ?_
   unfold G.lQ
   by_cases hk : k < a.length
   · rw [if_pos (by omega), if_pos hk, bn default hk, bn default (show k < b.length by omega)]
     simp only [Option.bind_some, GM]
     by_cases h : cat a k = cat b k
     · rw [if_neg (by simpa using h), if_pos h, ea hk hn]
     · rw [if_pos (by simpa using h), if_neg h]
   · rw [if_neg (by omega), if_neg hk]
 · rw [if_pos (by omega)]; congr 1; symm; rw [decide_eq_false_iff_not]; exact fun e => hl (by rw [e])
def sm (a b : G.Delta) : Bool := decide (a.bp = b.bp) && decide (a.aP = b.aP) && gL a.cF b.cF && gL a.cE b.cE && decide (a.commands = b.commands)
theorem Ba (a b : G.Delta) (hn : a.commands.length ≤ 9223372036854775807) : G.dp a b = some (sm a b) := by
 unfold G.dp sm
 rw [LM _ _ hn]
 by_cases h1 : a.bp = b.bp
 · by_cases h2 : a.aP = b.aP
   · cases h3 : gL a.cF b.cF
     · simp [h1, h2]
     · cases h4 : gL a.cE b.cE <;> simp [h1, h2]
   · simp [h1, h2]
 · simp [h1]
theorem hash_self (f : Nat → UInt8) : gL f f = true := by unfold gL; rw [List.all_eq_true]; intro i _; simp
theorem KM (a : G.Delta) : sm a a = true := by unfold sm; simp [hash_self]
end G
end Go.Proofs.YtekpafdhgkocaaaGreat
