/- Part of what the laws need: plain words, the walker and its laws, the program's functions. -/
import Derived.Test.YthhmandpjlggcaaZEv
namespace Go.Proofs.Ythhmandpjlggcaa
open Go.RowKit G
namespace E
variable {S : Nat → Type}
def szC (sz : Nat → Nat) : Co → Nat
  | .st i => sz i
  | .a8 n => max n 1
  | .ai n _ => max n 1
  | _ => 1
def RC (R : (i : Nat) → Mem → S i → List Value → Prop) (sz : Nat → Nat) : (c : Co) → Mem → T S c → List Value → Prop
  | .int k => isNum k
  | .u8 => isU8
  | .bo => isBo
  | .str => isStr
  | .sl c => isSl (RC R sz c) (szC sz c)
  | .st i => R i
  | .a8 n => fun _ (f : Nat → UInt8) cs => cs = (List.range n).map (fun i => .int .u8 ((f i).toNat : Int)) ∧ 0 < n
  | .ai n k => fun _ (f : Nat → Int) cs => cs = (List.range n).map (fun i => .int k (f i)) ∧ 0 < n
  | .mp _ _ => fun _ _ _ => False
def fsR (R : (i : Nat) → Mem → S i → List Value → Prop) (sz : Nat → Nat) (m : Mem) : (cs : List Co) → HL S cs → List Value → Prop
  | [], _, vs => vs = []
  | c :: cs, h, vs => ∃ v1 v2, vs = v1 ++ v2 ∧ RC R sz c m h.1 v1 ∧ fsR R sz m cs h.2 v2
def noSt : Co → Bool
  | .st _ => false
  | _ => true
structure RG where
  ps : List Nat
  asg : Code
  body : Code
  n : Nat
structure TbOK (tb : Tb S) where
  R : (i : Nat) → Mem → S i → List Value → Prop
  sz : Nat → Nat
  rep : ∀ i, Rep (R i) (sz i)
  spec : ∀ i m x cs, R i m x cs ↔ fsR R sz m (tb i).fs ((tb i).to x) cs
  to_of : ∀ i h, (tb i).to ((tb i).of h) = h
  flat : ∀ i, (tb i).fs.all noSt = true
  rg : Nat → Option RG
  B : Mem → Prop
  Bm : ∀ {m m' : Mem}, B m → Le m m' → B m'
variable {tb : Tb S} (K : TbOK tb)
abbrev RK (c : Co) : Mem → T S c → List Value → Prop := RC K.R K.sz c
abbrev zK (c : Co) : Nat := szC K.sz c
theorem rep_RC : ∀ c, Rep (RK K c) (zK K c)
  | .int k => rep_Num k
  | .u8 => rep_U8
  | .bo => rep_Bo
  | .str => rep_Str
  | .sl c => rep_Sl (rep_RC c)
  | .st i => K.rep i
  | .a8 n => ⟨fun h _ => h, fun h => by rw [h.1]; simp [szC]; have := h.2; omega, fun h u hu => by rw [h.1] at hu; simp at hu; obtain ⟨i, _, rfl⟩ := hu; rfl, by simp [szC]; omega⟩
  | .ai n k => ⟨fun h _ => h, fun h => by rw [h.1]; simp [szC]; have := h.2; omega, fun h u hu => by rw [h.1] at hu; simp at hu; obtain ⟨i, _, rfl⟩ := hu; rfl, by simp [szC]; omega⟩
  | .mp _ _ => ⟨fun h _ => h.elim, fun h => h.elim, fun h => h.elim, by simp [szC]⟩
def keyR : (c : Co) → Mem → T S c → Value → Prop
  | .st i => fun m x v => ∃ cs, v = .agg cs.toArray ∧ K.R i m x cs
  | c => fun m x v => RK K c m x [v]
theorem keyR.mono {m m' : Mem} (hm : Le m m') : ∀ {c : Co} {x : T S c} {v : Value}, keyR K c m x v → keyR K c m' x v
  | .st i, _, _, h => by obtain ⟨cs, h1, h2⟩ := h; exact ⟨cs, h1, (K.rep i).mono h2 hm⟩
  | .int k, _, _, h => (rep_RC K (.int k)).mono h hm
  | .u8, _, _, h => (rep_RC K .u8).mono h hm
  | .bo, _, _, h => (rep_RC K .bo).mono h hm
  | .str, _, _, h => (rep_RC K .str).mono h hm
  | .sl c, _, _, h => (rep_RC K (.sl c)).mono h hm
  | .a8 n, _, _, h => (rep_RC K (.a8 n)).mono h hm
  | .ai n k, _, _, h => (rep_RC K (.ai n k)).mono h hm
  | .mp _ _, _, _, h => h.elim
structure Gh where
  g : Option Nat
  ad : Option Addr
  cap : Nat
  n : Nat
variable (S) in
structure GG where
  bk : Nat → Option Gh
  vv : Nat → Option Value
  oo : Nat → Option (AO S × Ent)
mutual
def cvR (g : GG S) (m : Mem) : CV S → List Value → Prop
  | .int k x, cs => cs = [.int k x]
  | .u8 x, cs => cs = [.int .u8 (x.toNat : Int)]
  | .bo b _ _ _, cs => cs = [.bool b]
  | .tt b, cs => cs = [.bool b]
  | .str l, cs => cs = [.string (Proofs.Ythhmandpjlggcaa.str l)]
  | .sl c l, cs => isSl (RK K c) (zK K c) m l cs
  | .slF c l, cs => ∃ a, cs = [.slice a l.length l.length] ∧ Els (RK K c) m (zK K c) a l.length l
  | .rw o c l, cs => ∃ (gh : Gh) (l0 : List (T S c)) (ad : Option Addr), g.bk o = some gh ∧ cs = [.slice ad l.length (gh.cap - l0.length)] ∧ Els (RK K c) m (zK K c) ad (gh.cap - l0.length) l ∧ Els (RK K c) m (zK K c) (adr gh.g) gh.cap (l0 ++ l) ∧ gh.n = (l0 ++ l).length ∧ (l0.length < gh.cap → ad = cutA (adr gh.g) gh.cap l0.length (zK K c))
  | .aw o, cs => ∃ gh, g.bk o = some gh ∧ cs = [.slice gh.ad gh.n gh.cap]
  | .nilS, cs => cs = [.slice none 0 0]
  | .a8 n f, cs => cs = (List.range n).map (fun i => .int .u8 ((f i).toNat : Int))
  | .ai n k f, cs => cs = (List.range n).map fun i => .int k (f i)
  | .ptr o off, cs => ∃ gh b, g.bk o = some gh ∧ gh.g = some b ∧ cs = [.pointer (some ⟨b, off, none⟩)]
  | .nilP, cs => cs = [.pointer none]
  | .el c x off, cs => ∃ b p ecs, cs = [.pointer (some ⟨b, p + off, none⟩)] ∧ RK K c m x ecs ∧ At m b p ecs
  | .ela o v c x j off, cs => ∃ gh b p e f l en, g.bk o = some gh ∧ gh.ad.map (·.add (j.toNat * zK K c)) = some ⟨b, p, none⟩ ∧ cs = [.pointer (some ⟨b, p + off, none⟩)] ∧ g.oo v = some (.arr e c f l, en) ∧ idx l j = some x
  | .elx o off n i, cs => ∃ gh b, g.bk o = some gh ∧ gh.g = some b ∧ cs = [.pointer (some ⟨b, off + i.toNat, none⟩)] ∧ 0 ≤ i ∧ i < n
  | .px o off n i j, cs => ∃ gh b, g.bk o = some gh ∧ gh.g = some b ∧ cs = [.slice (some ⟨b, off + i.toNat, none⟩) (j - i).toNat (n - i.toNat)] ∧ 0 ≤ i ∧ i ≤ j ∧ j ≤ (n : Int)
  | .fn f xs ys, cs => ∃ v1 v2, cs = [.func f v1.toArray v2.toArray] ∧ cv1R g m xs v1 ∧ cv1R g m ys v2
  | .nilF, cs => cs = [.nilFunc]
  | .nilM, cs => cs = [.map none]
  | .nilI, cs => cs = [.nilIface]
  | .yl o, cs => ∃ gh l, g.bk o = some gh ∧ gh.g = some l ∧ cs = [.func (.yield l) #[] #[]]
  | .mp o, cs => ∃ gh b, g.bk o = some gh ∧ gh.g = some b ∧ cs = [.map (some b)]
  | .stp _ q, cs => ∃ gh, g.bk q = some gh ∧ cs = [.int .i64 (gh.n : Int)]
  | .na e n, cs => ∃ b, cs = [.bool b] ∧ (b ≠ n → e = true)
  | .pt o c off n, cs => ∃ gh, g.bk o = some gh ∧ cs = [.slice (cutA gh.ad gh.cap off.toNat (zK K c)) n.toNat (gh.cap - off.toNat)] ∧ 0 ≤ off ∧ 0 ≤ n ∧ off + n ≤ (gh.n : Int)
  | .rz o _ n, cs => ∃ gh b, g.bk o = some gh ∧ gh.g = some b ∧ cs = [.slice (adr gh.g) n.toNat gh.cap] ∧ gh.n = 0 ∧ gh.cap ≤ maxLen
def cv1R (g : GG S) (m : Mem) : List (CV S) → List Value → Prop
  | [], vs => vs = []
  | x :: xs, vs => ∃ v vs', vs = v :: vs' ∧ cvR g m x [v] ∧ cv1R g m xs vs'
end
def cvsR (g : GG S) (m : Mem) : List (CV S) → List Value → Prop
  | [], cs => cs = []
  | v :: vs, cs => ∃ c1 c2, cs = c1 ++ c2 ∧ cvR K g m v c1 ∧ cvsR g m vs c2
mutual
def avR (g : GG S) (m : Mem) : AV S → Value → Prop
  | .one v, x => cvR K g m v [x]
  | .agg vs, x => ∃ cs, x = .agg cs.toArray ∧ cvsR K g m vs cs
  | .tup vs, x => ∃ l, x = .tuple l.toArray ∧ avsR g m vs l
def avsR (g : GG S) (m : Mem) : List (AV S) → List Value → Prop
  | [], l => l = []
  | v :: vs, l => ∃ x r, l = x :: r ∧ avR g m v x ∧ avsR g m vs r
end
def exC : Exi → Code
  | .normal => .skip
  | .ret => .ret
  | .exit n => .exit n
def lsSt : LS → LoopState
  | .ready => .ready
  | .busy => .busy
  | .done _ => .done
def lsPe : LS → Option Code
  | .done e => some (exC e)
  | _ => none
def rwV (m : Mem) (c : Co) (gh : Gh) (l : List (T S c)) (v : Value) : Prop := ∃ (l0 : List (T S c)) (ad : Option Addr), v = .slice ad l.length (gh.cap - l0.length) ∧ Els (RK K c) m (zK K c) ad (gh.cap - l0.length) l ∧ Els (RK K c) m (zK K c) (adr gh.g) gh.cap (l0 ++ l) ∧ gh.n = (l0 ++ l).length ∧ (l0.length < gh.cap → ad = cutA (adr gh.g) gh.cap l0.length (zK K c))
theorem rwV.mono {m m' : Mem} (hm : Le m m') {c : Co} {gh : Gh} {l : List (T S c)} {v : Value} (h : rwV K m c gh l v) : rwV K m' c gh l v := by
  obtain ⟨l0, ad, h1, h2, h3, h4⟩ := h
  exact ⟨l0, ad, h1, h2.mono (rep_RC K c) hm, h3.mono (rep_RC K c) hm, h4⟩
def gvR (m : Mem) (c : Co) (p : List (T S c) × Option Gh) (v : Value) : Prop := match p.2 with
  | some gh => rwV K m c gh p.1 v
  | none => True
theorem gvR.mono {m m' : Mem} (hm : Le m m') {c : Co} {p : List (T S c) × Option Gh} {v : Value} (h : gvR K m c p v) : gvR K m' c p v := by
  unfold gvR at *
  split at h
  · rename_i gh hg; exact rwV.mono K hm h
  · trivial
def rowE {κ ν : Type} (et : TypeId) (sz : Nat) (p : κ × (ν × Option Gh)) : Option Ent := p.2.2.map fun gh => Ent.row gh.g et (gh.cap * sz) (gh.n * sz)
def holeR {ν : Type} (m : Mem) (kc : Co) (es : Array MapEntry) (ll : List (T S kc × (ν × Option Gh))) : Option (T S kc) → Prop
  | none => ∀ (i : Nat) (p : T S kc × (ν × Option Gh)), ll[i]? = some p → p.2.2 ≠ none
  | some x => ∀ (i : Nat) (p : T S kc × (ν × Option Gh)) (e : MapEntry), ll[i]? = some p → es.toList[i]? = some e → p.2.2 = none → keyR K kc m x e.key
def stpR (g : GG S) (m : Mem) (kc : Co) (es : Array MapEntry) : Option (T S kc × Nat) → Prop
  | none => True
  | some (x, q) => ∃ (j : Nat) (e : MapEntry) (gh : Gh), es.toList[j]? = some e ∧ keyR K kc m x e.key ∧ g.bk q = some gh ∧ gh.n = e.born
def objR (g : GG S) (m : Mem) (k : Nat) : AO S → Ent → Prop
  | .box T cs, e => ∃ gh b vs, g.bk k = some gh ∧ gh.g = some b ∧ e = .box b vs.toArray T ∧ cvsR K g m cs vs
  | .row T c, e => ∃ gh, g.bk k = some gh ∧ e = .row gh.g T (gh.cap * zK K c) (gh.n * zK K c)
  | .arr T c full l, e => ∃ gh cs, g.bk k = some gh ∧ l.length = gh.n ∧ e = .arr gh.g cs T ∧ ArrS (RK K c) m (zK K c) gh.g cs gh.ad gh.cap l ∧ (full = true → gh.ad = adr gh.g ∧ ArrF (RK K c) m (zK K c) gh.g cs gh.cap l)
  | .loop r st tm, e => ∃ gh l R rg tmps, g.bk k = some gh ∧ gh.g = some l ∧ K.rg r = some rg ∧ e = .obj l (.loop (R (lsSt st) (lsPe st))) ∧ IsRec R rg.ps.toArray tmps rg.asg rg.body ∧ tmps.size = rg.n ∧ ∀ t vid v, look t tm = some (vid, v) → avR K g m v (tmps.getD t undef)
  | .map _ kc vc l hole, e => ∃ gh b es clock, g.bk k = some gh ∧ gh.g = some b ∧ e = .obj b (.map es clock) ∧ MapR (keyR K kc m) (fun y v => RK K vc m y [v]) es clock l ∧ stpR K g m kc es hole
  | .gmap _ et kc c l hole, e => ∃ gh b es clock ll, g.bk k = some gh ∧ gh.g = some b ∧ e = .cat (.obj b (.map es clock) :: ll.filterMap (rowE et (zK K c))) ∧ MapR (keyR K kc m) (gvR K m c) es clock ll ∧ ll.map (fun p => (p.1, p.2.1)) = l ∧ holeR K m kc es ll hole
  | .kmap _ kc l, e => ∃ gh b es clock, g.bk k = some gh ∧ gh.g = some b ∧ e = .obj b (.map es clock) ∧ MapR (keyR K kc m) (fun y v => isFn y = true ∧ cvR K g m y [v]) es clock l
def ObR (g : GG S) (m : Mem) : List (Nat × Nat × AO S) → List Ent → Prop
  | [], L => L = []
  | x :: l, L => ∃ e L', L = e :: L' ∧ g.oo x.2.1 = some (x.2.2, e) ∧ objR K g m x.1 x.2.2 e ∧ ObR g m l L'
def AddR (g : GG S) (m : Mem) : List (Nat × AO S) → List Ent → Prop
  | [], L => L = []
  | x :: l, L => ∃ e L', L = e :: L' ∧ objR K g m x.1 x.2 e ∧ AddR g m l L'
structure GE (g g' : GG S) : Prop where
  bk : ∀ i x, g.bk i = some x → g'.bk i = some x
  vv : ∀ i x, g.vv i = some x → g'.vv i = some x
  oo : ∀ i x, g.oo i = some x → g'.oo i = some x
theorem GE.refl (g : GG S) : GE g g := ⟨fun _ _ h => h, fun _ _ h => h, fun _ _ h => h⟩
theorem GE.trans {a b c : GG S} (h : GE a b) (k : GE b c) : GE a c := ⟨fun i x hx => k.bk i x (h.bk i x hx), fun i x hx => k.vv i x (h.vv i x hx), fun i x hx => k.oo i x (h.oo i x hx)⟩
section
variable {K} {g g' : GG S} {m m' : Mem}
mutual
theorem cvR.mono (hg : GE g g') (hm : Le m m') : ∀ {v : CV S} {cs : List Value}, cvR K g m v cs → cvR K g' m' v cs
  | .na _ _, _, h | .int _ _, _, h | .u8 _, _, h | .bo _ _ _ _, _, h | .tt _, _, h | .str _, _, h | .nilS, _, h | .a8 _ _, _, h | .ai _ _ _, _, h | .nilP, _, h | .nilF, _, h | .nilM, _, h | .nilI, _, h => by
    simp only [cvR] at h ⊢; exact h
  | .sl c l, _, h => by
    simp only [cvR] at h ⊢; exact (rep_Sl (rep_RC K c)).mono h hm
  | .slF c l, _, h => by
    simp only [cvR] at h ⊢; obtain ⟨a, h1, h2⟩ := h; exact ⟨a, h1, h2.mono (rep_RC K c) hm⟩
  | .rw o c l, _, h => by
    simp only [cvR] at h ⊢; obtain ⟨gh, l0, ad, h1, h2, h3, h4, h5⟩ := h; exact ⟨gh, l0, ad, hg.bk _ _ h1, h2, h3.mono (rep_RC K c) hm, h4.mono (rep_RC K c) hm, h5⟩
  | .aw o, _, h => by
    simp only [cvR] at h ⊢; obtain ⟨gh, h1, h2⟩ := h; exact ⟨gh, hg.bk _ _ h1, h2⟩
  | .ptr o off, _, h => by
    simp only [cvR] at h ⊢; obtain ⟨gh, b, h1, h2⟩ := h; exact ⟨gh, b, hg.bk _ _ h1, h2⟩
  | .el c x off, _, h => by
    simp only [cvR] at h ⊢; obtain ⟨b, p, ecs, h1, h2, h3⟩ := h; exact ⟨b, p, ecs, h1, (rep_RC K c).mono h2 hm, h3.mono hm⟩
  | .ela o v c x j off, _, h => by
    simp only [cvR] at h ⊢; obtain ⟨gh, b, p, e, f, l, en, h1, h2, h3, h4, h5⟩ := h; exact ⟨gh, b, p, e, f, l, en, hg.bk _ _ h1, h2, h3, hg.oo _ _ h4, h5⟩
  | .elx o off n i, _, h => by
    simp only [cvR] at h ⊢; obtain ⟨gh, b, h1, h2⟩ := h; exact ⟨gh, b, hg.bk _ _ h1, h2⟩
  | .pt o c off n, _, h => by
    simp only [cvR] at h ⊢; obtain ⟨gh, h1, h2⟩ := h; exact ⟨gh, hg.bk _ _ h1, h2⟩
  | .px o off n i j, _, h => by
    simp only [cvR] at h ⊢; obtain ⟨gh, b, h1, h2⟩ := h; exact ⟨gh, b, hg.bk _ _ h1, h2⟩
  | .rz o _ _, _, h => by
    simp only [cvR] at h ⊢; obtain ⟨gh, b, h1, h2⟩ := h; exact ⟨gh, b, hg.bk _ _ h1, h2⟩
  | .yl o, _, h => by
    simp only [cvR] at h ⊢; obtain ⟨gh, b, h1, h2⟩ := h; exact ⟨gh, b, hg.bk _ _ h1, h2⟩
  | .mp o, _, h => by
    simp only [cvR] at h ⊢; obtain ⟨gh, b, h1, h2⟩ := h; exact ⟨gh, b, hg.bk _ _ h1, h2⟩
  | .stp o q, _, h => by
    simp only [cvR] at h ⊢; obtain ⟨gh, h1, h2⟩ := h; exact ⟨gh, hg.bk _ _ h1, h2⟩
  | .fn f xs ys, _, h => by
    simp only [cvR] at h ⊢; obtain ⟨v1, v2, h1, h2, h3⟩ := h; exact ⟨v1, v2, h1, cv1R.mono hg hm h2, cv1R.mono hg hm h3⟩
theorem cv1R.mono (hg : GE g g') (hm : Le m m') : ∀ {vs : List (CV S)} {cs : List Value}, cv1R K g m vs cs → cv1R K g' m' vs cs
  | [], _, h => by simp only [cv1R] at h ⊢; exact h
  | x :: xs, _, h => by
    simp only [cv1R] at h ⊢; obtain ⟨v, vs', h1, h2, h3⟩ := h; exact ⟨v, vs', h1, cvR.mono hg hm h2, cv1R.mono hg hm h3⟩
end
theorem cvsR.mono (hg : GE g g') (hm : Le m m') : ∀ {vs : List (CV S)} {cs : List Value}, cvsR K g m vs cs → cvsR K g' m' vs cs
  | [], _, h => h
  | _ :: _, _, ⟨c1, c2, h1, h2, h3⟩ => ⟨c1, c2, h1, h2.mono hg hm, h3.mono hg hm⟩
mutual
theorem avR.mono (hg : GE g g') (hm : Le m m') : ∀ {v : AV S} {x : Value}, avR K g m v x → avR K g' m' v x
  | .one v, _, h => by simp only [avR] at h ⊢; exact cvR.mono hg hm h
  | .agg vs, _, h => by simp only [avR] at h ⊢; obtain ⟨cs, h1, h2⟩ := h; exact ⟨cs, h1, h2.mono hg hm⟩
  | .tup vs, _, h => by simp only [avR] at h ⊢; obtain ⟨l, h1, h2⟩ := h; exact ⟨l, h1, avsR.mono hg hm h2⟩
theorem avsR.mono (hg : GE g g') (hm : Le m m') : ∀ {vs : List (AV S)} {l : List Value}, avsR K g m vs l → avsR K g' m' vs l
  | [], _, h => by simp only [avsR] at h ⊢; exact h
  | v :: vs, _, h => by simp only [avsR] at h ⊢; obtain ⟨x, r, h1, h2, h3⟩ := h; exact ⟨x, r, h1, avR.mono hg hm h2, avsR.mono hg hm h3⟩
end
theorem holeR.mono {ν : Type} {kc : Co} {es : Array MapEntry} {ll : List (T S kc × (ν × Option Gh))} {hole : Option (T S kc)} (hm : Le m m') (h : holeR K m kc es ll hole) : holeR K m' kc es ll hole := by
  cases hole with
  | none => exact h
  | some x => exact fun i p e h1 h2 h3 => keyR.mono K hm (h i p e h1 h2 h3)
theorem stpR.mono {kc : Co} {es : Array MapEntry} {hole : Option (T S kc × Nat)} (hg : GE g g') (hm : Le m m') (h : stpR K g m kc es hole) : stpR K g' m' kc es hole := by
  cases hole with
  | none => exact h
  | some x => obtain ⟨j, e, gh, h1, h2, h3, h4⟩ := h; exact ⟨j, e, gh, h1, keyR.mono K hm h2, hg.bk _ _ h3, h4⟩
theorem objR.mono (hg : GE g g') (hm : Le m m') {k : Nat} {o : AO S} {e : Ent} (h : objR K g m k o e) : objR K g' m' k o e := by
  cases o with
  | box T cs => obtain ⟨gh, b, vs, h1, h2, h3, h4⟩ := h; exact ⟨gh, b, vs, hg.bk _ _ h1, h2, h3, h4.mono hg hm⟩
  | row T c => obtain ⟨gh, h1, h2⟩ := h; exact ⟨gh, hg.bk _ _ h1, h2⟩
  | arr T c full l => obtain ⟨gh, cs, h1, h2, h3, h4, h5⟩ := h; exact ⟨gh, cs, hg.bk _ _ h1, h2, h3, h4.mono (rep_RC K c) hm, fun hf => ⟨(h5 hf).1, (h5 hf).2.mono (rep_RC K c) hm⟩⟩
  | loop r st tm => obtain ⟨gh, l, R, rg, tmps, h1, h2, h3, h4, h5, h6, h7⟩ := h; exact ⟨gh, l, R, rg, tmps, hg.bk _ _ h1, h2, h3, h4, h5, h6, fun t vid v hl => (h7 t vid v hl).mono hg hm⟩
  | map t kc vc l hole => obtain ⟨gh, b, es, clock, h1, h2, h3, h4, h5⟩ := h; exact ⟨gh, b, es, clock, hg.bk _ _ h1, h2, h3, h4.mono (fun _ _ h => keyR.mono K hm h) fun y _ h => (rep_RC K vc).mono h hm, h5.mono hg hm⟩
  | gmap t et kc c l hole => obtain ⟨gh, b, es, clock, ll, h1, h2, h3, h4, h5, h6⟩ := h; exact ⟨gh, b, es, clock, ll, hg.bk _ _ h1, h2, h3, h4.mono (fun _ _ h => keyR.mono K hm h) fun y _ h => gvR.mono K hm h, h5, h6.mono hm⟩
  | kmap t kc l => obtain ⟨gh, b, es, clock, h1, h2, h3, h4⟩ := h; exact ⟨gh, b, es, clock, hg.bk _ _ h1, h2, h3, h4.mono (fun _ _ h => keyR.mono K hm h) fun y _ h => ⟨h.1, h.2.mono hg hm⟩⟩
theorem ObR.mono (hg : GE g g') (hm : Le m m') : ∀ {l : List (Nat × Nat × AO S)} {L : List Ent}, ObR K g m l L → ObR K g' m' l L
  | [], _, h => h
  | _ :: _, _, ⟨e, L', h1, h2, h3, h4⟩ => ⟨e, L', h1, hg.oo _ _ h2, h3.mono hg hm, ObR.mono hg hm h4⟩
theorem AddR.mono (hg : GE g g') (hm : Le m m') : ∀ {l : List (Nat × AO S)} {L : List Ent}, AddR K g m l L → AddR K g' m' l L
  | [], _, h => h
  | _ :: _, _, ⟨e, L', h1, h3, h4⟩ => ⟨e, L', h1, h3.mono hg hm, AddR.mono hg hm h4⟩
end
end E
end Go.Proofs.Ythhmandpjlggcaa
