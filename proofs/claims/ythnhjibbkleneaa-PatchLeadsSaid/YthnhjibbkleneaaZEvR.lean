/- Part of what the laws need: plain words, the walker and its laws, the program's functions. -/
import Derived.Test.YthnhjibbkleneaaZEv
namespace Go.Proofs.Ythnhjibbkleneaa
open Go.RowKit G
namespace E
variable {S : Nat → Type}
def szC (sz : Nat → Nat) : Co → Nat
  | .st i => sz i
  | .a8 n => max n 1
  | .ai n _ => max n 1
  | _ => 1
def RC (R : (i : Nat) → Mem → S i → List Value → Prop) (sz : Nat → Nat) : (c : Co) → Mem → T S c → List Value → Prop
  | .int k => isNum k
  | .u8 => isU8
  | .bo => isBo
  | .str => isStr
  | .sl c => isSl (RC R sz c) (szC sz c)
  | .st i => R i
  | .a8 n => fun _ (f : Nat → UInt8) cs => cs = (List.range n).map (fun i => .int .u8 ((f i).toNat : Int)) ∧ 0 < n
  | .ai n k => fun _ (f : Nat → Int) cs => cs = (List.range n).map (fun i => .int k (f i)) ∧ 0 < n
def fsR (R : (i : Nat) → Mem → S i → List Value → Prop) (sz : Nat → Nat) (m : Mem) : (cs : List Co) → HL S cs → List Value → Prop
  | [], _, vs => vs = []
  | c :: cs, h, vs => ∃ v1 v2, vs = v1 ++ v2 ∧ RC R sz c m h.1 v1 ∧ fsR R sz m cs h.2 v2
def noSt : Co → Bool
  | .st _ => false
  | _ => true
structure RG where
  ps : List Nat
  asg : Code
  body : Code
  n : Nat
structure TbOK (tb : Tb S) where
  R : (i : Nat) → Mem → S i → List Value → Prop
  sz : Nat → Nat
  rep : ∀ i, Rep (R i) (sz i)
  spec : ∀ i m x cs, R i m x cs ↔ fsR R sz m (tb i).fs ((tb i).to x) cs
  to_of : ∀ i h, (tb i).to ((tb i).of h) = h
  flat : ∀ i, (tb i).fs.all noSt = true
  rg : Nat → Option RG
  B : Mem → Prop
  Bm : ∀ {m m' : Mem}, B m → Le m m' → B m'
variable {tb : Tb S} (K : TbOK tb)
abbrev RK (c : Co) : Mem → T S c → List Value → Prop := RC K.R K.sz c
abbrev zK (c : Co) : Nat := szC K.sz c
theorem rep_RC : ∀ c, Rep (RK K c) (zK K c)
  | .int k => rep_Num k
  | .u8 => rep_U8
  | .bo => rep_Bo
  | .str => rep_Str
  | .sl c => rep_Sl (rep_RC c)
  | .st i => K.rep i
  | .a8 n => ⟨fun h _ => h, fun h => by rw [h.1]; simp [szC]; have := h.2; omega, fun h u hu => by rw [h.1] at hu; simp at hu; obtain ⟨i, _, rfl⟩ := hu; rfl, by simp [szC]; omega⟩
  | .ai n k => ⟨fun h _ => h, fun h => by rw [h.1]; simp [szC]; have := h.2; omega, fun h u hu => by rw [h.1] at hu; simp at hu; obtain ⟨i, _, rfl⟩ := hu; rfl, by simp [szC]; omega⟩
structure Gh where
  g : Option Nat
  ad : Option Addr
  cap : Nat
  n : Nat
variable (S) in
structure GG where
  bk : Nat → Option Gh
  vv : Nat → Option Value
  oo : Nat → Option (AO S × Ent)
mutual
def cvR (g : GG S) (m : Mem) : CV S → List Value → Prop
  | .int k x, cs => cs = [.int k x]
  | .u8 x, cs => cs = [.int .u8 (x.toNat : Int)]
  | .bo b _ _ _, cs => cs = [.bool b]
  | .tt b, cs => cs = [.bool b]
  | .str l, cs => cs = [.string (Proofs.Ythnhjibbkleneaa.str l)]
  | .sl c l, cs => isSl (RK K c) (zK K c) m l cs
  | .slF c l, cs => ∃ a, cs = [.slice a l.length l.length] ∧ Els (RK K c) m (zK K c) a l.length l
  | .rw o c l, cs => ∃ (gh : Gh) (l0 : List (T S c)) (ad : Option Addr), g.bk o = some gh ∧ cs = [.slice ad l.length (gh.cap - l0.length)] ∧ Els (RK K c) m (zK K c) ad (gh.cap - l0.length) l ∧ Els (RK K c) m (zK K c) (adr gh.g) gh.cap (l0 ++ l) ∧ gh.n = (l0 ++ l).length ∧ (l0.length < gh.cap → ad = cutA (adr gh.g) gh.cap l0.length (zK K c))
  | .aw o, cs => ∃ gh, g.bk o = some gh ∧ cs = [.slice gh.ad gh.n gh.cap]
  | .nilS, cs => cs = [.slice none 0 0]
  | .a8 n f, cs => cs = (List.range n).map (fun i => .int .u8 ((f i).toNat : Int))
  | .ai n k f, cs => cs = (List.range n).map fun i => .int k (f i)
  | .ptr o off, cs => ∃ gh b, g.bk o = some gh ∧ gh.g = some b ∧ cs = [.pointer (some ⟨b, off, none⟩)]
  | .nilP, cs => cs = [.pointer none]
  | .el c x off, cs => ∃ b p ecs, cs = [.pointer (some ⟨b, p + off, none⟩)] ∧ RK K c m x ecs ∧ At m b p ecs
  | .ela o v c x j off, cs => ∃ gh b p e f l en, g.bk o = some gh ∧ gh.ad.map (·.add (j.toNat * zK K c)) = some ⟨b, p, none⟩ ∧ cs = [.pointer (some ⟨b, p + off, none⟩)] ∧ g.oo v = some (.arr e c f l, en) ∧ idx l j = some x
  | .elx o off n i, cs => ∃ gh b, g.bk o = some gh ∧ gh.g = some b ∧ cs = [.pointer (some ⟨b, off + i.toNat, none⟩)] ∧ 0 ≤ i ∧ i < n
  | .px o off n i j, cs => ∃ gh b, g.bk o = some gh ∧ gh.g = some b ∧ cs = [.slice (some ⟨b, off + i.toNat, none⟩) (j - i).toNat (n - i.toNat)] ∧ 0 ≤ i ∧ i ≤ j ∧ j ≤ (n : Int)
  | .fn f xs ys, cs => ∃ v1 v2, cs = [.func f v1.toArray v2.toArray] ∧ cv1R g m xs v1 ∧ cv1R g m ys v2
  | .nilF, cs => cs = [.nilFunc]
  | .nilM, cs => cs = [.map none]
  | .nilI, cs => cs = [.nilIface]
  | .yl o, cs => ∃ gh l, g.bk o = some gh ∧ gh.g = some l ∧ cs = [.func (.yield l) #[] #[]]
  | .na e n, cs => ∃ b, cs = [.bool b] ∧ (b ≠ n → e = true)
  | .pt o c off n, cs => ∃ gh, g.bk o = some gh ∧ cs = [.slice (cutA gh.ad gh.cap off.toNat (zK K c)) n.toNat (gh.cap - off.toNat)] ∧ 0 ≤ off ∧ 0 ≤ n ∧ off + n ≤ (gh.n : Int)
  | .rz o _ n, cs => ∃ gh b, g.bk o = some gh ∧ gh.g = some b ∧ cs = [.slice (adr gh.g) n.toNat gh.cap] ∧ gh.n = 0 ∧ gh.cap ≤ maxLen
def cv1R (g : GG S) (m : Mem) : List (CV S) → List Value → Prop
  | [], vs => vs = []
  | x :: xs, vs => ∃ v vs', vs = v :: vs' ∧ cvR g m x [v] ∧ cv1R g m xs vs'
end
def cvsR (g : GG S) (m : Mem) : List (CV S) → List Value → Prop
  | [], cs => cs = []
  | v :: vs, cs => ∃ c1 c2, cs = c1 ++ c2 ∧ cvR K g m v c1 ∧ cvsR g m vs c2
mutual
def avR (g : GG S) (m : Mem) : AV S → Value → Prop
  | .one v, x => cvR K g m v [x]
  | .agg vs, x => ∃ cs, x = .agg cs.toArray ∧ cvsR K g m vs cs
  | .tup vs, x => ∃ l, x = .tuple l.toArray ∧ avsR g m vs l
def avsR (g : GG S) (m : Mem) : List (AV S) → List Value → Prop
  | [], l => l = []
  | v :: vs, l => ∃ x r, l = x :: r ∧ avR g m v x ∧ avsR g m vs r
end
def exC : Exi → Code
  | .normal => .skip
  | .ret => .ret
  | .exit n => .exit n
def lsSt : LS → LoopState
  | .ready => .ready
  | .busy => .busy
  | .done _ => .done
def lsPe : LS → Option Code
  | .done e => some (exC e)
  | _ => none
def objR (g : GG S) (m : Mem) (k : Nat) : AO S → Ent → Prop
  | .box T cs, e => ∃ gh b vs, g.bk k = some gh ∧ gh.g = some b ∧ e = .box b vs.toArray T ∧ cvsR K g m cs vs
  | .row T c, e => ∃ gh, g.bk k = some gh ∧ e = .row gh.g T (gh.cap * zK K c) (gh.n * zK K c)
  | .arr T c full l, e => ∃ gh cs, g.bk k = some gh ∧ l.length = gh.n ∧ e = .arr gh.g cs T ∧ ArrS (RK K c) m (zK K c) gh.g cs gh.ad gh.cap l ∧ (full = true → gh.ad = adr gh.g ∧ ArrF (RK K c) m (zK K c) gh.g cs gh.cap l)
  | .loop r st tm, e => ∃ gh l R rg tmps, g.bk k = some gh ∧ gh.g = some l ∧ K.rg r = some rg ∧ e = .obj l (.loop (R (lsSt st) (lsPe st))) ∧ IsRec R rg.ps.toArray tmps rg.asg rg.body ∧ tmps.size = rg.n ∧ ∀ t vid v, look t tm = some (vid, v) → avR K g m v (tmps.getD t undef)
def ObR (g : GG S) (m : Mem) : List (Nat × Nat × AO S) → List Ent → Prop
  | [], L => L = []
  | x :: l, L => ∃ e L', L = e :: L' ∧ g.oo x.2.1 = some (x.2.2, e) ∧ objR K g m x.1 x.2.2 e ∧ ObR g m l L'
def AddR (g : GG S) (m : Mem) : List (Nat × AO S) → List Ent → Prop
  | [], L => L = []
  | x :: l, L => ∃ e L', L = e :: L' ∧ objR K g m x.1 x.2 e ∧ AddR g m l L'
structure GE (g g' : GG S) : Prop where
  bk : ∀ i x, g.bk i = some x → g'.bk i = some x
  vv : ∀ i x, g.vv i = some x → g'.vv i = some x
  oo : ∀ i x, g.oo i = some x → g'.oo i = some x
theorem GE.refl (g : GG S) : GE g g := ⟨fun _ _ h => h, fun _ _ h => h, fun _ _ h => h⟩
theorem GE.trans {a b c : GG S} (h : GE a b) (k : GE b c) : GE a c := ⟨fun i x hx => k.bk i x (h.bk i x hx), fun i x hx => k.vv i x (h.vv i x hx), fun i x hx => k.oo i x (h.oo i x hx)⟩
section
variable {K} {g g' : GG S} {m m' : Mem}
mutual
theorem cvR.mono (hg : GE g g') (hm : Le m m') : ∀ {v : CV S} {cs : List Value}, cvR K g m v cs → cvR K g' m' v cs
  | .na _ _, _, h | .int _ _, _, h | .u8 _, _, h | .bo _ _ _ _, _, h | .tt _, _, h | .str _, _, h | .nilS, _, h | .a8 _ _, _, h | .ai _ _ _, _, h | .nilP, _, h | .nilF, _, h | .nilM, _, h | .nilI, _, h => by
    simp only [cvR] at h ⊢; exact h
  | .sl c l, _, h => by
    simp only [cvR] at h ⊢; exact (rep_Sl (rep_RC K c)).mono h hm
  | .slF c l, _, h => by
    simp only [cvR] at h ⊢; obtain ⟨a, h1, h2⟩ := h; exact ⟨a, h1, h2.mono (rep_RC K c) hm⟩
  | .rw o c l, _, h => by
    simp only [cvR] at h ⊢; obtain ⟨gh, l0, ad, h1, h2, h3, h4, h5⟩ := h; exact ⟨gh, l0, ad, hg.bk _ _ h1, h2, h3.mono (rep_RC K c) hm, h4.mono (rep_RC K c) hm, h5⟩
  | .aw o, _, h => by
    simp only [cvR] at h ⊢; obtain ⟨gh, h1, h2⟩ := h; exact ⟨gh, hg.bk _ _ h1, h2⟩
  | .ptr o off, _, h => by
    simp only [cvR] at h ⊢; obtain ⟨gh, b, h1, h2⟩ := h; exact ⟨gh, b, hg.bk _ _ h1, h2⟩
  | .el c x off, _, h => by
    simp only [cvR] at h ⊢; obtain ⟨b, p, ecs, h1, h2, h3⟩ := h; exact ⟨b, p, ecs, h1, (rep_RC K c).mono h2 hm, h3.mono hm⟩
  | .ela o v c x j off, _, h => by
    simp only [cvR] at h ⊢; obtain ⟨gh, b, p, e, f, l, en, h1, h2, h3, h4, h5⟩ := h; exact ⟨gh, b, p, e, f, l, en, hg.bk _ _ h1, h2, h3, hg.oo _ _ h4, h5⟩
  | .elx o off n i, _, h => by
    simp only [cvR] at h ⊢; obtain ⟨gh, b, h1, h2⟩ := h; exact ⟨gh, b, hg.bk _ _ h1, h2⟩
  | .pt o c off n, _, h => by
    simp only [cvR] at h ⊢; obtain ⟨gh, h1, h2⟩ := h; exact ⟨gh, hg.bk _ _ h1, h2⟩
  | .px o off n i j, _, h => by
    simp only [cvR] at h ⊢; obtain ⟨gh, b, h1, h2⟩ := h; exact ⟨gh, b, hg.bk _ _ h1, h2⟩
  | .rz o _ _, _, h => by
    simp only [cvR] at h ⊢; obtain ⟨gh, b, h1, h2⟩ := h; exact ⟨gh, b, hg.bk _ _ h1, h2⟩
  | .yl o, _, h => by
    simp only [cvR] at h ⊢; obtain ⟨gh, b, h1, h2⟩ := h; exact ⟨gh, b, hg.bk _ _ h1, h2⟩
  | .fn f xs ys, _, h => by
    simp only [cvR] at h ⊢; obtain ⟨v1, v2, h1, h2, h3⟩ := h; exact ⟨v1, v2, h1, cv1R.mono hg hm h2, cv1R.mono hg hm h3⟩
theorem cv1R.mono (hg : GE g g') (hm : Le m m') : ∀ {vs : List (CV S)} {cs : List Value}, cv1R K g m vs cs → cv1R K g' m' vs cs
  | [], _, h => by simp only [cv1R] at h ⊢; exact h
  | x :: xs, _, h => by
    simp only [cv1R] at h ⊢; obtain ⟨v, vs', h1, h2, h3⟩ := h; exact ⟨v, vs', h1, cvR.mono hg hm h2, cv1R.mono hg hm h3⟩
end
theorem cvsR.mono (hg : GE g g') (hm : Le m m') : ∀ {vs : List (CV S)} {cs : List Value}, cvsR K g m vs cs → cvsR K g' m' vs cs
  | [], _, h => h
  | _ :: _, _, ⟨c1, c2, h1, h2, h3⟩ => ⟨c1, c2, h1, h2.mono hg hm, h3.mono hg hm⟩
mutual
theorem avR.mono (hg : GE g g') (hm : Le m m') : ∀ {v : AV S} {x : Value}, avR K g m v x → avR K g' m' v x
  | .one v, _, h => by simp only [avR] at h ⊢; exact cvR.mono hg hm h
  | .agg vs, _, h => by simp only [avR] at h ⊢; obtain ⟨cs, h1, h2⟩ := h; exact ⟨cs, h1, h2.mono hg hm⟩
  | .tup vs, _, h => by simp only [avR] at h ⊢; obtain ⟨l, h1, h2⟩ := h; exact ⟨l, h1, avsR.mono hg hm h2⟩
theorem avsR.mono (hg : GE g g') (hm : Le m m') : ∀ {vs : List (AV S)} {l : List Value}, avsR K g m vs l → avsR K g' m' vs l
  | [], _, h => by simp only [avsR] at h ⊢; exact h
  | v :: vs, _, h => by simp only [avsR] at h ⊢; obtain ⟨x, r, h1, h2, h3⟩ := h; exact ⟨x, r, h1, avR.mono hg hm h2, avsR.mono hg hm h3⟩
end
theorem objR.mono (hg : GE g g') (hm : Le m m') {k : Nat} {o : AO S} {e : Ent} (h : objR K g m k o e) : objR K g' m' k o e := by
  cases o with
  | box T cs => obtain ⟨gh, b, vs, h1, h2, h3, h4⟩ := h; exact ⟨gh, b, vs, hg.bk _ _ h1, h2, h3, h4.mono hg hm⟩
  | row T c => obtain ⟨gh, h1, h2⟩ := h; exact ⟨gh, hg.bk _ _ h1, h2⟩
  | arr T c full l => obtain ⟨gh, cs, h1, h2, h3, h4, h5⟩ := h; exact ⟨gh, cs, hg.bk _ _ h1, h2, h3, h4.mono (rep_RC K c) hm, fun hf => ⟨(h5 hf).1, (h5 hf).2.mono (rep_RC K c) hm⟩⟩
  | loop r st tm => obtain ⟨gh, l, R, rg, tmps, h1, h2, h3, h4, h5, h6, h7⟩ := h; exact ⟨gh, l, R, rg, tmps, hg.bk _ _ h1, h2, h3, h4, h5, h6, fun t vid v hl => (h7 t vid v hl).mono hg hm⟩
theorem ObR.mono (hg : GE g g') (hm : Le m m') : ∀ {l : List (Nat × Nat × AO S)} {L : List Ent}, ObR K g m l L → ObR K g' m' l L
  | [], _, h => h
  | _ :: _, _, ⟨e, L', h1, h2, h3, h4⟩ => ⟨e, L', h1, hg.oo _ _ h2, h3.mono hg hm, ObR.mono hg hm h4⟩
theorem AddR.mono (hg : GE g g') (hm : Le m m') : ∀ {l : List (Nat × AO S)} {L : List Ent}, AddR K g m l L → AddR K g' m' l L
  | [], _, h => h
  | _ :: _, _, ⟨e, L', h1, h3, h4⟩ => ⟨e, L', h1, h3.mono hg hm, AddR.mono hg hm h4⟩
end
end E
end Go.Proofs.Ythnhjibbkleneaa
