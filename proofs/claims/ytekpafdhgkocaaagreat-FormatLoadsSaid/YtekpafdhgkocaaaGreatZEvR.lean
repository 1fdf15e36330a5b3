/- Part of what the laws need: plain words, the walker and its laws, the program's functions. -/
import Derived.Test.YtekpafdhgkocaaaGreatZEv
namespace Go.Proofs.YtekpafdhgkocaaaGreat
open Go.RowKit G
namespace E
variable {S : Nat → Type}
def wo (sz : Nat → Nat) : Co → Nat
 | .st i => sz i
 | .a8 n => max n 1
 | .ai n _ => max n 1
 | _ => 1
def RC (R : (i : Nat) → Mem → S i → List Value → Prop) (sz : Nat → Nat) : (c : Co) → Mem → T S c → List Value → Prop
 | .int k => isNum k
 | .u8 => nM
 | .bo => Ox
 | .str => isStr
 | .sl c => Dg (RC R sz c) (wo sz c)
 | .st i => R i
 | .a8 n => fun _ (f : Nat → UInt8) cs => cs = (List.range n).map (fun i => .int .u8 ((f i).toNat : Int)) ∧ 0 < n
 | .ai n k => fun _ (f : Nat → Int) cs => cs = (List.range n).map (fun i => .int k (f i)) ∧ 0 < n
 | .mp _ _ => fun _ _ _ => False
def BI (R : (i : Nat) → Mem → S i → List Value → Prop) (sz : Nat → Nat) (m : Mem) : (cs : List Co) → HL S cs → List Value → Prop
 | [], _, vs => vs = []
 | c :: cs, h, vs => ∃ v1 v2, vs = v1 ++ v2 ∧ RC R sz c m h.1 v1 ∧ BI R sz m cs h.2 v2
def Aq : Co → Bool
 | .st _ => false
 | _ => true
structure RG where
 ps : List Nat
 kI : Code
 body : Code
 n : Nat
structure cV (tb : Tb S) where
 R : (i : Nat) → Mem → S i → List Value → Prop
 sz : Nat → Nat
 rep : ∀ i, lB (R i) (sz i)
 spec : ∀ i m x cs, R i m x cs ↔ BI R sz m (tb i).fs ((tb i).to x) cs
 LH : ∀ i h, (tb i).to ((tb i).of h) = h
 flat : ∀ i, (tb i).fs.all Aq = true
 rg : Nat → Option RG
 B : Mem → Prop
 Bm : ∀ {m m' : Mem}, B m → Le m m' → B m'
variable {tb : Tb S} (K : cV tb)
abbrev RK (c : Co) : Mem → T S c → List Value → Prop := RC K.R K.sz c
abbrev zK (c : Co) : Nat := wo K.sz c
theorem bj : ∀ c, lB (RK K c) (zK K c)
 | .int k => EB k
 | .u8 => DB
 | .bo => Ik
 | .str => ED
 | .sl c => DA (bj c)
 | .st i => K.rep i
 | .a8 n => ⟨fun h _ => h, fun h => by rw [h.1]; simp [wo]; have := h.2; omega, fun h u hu => by rw [h.1] at hu; simp at hu; obtain ⟨i, _, rfl⟩ := hu; rfl, by simp [wo]; omega⟩
 | .ai n k => ⟨fun h _ => h, fun h => by rw [h.1]; simp [wo]; have := h.2; omega, fun h u hu => by rw [h.1] at hu; simp at hu; obtain ⟨i, _, rfl⟩ := hu; rfl, by simp [wo]; omega⟩
 | .mp _ _ => ⟨fun h _ => h.elim, fun h => h.elim, fun h => h.elim, by simp [wo]⟩
def cd : (c : Co) → Mem → T S c → Value → Prop
 | .st i => fun m x v => ∃ cs, v = .agg cs.toArray ∧ K.R i m x cs
 | c => fun m x v => RK K c m x [v]
theorem cd.mono {m m' : Mem} (hm : Le m m') : ∀ {c : Co} {x : T S c} {v : Value}, cd K c m x v → cd K c m' x v
 | .st i, _, _, h => by obtain ⟨cs, h1, h2⟩ := h; exact ⟨cs, h1, (K.rep i).mono h2 hm⟩
 | .int k, _, _, h => (bj K (.int k)).mono h hm
 | .u8, _, _, h => (bj K .u8).mono h hm
 | .bo, _, _, h => (bj K .bo).mono h hm
 | .str, _, _, h => (bj K .str).mono h hm
 | .sl c, _, _, h => (bj K (.sl c)).mono h hm
 | .a8 n, _, _, h => (bj K (.a8 n)).mono h hm
 | .ai n k, _, _, h => (bj K (.ai n k)).mono h hm
 | .mp _ _, _, _, h => h.elim
structure Gh where
 g : Option Nat
 ad : Option Addr
 cap : Nat
 n : Nat
 sk : List (Value × Nat)
variable (S) in
structure GG where
 bk : Nat → Option Gh
 vv : Nat → Option Value
 oo : Nat → Option (AO S × az)
mutual
def au (g : GG S) (m : Mem) : CV S → List Value → Prop
 | .int k x, cs => cs = [.int k x]
 | .u8 x, cs => cs = [.int .u8 (x.toNat : Int)]
 | .bo b _ _ _, cs => cs = [.bool b]
 | .tt b, cs => cs = [.bool b]
 | .str l, cs => cs = [.string (Proofs.YtekpafdhgkocaaaGreat.str l)]
 | .sl c l, cs => Dg (RK K c) (zK K c) m l cs
 | .KJ c l, cs => ∃ a, cs = [.slice a l.length l.length] ∧ cC (RK K c) m (zK K c) a l.length l
 | .rw o c l, cs => ∃ (gh : Gh) (l0 : List (T S c)) (ad : Option Addr), g.bk o = some gh ∧ cs = [.slice ad l.length (gh.cap - l0.length)] ∧ cC (RK K c) m (zK K c) ad (gh.cap - l0.length) l ∧ cC (RK K c) m (zK K c) (dW gh.g) gh.cap (l0 ++ l) ∧ gh.n = (l0 ++ l).length ∧ (l0.length < gh.cap → ad = cW (dW gh.g) gh.cap l0.length (zK K c))
 | .aw o, cs => ∃ gh, g.bk o = some gh ∧ cs = [.slice gh.ad gh.n gh.cap]
 | .bI, cs => cs = [.slice none 0 0]
 | .a8 n f, cs => cs = (List.range n).map (fun i => .int .u8 ((f i).toNat : Int))
 | .ai n k f, cs => cs = (List.range n).map fun i => .int k (f i)
 | .ptr o off, cs => ∃ gh b, g.bk o = some gh ∧ gh.g = some b ∧ cs = [.pointer (some ⟨b, off, none⟩)]
 | .dI, cs => cs = [.pointer none]
 | .el c x off, cs => ∃ b p ecs, cs = [.pointer (some ⟨b, p + off, none⟩)] ∧ RK K c m x ecs ∧ At m b p ecs
 | .CC o v c x j off, cs => ∃ gh b p e f l en, g.bk o = some gh ∧ gh.ad.map (·.add (j.toNat * zK K c)) = some ⟨b, p, none⟩ ∧ cs = [.pointer (some ⟨b, p + off, none⟩)] ∧ g.oo v = some (.arr e c f l, en) ∧ idx l j = some x
 | .Hc o off n i, cs => ∃ gh b, g.bk o = some gh ∧ gh.g = some b ∧ cs = [.pointer (some ⟨b, off + i.toNat, none⟩)] ∧ 0 ≤ i ∧ i < n
 | .px o off n i j, cs => ∃ gh b, g.bk o = some gh ∧ gh.g = some b ∧ cs = [.slice (some ⟨b, off + i.toNat, none⟩) (j - i).toNat (n - i.toNat)] ∧ 0 ≤ i ∧ i ≤ j ∧ j ≤ (n : Int)
 | .fn f xs ys, cs => ∃ v1 v2, cs = [.func f v1.toArray v2.toArray] ∧ fD g m xs v1 ∧ fD g m ys v2
 | .ag _, _ => False
 | .aU, cs => cs = [.nilFunc]
 | .uG, cs => cs = [.map none]
 | .ru, cs => cs = [.nilIface]
 | .yl o, cs => ∃ gh l, g.bk o = some gh ∧ gh.g = some l ∧ cs = [.func (.yield l) #[] #[]]
 | .mp o, cs => ∃ gh b, g.bk o = some gh ∧ gh.g = some b ∧ cs = [.map (some b)]
 | .KP _ q, cs => ∃ gh, g.bk q = some gh ∧ cs = [.int .i64 (gh.n : Int)]
 | .JR q, cs => ∃ gh r, g.bk q = some gh ∧ gh.g = some r ∧ cs = [.pointer (some ⟨r, 0, none⟩)]
 | .na e n, cs => ∃ b, cs = [.bool b] ∧ (b ≠ n → e = true)
 | .pt o c off n, cs => ∃ gh, g.bk o = some gh ∧ cs = [.slice (cW gh.ad gh.cap off.toNat (zK K c)) n.toNat (gh.cap - off.toNat)] ∧ 0 ≤ off ∧ 0 ≤ n ∧ off + n ≤ (gh.n : Int)
 | .rz o _ n, cs => ∃ gh b, g.bk o = some gh ∧ gh.g = some b ∧ cs = [.slice (dW gh.g) n.toNat gh.cap] ∧ gh.n = 0 ∧ gh.cap ≤ maxLen
def fD (g : GG S) (m : Mem) : List (CV S) → List Value → Prop
 | [], vs => vs = []
 | x :: xs, vs => ∃ v vs', vs = v :: vs' ∧ (au g m x [v] ∨ Gt g m x v) ∧ fD g m xs vs'
def Gt (g : GG S) (m : Mem) : CV S → Value → Prop
 | .ag ys, v => ∃ cs, v = .agg cs.toArray ∧ vN g m ys cs
 | _, _ => False
def vN (g : GG S) (m : Mem) : List (CV S) → List Value → Prop
 | [], cs => cs = []
 | v :: vs, cs => ∃ c1 c2, cs = c1 ++ c2 ∧ au g m v c1 ∧ vN g m vs c2
end
def bq (g : GG S) (m : Mem) : List (CV S) → List Value → Prop
 | [], cs => cs = []
 | v :: vs, cs => ∃ c1 c2, cs = c1 ++ c2 ∧ au K g m v c1 ∧ bq g m vs c2
mutual
def aA (g : GG S) (m : Mem) : AV S → Value → Prop
 | .one v, x => au K g m v [x]
 | .agg vs, x => ∃ cs, x = .agg cs.toArray ∧ bq K g m vs cs
 | .je vs, x => ∃ l, x = .tuple l.toArray ∧ bU g m vs l
def bU (g : GG S) (m : Mem) : List (AV S) → List Value → Prop
 | [], l => l = []
 | v :: vs, l => ∃ x r, l = x :: r ∧ aA g m v x ∧ bU g m vs r
end
def Q6 : Gp → Code
 | .normal => .skip
 | .ret => .ret
 | .exit n => .exit n
def uD : LS → LoopState
 | .ready => .ready
 | .busy => .busy
 | .done _ => .done
def yC : LS → Option Code
 | .done e => some (Q6 e)
 | _ => none
def OO (m : Mem) (c : Co) (gh : Gh) (l : List (T S c)) (v : Value) : Prop := ∃ (l0 : List (T S c)) (ad : Option Addr), v = .slice ad l.length (gh.cap - l0.length) ∧ cC (RK K c) m (zK K c) ad (gh.cap - l0.length) l ∧ cC (RK K c) m (zK K c) (dW gh.g) gh.cap (l0 ++ l) ∧ gh.n = (l0 ++ l).length ∧ (l0.length < gh.cap → ad = cW (dW gh.g) gh.cap l0.length (zK K c))
theorem OO.mono {m m' : Mem} (hm : Le m m') {c : Co} {gh : Gh} {l : List (T S c)} {v : Value} (h : OO K m c gh l v) : OO K m' c gh l v := by
 obtain ⟨l0, ad, h1, h2, h3, h4⟩ := h
 exact ⟨l0, ad, h1, h2.mono (bj K c) hm, h3.mono (bj K c) hm, h4⟩
def Gv (m : Mem) (c : Co) (p : List (T S c) × Option Gh) (v : Value) : Prop := match p.2 with
 | some gh => OO K m c gh p.1 v
 | none => True
theorem Gv.mono {m m' : Mem} (hm : Le m m') {c : Co} {p : List (T S c) × Option Gh} {v : Value} (h : Gv K m c p v) : Gv K m' c p v := by
 unfold Gv at *
 split at h
 · rename_i gh hg; exact OO.mono K hm h
 · trivial
def kF {κ ν : Type} (et : TypeId) (sz : Nat) (p : κ × (ν × Option Gh)) : Option az := p.2.2.map fun gh => az.row gh.g et (gh.cap * sz) (gh.n * sz)
def BL {ν : Type} (m : Mem) (kc : Co) (es : Array MapEntry) (ll : List (T S kc × (ν × Option Gh))) : Option (T S kc) → Prop
 | none => ∀ (i : Nat) (p : T S kc × (ν × Option Gh)), ll[i]? = some p → p.2.2 ≠ none
 | some x => ∀ (i : Nat) (p : T S kc × (ν × Option Gh)) (e : MapEntry), ll[i]? = some p → es.toList[i]? = some e → p.2.2 = none → cd K kc m x e.key
def DM (g : GG S) (m : Mem) (kc : Co) (es : Array MapEntry) : Option (T S kc × Nat) → Prop
 | none => True
 | some (x, q) => ∃ (j : Nat) (e : MapEntry) (gh : Gh), es.toList[j]? = some e ∧ cd K kc m x e.key ∧ g.bk q = some gh ∧ gh.n = e.born
def Oz (m : Mem) (kc : Co) (sk : List (Value × Nat)) (seen : Array Nat) : Option (Option (T S kc)) → Prop
 | none => seen = #[]
 | some none => True
 | some (some x) => ∃ (j : Nat) (p : Value × Nat), sk[j]? = some p ∧ seen.back? = some p.2 ∧ cd K kc m x p.1
def lr (g : GG S) (m : Mem) (k : Nat) : AO S → az → Prop
 | .box T cs, e => ∃ gh b vs, g.bk k = some gh ∧ gh.g = some b ∧ e = .box b vs.toArray T ∧ bq K g m cs vs
 | .row T c, e => ∃ gh, g.bk k = some gh ∧ e = .row gh.g T (gh.cap * zK K c) (gh.n * zK K c)
 | .arr T c full l, e => ∃ gh cs, g.bk k = some gh ∧ l.length = gh.n ∧ e = .arr gh.g cs T ∧ eh (RK K c) m (zK K c) gh.g cs gh.ad gh.cap l ∧ (full = true → gh.ad = dW gh.g ∧ qL (RK K c) m (zK K c) gh.g cs gh.cap l)
 | .loop r st tm, e => ∃ gh l R rg tmps, g.bk k = some gh ∧ gh.g = some l ∧ K.rg r = some rg ∧ e = .obj l (.loop (R (uD st) (yC st))) ∧ yJ R rg.ps.toArray tmps rg.kI rg.body ∧ tmps.size = rg.n ∧ ∀ t aI v, look t tm = some (aI, v) → aA K g m v (tmps.getD t undef)
 | .map _ kc vc l hole, e => ∃ gh b es clock, g.bk k = some gh ∧ gh.g = some b ∧ e = .obj b (.map es clock) ∧ gQ (cd K kc m) (fun y v => RK K vc m y [v]) es clock l ∧ DM K g m kc es hole
 | .ni _ et kc c l hole, e => ∃ gh b es clock ll, g.bk k = some gh ∧ gh.g = some b ∧ e = .cat (.obj b (.map es clock) :: ll.filterMap (kF et (zK K c))) ∧ gQ (cd K kc m) (Gv K m c) es clock ll ∧ ll.map (fun p => (p.1, p.2.1)) = l ∧ BL K m kc es ll hole
 | .yB _ kc l, e => ∃ gh b es clock, g.bk k = some gh ∧ gh.g = some b ∧ e = .obj b (.map es clock) ∧ gQ (cd K kc m) (fun y v => Mq y = true ∧ au K g m y [v]) es clock l
 | .jf _ kc vc l hole q, e => ∃ gh b es gq, g.bk k = some gh ∧ gh.g = some b ∧ g.bk q = some gq ∧ gq.cap = b ∧ e = .obj b (.map es gq.n) ∧ gQ (cd K kc m) (fun y v => RK K vc m y [v]) es gq.n l ∧ DM K g m kc es hole ∧ es.toList.map (fun e => (e.key, e.born)) = gq.sk
 | .xu kc o st, e => ∃ gh go r seen, g.bk k = some gh ∧ gh.g = some r ∧ g.bk o = some go ∧ go.g = some gh.cap ∧ e = .obj r (.mapIter (some gh.cap) gh.n seen gh.n) ∧ Oz K m kc gh.sk seen st
def dm (g : GG S) (m : Mem) : List (Nat × Nat × AO S) → List az → Prop
 | [], L => L = []
 | x :: l, L => ∃ e L', L = e :: L' ∧ g.oo x.2.1 = some (x.2.2, e) ∧ lr K g m x.1 x.2.2 e ∧ dm g m l L'
def wu (g : GG S) (m : Mem) : List (Nat × AO S) → List az → Prop
 | [], L => L = []
 | x :: l, L => ∃ e L', L = e :: L' ∧ lr K g m x.1 x.2 e ∧ wu g m l L'
structure GE (g g' : GG S) : Prop where
 bk : ∀ i x, g.bk i = some x → g'.bk i = some x
 vv : ∀ i x, g.vv i = some x → g'.vv i = some x
 oo : ∀ i x, g.oo i = some x → g'.oo i = some x
theorem GE.refl (g : GG S) : GE g g := ⟨fun _ _ h => h, fun _ _ h => h, fun _ _ h => h⟩
theorem GE.trans {a b c : GG S} (h : GE a b) (k : GE b c) : GE a c := ⟨fun i x hx => k.bk i x (h.bk i x hx), fun i x hx => k.vv i x (h.vv i x hx), fun i x hx => k.oo i x (h.oo i x hx)⟩
section
variable {K} {g g' : GG S} {m m' : Mem}
mutual
theorem au.mono (hg : GE g g') (hm : Le m m') : ∀ {v : CV S} {cs : List Value}, au K g m v cs → au K g' m' v cs
 | .na _ _, _, h | .int _ _, _, h | .u8 _, _, h | .bo _ _ _ _, _, h | .tt _, _, h | .str _, _, h | .bI, _, h | .a8 _ _, _, h | .ai _ _ _, _, h | .dI, _, h | .aU, _, h | .uG, _, h | .ru, _, h => by
   simp only [au] at h ⊢; exact h
 | .sl c l, _, h => by
   simp only [au] at h ⊢; exact (DA (bj K c)).mono h hm
 | .KJ c l, _, h => by
   simp only [au] at h ⊢; obtain ⟨a, h1, h2⟩ := h; exact ⟨a, h1, h2.mono (bj K c) hm⟩
 | .rw o c l, _, h => by
   simp only [au] at h ⊢; obtain ⟨gh, l0, ad, h1, h2, h3, h4, h5⟩ := h; exact ⟨gh, l0, ad, hg.bk _ _ h1, h2, h3.mono (bj K c) hm, h4.mono (bj K c) hm, h5⟩
 | .aw o, _, h => by
   simp only [au] at h ⊢; obtain ⟨gh, h1, h2⟩ := h; exact ⟨gh, hg.bk _ _ h1, h2⟩
 | .ptr o off, _, h => by
   simp only [au] at h ⊢; obtain ⟨gh, b, h1, h2⟩ := h; exact ⟨gh, b, hg.bk _ _ h1, h2⟩
 | .el c x off, _, h => by
   simp only [au] at h ⊢; obtain ⟨b, p, ecs, h1, h2, h3⟩ := h; exact ⟨b, p, ecs, h1, (bj K c).mono h2 hm, h3.mono hm⟩
 | .CC o v c x j off, _, h => by
   simp only [au] at h ⊢; obtain ⟨gh, b, p, e, f, l, en, h1, h2, h3, h4, h5⟩ := h; exact ⟨gh, b, p, e, f, l, en, hg.bk _ _ h1, h2, h3, hg.oo _ _ h4, h5⟩
 | .Hc o off n i, _, h => by
   simp only [au] at h ⊢; obtain ⟨gh, b, h1, h2⟩ := h; exact ⟨gh, b, hg.bk _ _ h1, h2⟩
 | .pt o c off n, _, h => by
   simp only [au] at h ⊢; obtain ⟨gh, h1, h2⟩ := h; exact ⟨gh, hg.bk _ _ h1, h2⟩
 | .px o off n i j, _, h => by
   simp only [au] at h ⊢; obtain ⟨gh, b, h1, h2⟩ := h; exact ⟨gh, b, hg.bk _ _ h1, h2⟩
 | .rz o _ _, _, h => by
   simp only [au] at h ⊢; obtain ⟨gh, b, h1, h2⟩ := h; exact ⟨gh, b, hg.bk _ _ h1, h2⟩
 | .yl o, _, h => by
   simp only [au] at h ⊢; obtain ⟨gh, b, h1, h2⟩ := h; exact ⟨gh, b, hg.bk _ _ h1, h2⟩
 | .mp o, _, h => by
   simp only [au] at h ⊢; obtain ⟨gh, b, h1, h2⟩ := h; exact ⟨gh, b, hg.bk _ _ h1, h2⟩
 | .KP o q, _, h => by
   simp only [au] at h ⊢; obtain ⟨gh, h1, h2⟩ := h; exact ⟨gh, hg.bk _ _ h1, h2⟩
 | .JR q, _, h => by
   simp only [au] at h ⊢; obtain ⟨gh, b, h1, h2⟩ := h; exact ⟨gh, b, hg.bk _ _ h1, h2⟩
 | .fn f xs ys, _, h => by
   simp only [au] at h ⊢; obtain ⟨v1, v2, h1, h2, h3⟩ := h; exact ⟨v1, v2, h1, fD.mono hg hm h2, fD.mono hg hm h3⟩
 | .ag _, _, h => by simp only [au] at h
theorem fD.mono (hg : GE g g') (hm : Le m m') : ∀ {vs : List (CV S)} {cs : List Value}, fD K g m vs cs → fD K g' m' vs cs
 | [], _, h => by simp only [fD] at h ⊢; exact h
 | x :: xs, _, h => by
   simp only [fD] at h ⊢; obtain ⟨v, vs', h1, h2, h3⟩ := h; exact ⟨v, vs', h1, h2.imp (au.mono hg hm) (Gt.mono hg hm), fD.mono hg hm h3⟩
theorem Gt.mono (hg : GE g g') (hm : Le m m') : ∀ {v : CV S} {u : Value}, Gt K g m v u → Gt K g' m' v u
 | .ag ys, _, h => by
   simp only [Gt] at h ⊢; obtain ⟨cs, h1, h2⟩ := h; exact ⟨cs, h1, vN.mono hg hm h2⟩
 | .na _ _, _, h | .int _ _, _, h | .u8 _, _, h | .bo _ _ _ _, _, h | .tt _, _, h | .str _, _, h | .bI, _, h | .a8 _ _, _, h | .ai _ _ _, _, h | .dI, _, h | .aU, _, h | .uG, _, h | .ru, _, h | .sl _ _, _, h | .KJ _ _, _, h | .rw _ _ _, _, h | .aw _, _, h | .ptr _ _, _, h | .el _ _ _, _, h | .CC _ _ _ _ _ _, _, h | .Hc _ _ _ _, _, h | .pt _ _ _ _, _, h | .px _ _ _ _ _, _, h | .rz _ _ _, _, h | .yl _, _, h | .mp _, _, h | .KP _ _, _, h | .JR _, _, h | .fn _ _ _, _, h => by simp only [Gt] at h
theorem vN.mono (hg : GE g g') (hm : Le m m') : ∀ {vs : List (CV S)} {cs : List Value}, vN K g m vs cs → vN K g' m' vs cs
 | [], _, h => by simp only [vN] at h ⊢; exact h
 | _ :: _, _, h => by
   simp only [vN] at h ⊢; obtain ⟨c1, c2, h1, h2, h3⟩ := h; exact ⟨c1, c2, h1, au.mono hg hm h2, vN.mono hg hm h3⟩
end
theorem sx : ∀ {vs : List (CV S)} {cs : List Value}, vN K g m vs cs ↔ bq K g m vs cs
 | [], _ => by simp only [vN]; exact Iff.rfl
 | _ :: _, _ => by
   simp only [vN]
   exact ⟨fun ⟨c1, c2, h1, h2, h3⟩ => ⟨c1, c2, h1, h2, sx.1 h3⟩, fun ⟨c1, c2, h1, h2, h3⟩ => ⟨c1, c2, h1, h2, sx.2 h3⟩⟩
theorem bq.mono (hg : GE g g') (hm : Le m m') : ∀ {vs : List (CV S)} {cs : List Value}, bq K g m vs cs → bq K g' m' vs cs
 | [], _, h => h
 | _ :: _, _, ⟨c1, c2, h1, h2, h3⟩ => ⟨c1, c2, h1, h2.mono hg hm, h3.mono hg hm⟩
mutual
theorem aA.mono (hg : GE g g') (hm : Le m m') : ∀ {v : AV S} {x : Value}, aA K g m v x → aA K g' m' v x
 | .one v, _, h => by simp only [aA] at h ⊢; exact au.mono hg hm h
 | .agg vs, _, h => by simp only [aA] at h ⊢; obtain ⟨cs, h1, h2⟩ := h; exact ⟨cs, h1, h2.mono hg hm⟩
 | .je vs, _, h => by simp only [aA] at h ⊢; obtain ⟨l, h1, h2⟩ := h; exact ⟨l, h1, bU.mono hg hm h2⟩
theorem bU.mono (hg : GE g g') (hm : Le m m') : ∀ {vs : List (AV S)} {l : List Value}, bU K g m vs l → bU K g' m' vs l
 | [], _, h => by simp only [bU] at h ⊢; exact h
 | v :: vs, _, h => by simp only [bU] at h ⊢; obtain ⟨x, r, h1, h2, h3⟩ := h; exact ⟨x, r, h1, aA.mono hg hm h2, bU.mono hg hm h3⟩
end
theorem BL.mono {ν : Type} {kc : Co} {es : Array MapEntry} {ll : List (T S kc × (ν × Option Gh))} {hole : Option (T S kc)} (hm : Le m m') (h : BL K m kc es ll hole) : BL K m' kc es ll hole := by
 cases hole with
 | none => exact h
 | some x => exact fun i p e h1 h2 h3 => cd.mono K hm (h i p e h1 h2 h3)
theorem DM.mono {kc : Co} {es : Array MapEntry} {hole : Option (T S kc × Nat)} (hg : GE g g') (hm : Le m m') (h : DM K g m kc es hole) : DM K g' m' kc es hole := by
 cases hole with
 | none => exact h
 | some x => obtain ⟨j, e, gh, h1, h2, h3, h4⟩ := h; exact ⟨j, e, gh, h1, cd.mono K hm h2, hg.bk _ _ h3, h4⟩
theorem Oz.mono {kc : Co} {sk : List (Value × Nat)} {seen : Array Nat} {st : Option (Option (T S kc))} (hm : Le m m') (h : Oz K m kc sk seen st) : Oz K m' kc sk seen st := by
 match st, h with
 | none, h => exact h
 | some none, h => exact h
 | some (some x), ⟨j, p, h1, h2, h3⟩ => exact ⟨j, p, h1, h2, cd.mono K hm h3⟩
theorem lr.mono (hg : GE g g') (hm : Le m m') {k : Nat} {o : AO S} {e : az} (h : lr K g m k o e) : lr K g' m' k o e := by
 cases o with
 | box T cs => obtain ⟨gh, b, vs, h1, h2, h3, h4⟩ := h; exact ⟨gh, b, vs, hg.bk _ _ h1, h2, h3, h4.mono hg hm⟩
 | row T c => obtain ⟨gh, h1, h2⟩ := h; exact ⟨gh, hg.bk _ _ h1, h2⟩
 | arr T c full l => obtain ⟨gh, cs, h1, h2, h3, h4, h5⟩ := h; exact ⟨gh, cs, hg.bk _ _ h1, h2, h3, h4.mono (bj K c) hm, fun hf => ⟨(h5 hf).1, (h5 hf).2.mono (bj K c) hm⟩⟩
 | loop r st tm => obtain ⟨gh, l, R, rg, tmps, h1, h2, h3, h4, h5, h6, h7⟩ := h; exact ⟨gh, l, R, rg, tmps, hg.bk _ _ h1, h2, h3, h4, h5, h6, fun t aI v hl => (h7 t aI v hl).mono hg hm⟩
 | map t kc vc l hole => obtain ⟨gh, b, es, clock, h1, h2, h3, h4, h5⟩ := h; exact ⟨gh, b, es, clock, hg.bk _ _ h1, h2, h3, h4.mono (fun _ _ h => cd.mono K hm h) fun y _ h => (bj K vc).mono h hm, h5.mono hg hm⟩
 | ni t et kc c l hole => obtain ⟨gh, b, es, clock, ll, h1, h2, h3, h4, h5, h6⟩ := h; exact ⟨gh, b, es, clock, ll, hg.bk _ _ h1, h2, h3, h4.mono (fun _ _ h => cd.mono K hm h) fun y _ h => Gv.mono K hm h, h5, h6.mono hm⟩
 | yB t kc l => obtain ⟨gh, b, es, clock, h1, h2, h3, h4⟩ := h; exact ⟨gh, b, es, clock, hg.bk _ _ h1, h2, h3, h4.mono (fun _ _ h => cd.mono K hm h) fun y _ h => ⟨h.1, h.2.mono hg hm⟩⟩
 | jf t kc vc l hole q => obtain ⟨gh, b, es, gq, h1, h2, h3, h4, h5, h6, h7, h8⟩ := h; exact ⟨gh, b, es, gq, hg.bk _ _ h1, h2, hg.bk _ _ h3, h4, h5, h6.mono (fun _ _ h => cd.mono K hm h) fun y _ h => (bj K vc).mono h hm, h7.mono hg hm, h8⟩
 | xu kc o st => obtain ⟨gh, go, r, seen, h1, h2, h3, h4, h5, h6⟩ := h; exact ⟨gh, go, r, seen, hg.bk _ _ h1, h2, hg.bk _ _ h3, h4, h5, h6.mono hm⟩
theorem dm.mono (hg : GE g g') (hm : Le m m') : ∀ {l : List (Nat × Nat × AO S)} {L : List az}, dm K g m l L → dm K g' m' l L
 | [], _, h => h
 | _ :: _, _, ⟨e, L', h1, h2, h3, h4⟩ => ⟨e, L', h1, hg.oo _ _ h2, h3.mono hg hm, dm.mono hg hm h4⟩
theorem wu.mono (hg : GE g g') (hm : Le m m') : ∀ {l : List (Nat × AO S)} {L : List az}, wu K g m l L → wu K g' m' l L
 | [], _, h => h
 | _ :: _, _, ⟨e, L', h1, h3, h4⟩ => ⟨e, L', h1, h3.mono hg hm, wu.mono hg hm h4⟩
end
end E
end Go.Proofs.YtekpafdhgkocaaaGreat
