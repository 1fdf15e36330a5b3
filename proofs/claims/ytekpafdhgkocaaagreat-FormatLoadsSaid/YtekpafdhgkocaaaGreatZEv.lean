/- Part of what the laws need: plain words, the walker and its laws, the program's functions. -/
import Derived.Test.YtekpafdhgkocaaaGreatZArr
import Derived.Test.YtekpafdhgkocaaaGreatZMp
import Derived.Test.YtekpafdhgkocaaaGreatZMg
namespace Go.Proofs.YtekpafdhgkocaaaGreat
open Go.RowKit G
namespace E
inductive Co where
 | int (k : IntKind)
 | u8
 | bo
 | str
 | sl (c : Co)
 | st (i : Nat)
 | a8 (n : Nat)
 | ai (n : Nat) (k : IntKind)
 | mp (k v : Co)
 deriving DecidableEq, Inhabited
def T (S : Nat → Type) : Co → Type
 | .int _ => Int
 | .u8 => UInt8
 | .bo => Bool
 | .str => List UInt8
 | .sl c => List (T S c)
 | .st i => S i
 | .a8 _ => Nat → UInt8
 | .ai _ _ => Nat → Int
 | .mp k v => List (T S k × T S v)
def HL (S : Nat → Type) : List Co → Type
 | [] => Unit
 | c :: cs => T S c × HL S cs
def HT (S : Nat → Type) : List Co → Type
 | [] => Unit
 | [c] => T S c
 | c :: d :: cs => T S c × HT S (d :: cs)
variable (S : Nat → Type)
inductive CV where
 | int (k : IntKind) (x : Int)
 | u8 (x : UInt8)
 | bo (b : Bool) (p : Prop) (d : Decidable p) (h : b = true ↔ p)
 | tt (b : Bool)
 | str (l : List UInt8)
 | sl (c : Co) (l : List (T S c))
 | KJ (c : Co) (l : List (T S c))
 | rw (o : Nat) (c : Co) (l : List (T S c))
 | aw (o : Nat)
 | bI
 | a8 (n : Nat) (f : Nat → UInt8)
 | ai (n : Nat) (k : IntKind) (f : Nat → Int)
 | ptr (o off : Nat)
 | dI
 | el (c : Co) (x : T S c) (off : Nat)
 | CC (o : Nat) (v : Nat) (c : Co) (x : T S c) (j : Int) (off : Nat)
 | Hc (o off n : Nat) (i : Int)
 | px (o off n : Nat) (i j : Int)
 | fn (f : Fn) (first caps : List CV)
 | ag (xs : List CV)
 | aU
 | uG
 | ru
 | yl (o : Nat)
 | na (e neg : Bool)
 | rz (o : Nat) (c : Co) (n : Int)
 | pt (o : Nat) (c : Co) (off n : Int)
 | mp (o : Nat)
 | KP (o q : Nat)
 | JR (q : Nat)
 deriving Inhabited
inductive AV where
 | one (v : CV S)
 | agg (vs : List (CV S))
 | je (vs : List AV)
 deriving Inhabited
def AV.iE : AV S := .je []
inductive Gp where
 | normal
 | ret
 | exit (n : Nat)
inductive LS where
 | ready
 | busy
 | done (e : Gp)
def LS.same : LS → LS → Bool
 | .ready, .ready => true
 | .busy, .busy => true
 | .done .normal, .done .normal => true
 | .done .ret, .done .ret => true
 | .done (.exit n), .done (.exit k) => Nat.beq n k
 | _, _ => false
inductive AO where
 | box (T : TypeId) (cs : List (CV S))
 | row (e : TypeId) (c : Co)
 | arr (e : TypeId) (c : Co) (full : Bool) (l : List (T S c))
 | loop (r : Nat) (st : LS) (tm : List (Nat × Nat × AV S))
 | map (t : TypeId) (kc vc : Co) (l : List (T S kc × T S vc)) (hole : Option (T S kc × Nat))
 | ni (t et : TypeId) (kc c : Co) (l : List (T S kc × List (T S c))) (hole : Option (T S kc))
 | yB (t : TypeId) (kc : Co) (l : List (T S kc × CV S))
 | jf (t : TypeId) (kc vc : Co) (l : List (T S kc × T S vc)) (hole : Option (T S kc × Nat)) (q : Nat)
 | xu (kc : Co) (o : Nat) (st : Option (Option (T S kc)))
 deriving Inhabited
structure AS where
 tm : List (Nat × Nat × AV S)
 ob : List (Nat × Nat × AO S)
 ct : Nat
 fb : Nat
 rt : List Nat
structure SD (σ : Type) where
 fs : List Co
 to : σ → HL S fs
 of : HL S fs → σ
variable {S}
def look {α : Type} (t : Nat) : List (Nat × α) → Option α
 | [] => none
 | (u, x) :: l => match Nat.beq u t with | true => some x | false => look t l
def mL {α : Type} (t : Nat) : List (Nat × α) → List (Nat × α)
 | [] => []
 | (u, x) :: l => match Nat.beq u t with | true => l | false => (u, x) :: mL t l
inductive TD where
 | int (k : IntKind)
 | bool
 | str
 | ptr (e : TypeId)
 | slice (e : TypeId)
 | array (n : Nat) (e : TypeId)
 | struct (fs : List (TypeId × Nat × Nat))
 | func
 | iface
 | map (k v : TypeId)
 deriving Inhabited
variable (S)
structure TI where
 d : TD
 size : Nat
 bytes : Nat
 zero : List (CV S)
 co : Co := .bo
 eq : Bool := false
 deriving Inhabited
variable {S}
def dS : TD → Bool
 | .struct _ => true
 | .array _ _ => true
 | _ => false
def CV.n : CV S → Nat
 | .a8 n _ => n
 | .ai n _ _ => n
 | _ => 1
def lJ : AV S → Option (List (CV S))
 | .one v => some [v]
 | .agg vs => some vs
 | .je _ => none
def mJ : Nat → List (CV S) → Option (List (CV S))
 | 0, _ => some []
 | _ + 1, [] => none
 | n + 1, v :: vs => match Nat.ble v.n (n + 1) with | true => (mJ (n + 1 - v.n) vs).map (v :: ·) | false => none
def cutAt : Nat → List (CV S) → Option (List (CV S))
 | 0, vs => some vs
 | _ + 1, [] => none
 | o + 1, v :: vs => match Nat.ble v.n (o + 1) with | true => cutAt (o + 1 - v.n) vs | false => none
def od : Nat → List (CV S) → Option (CV S)
 | _, [] => none
 | o, v :: vs => match Nat.ble v.n o with
   | true => od (o - v.n) vs
   | false => match v with
     | .a8 _ f => some (.u8 (f o))
     | .ai _ k f => some (.int k (f o))
     | v => some v
def MM (o n : Nat) (xs vs : List (CV S)) : Option (List (CV S)) :=
 (mJ o vs).bind fun a => (cutAt (o + n) vs).map fun b => a ++ (xs ++ b)
def Ic : Nat → CV S → List (CV S) → Option (List (CV S))
 | _, _, [] => none
 | o, x, v :: vs => match Nat.ble v.n o with
   | true => (Ic (o - v.n) x vs).map (v :: ·)
   | false => match v, x with
     | .a8 n f, .u8 y => some (.a8 n (ah f o y) :: vs)
     | .ai n k f, .int k' y => match decEq k' k with | isTrue _ => some (.ai n k (ah f o y) :: vs) | isFalse _ => none
     | .a8 _ _, _ => none
     | .ai _ _ _, _ => none
     | _, x => some (x :: vs)
def DJ (vs : List (CV S)) : Nat := (vs.map CV.n).sum
variable (S) in
abbrev Tb := (i : Nat) → SD S (S i)
variable (tb : Tb S)
def toCV : (c : Co) → T S c → CV S
 | .int k, x => .int k x
 | .u8, x => .u8 x
 | .bo, (b : Bool) => .bo b (b = true) inferInstance Iff.rfl
 | .str, l => .str l
 | .sl c, l => .sl c l
 | .st _, _ => .ru
 | .a8 n, f => .a8 n f
 | .ai n k, f => .ai n k f
 | .mp _ _, _ => .ru
def toCVs : (cs : List Co) → HL S cs → List (CV S)
 | [], _ => []
 | c :: cs, h => toCV c h.1 :: toCVs cs h.2
def Jh : (c : Co) → T S c → List (CV S)
 | .st i, x => toCVs (tb i).fs ((tb i).to x)
 | c, x => [toCV c x]
def Ou : (cs : List Co) → HL S cs → HL S cs → Bool
 | [], _, _ => true
 | .int _ :: cs, a, b => qE a.1 b.1 && Ou cs a.2 b.2
 | _ :: _, _, _ => false
def fM : (c : Co) → T S c → T S c → Bool
 | .int _ => qE
 | .str => IW
 | .st i => fun x y => Ou (tb i).fs ((tb i).to x) ((tb i).to y)
 | _ => fun _ _ => false
def xm : Co → Bool
 | .int .u8 => false
 | .int _ => true
 | .str => true
 | .st i => (tb i).fs.all fun c => match c with | .int .u8 => false | .int _ => true | _ => false
 | _ => false
def EW : Co → Bool
 | .int _ => true
 | .u8 => true
 | .bo => true
 | .str => true
 | _ => false
def fC {a b c d : Co} (h : a = c) (k : b = d) (l : List (T S a × T S b)) : List (T S c × T S d) := h ▸ k ▸ l
def vk {a b c d : Co} (h : a = c) (k : b = d) (l : List (T S a × List (T S b))) : List (T S c × List (T S d)) := h ▸ k ▸ l
def kg {c d : Co} (h : c = d) (l : List (T S c)) : List (T S d) := h ▸ l
def FT : (c : Co) → CV S → Option (T S c)
 | .int k, .int k' x => match decEq k k' with | isTrue _ => some x | isFalse _ => none
 | .u8, .u8 x => some x
 | .bo, .bo b _ _ _ => some b
 | .bo, .tt b => some b
 | .str, .str l => some l
 | .sl c, .sl d l => match decEq d c with | isTrue h => some (kg h l) | isFalse _ => none
 | .sl c, .KJ d l => match decEq d c with | isTrue h => some (kg h l) | isFalse _ => none
 | .sl c, .rw _ d l => match decEq d c with | isTrue h => some (kg h l) | isFalse _ => none
 | .sl _, .bI => some []
 | .a8 n, .a8 n' f => match Nat.beq n n' && Nat.ble 1 n with | true => some f | false => none
 | .ai n k, .ai n' k' f => match Nat.beq n n' && Nat.ble 1 n, decEq k k' with | true, isTrue _ => some f | _, _ => none
 | _, _ => none
def zy : (cs : List Co) → List (CV S) → Option (HL S cs × List (CV S))
 | [], vs => some ((), vs)
 | _ :: _, [] => none
 | c :: cs, v :: vs => (FT c v).bind fun x => (zy cs vs).map fun p => ((x, p.1), p.2)
def pk : (c : Co) → List (CV S) → Option (T S c × List (CV S))
 | .st i, vs => (zy (tb i).fs vs).map fun p => ((tb i).of p.1, p.2)
 | _, [] => none
 | c, v :: vs => (FT c v).map fun x => (x, vs)
def wh (c : Co) (vs : List (CV S)) : Option (T S c) := (pk tb c vs).bind fun p => match p.2 with | [] => some p.1 | _ :: _ => none
def KL (c : Co) : CV S → Option (List (T S c)) := FT (.sl c)
def num : CV S → Option (IntKind × Int)
 | .int k x => match k with | .u8 => none | k => some (k, x)
 | .u8 x => some (.u8, (x.toNat : Int))
 | _ => none
def CD (k : IntKind) (x : Int) : CV S := match k with | .u8 => .u8 (G.u8 x) | k => .int k x
def K1 (k : IntKind) (x : Int) : CV S := match k with | .u8 => .u8 (G.u8 x) | k => .int k (k.wrap x)
def Jx (p : Prop) [d : Decidable p] : CV S := .bo (decide p) p d (decide_eq_true_iff)
def Ju {α : Type} [DecidableEq α] [BEq α] [LawfulBEq α] (a b : α) : CV S := .bo (a == b) (a = b) inferInstance beq_iff_eq
def Jw {α : Type} [DecidableEq α] [BEq α] [LawfulBEq α] (a b : α) : CV S := .bo (a != b) (a ≠ b) inferInstance bne_iff_ne
def Mc (b : Bool) : CV S := .bo b (b = true) inferInstance Iff.rfl
def Jv (b : Bool) : CV S := .bo (!b) (b = false) inferInstance (by cases b <;> simp)
def bit : CV S → Option Bool
 | .bo b _ _ _ => some b
 | .tt b => some b
 | _ => none
def isNil : CV S → Option Bool
 | .dI => some true
 | .aU => some true
 | .uG => some true
 | .ru => some true
 | .bI => some true
 | .ptr _ _ => some false
 | .fn _ _ _ => some false
 | .rw _ _ (_ :: _) => some false
 | _ => none
def vO : List (CV S) → List (CV S) → Option (PSigma fun p : Prop => Decidable p)
 | [.int _ x], [.int _ y] => some ⟨x = y, inferInstance⟩
 | [.u8 x], [.u8 y] => some ⟨(x.toNat : Int) = (y.toNat : Int), inferInstance⟩
 | .int _ x :: v :: vs, .int _ y :: w :: ws => (vO (v :: vs) (w :: ws)).map fun p => ⟨x = y ∧ p.1, @instDecidableAnd _ _ inferInstance p.2⟩
 | .u8 x :: v :: vs, .u8 y :: w :: ws => (vO (v :: vs) (w :: ws)).map fun p => ⟨(x.toNat : Int) = (y.toNat : Int) ∧ p.1, @instDecidableAnd _ _ inferInstance p.2⟩
 | [v], [w] => (bit v).bind fun x => (bit w).map fun y => ⟨x = y, inferInstance⟩
 | v :: v' :: vs, w :: w' :: ws => (bit v).bind fun x => (bit w).bind fun y => (vO (v' :: vs) (w' :: ws)).map fun p => ⟨x = y ∧ p.1, @instDecidableAnd _ _ inferInstance p.2⟩
 | _, _ => none
def kindOk : List (CV S) → List (CV S) → Bool
 | [], [] => true
 | .int k _ :: z, .int k' _ :: v => decide (k = k') && kindOk z v
 | .u8 _ :: z, .u8 _ :: v => kindOk z v
 | .tt _ :: z, .bo _ _ _ _ :: v => kindOk z v
 | .tt _ :: z, .tt _ :: v => kindOk z v
 | _, _ => false
def Al : Operand → Bool
 | .const (.int _ n) => decide (0 < n)
 | _ => false
def Es : Operand → Bool
 | .const (.int _ n) => decide (0 ≤ n)
 | _ => false
section
variable {γ : Type}
def Mo (v : CV S) (k : Bool → Option γ) : Option γ := match v with
 | .tt b => k b
 | .bo _ p d _ => @ite _ p d (k true) (k false)
 | _ => none
def FR (op : BinOp) (kv kw : IntKind) (x z : Int) (y : Operand) (k : CV S → Option γ) : Option γ :=
 match op with
 | .shl => (match Es y with | true => k (CD kv (iC kv x z)) | false => (dZ (0 ≤ z)).bind fun _ => k (CD kv (iC kv x z)))
 | .shr => (match Es y with | true => k (CD kv (bN kv x z)) | false => (dZ (0 ≤ z)).bind fun _ => k (CD kv (bN kv x z)))
 | op => match decEq kv kw with
   | isFalse _ => none
   | isTrue _ => match op with
     | .lss => k (Jx (x < z))
     | .leq => k (Jx (x ≤ z))
     | .gtr => k (Jx (x > z))
     | .geq => k (Jx (x ≥ z))
     | .eql => k (Ju x z)
     | .neq => k (Jw x z)
     | .add => k (K1 kv (x + z))
     | .sub => k (K1 kv (x - z))
     | .mul => k (K1 kv (x * z))
     | .and => k (CD kv (aR kv x z))
     | .or => k (CD kv (tK kv x z))
     | .xor => k (CD kv (cp kv x z))
     | .andNot => k (CD kv (D2 kv x z))
     | .quo => (match Al y with | true => k (K1 kv (Int.tdiv x z)) | false => (dZ (z ≠ 0)).bind fun _ => k (K1 kv (Int.tdiv x z)))
     | .rem => match kv with
       | .u8 => none
       | kv => (match Al y with | true => k (.int kv (Int.tmod x z)) | false => (dZ (z ≠ 0)).bind fun _ => k (.int kv (Int.tmod x z)))
     | _ => none
def kY (op : BinOp) (a b : CV S) (k : CV S → Option γ) : Option γ := match op with
 | .eql => k a
 | .neq => k b
 | _ => none
def Mg (tt : TypeId → Option (TI S)) (op : BinOp) (xT : TypeId) (a b : AV S) (k : CV S → Option γ) : Option γ :=
 (tt xT).bind fun ti => match ti.d, a, b with
 | .str, .one (.str x), .one (.str z) => kY op (Jx (x = z)) (Jv (decide (x = z))) k
 | .bool, .one v, .one w => (bit v).bind fun x => (bit w).bind fun z => kY op (Ju x z) (Jw x z) k
 | .ptr _, .one .dI, .one .dI => kY op (.tt true) (.tt false) k
 | .ptr _, .one (.ptr _ _), .one .dI => kY op (.tt false) (.tt true) k
 | .ptr _, .one .dI, .one (.ptr _ _) => kY op (.tt false) (.tt true) k
 | .func, .one .aU, .one .aU => kY op (.tt true) (.tt false) k
 | .func, .one (.fn _ _ _), .one .aU => kY op (.tt false) (.tt true) k
 | .slice _, .one .bI, .one .bI => kY op (.tt true) (.tt false) k
 | .slice _, .one (.sl _ l), .one .bI => kY op (.na l.isEmpty false) (.na l.isEmpty true) k
 | .slice _, .one (.rw _ _ (_ :: _)), .one .bI => kY op (.tt false) (.tt true) k
 | .array n e, .agg [.a8 n1 f], .agg [.a8 n2 g] => (tt e).bind fun ei => match ei.d, Nat.beq n 32 && Nat.beq n1 32 && Nat.beq n2 32 && ti.eq with
   | .int .u8, true => kY op (Mc (gL f g)) (Jv (gL f g)) k
   | _, _ => none
 | .struct _, .agg vs, .agg ws => match ti.eq && kindOk ti.zero vs && kindOk ti.zero ws with
   | true => (vO vs ws).bind fun p => kY op (@Jx _ p.1 p.2) (Jv (@decide p.1 p.2)) k
   | false => none
 | _, _, _ => none
def Fa (tt : TypeId → Option (TI S)) (op : BinOp) (xT : TypeId) (y : Operand) (a b : AV S) (k : CV S → Option γ) : Option γ :=
 match a, b with
 | .one v, .one w =>
   match num v, num w with
   | some (kv, x), some (kw, z) => FR op kv kw x z y k
   | _, _ => Mg tt op xT a b k
 | _, _ => Mg tt op xT a b k
end
inductive CS where
 | af (c : Co)
 | rw (o : Nat) (c : Co)
 | aw (o : Nat)
 | ptr (o off : Nat)
 | dI
 | aU
 | fn (f : FuncId) (first caps : List CS)
 | tt (b : Bool)
 | bI
 | yl (o : Nat)
 | Qe (o : Nat)
 deriving Inhabited
inductive PS where
 | one (s : CS)
 | agg (l : List CS)
 | je (l : List PS)
 deriving Inhabited
inductive OS where
 | box (T : TypeId) (l : List CS)
 | row (e : TypeId) (c : Co)
 | arr (e : TypeId) (c : Co) (full : Bool)
 | loop (r : Nat) (st : LS) (cT : List (Nat × PS))
 | map (t : TypeId) (kc vc : Co)
 | ni (t et : TypeId) (kc c : Co)
 | jf (t : TypeId) (kc vc : Co) (q : Nat)
 | xu (kc : Co) (o : Nat)
 deriving Inhabited
variable (S) in
abbrev fL := (c : Co) × T S c
def tI : CV S → AV S
 | .ag xs => .agg xs
 | v => .one v
def Qx : CV S → Bool
 | .ag _ => false
 | _ => true
def Kh (v : CV S) : Bool := Nat.beq v.n 1
mutual
def CS.fill (ids : Nat → Nat) : CS → List (fL S) → Option (List (CV S) × List (fL S))
 | .af c, ⟨c', x⟩ :: ds => match decEq c' c with | isTrue h => some (Jh tb c (h ▸ x), ds) | isFalse _ => none
 | .rw o c, ⟨c', x⟩ :: ds => match decEq c' (.sl c) with | isTrue h => some ([.rw (ids o) c (show List (T S c) from (h ▸ x : T S (.sl c)))], ds) | isFalse _ => none
 | .af _, [] => none
 | .rw _ _, [] => none
 | .aw o, ds => some ([.aw (ids o)], ds)
 | .ptr o off, ds => some ([.ptr (ids o) off], ds)
 | .dI, ds => some ([.dI], ds)
 | .aU, ds => some ([.aU], ds)
 | .tt b, ds => some ([.tt b], ds)
 | .bI, ds => some ([.bI], ds)
 | .yl o, ds => some ([.yl (ids o)], ds)
 | .Qe o, ds => some ([.mp (ids o)], ds)
 | .fn f xs ys, ds => (CS.da ids xs ds).bind fun p => (CS.da ids ys p.2).bind fun q => match p.1.all Kh && q.1.all Kh with | true => some ([.fn (.func f) p.1 q.1], q.2) | false => none
def CS.da (ids : Nat → Nat) : List CS → List (fL S) → Option (List (CV S) × List (fL S))
 | [], ds => some ([], ds)
 | s :: l, ds => (CS.fill ids s ds).bind fun p => (CS.da ids l p.2).map fun q => (p.1 ++ q.1, q.2)
end
mutual
def PS.fill (ids : Nat → Nat) : PS → List (fL S) → Option (AV S × List (fL S))
 | .one s, ds => (CS.fill tb ids s ds).bind fun p => match p.1 with | [v] => some (.one v, p.2) | _ => none
 | .agg l, ds => (CS.da tb ids l ds).map fun p => (.agg p.1, p.2)
 | .je l, ds => (PS.da ids l ds).map fun p => (.je p.1, p.2)
def PS.da (ids : Nat → Nat) : List PS → List (fL S) → Option (List (AV S) × List (fL S))
 | [], ds => some ([], ds)
 | s :: l, ds => (PS.fill ids s ds).bind fun p => (PS.da ids l p.2).map fun q => (p.1 :: q.1, q.2)
end
def pz (ids : Nat → Nat) (aI : Nat) : List (Nat × PS) → List (fL S) → Option (List (Nat × Nat × AV S) × List (fL S))
 | [], ds => some ([], ds)
 | (t, s) :: l, ds => (PS.fill tb ids s ds).bind fun p => (pz ids (aI + 1) l p.2).map fun q => ((t, aI, p.1) :: q.1, q.2)
def OS.fill (ids : Nat → Nat) : OS → List (fL S) → Option (AO S × List (fL S))
 | .box T l, ds => (CS.da tb ids l ds).map fun p => (.box T p.1, p.2)
 | .row e c, ds => some (.row e c, ds)
 | .arr e c full, ⟨c', x⟩ :: ds => match decEq c' (.sl c) with | isTrue h => some (.arr e c full (show List (T S c) from (h ▸ x : T S (.sl c))), ds) | isFalse _ => none
 | .arr _ _ _, [] => none
 | .loop r st cT, ds => (pz tb ids 300 cT ds).map fun p => (.loop r st p.1, p.2)
 | .map t kc vc, ⟨c', x⟩ :: ds => match decEq c' (.mp kc vc) with | isTrue h => some (.map t kc vc (show List (T S kc × T S vc) from (h ▸ x : T S (.mp kc vc))) none, ds) | isFalse _ => none
 | .map _ _ _, [] => none
 | .ni t et kc c, ⟨c', x⟩ :: ds => match decEq c' (.mp kc (.sl c)) with | isTrue h => some (.ni t et kc c (show List (T S kc × List (T S c)) from (h ▸ x : T S (.mp kc (.sl c)))) none, ds) | isFalse _ => none
 | .ni _ _ _ _, [] => none
 | .jf t kc vc q, ⟨c', x⟩ :: ds => match decEq c' (.mp kc vc) with | isTrue h => some (.jf t kc vc (show List (T S kc × T S vc) from (h ▸ x : T S (.mp kc vc))) none (ids q), ds) | isFalse _ => none
 | .jf _ _ _ _, [] => none
 | .xu kc o, ds => some (.xu kc (ids o) (some none), ds)
def OS.da (ids : Nat → Nat) : List OS → List (fL S) → Option (List (AO S) × List (fL S))
 | [], ds => some ([], ds)
 | s :: l, ds => (OS.fill tb ids s ds).bind fun p => (OS.da ids l p.2).map fun q => (p.1 :: q.1, q.2)
def KX (mp : List (Nat × Nat)) (o q : Nat) : Option (List (Nat × Nat)) := match look o mp with
 | some r => match Nat.beq r q with | true => some mp | false => none
 | none => match (mp.any fun p => Nat.beq p.2 q) || !Nat.ble o 200 with | true => none | false => some ((o, q) :: mp)
variable (S) in
abbrev Tk := List (fL S) × List (CV S) × List (Nat × Nat)
mutual
def CS.take (mp : List (Nat × Nat)) : CS → List (CV S) → Option (Tk S)
 | .af c, vs => (pk tb c vs).map fun p => ([⟨c, p.1⟩], p.2, mp)
 | .rw o c, .rw q d l :: vs => match decEq d c with | isTrue h => (KX mp o q).map fun mp => ([⟨.sl c, kg h l⟩], vs, mp) | isFalse _ => none
 | .aw o, .aw q :: vs => (KX mp o q).map fun mp => ([], vs, mp)
 | .ptr o off, .ptr q off' :: vs => match Nat.beq off off' with | true => (KX mp o q).map fun mp => ([], vs, mp) | false => none
 | .dI, .dI :: vs => some ([], vs, mp)
 | .aU, .aU :: vs => some ([], vs, mp)
 | .tt b, .tt c :: vs => (match b == c with | true => some ([], vs, mp) | false => none)
 | .bI, .bI :: vs => some ([], vs, mp)
 | .yl o, .yl q :: vs => (KX mp o q).map fun mp => ([], vs, mp)
 | .Qe o, .mp q :: vs => (KX mp o q).map fun mp => ([], vs, mp)
 | .fn f xs ys, .fn (.func g) first caps :: vs => match Nat.beq f g && (first.all Qx && caps.all Qx) with
   | true => (CS.takes mp xs first).bind fun p => match p.2.1 with
     | [] => (CS.takes p.2.2 ys caps).bind fun q => match q.2.1 with | [] => some (p.1 ++ q.1, vs, q.2.2) | _ :: _ => none
     | _ :: _ => none
   | false => none
 | _, _ => none
def CS.takes (mp : List (Nat × Nat)) : List CS → List (CV S) → Option (Tk S)
 | [], vs => some ([], vs, mp)
 | s :: l, vs => (CS.take mp s vs).bind fun p => (CS.takes p.2.2 l p.2.1).map fun q => (p.1 ++ q.1, q.2.1, q.2.2)
end
mutual
def PS.take (mp : List (Nat × Nat)) : PS → AV S → Option (List (fL S) × List (Nat × Nat))
 | .one s, .one v => (CS.take tb mp s [v]).bind fun p => match p.2.1 with | [] => some (p.1, p.2.2) | _ :: _ => none
 | .agg l, .agg vs => (CS.takes tb mp l vs).bind fun p => match p.2.1 with | [] => some (p.1, p.2.2) | _ :: _ => none
 | .je l, .je vs => PS.takes mp l vs
 | _, _ => none
def PS.takes (mp : List (Nat × Nat)) : List PS → List (AV S) → Option (List (fL S) × List (Nat × Nat))
 | [], [] => some ([], mp)
 | s :: l, v :: vs => (PS.take mp s v).bind fun p => (PS.takes p.2 l vs).map fun q => (p.1 ++ q.1, q.2)
 | _, _ => none
end
def kG (tm : List (Nat × Nat × AV S)) (mp : List (Nat × Nat)) : List (Nat × PS) → Option (List (fL S) × List (Nat × Nat))
 | [] => some ([], mp)
 | (t, s) :: l => (look t tm).bind fun a => (PS.take tb mp s a.2).bind fun p => (kG tm p.2 l).map fun r => (p.1 ++ r.1, r.2)
def OS.take (mp : List (Nat × Nat)) : OS → AO S → Option (List (fL S) × List (Nat × Nat))
 | .box T l, .box T' vs => match Nat.beq T T' with
   | true => (CS.takes tb mp l vs).bind fun p => match p.2.1 with | [] => some (p.1, p.2.2) | _ :: _ => none
   | false => none
 | .row e c, .row e' c' => match Nat.beq e e', decEq c c' with | true, isTrue _ => some ([], mp) | _, _ => none
 | .arr e c full, .arr e' c' full' l => match Nat.beq e e', decEq c' c, !full || full' with | true, isTrue h, true => some ([⟨.sl c, kg h l⟩], mp) | _, _, _ => none
 | .loop r st cT, .loop r' st' tm => match Nat.beq r r' && LS.same st st' with | true => kG tb tm mp cT | false => none
 | .map t kc vc, .map t' kc' vc' l none => match Nat.beq t t', decEq kc' kc, decEq vc' vc with | true, isTrue h, isTrue k => some ([⟨.mp kc vc, fC h k l⟩], mp) | _, _, _ => none
 | .ni t et kc c, .ni t' et' kc' c' l none => match Nat.beq t t' && Nat.beq et et', decEq kc' kc, decEq c' c with | true, isTrue h, isTrue k => some ([⟨.mp kc (.sl c), vk h k l⟩], mp) | _, _, _ => none
 | .jf t kc vc q, .jf t' kc' vc' l none q' => match Nat.beq t t', decEq kc' kc, decEq vc' vc with | true, isTrue h, isTrue k => (KX mp q q').map fun mp => ([⟨.mp kc vc, fC h k l⟩], mp) | _, _, _ => none
 | .xu kc o, .xu kc' o' _ => match decEq kc' kc with | isTrue _ => (KX mp o o').map fun mp => ([], mp) | isFalse _ => none
 | _, _ => none
def OS.takes (ob : List (Nat × Nat × AO S)) (mp : List (Nat × Nat)) : Nat → List OS → Option (List (fL S) × List (Nat × Nat))
 | _, [] => some ([], mp)
 | o, s :: l => (look o mp).bind fun q => (look q ob).bind fun a => (OS.take tb mp s a.2).bind fun p => (OS.takes ob p.2 (o + 1) l).map fun r => (p.1 ++ r.1, r.2)
def mM : (ls : List Co) → HT S ls → List (fL S)
 | [], _ => []
 | [c], x => [⟨c, x⟩]
 | c :: d :: cs, x => ⟨c, x.1⟩ :: mM (d :: cs) x.2
def nH : (ls : List Co) → List (fL S) → Option (HT S ls)
 | [], [] => some ()
 | [c], [⟨c', x⟩] => match decEq c' c with | isTrue h => some (h ▸ x) | isFalse _ => none
 | c :: d :: cs, ⟨c', x⟩ :: ds => match decEq c' c with | isTrue h => (nH (d :: cs) ds).map fun y => (h ▸ x, y) | isFalse _ => none
 | _, _ => none
def zB {α : Type} (l : List α) : List Nat → Option (List α)
 | [] => some []
 | i :: is => (l[i]?).bind fun x => (zB l is).map (x :: ·)
def kj (pm : List Nat) (ds : List (fL S)) : Option (List (fL S)) := match pm with
 | [] => some ds
 | _ :: _ => match Nat.beq ds.length pm.length with | true => zB ds pm | false => none
def Ft : List Nat → List Nat → Bool
 | [], [] => true
 | x :: l, y :: l' => Nat.beq x y && Ft l l'
 | _, _ => false
def B9 (pm bk : List Nat) : Bool := match pm, bk with
 | [], [] => true
 | _ :: _, _ :: _ => Nat.beq pm.length bk.length && (match zB pm bk with | some l => Ft l (List.range bk.length) | none => false)
 | _, _ => false
inductive LW where
 | own (e : TypeId) (c : Co)
 | arr (e : TypeId) (c : Co)
 | Q7
structure JA where
 cT : List (Nat × PS) := []
 br : List OS := []
 ls : List Co := []
 pm : List Nat := []
 bk : List Nat := []
 fx : List (Nat × Nat) := []
 gone : List Nat := []
 kill : List Nat := []
 pre : List (Nat × Nat × LW) := []
 early : Bool := false
 LC : B9 pm bk = true := by rfl
 A1 : (Nat.ble cT.length 190 && Nat.ble br.length 190) = true := by rfl
def has (t : Nat) : List Nat → Bool
 | [] => false
 | u :: l => match Nat.beq u t with | true => true | false => has t l
def np (J : JA) : List (Nat × Nat × AV S) → List (Nat × Nat × AV S)
 | [] => []
 | (t, x) :: l => match has t J.kill || J.cT.any fun p => Nat.beq p.1 t with | true => np J l | false => (t, x) :: np J l
mutual
def CV.ids : CV S → List Nat
 | .rw o _ _ => [o]
 | .aw o => [o]
 | .ptr o _ => [o]
 | .CC o _ _ _ _ _ => [o]
 | .Hc o _ _ _ => [o]
 | .px o _ _ _ _ => [o]
 | .yl o => [o]
 | .mp o => [o]
 | .KP o _ => [o]
 | .JR o => [o]
 | .rz o _ _ => [o]
 | .pt o _ _ _ => [o]
 | .fn _ xs ys => CV.Ah xs ++ CV.Ah ys
 | .ag xs => CV.Ah xs
 | _ => []
def CV.Ah : List (CV S) → List Nat
 | [] => []
 | v :: vs => CV.ids v ++ CV.Ah vs
end
mutual
def AV.ids : AV S → List Nat
 | .one v => v.ids
 | .agg vs => CV.Ah vs
 | .je vs => AV.Ah vs
def AV.Ah : List (AV S) → List Nat
 | [] => []
 | v :: vs => AV.ids v ++ AV.Ah vs
end
def AO.ids : AO S → List Nat
 | .box _ vs => CV.Ah vs
 | .jf _ _ _ _ _ q => [q]
 | .xu _ o _ => [o]
 | _ => []
def CK (xs ys : List Nat) : List Nat := xs.foldl (fun l x => match has x l with | true => l | false => x :: l) ys
def Ij (ob : List (Nat × Nat × AO S)) : Nat → List Nat → List Nat
 | 0, l => l
 | n + 1, l => Ij ob n (l.foldl (fun r x => match look x ob with | some a => CK a.2.ids r | none => r) l)
def xj (r : List Nat) : List (Nat × Nat × AO S) → List (Nat × Nat × AO S)
 | [] => []
 | (q, x) :: l => match has q r with | true => (q, x) :: xj r l | false => xj r l
def cv (rm : List Nat) : List (Nat × Nat × AO S) → List (Nat × Nat × AO S)
 | [] => []
 | (q, x) :: l => match has q rm with | true => cv rm l | false => (q, x) :: cv rm l
def sK (J : JA) (σ : AS S) : List (Nat × Nat × AO S) :=
 cv ((J.fx.filter fun r => Nat.ble (r.1 + 1) J.br.length).map (·.2) ++ J.gone) (xj (Ij σ.ob 4 (CK σ.rt ((np J σ.tm).foldl (fun r x => CK x.2.2.ids r) []))) σ.ob)
def AL (tm : List (Nat × Nat × AV S)) : List (Nat × Nat × AV S) → Bool
 | [] => true
 | (t, x) :: l => (match look t tm with | some y => Nat.beq x.1 y.1 | none => false) && AL tm l
def AJ (ob : List (Nat × Nat × AO S)) : List (Nat × Nat × AO S) → Bool
 | [] => true
 | (t, x) :: l => (match look t ob with | some y => Nat.beq x.1 y.1 | none => false) && AJ ob l
def uJ (mp : List (Nat × Nat)) : Nat → Nat → List Nat
 | _, 0 => []
 | o, n + 1 => match look o mp with | some q => q :: uJ mp (o + 1) n | none => uJ mp (o + 1) n
def eJ : List Nat → Bool
 | [] => true
 | x :: l => match has x l with | true => false | false => eJ l
def place (σ : AS S) (t i : Nat) : Option (CV S) := match look t σ.tm with
 | some (_, .one v) => (match i with
   | 0 => some v
   | i + 1 => match v with | .ptr o _ => (match look o σ.ob with | some (_, .box _ cs) => cs[i]? | _ => none) | _ => none)
 | some (_, .agg vs) => (match i with | 0 => none | i + 1 => vs[i]?)
 | _ => none
def oM (σ : AS S) (t i : Nat) (w : CV S) : AS S := match look t σ.tm with
 | some (aI, .one v) => (match i with
   | 0 => { σ with tm := (t, aI, .one w) :: mL t σ.tm, ct := σ.ct + 64 }
   | i + 1 => match v with | .ptr o _ => (match look o σ.ob with | some (_, .box T cs) => { σ with ob := (o, σ.ct + 32, .box T (cs.set i w)) :: cv [o] σ.ob, ct := σ.ct + 64 } | _ => σ) | _ => σ)
 | some (aI, .agg vs) => (match i with | 0 => σ | i + 1 => { σ with tm := (t, aI, .agg (vs.set i w)) :: mL t σ.tm, ct := σ.ct + 64 })
 | _ => σ
def Bg (σ : AS S) (q : Nat) (a : AO S) : AS S := { σ with ob := (q, σ.ct + 32, a) :: σ.ob, ct := σ.ct + 64 }
def H9 (σ : AS S) (t i : Nat) (k : LW) : Option (AS S) := match place σ t i, k with
 | some .bI, .own e c => some (Bg (oM { σ with ct := σ.ct + 64 } t i (.rw (σ.ct + 1) c [])) (σ.ct + 1) (.row e c))
 | some .bI, .arr e c => some (Bg (oM { σ with ct := σ.ct + 64 } t i (.aw (σ.ct + 1))) (σ.ct + 1) (.arr e c true []))
 | some (.aw o), .Q7 => (look o σ.ob).bind fun a => match a.2 with
   | .arr _ c _ l => (match place { σ with ob := cv [o] σ.ob } t i with
     | some (.aw o') => (match Nat.beq o' o with | true => some (oM { σ with ob := cv [o] σ.ob } t i (.sl c l)) | false => none)
     | _ => none)
   | _ => none
 | some _, _ => some σ
 | none, _ => none
def yG : List (Nat × Nat × LW) → AS S → Option (AS S)
 | [], σ => some σ
 | (t, i, k) :: l, σ => (H9 σ t i k).bind (yG l)
def pack (J : JA) (σ0 σ : AS S) : Option (HT S J.ls) := (yG J.pre σ).bind fun σ =>
 match AL σ.tm (np J σ0.tm) && AJ σ.ob (sK J σ0) && Nat.beq σ.fb σ0.fb && (J.fx.all fun r => (look r.2 σ0.ob).isSome && Nat.ble r.1 200) && eJ (J.fx.map (·.2)) with
 | true => (kG tb σ.tm J.fx J.cT).bind fun p => (OS.takes tb σ.ob p.2 0 J.br).bind fun q =>
  match eJ (uJ q.2 0 J.br.length ++ (sK J σ0).map (·.1)) with
  | true => (kj J.pm (p.1 ++ q.1)).bind (nH J.ls)
  | false => none
 | false => none
def Dp (ids : Nat → Nat) (o v : Nat) : List (AO S) → List (Nat × Nat × AO S)
 | [] => []
 | a :: l => (ids o, v, a) :: Dp ids (o + 1) (v + 1) l
def JA.ids (J : JA) (ct o : Nat) : Nat := match look o J.fx with | some q => q | none => ct + o
def BW (v : Nat) : List (AO S) → List (Nat × Nat × AO S)
 | [] => []
 | a :: l => (v, v, a) :: BW (v + 1) l
def unpack (J : JA) (σ0 : AS S) (z : HT S J.ls) : Option (AS S) :=
 (kj J.bk (mM J.ls z)).bind fun ds =>
 (pz tb (J.ids σ0.ct) (σ0.ct + 64) J.cT ds).bind fun p =>
 (OS.da tb (J.ids σ0.ct) J.br p.2).bind fun q =>
 some { σ0 with tm := p.1 ++ np J σ0.tm, ob := Dp (J.ids σ0.ct) 0 σ0.ct q.1 ++ sK J σ0, ct := σ0.ct + 256 }
inductive KS where
 | kept
 | now (s : OS)
 | gone
structure Out where
 out : PS
 bh : List KS := []
 b9 : List Co
 QZ : List Nat := []
 CB : List Nat := []
 Qz : B9 QZ CB = true := by rfl
 A1 : Nat.ble bh.length 30 = true := by rfl
variable (S) in
def gH : List Out → Type
 | [] => Empty
 | [o] => HT S o.b9
 | o :: p :: os => HT S o.b9 ⊕ gH (p :: os)
def N7 {γ : Type} (k : (o : Out) → HT S o.b9 → Option γ) : (os : List Out) → gH S os → Option γ
 | [], _ => none
 | [o], y => k o y
 | o :: p :: os, y => @Sum.elim (HT S o.b9) (gH S (p :: os)) (Option γ) (k o) (N7 k (p :: os)) y
def Jn {γ : Type} (os : List Out) (y : gH S os) (k : (o : Out) → HT S o.b9 → Option γ) : Option γ := N7 k os y
def wD : (os : List Out) → gH S os → ((o : Out) → HT S o.b9 → Prop) → Prop
 | [], _, _ => False
 | [o], y, p => p o y
 | o :: _ :: _, Sum.inl z, q => q o z
 | _ :: p :: os, Sum.inr z, q => wD (p :: os) z q
variable (S) in
structure bO where
 f : FuncId
 ins : List PS
 br : List OS := []
 ls : List Co
 pm : List Nat := []
 bk : List Nat := []
 outs : List Out
 LC : B9 pm bk = true := by rfl
 A1 : (Nat.ble br.length 30 && outs.all fun o => Nat.ble br.length o.bh.length) = true := by rfl
 cx : HT S ls → Option (gH S outs)
variable (S) in
structure NC where
 f : FuncId
 ins : List PS
 br : List OS := []
 ls : List Co
 pm : List Nat := []
 bk : List Nat := []
 out : Out
 LC : B9 pm bk = true := by rfl
 A1 : (Nat.ble br.length 30 && Nat.ble br.length out.bh.length) = true := by rfl
 KG : (γ : Type) → (HT S out.b9 → Option γ) → HT S ls → Option γ
variable (S) in
structure iH where
 v : AV S
 rd : List Nat := []
 rm : List Nat := []
 add : List (Nat × AO S) := []
def val (v : CV S) : iH S := { v := .one v }
def OS.outs (ids : Nat → Nat) : Nat → List KS → List (fL S) → Option (List (Nat × AO S))
 | _, [], [] => some []
 | _, [], _ :: _ => none
 | o, .now s :: l, ds => (OS.fill tb ids s ds).bind fun p => (OS.outs ids (o + 1) l p.2).map fun q => (ids o, p.1) :: q
 | o, _ :: l, ds => OS.outs ids (o + 1) l ds
def lH (mp : List (Nat × Nat)) (ct : Nat) (o : Nat) : Nat := match look o mp with | some q => q | none => ct + 1 + o
def KS.Qu : KS → Bool
 | .kept => true
 | _ => false
def dn (mp : List (Nat × Nat)) (k : Bool) : Nat → List KS → List Nat
 | _, [] => []
 | o, s :: l => match look o mp with
   | some q => match s.Qu == k with | true => q :: dn mp k (o + 1) l | false => dn mp k (o + 1) l
   | none => dn mp k (o + 1) l
variable (S) in
structure FA where
 CO : List TypeId := []
 lits : List TypeId := []
 parts : List TypeId := []
 takes : List TypeId := []
 pre : List (Nat × Nat × LW) := []
 fn : Nat := 0
 rd : Bool := false
 nd : List (NC S) := []
 deriving Inhabited
def NL (r : Nat) : Nat := 1000000 + r
def JB (b : Bool) : Option Unit := match b with | true => some () | false => none
section
variable {γ : Type} (tt : TypeId → Option (TI S)) (Φ : List (bO S)) (fa : FA S)
def lI (f : FuncId) (args : List (AV S)) (ob : List (Nat × Nat × AO S)) (ct : Nat) (k : iH S → Option γ) : List (bO S) → Option γ
 | [] => none
 | c :: cs => match Nat.beq c.f f with
   | false => lI f args ob ct k cs
   | true => match (PS.takes tb [] c.ins args).bind fun p => (OS.takes tb ob p.2 0 c.br).bind fun q => (kj c.pm (p.1 ++ q.1)).bind fun ds => (nH c.ls ds).map fun x => (x, q.2) with
     | none => lI f args ob ct k cs
     | some (x, mp) => (c.cx x).bind fun y => Jn c.outs y fun o z =>
       match (JB (mp.all fun p => Nat.ble (p.1 + 1) c.br.length)).bind fun _ => (kj o.CB (mM o.b9 z)).bind fun ds => (PS.fill tb (lH mp ct) o.out ds).bind fun p => (OS.outs tb (lH mp ct) 0 o.bh p.2).map fun l => (p.1, l) with
       | some (v, l) => k { v := v, rd := dn mp true 0 o.bh, rm := dn mp false 0 o.bh, add := l }
       | none => none
def jt (f : FuncId) (args : List (AV S)) (ob : List (Nat × Nat × AO S)) (ct : Nat) (k : iH S → Option γ) : List (NC S) → Option γ
 | [] => none
 | c :: cs => match Nat.beq c.f f with
   | false => jt f args ob ct k cs
   | true => match (PS.takes tb [] c.ins args).bind fun p => (OS.takes tb ob p.2 0 c.br).bind fun q => (kj c.pm (p.1 ++ q.1)).bind fun ds => (nH c.ls ds).map fun x => (x, q.2) with
     | none => jt f args ob ct k cs
     | some (x, mp) => (JB ((mp.all fun p => Nat.ble (p.1 + 1) c.br.length) && eJ (dn mp true 0 c.out.bh ++ dn mp false 0 c.out.bh))).bind fun _ => c.KG γ (fun z =>
       match (kj c.out.CB (mM c.out.b9 z)).bind fun ds => (PS.fill tb (lH mp ct) c.out.out ds).bind fun p => (OS.outs tb (lH mp ct) 0 c.out.bh p.2).map fun l => (p.1, l) with
       | some (v, l) => k { v := v, rd := dn mp true 0 c.out.bh, rm := dn mp false 0 c.out.bh, add := l }
       | none => none) x
def OI (o : Oper) (xs : List (AV S)) : Option (FuncId × List (AV S)) := match o.op with
 | .call c => (match c.callee, xs with
   | .value _, .one (.fn (.func f) first caps) :: args => (match (fa.nd.any fun c => Nat.beq c.f f) && Nat.ble f 999999 with | true => some (f, first.map tI ++ args ++ caps.map tI) | false => none)
   | _, _ => none)
 | _ => none
def J3 (sq : Bool) (o : Oper) (xs : List (AV S)) : Option (FuncId × List (AV S)) := match sq with
 | true => OI fa o xs
 | false => none
def eW (t : TypeId) : Option (TypeId × Co) := (tt t).bind fun i => match i.d, i.co with | .slice e, .sl c => some (e, c) | _, _ => none
def pD (i : TI S) (vs : Option (List (CV S))) (one : Option (CV S)) (rd : List Nat) (k : iH S → Option γ) : Option γ := match dS i.d with
 | true => vs.bind fun vs => k { v := .agg vs, rd := rd }
 | false => one.bind fun v => k { v := .one v, rd := rd }
def zn (t : TypeId) (v : CV S) (ob : List (Nat × Nat × AO S)) (k : iH S → Option γ) : Option γ :=
 (tt t).bind fun i => match v with
 | .ptr o off => (look o ob).bind fun a => match a.2 with
   | .box _ cs => pD i ((cutAt off cs).bind (mJ i.size)) (od off cs) [o] k
   | _ => none
 | .el c x off => pD i ((cutAt off (Jh tb c x)).bind (mJ i.size)) (od off (Jh tb c x)) [] k
 | .CC o v c x _ off => (look o ob).bind fun a => match Nat.beq a.1 v with
   | true => pD i ((cutAt off (Jh tb c x)).bind (mJ i.size)) (od off (Jh tb c x)) [o] k
   | false => none
 | .Hc o off n j => (look o ob).bind fun a => match a.2, dS i.d with
   | .box _ cs, false => (cutAt off cs).bind fun cs => match cs with
     | .a8 n' f :: _ => match Nat.beq n n' with | true => k { v := .one (.u8 (aD f j)), rd := [o] } | false => none
     | .ai n' kk f :: _ => match Nat.beq n n' with | true => k { v := .one (.int kk (aD f j)), rd := [o] } | false => none
     | _ => none
   | _, _ => none
 | _ => none
def ry : Nat → CV S → List (CV S) → Option (List (CV S))
 | _, _, [] => none
 | 0, x, _ :: vs => some (x :: vs)
 | o + 1, x, v :: vs => match Nat.ble v.n (o + 1) with | true => (ry (o + 1 - v.n) x vs).map (v :: ·) | false => none
def Ig (o n : Nat) (xs vs : List (CV S)) : Option (List (CV S)) := match Nat.beq (DJ xs) n with
 | true => (match xs, Nat.beq n 1 with | [x], true => Ic o x vs | xs, _ => MM o n xs vs)
 | false => none
def u4 (t : TypeId) (p : CV S) (a : AV S) (ob : List (Nat × Nat × AO S)) (k : iH S → Option γ) : Option γ :=
 (tt t).bind fun i => (lJ a).bind fun xs =>
 match p with
 | .ptr o off => (look o ob).bind fun b => match b.2 with
   | .box T cs => (Ig off i.size xs cs).bind fun cs' => k { v := AV.iE S, rm := [o], add := [(o, .box T cs')] }
   | _ => none
 | .CC o v c x j off => (look o ob).bind fun b => match Nat.beq b.1 v with
   | true => match b.2 with
     | .arr e c' full l => (Ig off i.size xs (Jh tb c x)).bind fun cs' => (wh tb c' cs').bind fun u =>
      k { v := AV.iE S, rm := [o], add := [(o, .arr e c' full (l.set j.toNat u))] }
     | _ => none
   | false => none
 | .Hc o off n j => (look o ob).bind fun b => match b.2, Nat.beq i.size 1 with
   | .box T cs, true => (cutAt off cs).bind fun cs1 => (match cs1, xs with
     | .a8 n' f :: _, [.u8 y] => (match Nat.beq n n' with | true => ry off (.a8 n' (ah f j y)) cs | false => none)
     | .ai n' kk f :: _, [.int k' y] => (match Nat.beq n n', decEq k' kk with | true, isTrue _ => ry off (.ai n' kk (ah f j y)) cs | _, _ => none)
     | _, _ => none).bind fun cs' => k { v := AV.iE S, rm := [o], add := [(o, .box T cs')] }
   | _, _ => none
 | _ => none
def idxOf (v : AV S) : Option Int := match v with | .one v => (num v).map (·.2) | _ => none
def uw (t : TypeId) (y : Operand) (v : CV S) (i : Int) (ob : List (Nat × Nat × AO S)) (k : iH S → Option γ) : Option γ :=
 match v with
 | .ptr o off => (tt t).bind fun ti => match ti.d with
   | .array n e => (tt e).bind fun ei => match Nat.beq ei.size 1 with
     | true => (match y with
       | .const (.int _ j) => (match decide (0 ≤ j) && decide (j < n) with | true => k (val (.ptr o (off + j.toNat))) | false => none)
       | _ => (dZ (0 ≤ i ∧ i < n)).bind fun _ => k (val (.Hc o off n i)))
     | false => none
   | _ => none
 | v => (eW tt t).bind fun ec => match v with
   | .aw o => (look o ob).bind fun a => match a.2 with
     | .arr _ c' _ l => (match decEq c' ec.2 with
       | isTrue _ => (idx l i).bind fun x => k { v := .one (.CC o a.1 c' x i 0), rd := [o] }
       | isFalse _ => none)
     | _ => none
   | v => (KL ec.2 v).bind fun l => (idx l i).bind fun x => k (val (.el ec.2 x 0))
def nw : Option Operand → List (AV S) → Option (Option Int × List (AV S))
 | none, vs => some (none, vs)
 | some _, v :: vs => (idxOf v).map fun i => (some i, vs)
 | some _, [] => none
def Mr : CV S → Bool
 | .bI => true
 | _ => false
def Ms : Option Int → Option Int → Option Int → Bool
 | none, some _, none => true
 | _, _, _ => false
def Og (c : Co) (v : CV S) (l : List (T S c)) : CV S := match v with
 | .rw o d _ => (match decEq d c with | isTrue _ => .rw o c l | isFalse _ => .sl c l)
 | _ => .sl c l
def rE (t : TypeId) (v : CV S) (lo hi mx : Option Int) (ob : List (Nat × Nat × AO S)) (ct : Nat) (k : iH S → Option γ) : Option γ :=
 (eW tt t).bind fun ec => match v with
 | .aw o => (look o ob).bind fun a => match a.2, lo, hi, mx with
   | .arr e c _ l, some i, none, none => (match decEq c ec.2 with
     | isTrue _ => (fY l i).bind fun l' => k { v := .one (.aw (ct + 1)), rm := [o], add := [(ct + 1, .arr e c false l')] }
     | isFalse _ => none)
   | .arr e c full l, none, some j, none => (match decEq c ec.2 with
     | isTrue _ => (jg l j).bind fun l' => k { v := .one (.aw (ct + 1)), rm := [o], add := [(ct + 1, .arr e c full l')] }
     | isFalse _ => none)
   | _, _, _, _ => none
 | .rz o c _ => (match lo, hi, mx with
   | none, some j, none => (match decide (j = 0) with | true => k { v := .one (.rw o c []), rd := [o] } | false => none)
   | _, _, _ => none)
 | v => match Mr v && Ms lo hi mx with
   | true => (match decide (hi = some 0) with | true => k (val .bI) | false => none)
   | false => (KL ec.2 v).bind fun l => match lo, hi, mx with
   | some i, none, none => (fY l i).bind fun l' => k (val (Og ec.2 v l'))
   | none, some j, none => (jg l j).bind fun l' => k (val (.sl ec.2 l'))
   | some i, some j, none => (mu l i j).bind fun l' => k (val (.sl ec.2 l'))
   | none, some j, some m => (dZ (m = j)).bind fun _ => (jg l j).bind fun l' => k (val (.KJ ec.2 l'))
   | _, _, _ => none
def pf (t : TypeId) (v w : CV S) (ob : List (Nat × Nat × AO S)) (ct : Nat) (k : iH S → Option γ) : Option γ :=
 (eW tt t).bind fun ec => (tt ec.1).bind fun ei => (KL ec.2 w).bind fun l' => match v with
  | .bI => (app ei.bytes [] l').bind fun l2 => match has t fa.CO with
    | true => k { v := .one (.aw (ct + 1)), add := [(ct + 1, .arr ec.1 ec.2 true l2)] }
    | false => k { v := .one (.rw (ct + 1) ec.2 l2), add := [(ct + 1, .row ec.1 ec.2)] }
  | .rw o d l => (look o ob).bind fun a => match a.2, decEq d ec.2 with
    | .row e' d', isTrue h => (match Nat.beq e' ec.1, decEq d' ec.2 with
      | true, isTrue _ => (app ei.bytes (kg h l) l').bind fun l2 => k { v := .one (.rw (ct + 1) ec.2 l2), rm := [o], add := [(ct + 1, .row ec.1 ec.2)] }
      | _, _ => none)
    | _, _ => none
  | .aw o => (look o ob).bind fun a => match a.2 with
    | .arr e' d true l => (match Nat.beq e' ec.1, decEq d ec.2 with
      | true, isTrue h => (app ei.bytes (kg h l) l').bind fun l2 => k { v := .one (.aw (ct + 1)), rm := [o], add := [(ct + 1, .arr ec.1 ec.2 true l2)] }
      | _, _ => none)
    | _ => none
  | .KJ d l => (match decEq d ec.2 with
    | isTrue h => (app ei.bytes (kg h l) l').bind fun l2 => k (val (.sl ec.2 l2))
    | isFalse _ => none)
  | _ => none
def zA (t : TypeId) (v : CV S) (lo hi mx : Option Int) (ob : List (Nat × Nat × AO S)) (ct : Nat) (k : iH S → Option γ) : Option γ := match v with
 | .aw o => (eW tt t).bind fun ec => (look o ob).bind fun a => match a.2, lo, hi, mx with
   | .arr _ c _ l, some i, none, none => (match decEq c ec.2 with
     | isTrue _ => (dZ (0 ≤ i ∧ i ≤ (l.length : Int))).bind fun _ => k { v := .one (.pt o ec.2 i ((l.length : Int) - i)), rd := [o] }
     | isFalse _ => none)
   | .arr _ c _ l, some i, some j, none => (match decEq c ec.2 with
     | isTrue _ => (dZ (0 ≤ i ∧ i ≤ j ∧ j ≤ (l.length : Int))).bind fun _ => k { v := .one (.pt o ec.2 i (j - i)), rd := [o] }
     | isFalse _ => none)
   | _, _, _, _ => none
 | v => rE tt t v lo hi mx ob ct k
def MU (o : Nat) (s : CV S) (l : List UInt8) : Option (List UInt8) := match s with
 | .pt o' c off n => (match Nat.beq o' o, decEq c .u8 with
   | true, isTrue _ => some ((l.drop off.toNat).take n.toNat)
   | _, _ => none)
 | s => KL .u8 s
def pN (t : TypeId) (o off : Nat) (lo hi mx : Option Int) (k : iH S → Option γ) : Option γ :=
 (tt t).bind fun ti => match ti.d, mx with
  | .array n e, none => (tt e).bind fun ei => (match Nat.beq ei.size 1 with
    | true => (dZ (0 ≤ lo.getD 0 ∧ lo.getD 0 < n ∧ lo.getD 0 ≤ hi.getD n ∧ hi.getD n ≤ n)).bind fun _ => k (val (.px o off n (lo.getD 0) (hi.getD n)))
    | false => none)
  | _, _ => none
def z7 (ec : TypeId × Co) (o off n : Nat) (i j : Int) (s : CV S) (ob : List (Nat × Nat × AO S)) (k : iH S → Option γ) : Option γ := match s, ec.2 with
 | .px o' off' n' i' j', .int _ => (match Nat.beq o' o && (Nat.beq off' off && Nat.beq n' n) with
   | true => (look o ob).bind fun a => (match a.2 with
     | .box T cs => (cutAt off cs).bind fun cs1 => (match cs1 with
       | .ai n1 kk f :: _ => (match Nat.beq n1 n with
         | true => (ry off (.ai n kk (nG f i.toNat i'.toNat (dr (j - i) (j' - i')).toNat)) cs).bind fun cs' => k { v := .one (.int .i64 (dr (j - i) (j' - i'))), rm := [o], add := [(o, .box T cs')] }
         | false => none)
       | _ => none)
     | _ => none)
   | false => none)
 | s, .u8 => (KL .u8 s).bind fun l => (look o ob).bind fun a => (match a.2 with
   | .box T cs => (cutAt off cs).bind fun cs1 => (match cs1 with
     | .a8 n1 f :: _ => (match Nat.beq n1 n with
       | true => (ry off (.a8 n (Lo f i.toNat (dr (List.length (α := UInt8) l : Int) (j - i)).toNat l)) cs).bind fun cs' => k { v := .one (.int .i64 (dr (List.length (α := UInt8) l : Int) (j - i))), rm := [o], add := [(o, .box T cs')] }
       | false => none)
     | _ => none)
   | _ => none)
 | _, _ => none
def pM (t : TypeId) (o off : Nat) (lo hi mx : Option Int) (ob : List (Nat × Nat × AO S)) (k : iH S → Option γ) : Option γ :=
 (tt t).bind fun ti => match ti.d, lo, hi, mx, off with
  | .array n e, none, none, none, 0 => (tt e).bind fun ei => (look o ob).bind fun a => (match a.2 with
    | .box _ [.a8 n1 f] => (match Nat.beq n1 n && (Nat.beq ei.size 1 && (Nat.ble 1 n && Nat.ble n 4096)) with
      | true => k { v := .one (.sl .u8 (gb (α := UInt8) n f)), rm := [o] }
      | false => none)
    | _ => none)
  | _, _, _, _, _ => none
def yU (t : TypeId) (d s : CV S) (ob : List (Nat × Nat × AO S)) (k : iH S → Option γ) : Option γ :=
 (eW tt t).bind fun ec => match d with
  | .pt o c off n => (look o ob).bind fun a => match a.2 with
    | .arr e c' full l => (match decEq c' .u8, decEq c .u8, decEq ec.2 .u8 with
      | isTrue h, isTrue _, isTrue _ => (MU o s (kg h l)).bind fun x => k { v := .one (.int .i64 (dr (x.length : Int) n)), rm := [o], add := [(o, .arr e .u8 full (Jg (α := UInt8) (kg h l) off.toNat (x.take n.toNat)))] }
      | _, _, _ => none)
    | _ => none
  | .px o off n i j => z7 ec o off n i j s ob k
  | _ => none
def QB (o off n : Nat) (i j : Int) (ob : List (Nat × Nat × AO S)) : Option (List UInt8) := (look o ob).bind fun a => match a.2 with
 | .box _ cs => (cutAt off cs).bind fun cs1 => (match cs1 with
   | .a8 n1 f :: _ => (match Nat.beq n1 n with | true => some (((gb n f).drop i.toNat).take (j - i).toNat) | false => none)
   | _ => none)
 | _ => none
def mD (t : TypeId) (q : Nat) (d : Co) (l : List (T S d)) (o off n : Nat) (i j : Int) (ob : List (Nat × Nat × AO S)) (ct : Nat) (k : iH S → Option γ) : Option γ :=
 (eW tt t).bind fun ec => (tt ec.1).bind fun ei => (look q ob).bind fun a => match a.2, decEq d .u8, decEq ec.2 .u8 with
  | .row e' d', isTrue h, isTrue _ => (match Nat.beq e' ec.1 && Nat.ble n 4096, decEq d' .u8 with
    | true, isTrue _ => (QB o off n i j ob).bind fun l' => (app (α := UInt8) ei.bytes (kg h l) l').bind fun l2 => k { v := .one (.rw (ct + 1) .u8 l2), rd := [o], rm := [q], add := [(ct + 1, .row ec.1 .u8)] }
    | _, _ => none)
  | _, _, _ => none
def uf (t : TypeId) (v : CV S) (ob : List (Nat × Nat × AO S)) (k : iH S → Option γ) : Option γ :=
 (eW tt t).bind fun ec => (tt ec.1).bind fun ei => (wh tb ec.2 ei.zero).bind fun z => match v with
  | .pt o c off n => (look o ob).bind fun a => match a.2 with
    | .arr e c' full l => (match decEq c' ec.2, decEq c ec.2 with
      | isTrue h, isTrue _ => k { v := .je [], rm := [o], add := [(o, .arr e ec.2 full (yk (kg h l) off.toNat n.toNat z))] }
      | _, _ => none)
    | _ => none
  | _ => none
def xy : Co → Bool
 | .int _ => true
 | .u8 => true
 | .bo => true
 | _ => false
def mE (t tx : TypeId) (v w : CV S) (ob : List (Nat × Nat × AO S)) (ct : Nat) (k : iH S → Option γ) : Option γ :=
 (eW tt t).bind fun ec => (tt ec.1).bind fun ei => (tt tx).bind fun xi => match xi.d, v, w with
  | .int .i64, .bI, .int .i64 n => (dZ (0 < n ∧ n * ei.bytes ≤ 140737488355328)).bind fun _ => k { v := .one (.rz (ct + 1) ec.2 n), add := [(ct + 1, .row ec.1 ec.2)] }
  | .int .i64, .rw o d l, .int .i64 n => (match xy ec.2, dS ei.d, decEq d ec.2 with
    | true, false, isTrue h => (look o ob).bind fun a => (match a.2 with
      | .row e' d' => (match Nat.beq e' ec.1, decEq d' ec.2 with
        | true, isTrue _ => (wh tb ec.2 ei.zero).bind fun z => (dZ (0 ≤ n ∧ n * ei.bytes ≤ 140737488355328)).bind fun _ => (app ei.bytes (kg h l) (List.replicate n.toNat z)).bind fun l2 => k { v := .one (.rw (ct + 1) ec.2 l2), rm := [o], add := [(ct + 1, .row ec.1 ec.2)] }
        | _, _ => none)
      | _ => none)
    | _, _, _ => none)
  | _, _, _ => none
def FH (t : TypeId) (v : CV S) (ob : List (Nat × Nat × AO S)) (k : iH S → Option γ) : Option γ :=
 (tt t).bind fun ti => match ti.d with
 | .slice _ => (match v with
   | .sl _ l => k (val (.int .i64 (l.length : Int)))
   | .KJ _ l => k (val (.int .i64 (l.length : Int)))
   | .rw _ _ l => k (val (.int .i64 (l.length : Int)))
   | .bI => k (val (.int .i64 0))
   | .aw o => (look o ob).bind fun a => match a.2 with
     | .arr _ _ _ l => k { v := .one (.int .i64 (l.length : Int)), rd := [o] }
     | _ => none
   | _ => none)
 | .str => (match v with | .str l => k (val (.int .i64 (l.length : Int))) | _ => none)
 | .map _ _ => (match v with
   | .mp o => (look o ob).bind fun a => match a.2 with
     | .map _ _ _ l _ => k { v := .one (.int .i64 (l.length : Int)), rd := [o] }
     | _ => none
   | _ => none)
 | _ => none
def yS (s d : TypeId) (v : CV S) (ob : List (Nat × Nat × AO S)) (k : iH S → Option γ) : Option γ :=
 (tt s).bind fun a => (tt d).bind fun b => match v, b.d with
 | .int _ x, .int kd => k (val (K1 kd x))
 | .u8 x, .int .u8 => k (val (.u8 x))
 | .u8 x, .int .i8 => k (val (.int .i8 (IntKind.i8.wrap (x.toNat : Int))))
 | .u8 x, .int kd => k (val (.int kd (x.toNat : Int)))
 | .str l, .str => match a.d with | .str => k (val (.str l)) | _ => none
 | v, .str => match a.d, a.co with
   | .slice e, .sl .u8 => (tt e).bind fun ei => match ei.d with | .int .u8 => (KL (S := S) .u8 v).bind fun l => k (val (.str l)) | _ => none
   | _, _ => none
 | .rw o c (y :: l), .slice e => match Nat.beq s d with
   | true => (tt e).bind fun ei => (look o ob).bind fun b => match ei.d, b.2 with | .int .u8, .row _ _ => k { v := .one (.sl c (y :: l)), rm := [o] } | _, _ => none
   | false => none
 | _, _ => none
def kh : Co → AV S → Option (List (CV S))
 | .st _, .agg vs => some vs
 | .st _, _ => none
 | _, .one v => some [v]
 | _, _ => none
def mP (t : TypeId) : Option (Co × Co × TI S) := (tt t).bind fun ti => match ti.d, ti.co with
 | .map _ e, .mp kc vc => (tt e).bind fun ei => (match xm tb kc && (EW vc && !dS ei.d) with | true => some (kc, vc, ei) | false => none)
 | _, _ => none
def Ap (vc : Co) (y : Option (T S vc)) (z : T S vc) (ok : Bool) : AV S := match ok with
 | true => .je [.one (toCV vc (y.getD z)), .one (Mc y.isSome)]
 | false => .one (toCV vc (y.getD z))
def zo (t : TypeId) (v : CV S) (key : AV S) (ok : Bool) (ob : List (Nat × Nat × AO S)) (k : iH S → Option γ) : Option γ :=
 (mP tb tt t).bind fun i => (kh i.1 key).bind fun cs => (wh tb i.1 cs).bind fun x => (wh tb i.2.1 i.2.2.zero).bind fun z => match v with
 | .mp o => (look o ob).bind fun a => match a.2 with
   | .map t' kc vc l none => (match Nat.beq t' t, decEq kc i.1, decEq vc i.2.1 with
     | true, isTrue h, isTrue h' => k { v := Ap i.2.1 (eL (fM tb i.1) (fC h h' l) x) z ok, rd := [o] }
     | _, _, _ => none)
   | .jf t' kc vc l none _ => (match Nat.beq t' t, decEq kc i.1, decEq vc i.2.1 with
     | true, isTrue h, isTrue h' => k { v := Ap i.2.1 (eL (fM tb i.1) (fC h h' l) x) z ok, rd := [o] }
     | _, _, _ => none)
   | _ => none
 | _ => none
def Ca (t : TypeId) (v : CV S) (key w : AV S) (ob : List (Nat × Nat × AO S)) (k : iH S → Option γ) : Option γ :=
 (mP tb tt t).bind fun i => (kh i.1 key).bind fun cs => (wh tb i.1 cs).bind fun x => (kh i.2.1 w).bind fun ws => (wh tb i.2.1 ws).bind fun y => match v with
 | .mp o => (look o ob).bind fun a => match a.2 with
   | .map t' kc vc l none => (match Nat.beq t' t, decEq kc i.1, decEq vc i.2.1 with
     | true, isTrue h, isTrue h' => k { v := AV.iE S, rm := [o], add := [(o, .map t i.1 i.2.1 (jP (fM tb i.1) (fC h h' l) x y) none)] }
     | _, _, _ => none)
   | .jf t' kc vc l none q => (match Nat.beq t' t, decEq kc i.1, decEq vc i.2.1 with
     | true, isTrue h, isTrue h' => (dZ ((eL (fM tb i.1) (fC h h' l) x).isSome = true)).bind fun _ => k { v := AV.iE S, rm := [o], add := [(o, .jf t i.1 i.2.1 (jP (fM tb i.1) (fC h h' l) x y) none q)] }
     | _, _, _ => none)
   | _ => none
 | _ => none
def Fp (t : TypeId) (v : CV S) (key : AV S) (ob : List (Nat × Nat × AO S)) (k : iH S → Option γ) : Option γ :=
 (mP tb tt t).bind fun i => (kh i.1 key).bind fun cs => (wh tb i.1 cs).bind fun x => match v with
 | .mp o => (look o ob).bind fun a => match a.2 with
   | .map t' kc vc l none => (match Nat.beq t' t, decEq kc i.1, decEq vc i.2.1 with
     | true, isTrue h, isTrue h' => k { v := .je [], rm := [o], add := [(o, .map t i.1 i.2.1 (Mw (fM tb i.1) (fC h h' l) x) none)] }
     | _, _, _ => none)
   | _ => none
 | _ => none
def vl {a c : Co} (h : a = c) (x : T S a) : T S c := h ▸ x
def zt (t : TypeId) (v : CV S) (key : AV S) (ob : List (Nat × Nat × AO S)) (ct : Nat) (k : iH S → Option γ) : Option γ :=
 (mP tb tt t).bind fun i => (kh i.1 key).bind fun cs => (wh tb i.1 cs).bind fun x => (wh tb i.2.1 i.2.2.zero).bind fun z => match v with
 | .mp o => (look o ob).bind fun a => match a.2 with
   | .map t' kc vc l none => (match Nat.beq t' t, decEq kc i.1, decEq vc i.2.1 with
     | true, isTrue h, isTrue h' => k { v := .je [.one (toCV i.2.1 ((eL (fM tb i.1) (fC h h' l) x).getD z)), .one (.KP o (ct + 1))], rm := [o], add := [(o, .map t i.1 i.2.1 (Dm (fM tb i.1) (fC h h' l) x z) (some (x, ct + 1)))] }
     | _, _, _ => none)
   | .jf t' kc vc l none q => (match Nat.beq t' t, decEq kc i.1, decEq vc i.2.1 with
     | true, isTrue h, isTrue h' => (dZ ((eL (fM tb i.1) (fC h h' l) x).isSome = true)).bind fun _ => k { v := .je [.one (toCV i.2.1 ((eL (fM tb i.1) (fC h h' l) x).getD z)), .one (.KP o (ct + 1))], rm := [o], add := [(o, .jf t i.1 i.2.1 (fC h h' l) (some (x, ct + 1)) q)] }
     | _, _, _ => none)
   | _ => none
 | _ => none
def Fv (t : TypeId) (v s : CV S) (w : AV S) (ob : List (Nat × Nat × AO S)) (k : iH S → Option γ) : Option γ :=
 (mP tb tt t).bind fun i => (kh i.2.1 w).bind fun ws => (wh tb i.2.1 ws).bind fun y => match v, s with
 | .mp o, .KP o' q => (match Nat.beq o o' with
   | true => (look o ob).bind fun a => match a.2 with
     | .map t' kc vc l (some (x, q')) => (match Nat.beq t' t && Nat.beq q q', decEq kc i.1, decEq vc i.2.1 with
       | true, isTrue h, isTrue h' => k { v := AV.iE S, rm := [o], add := [(o, .map t i.1 i.2.1 (jP (fM tb i.1) (fC h h' l) (vl h x) y) none)] }
       | _, _, _ => none)
     | .jf t' kc vc l (some (x, q')) q0 => (match Nat.beq t' t && Nat.beq q q', decEq kc i.1, decEq vc i.2.1 with
       | true, isTrue h, isTrue h' => k { v := AV.iE S, rm := [o], add := [(o, .jf t i.1 i.2.1 (jP (fM tb i.1) (fC h h' l) (vl h x) y) none q0)] }
       | _, _, _ => none)
     | _ => none
   | false => none)
 | _, _ => none
def uK (t : TypeId) (v : CV S) (ob : List (Nat × Nat × AO S)) (ct : Nat) (k : iH S → Option γ) : Option γ :=
 (mP tb tt t).bind fun i => match v with
 | .mp o => (look o ob).bind fun a => match a.2 with
   | .map t' kc vc l none => (match Nat.beq t' t, decEq kc i.1, decEq vc i.2.1 with
     | true, isTrue h, isTrue h' => k { v := .one (.JR (ct + 1)), rm := [o], add := [(o, .jf t i.1 i.2.1 (fC h h' l) none (ct + 1)), (ct + 1, .xu i.1 o none)] }
     | _, _, _ => none)
   | _ => none
 | _ => none
def Eo : (c : Co) → T S c → AV S
 | .st i, x => .agg (Jh tb (.st i) x)
 | c, x => .one (toCV c x)
def uh (v : CV S) (ob : List (Nat × Nat × AO S)) (k : iH S → Option γ) : Option γ := match v with
 | .JR q => (look q ob).bind fun b => match b.2 with
   | .xu kc' o (some (some x)) => (look o ob).bind fun a => match a.2 with
     | .jf t kc vc l none q' => (mP tb tt t).bind fun i => (wh tb i.2.1 i.2.2.zero).bind fun z => (match Nat.beq q' q, decEq kc' i.1, decEq kc i.1, decEq vc i.2.1 with
       | true, isTrue h0, isTrue h, isTrue h' => k { v := .je [Eo tb i.1 (vl h0 x), .one (toCV i.2.1 ((eL (fM tb i.1) (fC h h' l) (vl h0 x)).getD z))], rd := [q, o] }
       | _, _, _, _ => none)
     | _ => none
   | _ => none
 | _ => none
def Mz : List (CV S) → Bool
 | [.bI] => true
 | _ => false
def nj (t : TypeId) : Option (Co × Co × TypeId) := (tt t).bind fun ti => match ti.d, ti.co with
 | .map _ e, .mp kc (.sl c) => (tt e).bind fun si => (eW tt e).bind fun ec => (match xm tb kc && Mz si.zero, decEq ec.2 c with | true, isTrue _ => some (kc, c, ec.1) | _, _ => none)
 | _, _ => none
def uq (t : TypeId) (v : CV S) (key : AV S) (ok : Bool) (ob : List (Nat × Nat × AO S)) (k : iH S → Option γ) : Option γ :=
 (nj tb tt t).bind fun i => (kh i.1 key).bind fun cs => (wh tb i.1 cs).bind fun x => match v, ok with
 | .mp o, false => (look o ob).bind fun a => match a.2 with
   | .ni t' _ kc c l none => (match Nat.beq t' t, decEq kc i.1, decEq c i.2.1 with
     | true, isTrue h, isTrue h' => k { v := .one (.sl i.2.1 ((eL (fM tb i.1) (vk h h' l) x).getD [])), rd := [o] }
     | _, _, _ => none)
   | _ => none
 | _, _ => none
def uv (t : TypeId) (v : CV S) (key : AV S) (ok : Bool) (ob : List (Nat × Nat × AO S)) (ct : Nat) (k : iH S → Option γ) : Option γ :=
 (nj tb tt t).bind fun i => (kh i.1 key).bind fun cs => (wh tb i.1 cs).bind fun x => match v, ok with
 | .mp o, false => (look o ob).bind fun a => match a.2 with
   | .ni t' et kc c l none => (match Nat.beq t' t && Nat.beq et i.2.2, decEq kc i.1, decEq c i.2.1 with
     | true, isTrue h, isTrue h' => k { v := .one (.rw (ct + 1) i.2.1 ((eL (fM tb i.1) (vk h h' l) x).getD [])), rm := [o], add := [(o, .ni t i.2.2 i.1 i.2.1 (vk h h' l) (some x)), (ct + 1, .row i.2.2 i.2.1)] }
     | _, _, _ => none)
   | _ => none
 | _, _ => none
def Ej {α : Type} (eq : α → α → Bool) (x : α) (h : Option α) (k : Option γ) : Option γ := match h with
 | none => k
 | some y => (dZ (eq x y = true)).bind fun _ => k
def Lj {a c : Co} (h : a = c) (x : Option (T S a)) : Option (T S c) := h ▸ x
def zg (t : TypeId) (v : CV S) (key : AV S) (w : CV S) (ob : List (Nat × Nat × AO S)) (k : iH S → Option γ) : Option γ :=
 (nj tb tt t).bind fun i => (kh i.1 key).bind fun cs => (wh tb i.1 cs).bind fun x => match v, w with
 | .mp o, .rw p d l2 => (look o ob).bind fun a => (look p ob).bind fun b => match a.2, b.2 with
   | .ni t' et kc c l hole, .row et' c' => (match Nat.beq t' t && (Nat.beq et i.2.2 && Nat.beq et' i.2.2), decEq kc i.1, decEq c i.2.1, decEq c' i.2.1, decEq d i.2.1 with
     | true, isTrue h, isTrue h', isTrue _, isTrue hd => Ej (fM tb i.1) x (Lj h hole) (k { v := AV.iE S, rm := [o, p], add := [(o, .ni t i.2.2 i.1 i.2.1 (jP (fM tb i.1) (vk h h' l) x (kg hd l2)) none)] })
     | _, _, _, _, _ => none)
   | _, _ => none
 | _, _ => none
def HP : List (CV S) → Bool
 | [.aU] => true
 | _ => false
def uA (t : TypeId) : Option Co := (tt t).bind fun ti => match ti.d, ti.co with
 | .map _ e, .mp kc (.a8 _) => (tt e).bind fun fi => (match xm tb kc && (HP fi.zero && !dS fi.d) with | true => some kc | false => none)
 | _, _ => none
def Bu {a c : Co} (h : a = c) (l : List (T S a × CV S)) : List (T S c × CV S) := h ▸ l
def Mq : CV S → Bool
 | .fn _ _ _ => true
 | _ => false
def xo (t : TypeId) (v : CV S) (key : AV S) (w : AV S) (ob : List (Nat × Nat × AO S)) (k : iH S → Option γ) : Option γ :=
 (uA tb tt t).bind fun i => (kh i key).bind fun cs => (wh tb i cs).bind fun x => match v, w with
 | .mp o, .one f => (look o ob).bind fun a => match a.2 with
   | .yB t' kc l => (match Nat.beq t' t && Mq f, decEq kc i with
     | true, isTrue h => (match (Bu h l).any fun p => fM tb i x p.1 with
       | true => none
       | false => k { v := AV.iE S, rm := [o], add := [(o, .yB t i (Bu h l ++ [(x, f)]))] })
     | _, _ => none)
   | _ => none
 | _, _ => none
def xn (o : Nat) (c : Co) (x : T S c) (k : iH S → Option γ) : List (T S c × CV S) → Option γ
 | [] => k { v := .one .aU, rd := [o] }
 | p :: l => @ite _ (fM tb c x p.1 = true) inferInstance (k { v := .one p.2, rd := [o] }) (xn o c x k l)
def uz (t : TypeId) (v : CV S) (key : AV S) (ok : Bool) (ob : List (Nat × Nat × AO S)) (k : iH S → Option γ) : Option γ :=
 (uA tb tt t).bind fun i => (kh i key).bind fun cs => (wh tb i cs).bind fun x => match v, ok with
 | .mp o, false => (look o ob).bind fun a => match a.2 with
   | .yB t' kc l => (match Nat.beq t' t, decEq kc i with
     | true, isTrue h => xn tb o i x k (Bu h l)
     | _, _ => none)
   | _ => none
 | _, _ => none
def oA : List (AV S) → Option (List (CV S))
 | [] => some []
 | .one v :: l => (oA l).map (v :: ·)
 | .agg vs :: l => (oA l).map (.ag vs :: ·)
 | _ :: _ => none
def gy (place : Nat → Option (Nat × Nat)) : List (CV S) → List (Nat × AV S) → Option (List (CV S))
 | cs, [] => some cs
 | cs, (i, a) :: l => (place i).bind fun p => (lJ a).bind fun xs => (Ig p.1 p.2 xs cs).bind fun cs' => gy place cs' l
def FI (c : Co) : List (Nat × AV S) → Option (List (T S c))
 | [] => some []
 | (_, a) :: l => (lJ a).bind fun xs => (wh tb c xs).bind fun x => (FI c l).map (x :: ·)
def xd : Nat → List (Nat × AV S) → Bool
 | _, [] => true
 | i, (j, _) :: l => Nat.beq i j && xd (i + 1) l
def rp (f : TypeId × Nat × Nat) (v : CV S) (k : iH S → Option γ) : Option γ := match Nat.ble 1 f.2.2, v with
 | true, .ptr o off => k (val (.ptr o (off + f.2.1)))
 | true, .el c x off => k (val (.el c x (off + f.2.1)))
 | true, .CC o v c x j off => k (val (.CC o v c x j (off + f.2.1)))
 | _, _ => none
def ND (op : UnOp) (v : CV S) (k : iH S → Option γ) : Option γ := match op, v with
 | .not, .tt b => k (val (.tt !b))
 | .not, .bo b _ _ _ => k (val (Jv b))
 | .not, .na e n => k (val (.na e (!n)))
 | .neg, .int kk x => k (val (.int kk (kk.wrap (-x))))
 | .xor, .int kk x => k (val (.int kk (cp kk (if kk.signed then -1 else kk.max) x)))
 | _, _ => none
def AK : Operand → Operand → Bool
 | .tmp a, .tmp b => Nat.beq a b
 | .const (.int k n), .const (.int k' n') => decide (k = k') && decide (n = n')
 | _, _ => false
def core (o : Oper) (xs : List (AV S)) (ob : List (Nat × Nat × AO S)) (ct : Nat) (k : iH S → Option γ) : Option γ :=
 match o.op with
 | .move _ => match xs with | [a] => k { v := a } | _ => none
 | .assign _ => match xs with | [a] => k { v := a } | _ => none
 | .pick _ _ _ => match xs with | [.one c, a, b] => Mo c (fun z => match z with | true => k { v := a } | false => k { v := b }) | _ => none
 | .extract _ i => match xs with | [.je vs] => (vs[i]?).bind fun a => k { v := a } | _ => none
 | .nilCheck _ => match xs with | [.one v] => (match v with | .ptr _ _ => k (val v) | .fn (.func _) _ _ => k (val v) | .el _ _ _ => k (val v) | .CC _ _ _ _ _ _ => k (val v) | _ => none) | _ => none
 | .binOp op t _ y _ => match xs with | [a, b] => Fa tt op t y a b fun v => k (val v) | _ => none
 | .unOp op _ _ => match xs with
   | [.one v] => ND op v k
   | _ => none
 | .convert s d _ => match xs with | [.one v] => yS tt s d v ob k | _ => none
 | .fieldAddr t _ i => match xs with
   | [.one v] => (tt t).bind fun ti => match ti.d with
     | .struct fs => (fs[i]?).bind fun (f : TypeId × Nat × Nat) => rp f v k
     | _ => none
   | _ => none
 | .field t _ i => match xs with
   | [.agg vs] => (tt t).bind fun ti => match ti.d with
     | .struct fs => (fs[i]?).bind fun (f : TypeId × Nat × Nat) => (tt f.1).bind fun fi => (match dS fi.d with
       | true => ((cutAt f.2.1 vs).bind (mJ fi.size)).bind fun l => k { v := .agg l }
       | false => (od f.2.1 vs).bind fun v => k (val v))
     | _ => none
   | _ => none
 | .build t parts => (tt t).bind fun ti => (match ti.d with
  | .struct fs => gy (fun i => (fs[i]?).map fun (f : TypeId × Nat × Nat) => f.2) ti.zero ((parts.toList.map Prod.fst).zip xs)
  | .array _ e => (tt e).bind fun ei => gy (fun i => some (i * ei.size, ei.size)) ti.zero ((parts.toList.map Prod.fst).zip xs)
  | _ => none).bind fun cs => k { v := .agg cs }
 | .makeFunc f first _ => (oA xs).bind fun vs => k (val (.fn f (vs.take first.size) (vs.drop first.size)))
 | .alloc t => (tt t).bind fun ti => k { v := .one (.ptr (ct + 1) 0), add := [(ct + 1, .box t ti.zero)] }
 | .box t _ => match xs with | [a] => (lJ a).bind fun cs => k { v := .one (.ptr (ct + 1) 0), add := [(ct + 1, .box t cs)] } | _ => none
 | .load t _ => match xs with | [.one v] => zn tb tt t v ob k | _ => none
 | .store t _ _ => match xs with | [.one p, a] => u4 tb tt t p a ob k | _ => none
 | .indexAddr t _ y => match xs with | [.one v, i] => (idxOf i).bind fun i => uw tt t y v i ob k | _ => none
 | .index t _ _ => (tt t).bind fun ti => match ti.d, xs with
   | .str, [.one (.str l), i] => (idxOf i).bind fun i => (idx l i).bind fun c => k (val (.u8 c))
   | .array n e, [.agg [.ai n' kk f], i] => (tt e).bind fun ei => (idxOf i).bind fun i => (match Nat.beq n' n, Nat.beq ei.size 1, dS ei.d with
     | true, true, false => (dZ (0 ≤ i ∧ i < n)).bind fun _ => k (val (.int kk (aD f i)))
     | _, _, _ => none)
   | _, _ => none
 | .slice t _ lo hi mx => match xs with
   | .one v :: r => (nw lo r).bind fun a => (nw hi a.2).bind fun b => (nw mx b.2).bind fun c => match v with | .ptr o off => (match has t fa.parts with | true => pM tt t o off a.1 b.1 c.1 ob k | false => pN tt t o off a.1 b.1 c.1 k) | v => (match has t fa.parts && a.1.isSome with | true => zA tt t v a.1 b.1 c.1 ob ct k | false => rE tt t v a.1 b.1 c.1 ob ct k)
   | _ => none
 | .buildSlice t len parts => (eW tt t).bind fun ec => (tt ec.1).bind fun ei =>
  let ps := (parts.toList.map Prod.fst).zip xs
  match Nat.beq len xs.length && xd 0 ps && Nat.ble (len * ei.size) 16777216 with
  | true => (FI tb ec.2 ps).bind fun l => match has t fa.lits || (Nat.beq len 0 && has t fa.CO) with
    | true => k { v := .one (.aw (ct + 1)), add := [(ct + 1, .arr ec.1 ec.2 true l)] }
    | false => k { v := .one (.rw (ct + 1) ec.2 l), add := [(ct + 1, .row ec.1 ec.2)] }
  | false => none
 | .makeMap t r => match r, xs with
   | none, [] => (match mP tb tt t with
     | some i => k { v := .one (.mp (ct + 1)), add := [(ct + 1, .map t i.1 i.2.1 [] none)] }
     | none => (match nj tb tt t with
       | some i => k { v := .one (.mp (ct + 1)), add := [(ct + 1, .ni t i.2.2 i.1 i.2.1 [] none)] }
       | none => (uA tb tt t).bind fun i => k { v := .one (.mp (ct + 1)), add := [(ct + 1, .yB t i [])] }))
   | _, _ => none
 | .lookup t _ _ ok => match xs with | [.one v, key] => (match (mP tb tt t).isSome, (nj tb tt t).isSome with | true, _ => zo tb tt t v key ok ob k | false, true => (match has t fa.takes with | true => uv tb tt t v key ok ob ct k | false => uq tb tt t v key ok ob k) | false, false => uz tb tt t v key ok ob k) | _ => none
 | .mapEntry t _ _ => match xs with | [.one v, key] => zt tb tt t v key ob ct k | _ => none
 | .entryStore t _ _ _ => match xs with | [.one v, .one s, w] => Fv tb tt t v s w ob k | _ => none
 | .mapUpdate t _ _ _ => match xs with | [.one v, key, w] => (match (mP tb tt t).isSome, (nj tb tt t).isSome with | true, _ => Ca tb tt t v key w ob k | false, true => (match w with | .one w => zg tb tt t v key w ob k | _ => none) | false, false => xo tb tt t v key w ob k) | _ => none
 | .range t _ => match xs with | [.one v] => uK tb tt t v ob ct k | _ => none
 | .entry _ => match xs with | [.one v] => uh tb tt v ob k | _ => none
 | .makeSlice t x y => match xs, AK x y with
   | [a, _], true => (idxOf a).bind fun n => (eW tt t).bind fun ec => (tt ec.1).bind fun ei => (match xy ec.2, dS ei.d with
     | true, false => (wh tb ec.2 ei.zero).bind fun z => (dZ (0 ≤ n ∧ n * ei.bytes ≤ 140737488355328)).bind fun _ =>
      k { v := .one (.aw (ct + 1)), add := [(ct + 1, .arr ec.1 ec.2 true (List.replicate n.toNat z))] }
     | _, _ => none)
   | _, _ => none
 | .call c => match c.callee with
   | .builtin b => match b, xs with
     | .len, [.one v] => (match c.argTypes.toList with | [t] => FH tt t v ob k | _ => none)
     | .append, [.one v, .one w] => (match c.argTypes.toList with | [t, t'] => (match Nat.beq t t' with | true => (match v, w with | .rw q d l, .px o off n i j => mD tt t q d l o off n i j ob ct k | v, w => pf tt fa t v w ob ct k) | false => mE tb tt t t' v w ob ct k) | _ => none)
     | .copy, [.one v, .one w] => (match c.argTypes.toList with | [t, _] => yU tt t v w ob k | _ => none)
     | .clear, [.one v] => (match c.argTypes.toList with | [t] => uf tb tt t v ob k | _ => none)
     | .delete, [.one v, key] => (match c.argTypes.toList with | [t, _] => Fp tb tt t v key ob k | _ => none)
     | .cap, [.one .bI] => (match c.argTypes.toList with | [t] => (eW tt t).bind fun _ => k (val (.int .i64 0)) | _ => none)
     | .min, [.one v, .one w] => (num v).bind fun x => (num w).bind fun y => match decEq x.1 y.1 with | isTrue _ => k (val (CD x.1 (dr x.2 y.2))) | isFalse _ => none
     | .max, [.one v, .one w] => (num v).bind fun x => (num w).bind fun y => match decEq x.1 y.1 with | isTrue _ => k (val (CD x.1 (imax x.2 y.2))) | isFalse _ => none
     | _, _ => none
   | .value _ => match xs with
     | .one (.fn (.func f) first caps) :: args => (match Nat.ble f 999999 with | true => lI tb f (first.map tI ++ args ++ caps.map tI) ob ct k Φ | false => none)
     | .one (.yl q) :: args => (look q ob).bind fun a => match a.2 with | .loop r .ready _ => lI tb (NL r) (.one (.yl q) :: args) ob ct k Φ | _ => none
     | _ => none
   | .invoke _ _ => none
 | .insert t _ _ _ => match xs with | [.one v, key, w] => xo tb tt t v key w ob k | _ => none
 | _ => none
end
def pa : CV S → List Value
 | .int k x => [.int k x]
 | .u8 x => [.int .u8 (x.toNat : Int)]
 | .tt b => [.bool b]
 | .str l => [.string (Proofs.YtekpafdhgkocaaaGreat.str l)]
 | .bI => [.slice none 0 0]
 | .dI => [.pointer none]
 | .aU => [.nilFunc]
 | .uG => [.map none]
 | .ru => [.nilIface]
 | .a8 n f => (List.range n).map (fun i => .int .u8 ((f i).toNat : Int))
 | .ai n k f => (List.range n).map (fun i => .int k (f i))
 | _ => []
def gv (vs : List (CV S)) : List Value := vs.flatMap pa
def Qp : Value → Value → Bool
 | .int k n, .int k' n' => decide (k = k') && decide (n = n')
 | .bool b, .bool b' => b == b'
 | .slice none 0 0, .slice none 0 0 => true
 | .pointer none, .pointer none => true
 | .nilFunc, .nilFunc => true
 | .map none, .map none => true
 | .nilIface, .nilIface => true
 | .string s, .string s' => decide (s.data.toList = s'.data.toList)
 | _, _ => false
def Fu : List Value → List Value → Bool
 | [], [] => true
 | v :: vs, w :: ws => match Qp v w with | true => Fu vs ws | false => false
 | _, _ => false
def vZ : Value → Option (CV S)
 | .int .u8 n => match decEq (n % 256) n with | isTrue _ => some (.u8 (G.u8 n)) | isFalse _ => none
 | .int k n => some (.int k n)
 | .bool b => some (.tt b)
 | .string s => some (.str s.data.toList)
 | .slice none 0 0 => some .bI
 | .pointer none => some .dI
 | .nilFunc => some .aU
 | .map none => some .uG
 | .nilIface => some .ru
 | _ => none
def mG : List Value → Option (List (CV S))
 | [] => some []
 | v :: vs => (vZ v).bind fun x => (mG vs).map (x :: ·)
def z6 (tt : TypeId → Option (TI S)) (t : TypeId) : Value → Option (AV S)
 | .agg cs => match tt t with
   | some i => (match Fu (gv i.zero) cs.toList with | true => some (.agg i.zero) | false => (mG cs.toList).map .agg)
   | none => (mG cs.toList).map .agg
 | .tuple vs => match vs.toList with | [] => some (AV.iE S) | _ => none
 | v => (vZ v).map .one
def B8 (o : Oper) : List TypeId := match o.op with
 | .move _ => [o.type]
 | .assign _ => [o.type]
 | .store t _ _ => [0, t]
 | .binOp _ t _ _ _ => [t, t]
 | .call c => match c.callee with | .builtin _ => c.argTypes.toList | _ => 0 :: c.argTypes.toList
 | _ => []
def AS.get (σ : AS S) (t : Tmp) : Option (Nat × AV S) := look (σ.fb + t) σ.tm
def lU (tt : TypeId → Option (TI S)) (σ : AS S) (t : TypeId) : Operand → Option (AV S)
 | .tmp u => (σ.get u).map (·.2)
 | .const v => z6 tt t v
 | .func f => some (.one (.fn (.func f) [] []))
 | .global _ => none
def mS (tt : TypeId → Option (TI S)) (σ : AS S) : List TypeId → List Operand → Option (List (AV S))
 | _, [] => some []
 | [], x :: xs => (lU tt σ 0 x).bind fun a => (mS tt σ [] xs).map (a :: ·)
 | t :: ts, x :: xs => (lU tt σ t x).bind fun a => (mS tt σ ts xs).map (a :: ·)
def Ck (aI : Nat) (b : Bool) : List (Nat × Nat × AV S) → List (Nat × Nat × AV S)
 | [] => []
 | (t, v, a) :: l => match Nat.beq v aI with | true => (t, v, .one (.tt b)) :: Ck aI b l | false => (t, v, a) :: Ck aI b l
def AS.gg (σ : AS S) (aI : Nat) (b : Bool) : AS S := { σ with tm := Ck aI b σ.tm }
def AS.put (σ : AS S) (d : Option Tmp) (aI : Option Nat) (v : AV S) : AS S := match d with
 | some d => { σ with tm := (σ.fb + d, aI.getD σ.ct, v) :: mL (σ.fb + d) σ.tm }
 | none => σ
def nT (v : Nat) : List (Nat × AO S) → List (Nat × Nat × AO S)
 | [] => []
 | (q, a) :: l => (q, v, a) :: nT (v + 1) l
def AS.vU (σ : AS S) (d : Option Tmp) (aI : Option Nat) (r : iH S) : AS S :=
 { σ.put d aI r.v with ob := nT (σ.ct + 32) r.add ++ cv r.rm σ.ob, ct := σ.ct + 64 }
def ka (σ : AS S) : Op → Option Nat
 | .move (.tmp t) => (σ.get t).map (·.1)
 | .assign (.tmp t) => (σ.get t).map (·.1)
 | _ => none
abbrev Log := List (Nat × List Nat × List Nat)
def sM (ops : Array Oper) : Log → Bool
 | [] => true
 | (j, rd, rm) :: l => (l.all fun p => D.CP ops p.1 j || !(rm.any (fun x => has x p.2.1 || has x p.2.2) || rd.any fun x => has x p.2.2)) && sM ops l
section
variable {γ : Type} (tt : TypeId → Option (TI S)) (Φ : List (bO S)) (fa : FA S)
def ot (ops : Array Oper) (g : Option (Nat × Bool)) (σ : AS S) (go : Bool → AS S → Option γ) : Option γ := match g with
 | none => go true σ
 | some (j, b) => match (nA ops j).bind σ.get with
   | some (aI, .one v) => (match v with
     | .tt c => go (c == b) σ
     | .bo _ p d _ => @ite _ p d (go b (σ.gg aI true)) (go (!b) (σ.gg aI false))
     | _ => none)
   | some (_, .je []) => go false σ
   | _ => none
def lL (sq : Bool) (ops : Array Oper) : List Oper → Nat → AS S → Log → (AS S → Log → Option γ) → Option γ
 | [], _, σ, lg, k => k σ lg
 | o :: rest, i, σ, lg, k => ot ops o.guard σ fun run σ => match run with
   | false => lL sq ops rest (i + 1) { σ.put o.dst none (AV.iE S) with ct := σ.ct + 64 } lg k
   | true => match mS tt σ (B8 o) o.op.operands.toList with
     | some xs => match J3 fa sq o xs with
       | none => core tb tt Φ fa o xs σ.ob σ.ct fun r => match eJ (r.rd ++ r.rm) with
         | true => lL sq ops rest (i + 1) (σ.vU o.dst (ka σ o.op) r) ((i, r.rd, r.rm ++ r.add.map (·.1)) :: lg) k
         | false => none
       | some fx => jt tb fx.1 fx.2 σ.ob σ.ct (fun r => lL sq ops rest (i + 1) (σ.vU o.dst none r) lg k) fa.nd
     | none => none
end
inductive An where
 | o
 | u (a : An)
 | b (l r : An)
 | j (J : JA) (a : An)
 | lp (J : JA) (a : An)
 | mr (J : JA) (q : Nat) (a : An)
 | z (l : List (Nat × Nat × LW)) (a : An)
 deriving Inhabited
def An.l1 : An → An
 | .u a => a
 | .b l _ => l
 | _ => .o
def An.r1 : An → An
 | .b _ r => r
 | _ => .o
variable (S) in
def Kp (β : Type) := ∀ γ : Type, (β → γ) → Gp → AS S → Option γ
variable (S) in
def W := An → AS S → (β : Type) → Kp S β → (γ : Type) → (β → γ) → Option γ
def kI : Code → List Nat
 | .seq x y => kI x ++ kI y
 | .cond _ x y => kI x ++ kI y
 | .block _ x => kI x
 | .scope x => kI x
 | .loop x => kI x
 | .region _ ops _ => ops.toList.filterMap (·.dst)
 | .rangeFunc _ ps x y => ps.toList ++ (kI x ++ kI y)
 | _ => []
def JA.at_ (J : JA) (c : Code) (fb : Nat) : JA := { J with kill := (kI c).map (fb + ·) ++ J.kill }
def kN (J : JA) (σ : AS S) : Kp S (HT S J.ls) := fun _ e ex σ' => match ex with
 | .normal => (pack tb J σ σ').bind fun z => some (e z)
 | _ => none
def kJ (J : JA) (σ : AS S) {β γ : Type} (κ : Kp S β) (emb : β → γ) : Kp S (HT S J.ls ⊕ γ) := fun δ e ex σ' => match ex with
 | .normal => (pack tb J σ σ').bind fun z => some (e (.inl z))
 | ex => κ δ (fun b => e (.inr (emb b))) ex σ'
def kS {β : Type} (f : W S) (an : An) (κ : Kp S β) : Kp S β := fun δ e ex σ' => match ex with
 | .normal => f an σ' β κ δ e
 | ex => κ δ e ex σ'
def kB {β : Type} (id : Nat) (κ : Kp S β) : Kp S β := fun δ e ex σ' => match ex with
 | .exit n => match Nat.beq n id with | true => κ δ e .normal σ' | false => κ δ e (.exit n) σ'
 | ex => κ δ e ex σ'
def NH (c : Code) (f : W S) : W S := fun an σ β κ γ emb => match an with
 | .j J a => match J.early with
   | false => (f a σ (HT S J.ls) (kN tb (J.at_ c σ.fb) σ) (HT S J.ls) id).bind fun z =>
    match unpack tb (J.at_ c σ.fb) σ z with | some σ1 => κ γ emb .normal σ1 | none => none
   | true => (f a σ (HT S J.ls ⊕ γ) (kJ tb (J.at_ c σ.fb) σ κ emb) (HT S J.ls ⊕ γ) id).bind fun z =>
    qF z fun u => match unpack tb (J.at_ c σ.fb) σ u with | some σ1 => κ γ emb .normal σ1 | none => none
 | a => f a σ β κ γ emb
def wj (c : Code) (f : W S) : W S := fun an σ β κ γ emb => match an with
 | .z l a => match yG l σ with | some σ1 => NH tb c f a σ1 β κ γ emb | none => none
 | an => NH tb c f an σ β κ γ emb
def oH : Code → Nat
 | .region id _ _ => id
 | .seq x _ => oH x
 | _ => 0
def jF (σ : AS S) (lp : AO S) : AS S := { σ with ob := (σ.ct + 1, σ.ct + 32, lp) :: σ.ob, ct := σ.ct + 64 }
def gS (q : Nat) (σ2 : AS S) {β γ : Type} (κ : Kp S β) (emb : β → γ) : Option γ :=
 match look q σ2.ob with
 | some (_, .loop _ st _) => (match st with
   | .ready => κ γ emb .normal { σ2 with ob := cv [q] σ2.ob }
   | .done .ret => κ γ emb .ret { σ2 with ob := cv [q] σ2.ob }
   | .done (.exit n) => κ γ emb (.exit n) { σ2 with ob := cv [q] σ2.ob }
   | _ => none)
 | _ => none
def Qc (ops : Array Oper) : Option (Nat × Nat × Nat) := match ops.toList with
 | [a, b] => match a.op, a.dst, a.guard, b.op, b.dst, b.guard with
   | .next (.tmp it) false, some nx, none, .extract (.tmp nx') 0, some c, none => (match Nat.beq nx nx' with | true => some (it, nx, c) | false => none)
   | _, _, _, _, _, _ => none
 | _ => none
def Eb (t : Nat) (l : List (Nat × Nat × AV S)) : List (Nat × Nat × AV S) := l.filter fun p => !Nat.beq p.1 t
def AS.bR (σ : AS S) (t : Nat) : AS S := { σ with tm := Eb (σ.fb + t) σ.tm }
def Dn (q it : Nat) (σ : AS S) : Bool := match σ.get it, look q σ.ob with
 | some (_, .one (.JR q')), some (_, .xu kc o _) => (match look o σ.ob with
   | some (_, .jf _ kc' _ _ none q2) => Nat.beq q' q && (Nat.beq q2 q && match decEq kc' kc with | isTrue _ => true | isFalse _ => false)
   | _ => false)
 | _, _ => false
def FO (q it nx c : Nat) {kc : Co} (x : T S kc) (σ : AS S) : Option (AS S) := match look q σ.ob with
 | some (_, .xu kc' o _) => (match decEq kc kc', Dn q it σ with
   | isTrue h, true => some (Bg { (σ.bR nx).bR c with ob := cv [q] σ.ob } q (.xu kc' o (some (some (vl h x)))))
   | _, _ => none)
 | _ => none
def zw (q it nx c : Nat) (σ : AS S) : Option (AS S) := match look q σ.ob with
 | some (_, .xu _ o _) => (match look o σ.ob, Dn q it σ with
   | some (_, .jf t kc vc l none _), true => some (Bg { ((σ.bR nx).bR c).bR it with ob := cv [o] (cv [q] σ.ob) } o (.map t kc vc l none))
   | _, _ => none)
 | _ => none
def kM (q ver : Nat) (J : JA) (σ : AS S) {β γ : Type} (κ : Kp S β) (emb : β → γ) : Kp S (HT S J.ls ⊕ γ) := fun δ e ex σ' => match ex with
 | .normal => (match look q σ'.ob with
   | some (v, _) => (match Nat.beq v ver with | true => (pack tb J σ σ').bind fun z => some (e (.inl z)) | false => none)
   | none => none)
 | ex => κ δ (fun b => e (.inr (emb b))) ex σ'
def Hv {kc kc' vc : Co} (h : kc' = kc) (l : List (T S kc' × T S vc)) : List (T S kc) := h ▸ l.map (·.1)
noncomputable def J1 (J : JA) (q : Nat) (σ : AS S) (it nx c out : Nat) (f : AS S → (β : Type) → Kp S β → (γ : Type) → (β → γ) → Option γ) {β γ : Type} (κ : Kp S β) (emb : β → γ) : Option γ := match look q σ.ob with
 | some (_, .xu kc o none) => (match look o σ.ob with
   | some (_, .jf _ kc1 _ l none q1) => (match decEq kc1 kc, Nat.beq q1 q with
     | isTrue h, true => (pack tb J σ σ).bind fun z0 => qC (fun p : List (T S kc) => p.Perm (Hv h l)) fun p => mR
      (fun x z => match unpack tb J σ z with
       | some σ1 => (match FO q it nx c x σ1 with
         | some σ2 => f σ2 (HT S J.ls ⊕ γ) (kM tb q (σ1.ct + 32) J σ κ emb) (HT S J.ls ⊕ γ) id
         | none => none)
       | none => none)
      (fun z => match unpack tb J σ z with
       | some σ1 => (match zw q it nx c σ1 with
         | some σ2 => κ γ emb (.exit out) σ2
         | none => none)
       | none => none) p z0
     | _, _ => none)
   | _ => none)
 | _ => none
section
variable (tt : TypeId → Option (TI S)) (Φ : List (bO S)) (fa : FA S)
noncomputable def tF : Code → W S
 | .skip => wj tb (.skip) fun _ σ _ κ γ emb => κ γ emb .normal σ
 | .label _ => wj tb (.label default) fun _ σ _ κ γ emb => κ γ emb .normal σ
 | .ret => wj tb (.ret) fun _ σ _ κ γ emb => κ γ emb .ret σ
 | .exit n => wj tb (.exit n) fun _ σ _ κ γ emb => κ γ emb (.exit n) σ
 | .seq x y => wj tb (.seq x y) fun an σ β κ γ emb => tF x an.l1 σ β (kS (tF y) an.r1 κ) γ emb
 | .cond c x y => wj tb (.cond c x y) fun an σ β κ γ emb => match c with
   | .tmp t => match σ.get t with
     | some (aI, .one v) => (match v with
       | .tt true => tF x an.l1 σ β κ γ emb
       | .tt false => tF y an.r1 σ β κ γ emb
       | .bo _ p d _ => @ite _ p d (tF x an.l1 (σ.gg aI true) β κ γ emb) (tF y an.r1 (σ.gg aI false) β κ γ emb)
       | .na true _ => qB (tF x an.l1 (σ.gg aI true) β κ γ emb) (tF y an.r1 (σ.gg aI false) β κ γ emb)
       | .na false true => tF x an.l1 (σ.gg aI true) β κ γ emb
       | .na false false => tF y an.r1 (σ.gg aI false) β κ γ emb
       | _ => none)
     | _ => none
   | .const (.bool true) => tF x an.l1 σ β κ γ emb
   | .const (.bool false) => tF y an.r1 σ β κ γ emb
   | _ => none
 | .block id body => wj tb (.block id body) fun an σ β κ γ emb => tF body an.l1 σ β (kB id κ) γ emb
 | .scope body => wj tb (.scope body) fun an σ β κ γ emb => tF body an.l1 σ β κ γ emb
 | .loop body => wj tb (.loop body) fun an σ _ κ γ emb => match an with
   | .lp J a => (pack tb (J.at_ (.loop body) σ.fb) σ σ).bind fun z0 => Iter (fun z => match unpack tb (J.at_ (.loop body) σ.fb) σ z with
    | some σ1 => tF body a σ1 (HT S J.ls ⊕ γ) (kJ tb (J.at_ (.loop body) σ.fb) σ κ emb) (HT S J.ls ⊕ γ) id
    | none => none) z0
   | .mr J q a => (match body with
     | .seq (.region _ ops false) (.seq (.cond (.tmp c') .skip (.exit out)) rest) => (match Qc ops with
       | some (it, nx, c) => (match Nat.beq c' c with
         | true => J1 tb (J.at_ (.loop body) σ.fb) q σ it nx c out (fun σ2 β κ γ emb => tF rest a σ2 β κ γ emb) κ emb
         | false => none)
       | none => none)
     | _ => none)
   | _ => none
 | .region _ ops draw => wj tb (.region default ops draw) fun _ σ _ κ γ emb => lL tb tt Φ fa (!draw) ops ops.toList 0 σ [] fun σ' lg => match !draw || (sM ops lg && eJ (σ'.ob.map (·.1))) with
  | true => κ γ emb .normal σ'
  | false => none
 | .rangeFunc g ps x y => wj tb (.rangeFunc g ps x y) fun _ σ _ κ γ emb => match fa.rd, σ.fb, lU tt σ 0 g with
   | false, 0, some (.one (.fn (.func f) [] caps)) => (match Nat.ble f 999999 with
     | true => (match fa.nd.any fun c => Nat.beq c.f f with
       | false => lI tb f (.one (.yl (σ.ct + 1)) :: caps.map tI) (jF σ (.loop (fa.fn * 1000 + oH x) .ready σ.tm)).ob (σ.ct + 64) (fun r => match eJ (r.rd ++ r.rm) with
         | true => gS (σ.ct + 1) ((jF σ (.loop (fa.fn * 1000 + oH x) .ready σ.tm)).vU none none r) κ emb
         | false => none) Φ
       | true => jt tb f (.one (.yl (σ.ct + 1)) :: caps.map tI) (jF σ (.loop (fa.fn * 1000 + oH x) .ready σ.tm)).ob (σ.ct + 64) (fun r => gS (σ.ct + 1) ((jF σ (.loop (fa.fn * 1000 + oH x) .ready σ.tm)).vU none none r) κ emb) fa.nd)
     | false => none)
   | _, _, _ => none
 | .goto _ => fun _ _ _ _ _ _ => none
 | .refuse _ => fun _ _ _ _ _ _ => none
def nV : Nat → List (AV S) → List (Nat × Nat × AV S)
 | _, [] => []
 | i, a :: l => (i, 64 + i, a) :: nV (i + 1) l
def start (c : bO S) (x : HT S c.ls) : Option (AS S) :=
 (kj c.bk (mM c.ls x)).bind fun ds => (PS.da tb id c.ins ds).bind fun p => (OS.da tb id c.br p.2).bind fun q =>
 some { tm := nV 0 p.1, ob := BW 0 q.1, ct := 256, fb := 0, rt := List.range c.br.length }
def lW (tt : TypeId → Option (TI S)) (σ : AS S) : List ResultVar → Option (List (AV S))
 | [] => some []
 | .tmp t :: l => (σ.get t).bind fun a => (lW tt σ l).map (a.2 :: ·)
 | .cell t ty :: l => (σ.get t).bind fun a => match a.2 with
   | .one (.ptr o 0) => (look o σ.ob).bind fun b => match b.2 with
     | .box _ cs => (tt ty).bind fun i => (match dS i.d with | true => (mJ i.size cs).map AV.agg | false => (od 0 cs).map AV.one).bind fun v => (lW tt σ l).map (v :: ·)
     | _ => none
   | _ => none
def xz : List (AV S) → AV S
 | [a] => a
 | l => .je l
def OS.fg (ob : List (Nat × Nat × AO S)) (mp : List (Nat × Nat)) : Nat → List KS → Option (List (fL S) × List (Nat × Nat))
 | _, [] => some ([], mp)
 | o, .now s :: l => (look o mp).bind fun q => (look q ob).bind fun a => (OS.take tb mp s a.2).bind fun p => (OS.fg ob p.2 (o + 1) l).map fun r => (p.1 ++ r.1, r.2)
 | o, _ :: l => OS.fg ob mp (o + 1) l
def EG : Nat → List Nat → List (Nat × Nat)
 | _, [] => []
 | i, x :: l => (i, x) :: EG (i + 1) l
def xl (σ0 σ : AS S) : Nat → List KS → Bool
 | _, [] => true
 | o, .kept :: l => (match σ.rt[o]? with | some q => Nat.beq q o | none => false) && (match look o σ0.ob, look o σ.ob with | some x, some y => Nat.beq x.1 y.1 | _, _ => false) && xl σ0 σ (o + 1) l
 | o, _ :: l => xl σ0 σ (o + 1) l
def ie (mp : List (Nat × Nat)) : Nat → List KS → List Nat
 | _, [] => []
 | o, .now _ :: l => match look o mp with | some q => q :: ie mp (o + 1) l | none => ie mp (o + 1) l
 | o, _ :: l => ie mp (o + 1) l
def fU : Nat → List KS → List Nat
 | _, [] => []
 | o, .kept :: l => o :: fU (o + 1) l
 | o, _ :: l => fU (o + 1) l
def finish (n : Nat) (o : Out) (v : AV S) (σ0 σ : AS S) : Option (HT S o.b9) :=
 (PS.take tb (EG 0 σ.rt) o.out v).bind fun p => (OS.fg tb σ.ob p.2 0 o.bh).bind fun q =>
 match xl σ0 σ 0 o.bh && (eJ (fU 0 o.bh ++ ie q.2 0 o.bh) && Nat.beq σ.rt.length n && q.2.all fun p => Nat.ble (p.1 + 1) o.bh.length) with
 | true => (kj o.QZ (p.1 ++ q.1)).bind (nH o.b9)
 | false => none
def lM (n : Nat) (v : AV S) (σ0 σ : AS S) : (os : List Out) → Option (gH S os)
 | [] => none
 | [o] => finish tb n o v σ0 σ
 | o :: p :: os => match finish tb n o v σ0 σ with
   | some z => some (Sum.inl z)
   | none => (lM n v σ0 σ (p :: os)).map Sum.inr
noncomputable def Om (c : bO S) (rs : List ResultVar) (body : Code) (an : An) (x : HT S c.ls) : Option (gH S c.outs) :=
 match start tb c x with
 | some σ0 => tF tb tt Φ fa body an σ0 (gH S c.outs) (fun _ e' ex σ => match ex with
  | .exit _ => none
  | _ => (yG fa.pre σ).bind fun σ => (lW tt σ rs).bind fun vs => (lM tb c.br.length (xz vs) σ0 σ c.outs).bind fun y => some (e' y)) (gH S c.outs) id
 | none => none
def xH : List Nat → List (Nat × Nat × AV S) → List (Nat × Nat × AV S) → Option (List (Nat × Nat × AV S))
 | [], [], tm => some tm
 | p :: ps, (_, aI, v) :: l, tm => xH ps l ((p, aI, v) :: mL p tm)
 | _, _, _ => none
def Ii : Nat → List (Nat × Nat × AV S) → List (Nat × Nat × AV S)
 | _, [] => []
 | v, (t, _, x) :: l => (t, v, x) :: Ii (v + 1) l
def IU (r : Nat) (ps : List Nat) (σ : AS S) : Option (AS S) := match look 0 σ.ob, σ.tm with
 | some (_, .loop r' .ready tm), (_, _, .one (.yl 0)) :: l => (match Nat.beq r' r && Nat.ble tm.length 200 with | true => (xH ps l (Ii 300 tm)).map fun tm' => { σ with tm := tm', ct := 512 } | false => none)
 | _, _ => none
def xt (st0 st : LS) (σ : AS S) : Option (AS S) := (σ.rt[0]?).bind fun q => (look q σ.ob).bind fun a => match a.2 with
 | .loop r st1 tm => (match LS.same st1 st0 with | true => some { σ with ob := (q, σ.ct + 32, .loop r st tm) :: cv [q] σ.ob, ct := σ.ct + 64 } | false => none)
 | _ => none
def Qr : Gp → Bool
 | .normal => true
 | _ => false
def JX : Gp → LS
 | .normal => .ready
 | e => .done e
noncomputable def Oo (c : bO S) (r : Nat) (ps : List Nat) (as body : Code) (an : An) (x : HT S c.ls) : Option (gH S c.outs) :=
 match start tb c x with
 | some σ0 => (match IU r ps σ0 with
   | some σ1 => tF tb tt Φ fa as an.l1 σ1 (gH S c.outs) (fun _ e' ex σ2 => match ex with
    | .normal => (xt .ready .busy σ2).bind fun σ3 => tF tb tt Φ fa body an.r1 σ3 (gH S c.outs) (fun _ e2 ex σ4 => (xt .busy (JX ex) σ4).bind fun σ5 =>
     (yG fa.pre σ5).bind fun σ6 => (lM tb c.br.length (.one (.tt (Qr ex))) σ0 σ6 c.outs).bind fun y => some (e2 y)) _ e'
    | _ => none) (gH S c.outs) id
   | none => none)
 | none => none
end
end E
end Go.Proofs.YtekpafdhgkocaaaGreat
