/- Part of what the laws need: plain words, the walker and its laws, the program's functions. -/
import Derived.Test.YthhmandpjlggcaaZArr
import Derived.Test.YthhmandpjlggcaaZMp
import Derived.Test.YthhmandpjlggcaaZMg
namespace Go.Proofs.Ythhmandpjlggcaa
open Go.RowKit G
namespace E
inductive Co where
  | int (k : IntKind)
  | u8
  | bo
  | str
  | sl (c : Co)
  | st (i : Nat)
  | a8 (n : Nat)
  | ai (n : Nat) (k : IntKind)
  | mp (k v : Co)
  deriving DecidableEq, Inhabited
def T (S : Nat → Type) : Co → Type
  | .int _ => Int
  | .u8 => UInt8
  | .bo => Bool
  | .str => List UInt8
  | .sl c => List (T S c)
  | .st i => S i
  | .a8 _ => Nat → UInt8
  | .ai _ _ => Nat → Int
  | .mp k v => List (T S k × T S v)
def HL (S : Nat → Type) : List Co → Type
  | [] => Unit
  | c :: cs => T S c × HL S cs
def HT (S : Nat → Type) : List Co → Type
  | [] => Unit
  | [c] => T S c
  | c :: d :: cs => T S c × HT S (d :: cs)
variable (S : Nat → Type)
inductive CV where
  | int (k : IntKind) (x : Int)
  | u8 (x : UInt8)
  | bo (b : Bool) (p : Prop) (d : Decidable p) (h : b = true ↔ p)
  | tt (b : Bool)
  | str (l : List UInt8)
  | sl (c : Co) (l : List (T S c))
  | slF (c : Co) (l : List (T S c))
  | rw (o : Nat) (c : Co) (l : List (T S c))
  | aw (o : Nat)
  | nilS
  | a8 (n : Nat) (f : Nat → UInt8)
  | ai (n : Nat) (k : IntKind) (f : Nat → Int)
  | ptr (o off : Nat)
  | nilP
  | el (c : Co) (x : T S c) (off : Nat)
  | ela (o : Nat) (v : Nat) (c : Co) (x : T S c) (j : Int) (off : Nat)
  | elx (o off n : Nat) (i : Int)
  | px (o off n : Nat) (i j : Int)
  | fn (f : Fn) (first caps : List CV)
  | nilF
  | nilM
  | nilI
  | yl (o : Nat)
  | na (e neg : Bool)
  | rz (o : Nat) (c : Co) (n : Int)
  | pt (o : Nat) (c : Co) (off n : Int)
  | mp (o : Nat)
  | stp (o q : Nat)
  deriving Inhabited
inductive AV where
  | one (v : CV S)
  | agg (vs : List (CV S))
  | tup (vs : List AV)
  deriving Inhabited
def AV.und : AV S := .tup []
inductive Exi where
  | normal
  | ret
  | exit (n : Nat)
inductive LS where
  | ready
  | busy
  | done (e : Exi)
def LS.same : LS → LS → Bool
  | .ready, .ready => true
  | .busy, .busy => true
  | .done .normal, .done .normal => true
  | .done .ret, .done .ret => true
  | .done (.exit n), .done (.exit k) => Nat.beq n k
  | _, _ => false
inductive AO where
  | box (T : TypeId) (cs : List (CV S))
  | row (e : TypeId) (c : Co)
  | arr (e : TypeId) (c : Co) (full : Bool) (l : List (T S c))
  | loop (r : Nat) (st : LS) (tm : List (Nat × Nat × AV S))
  | map (t : TypeId) (kc vc : Co) (l : List (T S kc × T S vc)) (hole : Option (T S kc × Nat))
  | gmap (t et : TypeId) (kc c : Co) (l : List (T S kc × List (T S c))) (hole : Option (T S kc))
  | kmap (t : TypeId) (kc : Co) (l : List (T S kc × CV S))
  deriving Inhabited
structure AS where
  tm : List (Nat × Nat × AV S)
  ob : List (Nat × Nat × AO S)
  ct : Nat
  fb : Nat
  rt : List Nat
structure SD (σ : Type) where
  fs : List Co
  to : σ → HL S fs
  of : HL S fs → σ
variable {S}
def look {α : Type} (t : Nat) : List (Nat × α) → Option α
  | [] => none
  | (u, x) :: l => match Nat.beq u t with | true => some x | false => look t l
def drop1 {α : Type} (t : Nat) : List (Nat × α) → List (Nat × α)
  | [] => []
  | (u, x) :: l => match Nat.beq u t with | true => l | false => (u, x) :: drop1 t l
inductive TD where
  | int (k : IntKind)
  | bool
  | str
  | ptr (e : TypeId)
  | slice (e : TypeId)
  | array (n : Nat) (e : TypeId)
  | struct (fs : List (TypeId × Nat × Nat))
  | func
  | iface
  | map (k v : TypeId)
  deriving Inhabited
variable (S)
structure TI where
  d : TD
  size : Nat
  bytes : Nat
  zero : List (CV S)
  co : Co := .bo
  eq : Bool := false
  deriving Inhabited
variable {S}
def isAggT : TD → Bool
  | .struct _ => true
  | .array _ _ => true
  | _ => false
def CV.n : CV S → Nat
  | .a8 n _ => n
  | .ai n _ _ => n
  | _ => 1
def cellsAV : AV S → Option (List (CV S))
  | .one v => some [v]
  | .agg vs => some vs
  | .tup _ => none
def cutTo : Nat → List (CV S) → Option (List (CV S))
  | 0, _ => some []
  | _ + 1, [] => none
  | n + 1, v :: vs => match Nat.ble v.n (n + 1) with | true => (cutTo (n + 1 - v.n) vs).map (v :: ·) | false => none
def cutAt : Nat → List (CV S) → Option (List (CV S))
  | 0, vs => some vs
  | _ + 1, [] => none
  | o + 1, v :: vs => match Nat.ble v.n (o + 1) with | true => cutAt (o + 1 - v.n) vs | false => none
def cell1 : Nat → List (CV S) → Option (CV S)
  | _, [] => none
  | o, v :: vs => match Nat.ble v.n o with
    | true => cell1 (o - v.n) vs
    | false => match v with
      | .a8 _ f => some (.u8 (f o))
      | .ai _ k f => some (.int k (f o))
      | v => some v
def putC (o n : Nat) (xs vs : List (CV S)) : Option (List (CV S)) :=
  (cutTo o vs).bind fun a => (cutAt (o + n) vs).map fun b => a ++ (xs ++ b)
def put1 : Nat → CV S → List (CV S) → Option (List (CV S))
  | _, _, [] => none
  | o, x, v :: vs => match Nat.ble v.n o with
    | true => (put1 (o - v.n) x vs).map (v :: ·)
    | false => match v, x with
      | .a8 n f, .u8 y => some (.a8 n (setArr f o y) :: vs)
      | .ai n k f, .int k' y => match decEq k' k with | isTrue _ => some (.ai n k (setArr f o y) :: vs) | isFalse _ => none
      | .a8 _ _, _ => none
      | .ai _ _ _, _ => none
      | _, x => some (x :: vs)
def sizeCs (vs : List (CV S)) : Nat := (vs.map CV.n).sum
variable (S) in
abbrev Tb := (i : Nat) → SD S (S i)
variable (tb : Tb S)
def toCV : (c : Co) → T S c → CV S
  | .int k, x => .int k x
  | .u8, x => .u8 x
  | .bo, (b : Bool) => .bo b (b = true) inferInstance Iff.rfl
  | .str, l => .str l
  | .sl c, l => .sl c l
  | .st _, _ => .nilI
  | .a8 n, f => .a8 n f
  | .ai n k, f => .ai n k f
  | .mp _ _, _ => .nilI
def toCVs : (cs : List Co) → HL S cs → List (CV S)
  | [], _ => []
  | c :: cs, h => toCV c h.1 :: toCVs cs h.2
def upk : (c : Co) → T S c → List (CV S)
  | .st i, x => toCVs (tb i).fs ((tb i).to x)
  | c, x => [toCV c x]
def hlEq : (cs : List Co) → HL S cs → HL S cs → Bool
  | [], _, _ => true
  | .int _ :: cs, a, b => intEq a.1 b.1 && hlEq cs a.2 b.2
  | _ :: _, _, _ => false
def keq : (c : Co) → T S c → T S c → Bool
  | .int _ => intEq
  | .str => strEq
  | .st i => fun x y => hlEq (tb i).fs ((tb i).to x) ((tb i).to y)
  | _ => fun _ _ => false
def keyCo : Co → Bool
  | .int .u8 => false
  | .int _ => true
  | .str => true
  | .st i => (tb i).fs.all fun c => match c with | .int .u8 => false | .int _ => true | _ => false
  | _ => false
def valCo : Co → Bool
  | .int _ => true
  | .u8 => true
  | .bo => true
  | .str => true
  | _ => false
def castM {a b c d : Co} (h : a = c) (k : b = d) (l : List (T S a × T S b)) : List (T S c × T S d) := h ▸ k ▸ l
def castG {a b c d : Co} (h : a = c) (k : b = d) (l : List (T S a × List (T S b))) : List (T S c × List (T S d)) := h ▸ k ▸ l
def castL {c d : Co} (h : c = d) (l : List (T S c)) : List (T S d) := h ▸ l
def ofCV : (c : Co) → CV S → Option (T S c)
  | .int k, .int k' x => match decEq k k' with | isTrue _ => some x | isFalse _ => none
  | .u8, .u8 x => some x
  | .bo, .bo b _ _ _ => some b
  | .bo, .tt b => some b
  | .str, .str l => some l
  | .sl c, .sl d l => match decEq d c with | isTrue h => some (castL h l) | isFalse _ => none
  | .sl c, .slF d l => match decEq d c with | isTrue h => some (castL h l) | isFalse _ => none
  | .sl c, .rw _ d l => match decEq d c with | isTrue h => some (castL h l) | isFalse _ => none
  | .sl _, .nilS => some []
  | .a8 n, .a8 n' f => match Nat.beq n n' && Nat.ble 1 n with | true => some f | false => none
  | .ai n k, .ai n' k' f => match Nat.beq n n' && Nat.ble 1 n, decEq k k' with | true, isTrue _ => some f | _, _ => none
  | _, _ => none
def ofCVs : (cs : List Co) → List (CV S) → Option (HL S cs × List (CV S))
  | [], vs => some ((), vs)
  | _ :: _, [] => none
  | c :: cs, v :: vs => (ofCV c v).bind fun x => (ofCVs cs vs).map fun p => ((x, p.1), p.2)
def pk : (c : Co) → List (CV S) → Option (T S c × List (CV S))
  | .st i, vs => (ofCVs (tb i).fs vs).map fun p => ((tb i).of p.1, p.2)
  | _, [] => none
  | c, v :: vs => (ofCV c v).map fun x => (x, vs)
def pk1 (c : Co) (vs : List (CV S)) : Option (T S c) := (pk tb c vs).bind fun p => match p.2 with | [] => some p.1 | _ :: _ => none
def slv (c : Co) : CV S → Option (List (T S c)) := ofCV (.sl c)
def num : CV S → Option (IntKind × Int)
  | .int k x => match k with | .u8 => none | k => some (k, x)
  | .u8 x => some (.u8, (x.toNat : Int))
  | _ => none
def mkI (k : IntKind) (x : Int) : CV S := match k with | .u8 => .u8 (G.u8 x) | k => .int k x
def wrI (k : IntKind) (x : Int) : CV S := match k with | .u8 => .u8 (G.u8 x) | k => .int k (k.wrap x)
def boP (p : Prop) [d : Decidable p] : CV S := .bo (decide p) p d (decide_eq_true_iff)
def boEq {α : Type} [DecidableEq α] [BEq α] [LawfulBEq α] (a b : α) : CV S := .bo (a == b) (a = b) inferInstance beq_iff_eq
def boNe {α : Type} [DecidableEq α] [BEq α] [LawfulBEq α] (a b : α) : CV S := .bo (a != b) (a ≠ b) inferInstance bne_iff_ne
def boB (b : Bool) : CV S := .bo b (b = true) inferInstance Iff.rfl
def boN (b : Bool) : CV S := .bo (!b) (b = false) inferInstance (by cases b <;> simp)
def bit : CV S → Option Bool
  | .bo b _ _ _ => some b
  | .tt b => some b
  | _ => none
def isNil : CV S → Option Bool
  | .nilP => some true
  | .nilF => some true
  | .nilM => some true
  | .nilI => some true
  | .nilS => some true
  | .ptr _ _ => some false
  | .fn _ _ _ => some false
  | .rw _ _ (_ :: _) => some false
  | _ => none
def eqCs : List (CV S) → List (CV S) → Option (PSigma fun p : Prop => Decidable p)
  | [.int _ x], [.int _ y] => some ⟨x = y, inferInstance⟩
  | [.u8 x], [.u8 y] => some ⟨(x.toNat : Int) = (y.toNat : Int), inferInstance⟩
  | .int _ x :: v :: vs, .int _ y :: w :: ws => (eqCs (v :: vs) (w :: ws)).map fun p => ⟨x = y ∧ p.1, @instDecidableAnd _ _ inferInstance p.2⟩
  | .u8 x :: v :: vs, .u8 y :: w :: ws => (eqCs (v :: vs) (w :: ws)).map fun p => ⟨(x.toNat : Int) = (y.toNat : Int) ∧ p.1, @instDecidableAnd _ _ inferInstance p.2⟩
  | [v], [w] => (bit v).bind fun x => (bit w).map fun y => ⟨x = y, inferInstance⟩
  | v :: v' :: vs, w :: w' :: ws => (bit v).bind fun x => (bit w).bind fun y => (eqCs (v' :: vs) (w' :: ws)).map fun p => ⟨x = y ∧ p.1, @instDecidableAnd _ _ inferInstance p.2⟩
  | _, _ => none
def kindOk : List (CV S) → List (CV S) → Bool
  | [], [] => true
  | .int k _ :: z, .int k' _ :: v => decide (k = k') && kindOk z v
  | .u8 _ :: z, .u8 _ :: v => kindOk z v
  | .tt _ :: z, .bo _ _ _ _ :: v => kindOk z v
  | .tt _ :: z, .tt _ :: v => kindOk z v
  | _, _ => false
def litPos : Operand → Bool
  | .const (.int _ n) => decide (0 < n)
  | _ => false
def litNN : Operand → Bool
  | .const (.int _ n) => decide (0 ≤ n)
  | _ => false
section
variable {γ : Type}
def ifB (v : CV S) (k : Bool → Option γ) : Option γ := match v with
  | .tt b => k b
  | .bo _ p d _ => @ite _ p d (k true) (k false)
  | _ => none
def numK (op : BinOp) (kv kw : IntKind) (x z : Int) (y : Operand) (k : CV S → Option γ) : Option γ :=
  match op with
  | .shl => (match litNN y with | true => k (mkI kv (ishl kv x z)) | false => (chk (0 ≤ z)).bind fun _ => k (mkI kv (ishl kv x z)))
  | .shr => (match litNN y with | true => k (mkI kv (ishr kv x z)) | false => (chk (0 ≤ z)).bind fun _ => k (mkI kv (ishr kv x z)))
  | op => match decEq kv kw with
    | isFalse _ => none
    | isTrue _ => match op with
      | .lss => k (boP (x < z))
      | .leq => k (boP (x ≤ z))
      | .gtr => k (boP (x > z))
      | .geq => k (boP (x ≥ z))
      | .eql => k (boEq x z)
      | .neq => k (boNe x z)
      | .add => k (wrI kv (x + z))
      | .sub => k (wrI kv (x - z))
      | .mul => k (wrI kv (x * z))
      | .and => k (mkI kv (band kv x z))
      | .or => k (mkI kv (bor kv x z))
      | .xor => k (mkI kv (bxor kv x z))
      | .andNot => k (mkI kv (bandNot kv x z))
      | .quo => (match litPos y with | true => k (wrI kv (Int.tdiv x z)) | false => (chk (z ≠ 0)).bind fun _ => k (wrI kv (Int.tdiv x z)))
      | .rem => match kv with
        | .u8 => none
        | kv => (match litPos y with | true => k (.int kv (Int.tmod x z)) | false => (chk (z ≠ 0)).bind fun _ => k (.int kv (Int.tmod x z)))
      | _ => none
def eqOut (op : BinOp) (a b : CV S) (k : CV S → Option γ) : Option γ := match op with
  | .eql => k a
  | .neq => k b
  | _ => none
def eqK (tt : TypeId → Option (TI S)) (op : BinOp) (xT : TypeId) (a b : AV S) (k : CV S → Option γ) : Option γ :=
  (tt xT).bind fun ti => match ti.d, a, b with
  | .str, .one (.str x), .one (.str z) => eqOut op (boP (x = z)) (boN (decide (x = z))) k
  | .bool, .one v, .one w => (bit v).bind fun x => (bit w).bind fun z => eqOut op (boEq x z) (boNe x z) k
  | .ptr _, .one .nilP, .one .nilP => eqOut op (.tt true) (.tt false) k
  | .ptr _, .one (.ptr _ _), .one .nilP => eqOut op (.tt false) (.tt true) k
  | .ptr _, .one .nilP, .one (.ptr _ _) => eqOut op (.tt false) (.tt true) k
  | .func, .one .nilF, .one .nilF => eqOut op (.tt true) (.tt false) k
  | .func, .one (.fn _ _ _), .one .nilF => eqOut op (.tt false) (.tt true) k
  | .slice _, .one .nilS, .one .nilS => eqOut op (.tt true) (.tt false) k
  | .slice _, .one (.sl _ l), .one .nilS => eqOut op (.na l.isEmpty false) (.na l.isEmpty true) k
  | .slice _, .one (.rw _ _ (_ :: _)), .one .nilS => eqOut op (.tt false) (.tt true) k
  | .array n e, .agg [.a8 n1 f], .agg [.a8 n2 g] => (tt e).bind fun ei => match ei.d, Nat.beq n 32 && Nat.beq n1 32 && Nat.beq n2 32 && ti.eq with
    | .int .u8, true => eqOut op (boB (hashEq f g)) (boN (hashEq f g)) k
    | _, _ => none
  | .struct _, .agg vs, .agg ws => match ti.eq && kindOk ti.zero vs && kindOk ti.zero ws with
    | true => (eqCs vs ws).bind fun p => eqOut op (@boP _ p.1 p.2) (boN (@decide p.1 p.2)) k
    | false => none
  | _, _, _ => none
def binK (tt : TypeId → Option (TI S)) (op : BinOp) (xT : TypeId) (y : Operand) (a b : AV S) (k : CV S → Option γ) : Option γ :=
  match a, b with
  | .one v, .one w =>
    match num v, num w with
    | some (kv, x), some (kw, z) => numK op kv kw x z y k
    | _, _ => eqK tt op xT a b k
  | _, _ => eqK tt op xT a b k
end
inductive CS where
  | dat (c : Co)
  | rw (o : Nat) (c : Co)
  | aw (o : Nat)
  | ptr (o off : Nat)
  | nilP
  | nilF
  | fn (f : FuncId) (first caps : List CS)
  | tt (b : Bool)
  | nilS
  | yl (o : Nat)
  | mpo (o : Nat)
  deriving Inhabited
inductive PS where
  | one (s : CS)
  | agg (l : List CS)
  | tup (l : List PS)
  deriving Inhabited
inductive OS where
  | box (T : TypeId) (l : List CS)
  | row (e : TypeId) (c : Co)
  | arr (e : TypeId) (c : Co) (full : Bool)
  | loop (r : Nat) (st : LS) (tms : List (Nat × PS))
  | map (t : TypeId) (kc vc : Co)
  | gmap (t et : TypeId) (kc c : Co)
  deriving Inhabited
variable (S) in
abbrev Dyn := (c : Co) × T S c
def one1 (v : CV S) : Bool := Nat.beq v.n 1
mutual
def CS.fill (ids : Nat → Nat) : CS → List (Dyn S) → Option (List (CV S) × List (Dyn S))
  | .dat c, ⟨c', x⟩ :: ds => match decEq c' c with | isTrue h => some (upk tb c (h ▸ x), ds) | isFalse _ => none
  | .rw o c, ⟨c', x⟩ :: ds => match decEq c' (.sl c) with | isTrue h => some ([.rw (ids o) c (show List (T S c) from (h ▸ x : T S (.sl c)))], ds) | isFalse _ => none
  | .dat _, [] => none
  | .rw _ _, [] => none
  | .aw o, ds => some ([.aw (ids o)], ds)
  | .ptr o off, ds => some ([.ptr (ids o) off], ds)
  | .nilP, ds => some ([.nilP], ds)
  | .nilF, ds => some ([.nilF], ds)
  | .tt b, ds => some ([.tt b], ds)
  | .nilS, ds => some ([.nilS], ds)
  | .yl o, ds => some ([.yl (ids o)], ds)
  | .mpo o, ds => some ([.mp (ids o)], ds)
  | .fn f xs ys, ds => (CS.fills ids xs ds).bind fun p => (CS.fills ids ys p.2).bind fun q => match p.1.all one1 && q.1.all one1 with | true => some ([.fn (.func f) p.1 q.1], q.2) | false => none
def CS.fills (ids : Nat → Nat) : List CS → List (Dyn S) → Option (List (CV S) × List (Dyn S))
  | [], ds => some ([], ds)
  | s :: l, ds => (CS.fill ids s ds).bind fun p => (CS.fills ids l p.2).map fun q => (p.1 ++ q.1, q.2)
end
mutual
def PS.fill (ids : Nat → Nat) : PS → List (Dyn S) → Option (AV S × List (Dyn S))
  | .one s, ds => (CS.fill tb ids s ds).bind fun p => match p.1 with | [v] => some (.one v, p.2) | _ => none
  | .agg l, ds => (CS.fills tb ids l ds).map fun p => (.agg p.1, p.2)
  | .tup l, ds => (PS.fills ids l ds).map fun p => (.tup p.1, p.2)
def PS.fills (ids : Nat → Nat) : List PS → List (Dyn S) → Option (List (AV S) × List (Dyn S))
  | [], ds => some ([], ds)
  | s :: l, ds => (PS.fill ids s ds).bind fun p => (PS.fills ids l p.2).map fun q => (p.1 :: q.1, q.2)
end
def fillTms (ids : Nat → Nat) (vid : Nat) : List (Nat × PS) → List (Dyn S) → Option (List (Nat × Nat × AV S) × List (Dyn S))
  | [], ds => some ([], ds)
  | (t, s) :: l, ds => (PS.fill tb ids s ds).bind fun p => (fillTms ids (vid + 1) l p.2).map fun q => ((t, vid, p.1) :: q.1, q.2)
def OS.fill (ids : Nat → Nat) : OS → List (Dyn S) → Option (AO S × List (Dyn S))
  | .box T l, ds => (CS.fills tb ids l ds).map fun p => (.box T p.1, p.2)
  | .row e c, ds => some (.row e c, ds)
  | .arr e c full, ⟨c', x⟩ :: ds => match decEq c' (.sl c) with | isTrue h => some (.arr e c full (show List (T S c) from (h ▸ x : T S (.sl c))), ds) | isFalse _ => none
  | .arr _ _ _, [] => none
  | .loop r st tms, ds => (fillTms tb ids 300 tms ds).map fun p => (.loop r st p.1, p.2)
  | .map t kc vc, ⟨c', x⟩ :: ds => match decEq c' (.mp kc vc) with | isTrue h => some (.map t kc vc (show List (T S kc × T S vc) from (h ▸ x : T S (.mp kc vc))) none, ds) | isFalse _ => none
  | .map _ _ _, [] => none
  | .gmap t et kc c, ⟨c', x⟩ :: ds => match decEq c' (.mp kc (.sl c)) with | isTrue h => some (.gmap t et kc c (show List (T S kc × List (T S c)) from (h ▸ x : T S (.mp kc (.sl c)))) none, ds) | isFalse _ => none
  | .gmap _ _ _ _, [] => none
def OS.fills (ids : Nat → Nat) : List OS → List (Dyn S) → Option (List (AO S) × List (Dyn S))
  | [], ds => some ([], ds)
  | s :: l, ds => (OS.fill tb ids s ds).bind fun p => (OS.fills ids l p.2).map fun q => (p.1 :: q.1, q.2)
def uni (mp : List (Nat × Nat)) (o q : Nat) : Option (List (Nat × Nat)) := match look o mp with
  | some r => match Nat.beq r q with | true => some mp | false => none
  | none => match (mp.any fun p => Nat.beq p.2 q) || !Nat.ble o 200 with | true => none | false => some ((o, q) :: mp)
variable (S) in
abbrev Tk := List (Dyn S) × List (CV S) × List (Nat × Nat)
mutual
def CS.take (mp : List (Nat × Nat)) : CS → List (CV S) → Option (Tk S)
  | .dat c, vs => (pk tb c vs).map fun p => ([⟨c, p.1⟩], p.2, mp)
  | .rw o c, .rw q d l :: vs => match decEq d c with | isTrue h => (uni mp o q).map fun mp => ([⟨.sl c, castL h l⟩], vs, mp) | isFalse _ => none
  | .aw o, .aw q :: vs => (uni mp o q).map fun mp => ([], vs, mp)
  | .ptr o off, .ptr q off' :: vs => match Nat.beq off off' with | true => (uni mp o q).map fun mp => ([], vs, mp) | false => none
  | .nilP, .nilP :: vs => some ([], vs, mp)
  | .nilF, .nilF :: vs => some ([], vs, mp)
  | .tt b, .tt c :: vs => (match b == c with | true => some ([], vs, mp) | false => none)
  | .nilS, .nilS :: vs => some ([], vs, mp)
  | .yl o, .yl q :: vs => (uni mp o q).map fun mp => ([], vs, mp)
  | .mpo o, .mp q :: vs => (uni mp o q).map fun mp => ([], vs, mp)
  | .fn f xs ys, .fn (.func g) first caps :: vs => match Nat.beq f g with
    | true => (CS.takes mp xs first).bind fun p => match p.2.1 with
      | [] => (CS.takes p.2.2 ys caps).bind fun q => match q.2.1 with | [] => some (p.1 ++ q.1, vs, q.2.2) | _ :: _ => none
      | _ :: _ => none
    | false => none
  | _, _ => none
def CS.takes (mp : List (Nat × Nat)) : List CS → List (CV S) → Option (Tk S)
  | [], vs => some ([], vs, mp)
  | s :: l, vs => (CS.take mp s vs).bind fun p => (CS.takes p.2.2 l p.2.1).map fun q => (p.1 ++ q.1, q.2.1, q.2.2)
end
mutual
def PS.take (mp : List (Nat × Nat)) : PS → AV S → Option (List (Dyn S) × List (Nat × Nat))
  | .one s, .one v => (CS.take tb mp s [v]).bind fun p => match p.2.1 with | [] => some (p.1, p.2.2) | _ :: _ => none
  | .agg l, .agg vs => (CS.takes tb mp l vs).bind fun p => match p.2.1 with | [] => some (p.1, p.2.2) | _ :: _ => none
  | .tup l, .tup vs => PS.takes mp l vs
  | _, _ => none
def PS.takes (mp : List (Nat × Nat)) : List PS → List (AV S) → Option (List (Dyn S) × List (Nat × Nat))
  | [], [] => some ([], mp)
  | s :: l, v :: vs => (PS.take mp s v).bind fun p => (PS.takes p.2 l vs).map fun q => (p.1 ++ q.1, q.2)
  | _, _ => none
end
def takeTms (tm : List (Nat × Nat × AV S)) (mp : List (Nat × Nat)) : List (Nat × PS) → Option (List (Dyn S) × List (Nat × Nat))
  | [] => some ([], mp)
  | (t, s) :: l => (look t tm).bind fun a => (PS.take tb mp s a.2).bind fun p => (takeTms tm p.2 l).map fun r => (p.1 ++ r.1, r.2)
def OS.take (mp : List (Nat × Nat)) : OS → AO S → Option (List (Dyn S) × List (Nat × Nat))
  | .box T l, .box T' vs => match Nat.beq T T' with
    | true => (CS.takes tb mp l vs).bind fun p => match p.2.1 with | [] => some (p.1, p.2.2) | _ :: _ => none
    | false => none
  | .row e c, .row e' c' => match Nat.beq e e', decEq c c' with | true, isTrue _ => some ([], mp) | _, _ => none
  | .arr e c full, .arr e' c' full' l => match Nat.beq e e', decEq c' c, !full || full' with | true, isTrue h, true => some ([⟨.sl c, castL h l⟩], mp) | _, _, _ => none
  | .loop r st tms, .loop r' st' tm => match Nat.beq r r' && LS.same st st' with | true => takeTms tb tm mp tms | false => none
  | .map t kc vc, .map t' kc' vc' l none => match Nat.beq t t', decEq kc' kc, decEq vc' vc with | true, isTrue h, isTrue k => some ([⟨.mp kc vc, castM h k l⟩], mp) | _, _, _ => none
  | .gmap t et kc c, .gmap t' et' kc' c' l none => match Nat.beq t t' && Nat.beq et et', decEq kc' kc, decEq c' c with | true, isTrue h, isTrue k => some ([⟨.mp kc (.sl c), castG h k l⟩], mp) | _, _, _ => none
  | _, _ => none
def OS.takes (ob : List (Nat × Nat × AO S)) (mp : List (Nat × Nat)) : Nat → List OS → Option (List (Dyn S) × List (Nat × Nat))
  | _, [] => some ([], mp)
  | o, s :: l => (look o mp).bind fun q => (look q ob).bind fun a => (OS.take tb mp s a.2).bind fun p => (OS.takes ob p.2 (o + 1) l).map fun r => (p.1 ++ r.1, r.2)
def dynOf : (ls : List Co) → HT S ls → List (Dyn S)
  | [], _ => []
  | [c], x => [⟨c, x⟩]
  | c :: d :: cs, x => ⟨c, x.1⟩ :: dynOf (d :: cs) x.2
def ofDyn : (ls : List Co) → List (Dyn S) → Option (HT S ls)
  | [], [] => some ()
  | [c], [⟨c', x⟩] => match decEq c' c with | isTrue h => some (h ▸ x) | isFalse _ => none
  | c :: d :: cs, ⟨c', x⟩ :: ds => match decEq c' c with | isTrue h => (ofDyn (d :: cs) ds).map fun y => (h ▸ x, y) | isFalse _ => none
  | _, _ => none
def permL {α : Type} (l : List α) : List Nat → Option (List α)
  | [] => some []
  | i :: is => (l[i]?).bind fun x => (permL l is).map (x :: ·)
def permD (pm : List Nat) (ds : List (Dyn S)) : Option (List (Dyn S)) := match pm with
  | [] => some ds
  | _ :: _ => match Nat.beq ds.length pm.length with | true => permL ds pm | false => none
def eqNs : List Nat → List Nat → Bool
  | [], [] => true
  | x :: l, y :: l' => Nat.beq x y && eqNs l l'
  | _, _ => false
def pmOk (pm bk : List Nat) : Bool := match pm, bk with
  | [], [] => true
  | _ :: _, _ :: _ => Nat.beq pm.length bk.length && (match permL pm bk with | some l => eqNs l (List.range bk.length) | none => false)
  | _, _ => false
inductive PrK where
  | own (e : TypeId) (c : Co)
  | arr (e : TypeId) (c : Co)
  | frz
structure JA where
  tms : List (Nat × PS) := []
  obs : List OS := []
  ls : List Co := []
  pm : List Nat := []
  bk : List Nat := []
  fx : List (Nat × Nat) := []
  gone : List Nat := []
  kill : List Nat := []
  pre : List (Nat × Nat × PrK) := []
  early : Bool := false
  pok : pmOk pm bk = true := by rfl
  few : (Nat.ble tms.length 190 && Nat.ble obs.length 190) = true := by rfl
def has (t : Nat) : List Nat → Bool
  | [] => false
  | u :: l => match Nat.beq u t with | true => true | false => has t l
def keptTm (J : JA) : List (Nat × Nat × AV S) → List (Nat × Nat × AV S)
  | [] => []
  | (t, x) :: l => match has t J.kill || J.tms.any fun p => Nat.beq p.1 t with | true => keptTm J l | false => (t, x) :: keptTm J l
mutual
def CV.ids : CV S → List Nat
  | .rw o _ _ => [o]
  | .aw o => [o]
  | .ptr o _ => [o]
  | .ela o _ _ _ _ _ => [o]
  | .elx o _ _ _ => [o]
  | .px o _ _ _ _ => [o]
  | .yl o => [o]
  | .mp o => [o]
  | .stp o _ => [o]
  | .rz o _ _ => [o]
  | .pt o _ _ _ => [o]
  | .fn _ xs ys => CV.idss xs ++ CV.idss ys
  | _ => []
def CV.idss : List (CV S) → List Nat
  | [] => []
  | v :: vs => CV.ids v ++ CV.idss vs
end
mutual
def AV.ids : AV S → List Nat
  | .one v => v.ids
  | .agg vs => CV.idss vs
  | .tup vs => AV.idss vs
def AV.idss : List (AV S) → List Nat
  | [] => []
  | v :: vs => AV.ids v ++ AV.idss vs
end
def AO.ids : AO S → List Nat
  | .box _ vs => CV.idss vs
  | _ => []
def addNew (xs ys : List Nat) : List Nat := xs.foldl (fun l x => match has x l with | true => l | false => x :: l) ys
def reachN (ob : List (Nat × Nat × AO S)) : Nat → List Nat → List Nat
  | 0, l => l
  | n + 1, l => reachN ob n (l.foldl (fun r x => match look x ob with | some a => addNew a.2.ids r | none => r) l)
def keptOb (r : List Nat) : List (Nat × Nat × AO S) → List (Nat × Nat × AO S)
  | [] => []
  | (q, x) :: l => match has q r with | true => (q, x) :: keptOb r l | false => keptOb r l
def dropO (rm : List Nat) : List (Nat × Nat × AO S) → List (Nat × Nat × AO S)
  | [] => []
  | (q, x) :: l => match has q rm with | true => dropO rm l | false => (q, x) :: dropO rm l
def keptO (J : JA) (σ : AS S) : List (Nat × Nat × AO S) :=
  dropO (J.fx.map (·.2) ++ J.gone) (keptOb (reachN σ.ob 4 (addNew σ.rt ((keptTm J σ.tm).foldl (fun r x => addNew x.2.2.ids r) []))) σ.ob)
def sameTm (tm : List (Nat × Nat × AV S)) : List (Nat × Nat × AV S) → Bool
  | [] => true
  | (t, x) :: l => (match look t tm with | some y => Nat.beq x.1 y.1 | none => false) && sameTm tm l
def sameOb (ob : List (Nat × Nat × AO S)) : List (Nat × Nat × AO S) → Bool
  | [] => true
  | (t, x) :: l => (match look t ob with | some y => Nat.beq x.1 y.1 | none => false) && sameOb ob l
def qsOf (mp : List (Nat × Nat)) : Nat → Nat → List Nat
  | _, 0 => []
  | o, n + 1 => match look o mp with | some q => q :: qsOf mp (o + 1) n | none => qsOf mp (o + 1) n
def nodupB : List Nat → Bool
  | [] => true
  | x :: l => match has x l with | true => false | false => nodupB l
def place (σ : AS S) (t i : Nat) : Option (CV S) := match look t σ.tm with
  | some (_, .one v) => (match i with
    | 0 => some v
    | i + 1 => match v with | .ptr o _ => (match look o σ.ob with | some (_, .box _ cs) => cs[i]? | _ => none) | _ => none)
  | some (_, .agg vs) => (match i with | 0 => none | i + 1 => vs[i]?)
  | _ => none
def setPlace (σ : AS S) (t i : Nat) (w : CV S) : AS S := match look t σ.tm with
  | some (vid, .one v) => (match i with
    | 0 => { σ with tm := (t, vid, .one w) :: drop1 t σ.tm, ct := σ.ct + 64 }
    | i + 1 => match v with | .ptr o _ => (match look o σ.ob with | some (_, .box T cs) => { σ with ob := (o, σ.ct + 32, .box T (cs.set i w)) :: dropO [o] σ.ob, ct := σ.ct + 64 } | _ => σ) | _ => σ)
  | some (vid, .agg vs) => (match i with | 0 => σ | i + 1 => { σ with tm := (t, vid, .agg (vs.set i w)) :: drop1 t σ.tm, ct := σ.ct + 64 })
  | _ => σ
def addOb (σ : AS S) (q : Nat) (a : AO S) : AS S := { σ with ob := (q, σ.ct + 32, a) :: σ.ob, ct := σ.ct + 64 }
def prep1 (σ : AS S) (t i : Nat) (k : PrK) : Option (AS S) := match place σ t i, k with
  | some .nilS, .own e c => some (addOb (setPlace { σ with ct := σ.ct + 64 } t i (.rw (σ.ct + 1) c [])) (σ.ct + 1) (.row e c))
  | some .nilS, .arr e c => some (addOb (setPlace { σ with ct := σ.ct + 64 } t i (.aw (σ.ct + 1))) (σ.ct + 1) (.arr e c true []))
  | some (.aw o), .frz => (look o σ.ob).bind fun a => match a.2 with
    | .arr _ c _ l => (match place { σ with ob := dropO [o] σ.ob } t i with
      | some (.aw o') => (match Nat.beq o' o with | true => some (setPlace { σ with ob := dropO [o] σ.ob } t i (.sl c l)) | false => none)
      | _ => none)
    | _ => none
  | some _, _ => some σ
  | none, _ => none
def prep : List (Nat × Nat × PrK) → AS S → Option (AS S)
  | [], σ => some σ
  | (t, i, k) :: l, σ => (prep1 σ t i k).bind (prep l)
def pack (J : JA) (σ0 σ : AS S) : Option (HT S J.ls) := (prep J.pre σ).bind fun σ =>
  match sameTm σ.tm (keptTm J σ0.tm) && sameOb σ.ob (keptO J σ0) && Nat.beq σ.fb σ0.fb && (J.fx.all fun r => (look r.2 σ0.ob).isSome && Nat.ble r.1 200) && nodupB (J.fx.map (·.2)) with
  | true => (takeTms tb σ.tm J.fx J.tms).bind fun p => (OS.takes tb σ.ob p.2 0 J.obs).bind fun q =>
      match nodupB (qsOf q.2 0 J.obs.length ++ (keptO J σ0).map (·.1)) with
      | true => (permD J.pm (p.1 ++ q.1)).bind (ofDyn J.ls)
      | false => none
  | false => none
def numObJ (ids : Nat → Nat) (o v : Nat) : List (AO S) → List (Nat × Nat × AO S)
  | [] => []
  | a :: l => (ids o, v, a) :: numObJ ids (o + 1) (v + 1) l
def JA.ids (J : JA) (ct o : Nat) : Nat := match look o J.fx with | some q => q | none => ct + o
def numOb (v : Nat) : List (AO S) → List (Nat × Nat × AO S)
  | [] => []
  | a :: l => (v, v, a) :: numOb (v + 1) l
def unpack (J : JA) (σ0 : AS S) (z : HT S J.ls) : Option (AS S) :=
  (permD J.bk (dynOf J.ls z)).bind fun ds =>
  (fillTms tb (J.ids σ0.ct) (σ0.ct + 64) J.tms ds).bind fun p =>
  (OS.fills tb (J.ids σ0.ct) J.obs p.2).bind fun q =>
  some { σ0 with tm := p.1 ++ keptTm J σ0.tm, ob := numObJ (J.ids σ0.ct) 0 σ0.ct q.1 ++ keptO J σ0, ct := σ0.ct + 256 }
inductive KS where
  | kept
  | now (s : OS)
  | gone
structure Out where
  out : PS
  obs' : List KS := []
  ls' : List Co
  pm' : List Nat := []
  bk' : List Nat := []
  pok' : pmOk pm' bk' = true := by rfl
  few : Nat.ble obs'.length 30 = true := by rfl
variable (S) in
def AltT : List Out → Type
  | [] => Empty
  | [o] => HT S o.ls'
  | o :: p :: os => HT S o.ls' ⊕ AltT (p :: os)
def altG {γ : Type} (k : (o : Out) → HT S o.ls' → Option γ) : (os : List Out) → AltT S os → Option γ
  | [], _ => none
  | [o], y => k o y
  | o :: p :: os, y => @Sum.elim (HT S o.ls') (AltT S (p :: os)) (Option γ) (k o) (altG k (p :: os)) y
def altK {γ : Type} (os : List Out) (y : AltT S os) (k : (o : Out) → HT S o.ls' → Option γ) : Option γ := altG k os y
def altP : (os : List Out) → AltT S os → ((o : Out) → HT S o.ls' → Prop) → Prop
  | [], _, _ => False
  | [o], y, p => p o y
  | o :: _ :: _, Sum.inl z, q => q o z
  | _ :: p :: os, Sum.inr z, q => altP (p :: os) z q
variable (S) in
structure Ctr where
  f : FuncId
  ins : List PS
  obs : List OS := []
  ls : List Co
  pm : List Nat := []
  bk : List Nat := []
  outs : List Out
  pok : pmOk pm bk = true := by rfl
  few : (Nat.ble obs.length 30 && outs.all fun o => Nat.ble obs.length o.obs'.length) = true := by rfl
  sem : HT S ls → Option (AltT S outs)
variable (S) in
structure Res where
  v : AV S
  rd : List Nat := []
  rm : List Nat := []
  add : List (Nat × AO S) := []
def val (v : CV S) : Res S := { v := .one v }
def OS.outs (ids : Nat → Nat) : Nat → List KS → List (Dyn S) → Option (List (Nat × AO S))
  | _, [], [] => some []
  | _, [], _ :: _ => none
  | o, .now s :: l, ds => (OS.fill tb ids s ds).bind fun p => (OS.outs ids (o + 1) l p.2).map fun q => (ids o, p.1) :: q
  | o, _ :: l, ds => OS.outs ids (o + 1) l ds
def callIds (mp : List (Nat × Nat)) (ct : Nat) (o : Nat) : Nat := match look o mp with | some q => q | none => ct + 1 + o
def KS.isK : KS → Bool
  | .kept => true
  | _ => false
def keptIds (mp : List (Nat × Nat)) (k : Bool) : Nat → List KS → List Nat
  | _, [] => []
  | o, s :: l => match look o mp with
    | some q => match s.isK == k with | true => q :: keptIds mp k (o + 1) l | false => keptIds mp k (o + 1) l
    | none => keptIds mp k (o + 1) l
structure FA where
  arrs : List TypeId := []
  lits : List TypeId := []
  parts : List TypeId := []
  takes : List TypeId := []
  pre : List (Nat × Nat × PrK) := []
  fn : Nat := 0
  rd : Bool := false
  deriving Inhabited
def yid (r : Nat) : Nat := 1000000 + r
def chkB (b : Bool) : Option Unit := match b with | true => some () | false => none
section
variable {γ : Type} (tt : TypeId → Option (TI S)) (Φ : List (Ctr S)) (fa : FA)
def callK (f : FuncId) (args : List (AV S)) (ob : List (Nat × Nat × AO S)) (ct : Nat) (k : Res S → Option γ) : List (Ctr S) → Option γ
  | [] => none
  | c :: cs => match Nat.beq c.f f with
    | false => callK f args ob ct k cs
    | true => match (PS.takes tb [] c.ins args).bind fun p => (OS.takes tb ob p.2 0 c.obs).bind fun q => (permD c.pm (p.1 ++ q.1)).bind fun ds => (ofDyn c.ls ds).map fun x => (x, q.2) with
      | none => callK f args ob ct k cs
      | some (x, mp) => (c.sem x).bind fun y => altK c.outs y fun o z =>
        match (chkB (mp.all fun p => Nat.ble (p.1 + 1) c.obs.length)).bind fun _ => (permD o.bk' (dynOf o.ls' z)).bind fun ds => (PS.fill tb (callIds mp ct) o.out ds).bind fun p => (OS.outs tb (callIds mp ct) 0 o.obs' p.2).map fun l => (p.1, l) with
        | some (v, l) => k { v := v, rd := keptIds mp true 0 o.obs', rm := keptIds mp false 0 o.obs', add := l }
        | none => none
def elemCo (t : TypeId) : Option (TypeId × Co) := (tt t).bind fun i => match i.d, i.co with | .slice e, .sl c => some (e, c) | _, _ => none
def loadOut (i : TI S) (vs : Option (List (CV S))) (one : Option (CV S)) (rd : List Nat) (k : Res S → Option γ) : Option γ := match isAggT i.d with
  | true => vs.bind fun vs => k { v := .agg vs, rd := rd }
  | false => one.bind fun v => k { v := .one v, rd := rd }
def loadK (t : TypeId) (v : CV S) (ob : List (Nat × Nat × AO S)) (k : Res S → Option γ) : Option γ :=
  (tt t).bind fun i => match v with
  | .ptr o off => (look o ob).bind fun a => match a.2 with
    | .box _ cs => loadOut i ((cutAt off cs).bind (cutTo i.size)) (cell1 off cs) [o] k
    | _ => none
  | .el c x off => loadOut i ((cutAt off (upk tb c x)).bind (cutTo i.size)) (cell1 off (upk tb c x)) [] k
  | .ela o v c x _ off => (look o ob).bind fun a => match Nat.beq a.1 v with
    | true => loadOut i ((cutAt off (upk tb c x)).bind (cutTo i.size)) (cell1 off (upk tb c x)) [o] k
    | false => none
  | .elx o off n j => (look o ob).bind fun a => match a.2, isAggT i.d with
    | .box _ cs, false => (cutAt off cs).bind fun cs => match cs with
      | .a8 n' f :: _ => match Nat.beq n n' with | true => k { v := .one (.u8 (getArr f j)), rd := [o] } | false => none
      | .ai n' kk f :: _ => match Nat.beq n n' with | true => k { v := .one (.int kk (getArr f j)), rd := [o] } | false => none
      | _ => none
    | _, _ => none
  | _ => none
def repl : Nat → CV S → List (CV S) → Option (List (CV S))
  | _, _, [] => none
  | 0, x, _ :: vs => some (x :: vs)
  | o + 1, x, v :: vs => match Nat.ble v.n (o + 1) with | true => (repl (o + 1 - v.n) x vs).map (v :: ·) | false => none
def putX (o n : Nat) (xs vs : List (CV S)) : Option (List (CV S)) := match Nat.beq (sizeCs xs) n with
  | true => (match xs, Nat.beq n 1 with | [x], true => put1 o x vs | xs, _ => putC o n xs vs)
  | false => none
def storeK (t : TypeId) (p : CV S) (a : AV S) (ob : List (Nat × Nat × AO S)) (k : Res S → Option γ) : Option γ :=
  (tt t).bind fun i => (cellsAV a).bind fun xs =>
  match p with
  | .ptr o off => (look o ob).bind fun b => match b.2 with
    | .box T cs => (putX off i.size xs cs).bind fun cs' => k { v := AV.und S, rm := [o], add := [(o, .box T cs')] }
    | _ => none
  | .ela o v c x j off => (look o ob).bind fun b => match Nat.beq b.1 v with
    | true => match b.2 with
      | .arr e c' full l => (putX off i.size xs (upk tb c x)).bind fun cs' => (pk1 tb c' cs').bind fun u =>
          k { v := AV.und S, rm := [o], add := [(o, .arr e c' full (l.set j.toNat u))] }
      | _ => none
    | false => none
  | .elx o off n j => (look o ob).bind fun b => match b.2, Nat.beq i.size 1 with
    | .box T cs, true => (cutAt off cs).bind fun cs1 => (match cs1, xs with
      | .a8 n' f :: _, [.u8 y] => (match Nat.beq n n' with | true => repl off (.a8 n' (setArr f j y)) cs | false => none)
      | .ai n' kk f :: _, [.int k' y] => (match Nat.beq n n', decEq k' kk with | true, isTrue _ => repl off (.ai n' kk (setArr f j y)) cs | _, _ => none)
      | _, _ => none).bind fun cs' => k { v := AV.und S, rm := [o], add := [(o, .box T cs')] }
    | _, _ => none
  | _ => none
def idxOf (v : AV S) : Option Int := match v with | .one v => (num v).map (·.2) | _ => none
def indexK (t : TypeId) (y : Operand) (v : CV S) (i : Int) (ob : List (Nat × Nat × AO S)) (k : Res S → Option γ) : Option γ :=
  match v with
  | .ptr o off => (tt t).bind fun ti => match ti.d with
    | .array n e => (tt e).bind fun ei => match Nat.beq ei.size 1 with
      | true => (match y with
        | .const (.int _ j) => (match decide (0 ≤ j) && decide (j < n) with | true => k (val (.ptr o (off + j.toNat))) | false => none)
        | _ => (chk (0 ≤ i ∧ i < n)).bind fun _ => k (val (.elx o off n i)))
      | false => none
    | _ => none
  | v => (elemCo tt t).bind fun ec => match v with
    | .aw o => (look o ob).bind fun a => match a.2 with
      | .arr _ c' _ l => (match decEq c' ec.2 with
        | isTrue _ => (idx l i).bind fun x => k { v := .one (.ela o a.1 c' x i 0), rd := [o] }
        | isFalse _ => none)
      | _ => none
    | v => (slv ec.2 v).bind fun l => (idx l i).bind fun x => k (val (.el ec.2 x 0))
def optI : Option Operand → List (AV S) → Option (Option Int × List (AV S))
  | none, vs => some (none, vs)
  | some _, v :: vs => (idxOf v).map fun i => (some i, vs)
  | some _, [] => none
def isNilS : CV S → Bool
  | .nilS => true
  | _ => false
def justHi : Option Int → Option Int → Option Int → Bool
  | none, some _, none => true
  | _, _, _ => false
def cutV (c : Co) (v : CV S) (l : List (T S c)) : CV S := match v with
  | .rw o d _ => (match decEq d c with | isTrue _ => .rw o c l | isFalse _ => .sl c l)
  | _ => .sl c l
def sliceK (t : TypeId) (v : CV S) (lo hi mx : Option Int) (ob : List (Nat × Nat × AO S)) (ct : Nat) (k : Res S → Option γ) : Option γ :=
  (elemCo tt t).bind fun ec => match v with
  | .aw o => (look o ob).bind fun a => match a.2, lo, hi, mx with
    | .arr e c _ l, some i, none, none => (match decEq c ec.2 with
      | isTrue _ => (slcFrom l i).bind fun l' => k { v := .one (.aw (ct + 1)), rm := [o], add := [(ct + 1, .arr e c false l')] }
      | isFalse _ => none)
    | _, _, _, _ => none
  | .rz o c _ => (match lo, hi, mx with
    | none, some j, none => (match decide (j = 0) with | true => k { v := .one (.rw o c []), rd := [o] } | false => none)
    | _, _, _ => none)
  | v => match isNilS v && justHi lo hi mx with
    | true => (match decide (hi = some 0) with | true => k (val .nilS) | false => none)
    | false => (slv ec.2 v).bind fun l => match lo, hi, mx with
    | some i, none, none => (slcFrom l i).bind fun l' => k (val (cutV ec.2 v l'))
    | none, some j, none => (slcTo l j).bind fun l' => k (val (.sl ec.2 l'))
    | some i, some j, none => (slcMid l i j).bind fun l' => k (val (.sl ec.2 l'))
    | none, some j, some m => (chk (m = j)).bind fun _ => (slcTo l j).bind fun l' => k (val (.slF ec.2 l'))
    | _, _, _ => none
def appendK (t : TypeId) (v w : CV S) (ob : List (Nat × Nat × AO S)) (ct : Nat) (k : Res S → Option γ) : Option γ :=
  (elemCo tt t).bind fun ec => (tt ec.1).bind fun ei => (slv ec.2 w).bind fun l' => match v with
    | .nilS => (app ei.bytes [] l').bind fun l2 => match has t fa.arrs with
      | true => k { v := .one (.aw (ct + 1)), add := [(ct + 1, .arr ec.1 ec.2 true l2)] }
      | false => k { v := .one (.rw (ct + 1) ec.2 l2), add := [(ct + 1, .row ec.1 ec.2)] }
    | .rw o d l => (look o ob).bind fun a => match a.2, decEq d ec.2 with
      | .row e' d', isTrue h => (match Nat.beq e' ec.1, decEq d' ec.2 with
        | true, isTrue _ => (app ei.bytes (castL h l) l').bind fun l2 => k { v := .one (.rw (ct + 1) ec.2 l2), rm := [o], add := [(ct + 1, .row ec.1 ec.2)] }
        | _, _ => none)
      | _, _ => none
    | .aw o => (look o ob).bind fun a => match a.2 with
      | .arr e' d true l => (match Nat.beq e' ec.1, decEq d ec.2 with
        | true, isTrue h => (app ei.bytes (castL h l) l').bind fun l2 => k { v := .one (.aw (ct + 1)), rm := [o], add := [(ct + 1, .arr ec.1 ec.2 true l2)] }
        | _, _ => none)
      | _ => none
    | .slF d l => (match decEq d ec.2 with
      | isTrue h => (app ei.bytes (castL h l) l').bind fun l2 => k (val (.sl ec.2 l2))
      | isFalse _ => none)
    | _ => none
def partK (t : TypeId) (v : CV S) (lo hi mx : Option Int) (ob : List (Nat × Nat × AO S)) (ct : Nat) (k : Res S → Option γ) : Option γ := match v with
  | .aw o => (elemCo tt t).bind fun ec => (look o ob).bind fun a => match a.2, lo, hi, mx with
    | .arr _ c _ l, some i, none, none => (match decEq c ec.2 with
      | isTrue _ => (chk (0 ≤ i ∧ i ≤ (l.length : Int))).bind fun _ => k { v := .one (.pt o ec.2 i ((l.length : Int) - i)), rd := [o] }
      | isFalse _ => none)
    | .arr _ c _ l, some i, some j, none => (match decEq c ec.2 with
      | isTrue _ => (chk (0 ≤ i ∧ i ≤ j ∧ j ≤ (l.length : Int))).bind fun _ => k { v := .one (.pt o ec.2 i (j - i)), rd := [o] }
      | isFalse _ => none)
    | _, _, _, _ => none
  | v => sliceK tt t v lo hi mx ob ct k
def srcK (o : Nat) (s : CV S) (l : List UInt8) : Option (List UInt8) := match s with
  | .pt o' c off n => (match Nat.beq o' o, decEq c .u8 with
    | true, isTrue _ => some ((l.drop off.toNat).take n.toNat)
    | _, _ => none)
  | s => slv .u8 s
def slicePK (t : TypeId) (o off : Nat) (lo hi mx : Option Int) (k : Res S → Option γ) : Option γ :=
  (tt t).bind fun ti => match ti.d, mx with
    | .array n e, none => (tt e).bind fun ei => (match Nat.beq ei.size 1 with
      | true => (chk (0 ≤ lo.getD 0 ∧ lo.getD 0 < n ∧ lo.getD 0 ≤ hi.getD n ∧ hi.getD n ≤ n)).bind fun _ => k (val (.px o off n (lo.getD 0) (hi.getD n)))
      | false => none)
    | _, _ => none
def copyPK (ec : TypeId × Co) (o off n : Nat) (i j : Int) (s : CV S) (ob : List (Nat × Nat × AO S)) (k : Res S → Option γ) : Option γ := match s, ec.2 with
  | .px o' off' n' i' j', .int _ => (match Nat.beq o' o && (Nat.beq off' off && Nat.beq n' n) with
    | true => (look o ob).bind fun a => (match a.2 with
      | .box T cs => (cutAt off cs).bind fun cs1 => (match cs1 with
        | .ai n1 kk f :: _ => (match Nat.beq n1 n with
          | true => (repl off (.ai n kk (mvArr f i.toNat i'.toNat (imin (j - i) (j' - i')).toNat)) cs).bind fun cs' => k { v := .one (.int .i64 (imin (j - i) (j' - i'))), rm := [o], add := [(o, .box T cs')] }
          | false => none)
        | _ => none)
      | _ => none)
    | false => none)
  | _, _ => none
def copyK (t : TypeId) (d s : CV S) (ob : List (Nat × Nat × AO S)) (k : Res S → Option γ) : Option γ :=
  (elemCo tt t).bind fun ec => match d with
    | .pt o c off n => (look o ob).bind fun a => match a.2 with
      | .arr e c' full l => (match decEq c' .u8, decEq c .u8, decEq ec.2 .u8 with
        | isTrue h, isTrue _, isTrue _ => (srcK o s (castL h l)).bind fun x => k { v := .one (.int .i64 (imin (x.length : Int) n)), rm := [o], add := [(o, .arr e .u8 full (cpy (α := UInt8) (castL h l) off.toNat (x.take n.toNat)))] }
        | _, _, _ => none)
      | _ => none
    | .px o off n i j => copyPK ec o off n i j s ob k
    | _ => none
def oneC : Co → Bool
  | .int _ => true
  | .u8 => true
  | .bo => true
  | _ => false
def appendZK (t tx : TypeId) (v w : CV S) (ob : List (Nat × Nat × AO S)) (ct : Nat) (k : Res S → Option γ) : Option γ :=
  (elemCo tt t).bind fun ec => (tt ec.1).bind fun ei => (tt tx).bind fun xi => match xi.d, v, w with
    | .int .i64, .nilS, .int .i64 n => (chk (0 < n ∧ n * ei.bytes ≤ 140737488355328)).bind fun _ => k { v := .one (.rz (ct + 1) ec.2 n), add := [(ct + 1, .row ec.1 ec.2)] }
    | .int .i64, .rw o d l, .int .i64 n => (match oneC ec.2, isAggT ei.d, decEq d ec.2 with
      | true, false, isTrue h => (look o ob).bind fun a => (match a.2 with
        | .row e' d' => (match Nat.beq e' ec.1, decEq d' ec.2 with
          | true, isTrue _ => (pk1 tb ec.2 ei.zero).bind fun z => (chk (0 ≤ n ∧ n * ei.bytes ≤ 140737488355328)).bind fun _ => (app ei.bytes (castL h l) (List.replicate n.toNat z)).bind fun l2 => k { v := .one (.rw (ct + 1) ec.2 l2), rm := [o], add := [(ct + 1, .row ec.1 ec.2)] }
          | _, _ => none)
        | _ => none)
      | _, _, _ => none)
    | _, _, _ => none
def lenK (t : TypeId) (v : CV S) (ob : List (Nat × Nat × AO S)) (k : Res S → Option γ) : Option γ :=
  (tt t).bind fun ti => match ti.d with
  | .slice _ => (match v with
    | .sl _ l => k (val (.int .i64 (l.length : Int)))
    | .slF _ l => k (val (.int .i64 (l.length : Int)))
    | .rw _ _ l => k (val (.int .i64 (l.length : Int)))
    | .nilS => k (val (.int .i64 0))
    | .aw o => (look o ob).bind fun a => match a.2 with
      | .arr _ _ _ l => k { v := .one (.int .i64 (l.length : Int)), rd := [o] }
      | _ => none
    | _ => none)
  | .str => (match v with | .str l => k (val (.int .i64 (l.length : Int))) | _ => none)
  | .map _ _ => (match v with
    | .mp o => (look o ob).bind fun a => match a.2 with
      | .map _ _ _ l _ => k { v := .one (.int .i64 (l.length : Int)), rd := [o] }
      | _ => none
    | _ => none)
  | _ => none
def convK (s d : TypeId) (v : CV S) (ob : List (Nat × Nat × AO S)) (k : Res S → Option γ) : Option γ :=
  (tt s).bind fun a => (tt d).bind fun b => match v, b.d with
  | .int _ x, .int kd => k (val (wrI kd x))
  | .u8 x, .int .u8 => k (val (.u8 x))
  | .u8 x, .int .i8 => k (val (.int .i8 (IntKind.i8.wrap (x.toNat : Int))))
  | .u8 x, .int kd => k (val (.int kd (x.toNat : Int)))
  | .str l, .str => match a.d with | .str => k (val (.str l)) | _ => none
  | v, .str => match a.d, a.co with
    | .slice e, .sl .u8 => (tt e).bind fun ei => match ei.d with | .int .u8 => (slv (S := S) .u8 v).bind fun l => k (val (.str l)) | _ => none
    | _, _ => none
  | .rw o c (y :: l), .slice e => match Nat.beq s d with
    | true => (tt e).bind fun ei => (look o ob).bind fun b => match ei.d, b.2 with | .int .u8, .row _ _ => k { v := .one (.sl c (y :: l)), rm := [o] } | _, _ => none
    | false => none
  | _, _ => none
def keyCs : Co → AV S → Option (List (CV S))
  | .st _, .agg vs => some vs
  | .st _, _ => none
  | _, .one v => some [v]
  | _, _ => none
def mapTy (t : TypeId) : Option (Co × Co × TI S) := (tt t).bind fun ti => match ti.d, ti.co with
  | .map _ e, .mp kc vc => (tt e).bind fun ei => (match keyCo tb kc && (valCo vc && !isAggT ei.d) with | true => some (kc, vc, ei) | false => none)
  | _, _ => none
def mapOut (vc : Co) (y : Option (T S vc)) (z : T S vc) (ok : Bool) : AV S := match ok with
  | true => .tup [.one (toCV vc (y.getD z)), .one (boB y.isSome)]
  | false => .one (toCV vc (y.getD z))
def lookK (t : TypeId) (v : CV S) (key : AV S) (ok : Bool) (ob : List (Nat × Nat × AO S)) (k : Res S → Option γ) : Option γ :=
  (mapTy tb tt t).bind fun i => (keyCs i.1 key).bind fun cs => (pk1 tb i.1 cs).bind fun x => (pk1 tb i.2.1 i.2.2.zero).bind fun z => match v with
  | .mp o => (look o ob).bind fun a => match a.2 with
    | .map t' kc vc l none => (match Nat.beq t' t, decEq kc i.1, decEq vc i.2.1 with
      | true, isTrue h, isTrue h' => k { v := mapOut i.2.1 (mget (keq tb i.1) (castM h h' l) x) z ok, rd := [o] }
      | _, _, _ => none)
    | _ => none
  | _ => none
def putK (t : TypeId) (v : CV S) (key w : AV S) (ob : List (Nat × Nat × AO S)) (k : Res S → Option γ) : Option γ :=
  (mapTy tb tt t).bind fun i => (keyCs i.1 key).bind fun cs => (pk1 tb i.1 cs).bind fun x => (keyCs i.2.1 w).bind fun ws => (pk1 tb i.2.1 ws).bind fun y => match v with
  | .mp o => (look o ob).bind fun a => match a.2 with
    | .map t' kc vc l none => (match Nat.beq t' t, decEq kc i.1, decEq vc i.2.1 with
      | true, isTrue h, isTrue h' => k { v := AV.und S, rm := [o], add := [(o, .map t i.1 i.2.1 (mput (keq tb i.1) (castM h h' l) x y) none)] }
      | _, _, _ => none)
    | _ => none
  | _ => none
def delK (t : TypeId) (v : CV S) (key : AV S) (ob : List (Nat × Nat × AO S)) (k : Res S → Option γ) : Option γ :=
  (mapTy tb tt t).bind fun i => (keyCs i.1 key).bind fun cs => (pk1 tb i.1 cs).bind fun x => match v with
  | .mp o => (look o ob).bind fun a => match a.2 with
    | .map t' kc vc l none => (match Nat.beq t' t, decEq kc i.1, decEq vc i.2.1 with
      | true, isTrue h, isTrue h' => k { v := .tup [], rm := [o], add := [(o, .map t i.1 i.2.1 (mdel (keq tb i.1) (castM h h' l) x) none)] }
      | _, _, _ => none)
    | _ => none
  | _ => none
def castX {a c : Co} (h : a = c) (x : T S a) : T S c := h ▸ x
def mentK (t : TypeId) (v : CV S) (key : AV S) (ob : List (Nat × Nat × AO S)) (ct : Nat) (k : Res S → Option γ) : Option γ :=
  (mapTy tb tt t).bind fun i => (keyCs i.1 key).bind fun cs => (pk1 tb i.1 cs).bind fun x => (pk1 tb i.2.1 i.2.2.zero).bind fun z => match v with
  | .mp o => (look o ob).bind fun a => match a.2 with
    | .map t' kc vc l none => (match Nat.beq t' t, decEq kc i.1, decEq vc i.2.1 with
      | true, isTrue h, isTrue h' => k { v := .tup [.one (toCV i.2.1 ((mget (keq tb i.1) (castM h h' l) x).getD z)), .one (.stp o (ct + 1))], rm := [o], add := [(o, .map t i.1 i.2.1 (mens (keq tb i.1) (castM h h' l) x z) (some (x, ct + 1)))] }
      | _, _, _ => none)
    | _ => none
  | _ => none
def estK (t : TypeId) (v s : CV S) (w : AV S) (ob : List (Nat × Nat × AO S)) (k : Res S → Option γ) : Option γ :=
  (mapTy tb tt t).bind fun i => (keyCs i.2.1 w).bind fun ws => (pk1 tb i.2.1 ws).bind fun y => match v, s with
  | .mp o, .stp o' q => (match Nat.beq o o' with
    | true => (look o ob).bind fun a => match a.2 with
      | .map t' kc vc l (some (x, q')) => (match Nat.beq t' t && Nat.beq q q', decEq kc i.1, decEq vc i.2.1 with
        | true, isTrue h, isTrue h' => k { v := AV.und S, rm := [o], add := [(o, .map t i.1 i.2.1 (mput (keq tb i.1) (castM h h' l) (castX h x) y) none)] }
        | _, _, _ => none)
      | _ => none
    | false => none)
  | _, _ => none
def nilZ : List (CV S) → Bool
  | [.nilS] => true
  | _ => false
def gmapTy (t : TypeId) : Option (Co × Co × TypeId) := (tt t).bind fun ti => match ti.d, ti.co with
  | .map _ e, .mp kc (.sl c) => (tt e).bind fun si => (elemCo tt e).bind fun ec => (match keyCo tb kc && nilZ si.zero, decEq ec.2 c with | true, isTrue _ => some (kc, c, ec.1) | _, _ => none)
  | _, _ => none
def glookK (t : TypeId) (v : CV S) (key : AV S) (ok : Bool) (ob : List (Nat × Nat × AO S)) (k : Res S → Option γ) : Option γ :=
  (gmapTy tb tt t).bind fun i => (keyCs i.1 key).bind fun cs => (pk1 tb i.1 cs).bind fun x => match v, ok with
  | .mp o, false => (look o ob).bind fun a => match a.2 with
    | .gmap t' _ kc c l none => (match Nat.beq t' t, decEq kc i.1, decEq c i.2.1 with
      | true, isTrue h, isTrue h' => k { v := .one (.sl i.2.1 ((mget (keq tb i.1) (castG h h' l) x).getD [])), rd := [o] }
      | _, _, _ => none)
    | _ => none
  | _, _ => none
def gtakeK (t : TypeId) (v : CV S) (key : AV S) (ok : Bool) (ob : List (Nat × Nat × AO S)) (ct : Nat) (k : Res S → Option γ) : Option γ :=
  (gmapTy tb tt t).bind fun i => (keyCs i.1 key).bind fun cs => (pk1 tb i.1 cs).bind fun x => match v, ok with
  | .mp o, false => (look o ob).bind fun a => match a.2 with
    | .gmap t' et kc c l none => (match Nat.beq t' t && Nat.beq et i.2.2, decEq kc i.1, decEq c i.2.1 with
      | true, isTrue h, isTrue h' => k { v := .one (.rw (ct + 1) i.2.1 ((mget (keq tb i.1) (castG h h' l) x).getD [])), rm := [o], add := [(o, .gmap t i.2.2 i.1 i.2.1 (castG h h' l) (some x)), (ct + 1, .row i.2.2 i.2.1)] }
      | _, _, _ => none)
    | _ => none
  | _, _ => none
def holeK {α : Type} (eq : α → α → Bool) (x : α) (h : Option α) (k : Option γ) : Option γ := match h with
  | none => k
  | some y => (chk (eq x y = true)).bind fun _ => k
def castO {a c : Co} (h : a = c) (x : Option (T S a)) : Option (T S c) := h ▸ x
def gputK (t : TypeId) (v : CV S) (key : AV S) (w : CV S) (ob : List (Nat × Nat × AO S)) (k : Res S → Option γ) : Option γ :=
  (gmapTy tb tt t).bind fun i => (keyCs i.1 key).bind fun cs => (pk1 tb i.1 cs).bind fun x => match v, w with
  | .mp o, .rw p d l2 => (look o ob).bind fun a => (look p ob).bind fun b => match a.2, b.2 with
    | .gmap t' et kc c l hole, .row et' c' => (match Nat.beq t' t && (Nat.beq et i.2.2 && Nat.beq et' i.2.2), decEq kc i.1, decEq c i.2.1, decEq c' i.2.1, decEq d i.2.1 with
      | true, isTrue h, isTrue h', isTrue _, isTrue hd => holeK (keq tb i.1) x (castO h hole) (k { v := AV.und S, rm := [o, p], add := [(o, .gmap t i.2.2 i.1 i.2.1 (mput (keq tb i.1) (castG h h' l) x (castL hd l2)) none)] })
      | _, _, _, _, _ => none)
    | _, _ => none
  | _, _ => none
def nilFZ : List (CV S) → Bool
  | [.nilF] => true
  | _ => false
def kmapTy (t : TypeId) : Option Co := (tt t).bind fun ti => match ti.d, ti.co with
  | .map _ e, .mp kc (.a8 _) => (tt e).bind fun fi => (match keyCo tb kc && (nilFZ fi.zero && !isAggT fi.d) with | true => some kc | false => none)
  | _, _ => none
def castK {a c : Co} (h : a = c) (l : List (T S a × CV S)) : List (T S c × CV S) := h ▸ l
def isFn : CV S → Bool
  | .fn _ _ _ => true
  | _ => false
def kputK (t : TypeId) (v : CV S) (key : AV S) (w : AV S) (ob : List (Nat × Nat × AO S)) (k : Res S → Option γ) : Option γ :=
  (kmapTy tb tt t).bind fun i => (keyCs i key).bind fun cs => (pk1 tb i cs).bind fun x => match v, w with
  | .mp o, .one f => (look o ob).bind fun a => match a.2 with
    | .kmap t' kc l => (match Nat.beq t' t && isFn f, decEq kc i with
      | true, isTrue h => (match (castK h l).any fun p => keq tb i x p.1 with
        | true => none
        | false => k { v := AV.und S, rm := [o], add := [(o, .kmap t i (castK h l ++ [(x, f)]))] })
      | _, _ => none)
    | _ => none
  | _, _ => none
def kfind (o : Nat) (c : Co) (x : T S c) (k : Res S → Option γ) : List (T S c × CV S) → Option γ
  | [] => k { v := .one .nilF, rd := [o] }
  | p :: l => @ite _ (keq tb c x p.1 = true) inferInstance (k { v := .one p.2, rd := [o] }) (kfind o c x k l)
def klookK (t : TypeId) (v : CV S) (key : AV S) (ok : Bool) (ob : List (Nat × Nat × AO S)) (k : Res S → Option γ) : Option γ :=
  (kmapTy tb tt t).bind fun i => (keyCs i key).bind fun cs => (pk1 tb i cs).bind fun x => match v, ok with
  | .mp o, false => (look o ob).bind fun a => match a.2 with
    | .kmap t' kc l => (match Nat.beq t' t, decEq kc i with
      | true, isTrue h => kfind tb o i x k (castK h l)
      | _, _ => none)
    | _ => none
  | _, _ => none
def onesOf : List (AV S) → Option (List (CV S))
  | [] => some []
  | .one v :: l => (onesOf l).map (v :: ·)
  | _ :: _ => none
def fillParts (place : Nat → Option (Nat × Nat)) : List (CV S) → List (Nat × AV S) → Option (List (CV S))
  | cs, [] => some cs
  | cs, (i, a) :: l => (place i).bind fun p => (cellsAV a).bind fun xs => (putX p.1 p.2 xs cs).bind fun cs' => fillParts place cs' l
def litL (c : Co) : List (Nat × AV S) → Option (List (T S c))
  | [] => some []
  | (_, a) :: l => (cellsAV a).bind fun xs => (pk1 tb c xs).bind fun x => (litL c l).map (x :: ·)
def fromTo : Nat → List (Nat × AV S) → Bool
  | _, [] => true
  | i, (j, _) :: l => Nat.beq i j && fromTo (i + 1) l
def fieldK (f : TypeId × Nat × Nat) (v : CV S) (k : Res S → Option γ) : Option γ := match Nat.ble 1 f.2.2, v with
  | true, .ptr o off => k (val (.ptr o (off + f.2.1)))
  | true, .el c x off => k (val (.el c x (off + f.2.1)))
  | true, .ela o v c x j off => k (val (.ela o v c x j (off + f.2.1)))
  | _, _ => none
def unK (op : UnOp) (v : CV S) (k : Res S → Option γ) : Option γ := match op, v with
  | .not, .tt b => k (val (.tt !b))
  | .not, .bo b _ _ _ => k (val (boN b))
  | .not, .na e n => k (val (.na e (!n)))
  | .neg, .int kk x => k (val (.int kk (kk.wrap (-x))))
  | .xor, .int kk x => k (val (.int kk (bxor kk (if kk.signed then -1 else kk.max) x)))
  | _, _ => none
def sameOpd : Operand → Operand → Bool
  | .tmp a, .tmp b => Nat.beq a b
  | .const (.int k n), .const (.int k' n') => decide (k = k') && decide (n = n')
  | _, _ => false
def core (o : Oper) (xs : List (AV S)) (ob : List (Nat × Nat × AO S)) (ct : Nat) (k : Res S → Option γ) : Option γ :=
  match o.op with
  | .move _ => match xs with | [a] => k { v := a } | _ => none
  | .assign _ => match xs with | [a] => k { v := a } | _ => none
  | .pick _ _ _ => match xs with | [.one c, a, b] => ifB c (fun z => match z with | true => k { v := a } | false => k { v := b }) | _ => none
  | .extract _ i => match xs with | [.tup vs] => (vs[i]?).bind fun a => k { v := a } | _ => none
  | .nilCheck _ => match xs with | [.one v] => (match v with | .ptr _ _ => k (val v) | .fn (.func _) _ _ => k (val v) | .el _ _ _ => k (val v) | .ela _ _ _ _ _ _ => k (val v) | _ => none) | _ => none
  | .binOp op t _ y _ => match xs with | [a, b] => binK tt op t y a b fun v => k (val v) | _ => none
  | .unOp op _ _ => match xs with
    | [.one v] => unK op v k
    | _ => none
  | .convert s d _ => match xs with | [.one v] => convK tt s d v ob k | _ => none
  | .fieldAddr t _ i => match xs with
    | [.one v] => (tt t).bind fun ti => match ti.d with
      | .struct fs => (fs[i]?).bind fun (f : TypeId × Nat × Nat) => fieldK f v k
      | _ => none
    | _ => none
  | .field t _ i => match xs with
    | [.agg vs] => (tt t).bind fun ti => match ti.d with
      | .struct fs => (fs[i]?).bind fun (f : TypeId × Nat × Nat) => (tt f.1).bind fun fi => (match isAggT fi.d with
        | true => ((cutAt f.2.1 vs).bind (cutTo fi.size)).bind fun l => k { v := .agg l }
        | false => (cell1 f.2.1 vs).bind fun v => k (val v))
      | _ => none
    | _ => none
  | .build t parts => (tt t).bind fun ti => (match ti.d with
      | .struct fs => fillParts (fun i => (fs[i]?).map fun (f : TypeId × Nat × Nat) => f.2) ti.zero ((parts.toList.map Prod.fst).zip xs)
      | .array _ e => (tt e).bind fun ei => fillParts (fun i => some (i * ei.size, ei.size)) ti.zero ((parts.toList.map Prod.fst).zip xs)
      | _ => none).bind fun cs => k { v := .agg cs }
  | .makeFunc f first _ => (onesOf xs).bind fun vs => k (val (.fn f (vs.take first.size) (vs.drop first.size)))
  | .alloc t => (tt t).bind fun ti => k { v := .one (.ptr (ct + 1) 0), add := [(ct + 1, .box t ti.zero)] }
  | .box t _ => match xs with | [a] => (cellsAV a).bind fun cs => k { v := .one (.ptr (ct + 1) 0), add := [(ct + 1, .box t cs)] } | _ => none
  | .load t _ => match xs with | [.one v] => loadK tb tt t v ob k | _ => none
  | .store t _ _ => match xs with | [.one p, a] => storeK tb tt t p a ob k | _ => none
  | .indexAddr t _ y => match xs with | [.one v, i] => (idxOf i).bind fun i => indexK tt t y v i ob k | _ => none
  | .index t _ _ => (tt t).bind fun ti => match ti.d, xs with
    | .str, [.one (.str l), i] => (idxOf i).bind fun i => (idx l i).bind fun c => k (val (.u8 c))
    | .array n e, [.agg [.ai n' kk f], i] => (tt e).bind fun ei => (idxOf i).bind fun i => (match Nat.beq n' n, Nat.beq ei.size 1, isAggT ei.d with
      | true, true, false => (chk (0 ≤ i ∧ i < n)).bind fun _ => k (val (.int kk (getArr f i)))
      | _, _, _ => none)
    | _, _ => none
  | .slice t _ lo hi mx => match xs with
    | .one v :: r => (optI lo r).bind fun a => (optI hi a.2).bind fun b => (optI mx b.2).bind fun c => match v with | .ptr o off => slicePK tt t o off a.1 b.1 c.1 k | v => (match has t fa.parts with | true => partK tt t v a.1 b.1 c.1 ob ct k | false => sliceK tt t v a.1 b.1 c.1 ob ct k)
    | _ => none
  | .buildSlice t len parts => (elemCo tt t).bind fun ec => (tt ec.1).bind fun ei =>
      let ps := (parts.toList.map Prod.fst).zip xs
      match Nat.beq len xs.length && fromTo 0 ps && Nat.ble (len * ei.size) 16777216 with
      | true => (litL tb ec.2 ps).bind fun l => match has t fa.lits with
        | true => k { v := .one (.aw (ct + 1)), add := [(ct + 1, .arr ec.1 ec.2 true l)] }
        | false => k { v := .one (.rw (ct + 1) ec.2 l), add := [(ct + 1, .row ec.1 ec.2)] }
      | false => none
  | .makeMap t r => match r, xs with
    | none, [] => (match mapTy tb tt t with
      | some i => k { v := .one (.mp (ct + 1)), add := [(ct + 1, .map t i.1 i.2.1 [] none)] }
      | none => (match gmapTy tb tt t with
        | some i => k { v := .one (.mp (ct + 1)), add := [(ct + 1, .gmap t i.2.2 i.1 i.2.1 [] none)] }
        | none => (kmapTy tb tt t).bind fun i => k { v := .one (.mp (ct + 1)), add := [(ct + 1, .kmap t i [])] }))
    | _, _ => none
  | .lookup t _ _ ok => match xs with | [.one v, key] => (match (mapTy tb tt t).isSome, (gmapTy tb tt t).isSome with | true, _ => lookK tb tt t v key ok ob k | false, true => (match has t fa.takes with | true => gtakeK tb tt t v key ok ob ct k | false => glookK tb tt t v key ok ob k) | false, false => klookK tb tt t v key ok ob k) | _ => none
  | .mapEntry t _ _ => match xs with | [.one v, key] => mentK tb tt t v key ob ct k | _ => none
  | .entryStore t _ _ _ => match xs with | [.one v, .one s, w] => estK tb tt t v s w ob k | _ => none
  | .mapUpdate t _ _ _ => match xs with | [.one v, key, w] => (match (mapTy tb tt t).isSome, (gmapTy tb tt t).isSome with | true, _ => putK tb tt t v key w ob k | false, true => (match w with | .one w => gputK tb tt t v key w ob k | _ => none) | false, false => kputK tb tt t v key w ob k) | _ => none
  | .makeSlice t x y => match xs, sameOpd x y with
    | [a, _], true => (idxOf a).bind fun n => (elemCo tt t).bind fun ec => (tt ec.1).bind fun ei => (match oneC ec.2, isAggT ei.d with
      | true, false => (pk1 tb ec.2 ei.zero).bind fun z => (chk (0 ≤ n ∧ n * ei.bytes ≤ 140737488355328)).bind fun _ =>
          k { v := .one (.aw (ct + 1)), add := [(ct + 1, .arr ec.1 ec.2 true (List.replicate n.toNat z))] }
      | _, _ => none)
    | _, _ => none
  | .call c => match c.callee with
    | .builtin b => match b, xs with
      | .len, [.one v] => (match c.argTypes.toList with | [t] => lenK tt t v ob k | _ => none)
      | .append, [.one v, .one w] => (match c.argTypes.toList with | [t, t'] => (match Nat.beq t t' with | true => appendK tt fa t v w ob ct k | false => appendZK tb tt t t' v w ob ct k) | _ => none)
      | .copy, [.one v, .one w] => (match c.argTypes.toList with | [t, _] => copyK tt t v w ob k | _ => none)
      | .delete, [.one v, key] => (match c.argTypes.toList with | [t, _] => delK tb tt t v key ob k | _ => none)
      | .cap, [.one .nilS] => (match c.argTypes.toList with | [t] => (elemCo tt t).bind fun _ => k (val (.int .i64 0)) | _ => none)
      | .min, [.one v, .one w] => (num v).bind fun x => (num w).bind fun y => match decEq x.1 y.1 with | isTrue _ => k (val (mkI x.1 (imin x.2 y.2))) | isFalse _ => none
      | .max, [.one v, .one w] => (num v).bind fun x => (num w).bind fun y => match decEq x.1 y.1 with | isTrue _ => k (val (mkI x.1 (imax x.2 y.2))) | isFalse _ => none
      | _, _ => none
    | .value _ => match xs with
      | .one (.fn (.func f) first caps) :: args => (match Nat.ble f 999999 with | true => callK tb f (first.map .one ++ args ++ caps.map .one) ob ct k Φ | false => none)
      | .one (.yl q) :: args => (look q ob).bind fun a => match a.2 with | .loop r .ready _ => callK tb (yid r) (.one (.yl q) :: args) ob ct k Φ | _ => none
      | _ => none
    | .invoke _ _ => none
  | _ => none
end
def zeroV1 : CV S → List Value
  | .int k x => [.int k x]
  | .u8 x => [.int .u8 (x.toNat : Int)]
  | .tt b => [.bool b]
  | .str l => [.string (Proofs.Ythhmandpjlggcaa.str l)]
  | .nilS => [.slice none 0 0]
  | .nilP => [.pointer none]
  | .nilF => [.nilFunc]
  | .nilM => [.map none]
  | .nilI => [.nilIface]
  | .a8 n f => (List.range n).map (fun i => .int .u8 ((f i).toNat : Int))
  | .ai n k f => (List.range n).map (fun i => .int k (f i))
  | _ => []
def zeroVs (vs : List (CV S)) : List Value := vs.flatMap zeroV1
def eqV : Value → Value → Bool
  | .int k n, .int k' n' => decide (k = k') && decide (n = n')
  | .bool b, .bool b' => b == b'
  | .slice none 0 0, .slice none 0 0 => true
  | .pointer none, .pointer none => true
  | .nilFunc, .nilFunc => true
  | .map none, .map none => true
  | .nilIface, .nilIface => true
  | .string s, .string s' => decide (s.data.toList = s'.data.toList)
  | _, _ => false
def eqVs : List Value → List Value → Bool
  | [], [] => true
  | v :: vs, w :: ws => match eqV v w with | true => eqVs vs ws | false => false
  | _, _ => false
def constCV : Value → Option (CV S)
  | .int .u8 n => match decEq (n % 256) n with | isTrue _ => some (.u8 (G.u8 n)) | isFalse _ => none
  | .int k n => some (.int k n)
  | .bool b => some (.tt b)
  | .string s => some (.str s.data.toList)
  | .slice none 0 0 => some .nilS
  | .pointer none => some .nilP
  | .nilFunc => some .nilF
  | .map none => some .nilM
  | .nilIface => some .nilI
  | _ => none
def constCVs : List Value → Option (List (CV S))
  | [] => some []
  | v :: vs => (constCV v).bind fun x => (constCVs vs).map (x :: ·)
def constAV (tt : TypeId → Option (TI S)) (t : TypeId) : Value → Option (AV S)
  | .agg cs => match tt t with
    | some i => (match eqVs (zeroVs i.zero) cs.toList with | true => some (.agg i.zero) | false => (constCVs cs.toList).map .agg)
    | none => (constCVs cs.toList).map .agg
  | .tuple vs => match vs.toList with | [] => some (AV.und S) | _ => none
  | v => (constCV v).map .one
def opTys (o : Oper) : List TypeId := match o.op with
  | .move _ => [o.type]
  | .assign _ => [o.type]
  | .store t _ _ => [0, t]
  | .binOp _ t _ _ _ => [t, t]
  | .call c => match c.callee with | .builtin _ => c.argTypes.toList | _ => 0 :: c.argTypes.toList
  | _ => []
def AS.get (σ : AS S) (t : Tmp) : Option (Nat × AV S) := look (σ.fb + t) σ.tm
def opdAV (tt : TypeId → Option (TI S)) (σ : AS S) (t : TypeId) : Operand → Option (AV S)
  | .tmp u => (σ.get u).map (·.2)
  | .const v => constAV tt t v
  | .func f => some (.one (.fn (.func f) [] []))
  | .global _ => none
def opds (tt : TypeId → Option (TI S)) (σ : AS S) : List TypeId → List Operand → Option (List (AV S))
  | _, [] => some []
  | [], x :: xs => (opdAV tt σ 0 x).bind fun a => (opds tt σ [] xs).map (a :: ·)
  | t :: ts, x :: xs => (opdAV tt σ t x).bind fun a => (opds tt σ ts xs).map (a :: ·)
def setBs (vid : Nat) (b : Bool) : List (Nat × Nat × AV S) → List (Nat × Nat × AV S)
  | [] => []
  | (t, v, a) :: l => match Nat.beq v vid with | true => (t, v, .one (.tt b)) :: setBs vid b l | false => (t, v, a) :: setBs vid b l
def AS.setB (σ : AS S) (vid : Nat) (b : Bool) : AS S := { σ with tm := setBs vid b σ.tm }
def AS.put (σ : AS S) (d : Option Tmp) (vid : Option Nat) (v : AV S) : AS S := match d with
  | some d => { σ with tm := (σ.fb + d, vid.getD σ.ct, v) :: drop1 (σ.fb + d) σ.tm }
  | none => σ
def addO (v : Nat) : List (Nat × AO S) → List (Nat × Nat × AO S)
  | [] => []
  | (q, a) :: l => (q, v, a) :: addO (v + 1) l
def AS.upd (σ : AS S) (d : Option Tmp) (vid : Option Nat) (r : Res S) : AS S :=
  { σ.put d vid r.v with ob := addO (σ.ct + 32) r.add ++ dropO r.rm σ.ob, ct := σ.ct + 64 }
def moveOf (σ : AS S) : Op → Option Nat
  | .move (.tmp t) => (σ.get t).map (·.1)
  | .assign (.tmp t) => (σ.get t).map (·.1)
  | _ => none
abbrev Log := List (Nat × List Nat × List Nat)
def logOk (ops : Array Oper) : Log → Bool
  | [] => true
  | (j, rd, rm) :: l => (l.all fun p => D.bef ops p.1 j || !(rm.any (fun x => has x p.2.1 || has x p.2.2) || rd.any fun x => has x p.2.2)) && logOk ops l
section
variable {γ : Type} (tt : TypeId → Option (TI S)) (Φ : List (Ctr S)) (fa : FA)
def guardK (ops : Array Oper) (g : Option (Nat × Bool)) (σ : AS S) (go : Bool → AS S → Option γ) : Option γ := match g with
  | none => go true σ
  | some (j, b) => match (slotOf ops j).bind σ.get with
    | some (vid, .one v) => (match v with
      | .tt c => go (c == b) σ
      | .bo _ p d _ => @ite _ p d (go b (σ.setB vid true)) (go (!b) (σ.setB vid false))
      | _ => none)
    | some (_, .tup []) => go false σ
    | _ => none
def evOps (ops : Array Oper) : List Oper → Nat → AS S → Log → (AS S → Log → Option γ) → Option γ
  | [], _, σ, lg, k => k σ lg
  | o :: rest, i, σ, lg, k => guardK ops o.guard σ fun run σ => match run with
    | false => evOps ops rest (i + 1) { σ.put o.dst none (AV.und S) with ct := σ.ct + 64 } lg k
    | true => match opds tt σ (opTys o) o.op.operands.toList with
      | some xs => core tb tt Φ fa o xs σ.ob σ.ct fun r => match nodupB (r.rd ++ r.rm) with
        | true => evOps ops rest (i + 1) (σ.upd o.dst (moveOf σ o.op) r) ((i, r.rd, r.rm ++ r.add.map (·.1)) :: lg) k
        | false => none
      | none => none
end
inductive An where
  | o
  | u (a : An)
  | b (l r : An)
  | j (J : JA) (a : An)
  | lp (J : JA) (a : An)
  | z (l : List (Nat × Nat × PrK)) (a : An)
  deriving Inhabited
def An.l1 : An → An
  | .u a => a
  | .b l _ => l
  | _ => .o
def An.r1 : An → An
  | .b _ r => r
  | _ => .o
variable (S) in
def Kp (β : Type) := ∀ γ : Type, (β → γ) → Exi → AS S → Option γ
variable (S) in
def W := An → AS S → (β : Type) → Kp S β → (γ : Type) → (β → γ) → Option γ
def asg : Code → List Nat
  | .seq x y => asg x ++ asg y
  | .cond _ x y => asg x ++ asg y
  | .block _ x => asg x
  | .scope x => asg x
  | .loop x => asg x
  | .region _ ops _ => ops.toList.filterMap (·.dst)
  | .rangeFunc _ ps x y => ps.toList ++ (asg x ++ asg y)
  | _ => []
def JA.at_ (J : JA) (c : Code) (fb : Nat) : JA := { J with kill := (asg c).map (fb + ·) ++ J.kill }
def kN (J : JA) (σ : AS S) : Kp S (HT S J.ls) := fun _ e ex σ' => match ex with
  | .normal => (pack tb J σ σ').bind fun z => some (e z)
  | _ => none
def kJ (J : JA) (σ : AS S) {β γ : Type} (κ : Kp S β) (emb : β → γ) : Kp S (HT S J.ls ⊕ γ) := fun δ e ex σ' => match ex with
  | .normal => (pack tb J σ σ').bind fun z => some (e (.inl z))
  | ex => κ δ (fun b => e (.inr (emb b))) ex σ'
def kS {β : Type} (f : W S) (an : An) (κ : Kp S β) : Kp S β := fun δ e ex σ' => match ex with
  | .normal => f an σ' β κ δ e
  | ex => κ δ e ex σ'
def kB {β : Type} (id : Nat) (κ : Kp S β) : Kp S β := fun δ e ex σ' => match ex with
  | .exit n => match Nat.beq n id with | true => κ δ e .normal σ' | false => κ δ e (.exit n) σ'
  | ex => κ δ e ex σ'
def wj0 (c : Code) (f : W S) : W S := fun an σ β κ γ emb => match an with
  | .j J a => match J.early with
    | false => (f a σ (HT S J.ls) (kN tb (J.at_ c σ.fb) σ) (HT S J.ls) id).bind fun z =>
        match unpack tb (J.at_ c σ.fb) σ z with | some σ1 => κ γ emb .normal σ1 | none => none
    | true => (f a σ (HT S J.ls ⊕ γ) (kJ tb (J.at_ c σ.fb) σ κ emb) (HT S J.ls ⊕ γ) id).bind fun z =>
        joinK z fun u => match unpack tb (J.at_ c σ.fb) σ u with | some σ1 => κ γ emb .normal σ1 | none => none
  | a => f a σ β κ γ emb
def wj (c : Code) (f : W S) : W S := fun an σ β κ γ emb => match an with
  | .z l a => match prep l σ with | some σ1 => wj0 tb c f a σ1 β κ γ emb | none => none
  | an => wj0 tb c f an σ β κ γ emb
def rgId : Code → Nat
  | .region id _ _ => id
  | .seq x _ => rgId x
  | _ => 0
def rangeSt (σ : AS S) (lp : AO S) : AS S := { σ with ob := (σ.ct + 1, σ.ct + 32, lp) :: σ.ob, ct := σ.ct + 64 }
def rangeEnd (q : Nat) (σ2 : AS S) {β γ : Type} (κ : Kp S β) (emb : β → γ) : Option γ :=
  match look q σ2.ob with
  | some (_, .loop _ st _) => (match st with
    | .ready => κ γ emb .normal { σ2 with ob := dropO [q] σ2.ob }
    | .done .ret => κ γ emb .ret { σ2 with ob := dropO [q] σ2.ob }
    | .done (.exit n) => κ γ emb (.exit n) { σ2 with ob := dropO [q] σ2.ob }
    | _ => none)
  | _ => none
section
variable (tt : TypeId → Option (TI S)) (Φ : List (Ctr S)) (fa : FA)
noncomputable def evC : Code → W S
  | .skip => wj tb (.skip) fun _ σ _ κ γ emb => κ γ emb .normal σ
  | .label _ => wj tb (.label default) fun _ σ _ κ γ emb => κ γ emb .normal σ
  | .ret => wj tb (.ret) fun _ σ _ κ γ emb => κ γ emb .ret σ
  | .exit n => wj tb (.exit n) fun _ σ _ κ γ emb => κ γ emb (.exit n) σ
  | .seq x y => wj tb (.seq x y) fun an σ β κ γ emb => evC x an.l1 σ β (kS (evC y) an.r1 κ) γ emb
  | .cond c x y => wj tb (.cond c x y) fun an σ β κ γ emb => match c with
    | .tmp t => match σ.get t with
      | some (vid, .one v) => (match v with
        | .tt true => evC x an.l1 σ β κ γ emb
        | .tt false => evC y an.r1 σ β κ γ emb
        | .bo _ p d _ => @ite _ p d (evC x an.l1 (σ.setB vid true) β κ γ emb) (evC y an.r1 (σ.setB vid false) β κ γ emb)
        | .na true _ => agree (evC x an.l1 (σ.setB vid true) β κ γ emb) (evC y an.r1 (σ.setB vid false) β κ γ emb)
        | .na false true => evC x an.l1 (σ.setB vid true) β κ γ emb
        | .na false false => evC y an.r1 (σ.setB vid false) β κ γ emb
        | _ => none)
      | _ => none
    | .const (.bool true) => evC x an.l1 σ β κ γ emb
    | .const (.bool false) => evC y an.r1 σ β κ γ emb
    | _ => none
  | .block id body => wj tb (.block id body) fun an σ β κ γ emb => evC body an.l1 σ β (kB id κ) γ emb
  | .scope body => wj tb (.scope body) fun an σ β κ γ emb => evC body an.l1 σ β κ γ emb
  | .loop body => wj tb (.loop body) fun an σ _ κ γ emb => match an with
    | .lp J a => (pack tb (J.at_ (.loop body) σ.fb) σ σ).bind fun z0 => Iter (fun z => match unpack tb (J.at_ (.loop body) σ.fb) σ z with
        | some σ1 => evC body a σ1 (HT S J.ls ⊕ γ) (kJ tb (J.at_ (.loop body) σ.fb) σ κ emb) (HT S J.ls ⊕ γ) id
        | none => none) z0
    | _ => none
  | .region _ ops draw => wj tb (.region default ops draw) fun _ σ _ κ γ emb => evOps tb tt Φ fa ops ops.toList 0 σ [] fun σ' lg => match !draw || (logOk ops lg && nodupB (σ'.ob.map (·.1))) with
      | true => κ γ emb .normal σ'
      | false => none
  | .rangeFunc g ps x y => wj tb (.rangeFunc g ps x y) fun _ σ _ κ γ emb => match fa.rd, σ.fb, opdAV tt σ 0 g with
    | false, 0, some (.one (.fn (.func f) [] caps)) => (match Nat.ble f 999999 with
      | true => callK tb f (.one (.yl (σ.ct + 1)) :: caps.map .one) (rangeSt σ (.loop (fa.fn * 1000 + rgId x) .ready σ.tm)).ob (σ.ct + 64) (fun r => match nodupB (r.rd ++ r.rm) with
          | true => rangeEnd (σ.ct + 1) ((rangeSt σ (.loop (fa.fn * 1000 + rgId x) .ready σ.tm)).upd none none r) κ emb
          | false => none) Φ
      | false => none)
    | _, _, _ => none
  | .goto _ => fun _ _ _ _ _ _ => none
  | .refuse _ => fun _ _ _ _ _ _ => none
def argTm : Nat → List (AV S) → List (Nat × Nat × AV S)
  | _, [] => []
  | i, a :: l => (i, 64 + i, a) :: argTm (i + 1) l
def start (c : Ctr S) (x : HT S c.ls) : Option (AS S) :=
  (permD c.bk (dynOf c.ls x)).bind fun ds => (PS.fills tb id c.ins ds).bind fun p => (OS.fills tb id c.obs p.2).bind fun q =>
  some { tm := argTm 0 p.1, ob := numOb 0 q.1, ct := 256, fb := 0, rt := List.range c.obs.length }
def retVals (tt : TypeId → Option (TI S)) (σ : AS S) : List ResultVar → Option (List (AV S))
  | [] => some []
  | .tmp t :: l => (σ.get t).bind fun a => (retVals tt σ l).map (a.2 :: ·)
  | .cell t ty :: l => (σ.get t).bind fun a => match a.2 with
    | .one (.ptr o 0) => (look o σ.ob).bind fun b => match b.2 with
      | .box _ cs => (tt ty).bind fun i => (match isAggT i.d with | true => (cutTo i.size cs).map AV.agg | false => (cell1 0 cs).map AV.one).bind fun v => (retVals tt σ l).map (v :: ·)
      | _ => none
    | _ => none
def oneVal : List (AV S) → AV S
  | [a] => a
  | l => .tup l
def OS.outTakes (ob : List (Nat × Nat × AO S)) (mp : List (Nat × Nat)) : Nat → List KS → Option (List (Dyn S) × List (Nat × Nat))
  | _, [] => some ([], mp)
  | o, .now s :: l => (look o mp).bind fun q => (look q ob).bind fun a => (OS.take tb mp s a.2).bind fun p => (OS.outTakes ob p.2 (o + 1) l).map fun r => (p.1 ++ r.1, r.2)
  | o, _ :: l => OS.outTakes ob mp (o + 1) l
def rtMap : Nat → List Nat → List (Nat × Nat)
  | _, [] => []
  | i, x :: l => (i, x) :: rtMap (i + 1) l
def keptOk (σ0 σ : AS S) : Nat → List KS → Bool
  | _, [] => true
  | o, .kept :: l => (match σ.rt[o]? with | some q => Nat.beq q o | none => false) && (match look o σ0.ob, look o σ.ob with | some x, some y => Nat.beq x.1 y.1 | _, _ => false) && keptOk σ0 σ (o + 1) l
  | o, _ :: l => keptOk σ0 σ (o + 1) l
def nowIds (mp : List (Nat × Nat)) : Nat → List KS → List Nat
  | _, [] => []
  | o, .now _ :: l => match look o mp with | some q => q :: nowIds mp (o + 1) l | none => nowIds mp (o + 1) l
  | o, _ :: l => nowIds mp (o + 1) l
def keptPos : Nat → List KS → List Nat
  | _, [] => []
  | o, .kept :: l => o :: keptPos (o + 1) l
  | o, _ :: l => keptPos (o + 1) l
def finish (n : Nat) (o : Out) (v : AV S) (σ0 σ : AS S) : Option (HT S o.ls') :=
  (PS.take tb (rtMap 0 σ.rt) o.out v).bind fun p => (OS.outTakes tb σ.ob p.2 0 o.obs').bind fun q =>
  match keptOk σ0 σ 0 o.obs' && (nodupB (keptPos 0 o.obs' ++ nowIds q.2 0 o.obs') && Nat.beq σ.rt.length n && q.2.all fun p => Nat.ble (p.1 + 1) o.obs'.length) with
  | true => (permD o.pm' (p.1 ++ q.1)).bind (ofDyn o.ls')
  | false => none
def finishA (n : Nat) (v : AV S) (σ0 σ : AS S) : (os : List Out) → Option (AltT S os)
  | [] => none
  | [o] => finish tb n o v σ0 σ
  | o :: p :: os => match finish tb n o v σ0 σ with
    | some z => some (Sum.inl z)
    | none => (finishA n v σ0 σ (p :: os)).map Sum.inr
noncomputable def evF (c : Ctr S) (rs : List ResultVar) (body : Code) (an : An) (x : HT S c.ls) : Option (AltT S c.outs) :=
  match start tb c x with
  | some σ0 => evC tb tt Φ fa body an σ0 (AltT S c.outs) (fun _ e' ex σ => match ex with
      | .exit _ => none
      | _ => (prep fa.pre σ).bind fun σ => (retVals tt σ rs).bind fun vs => (finishA tb c.obs.length (oneVal vs) σ0 σ c.outs).bind fun y => some (e' y)) (AltT S c.outs) id
  | none => none
def putPs : List Nat → List (Nat × Nat × AV S) → List (Nat × Nat × AV S) → Option (List (Nat × Nat × AV S))
  | [], [], tm => some tm
  | p :: ps, (_, vid, v) :: l, tm => putPs ps l ((p, vid, v) :: drop1 p tm)
  | _, _, _ => none
def reTm : Nat → List (Nat × Nat × AV S) → List (Nat × Nat × AV S)
  | _, [] => []
  | v, (t, _, x) :: l => (t, v, x) :: reTm (v + 1) l
def startY (r : Nat) (ps : List Nat) (σ : AS S) : Option (AS S) := match look 0 σ.ob, σ.tm with
  | some (_, .loop r' .ready tm), (_, _, .one (.yl 0)) :: l => (match Nat.beq r' r && Nat.ble tm.length 200 with | true => (putPs ps l (reTm 300 tm)).map fun tm' => { σ with tm := tm', ct := 512 } | false => none)
  | _, _ => none
def loopTo (st0 st : LS) (σ : AS S) : Option (AS S) := (σ.rt[0]?).bind fun q => (look q σ.ob).bind fun a => match a.2 with
  | .loop r st1 tm => (match LS.same st1 st0 with | true => some { σ with ob := (q, σ.ct + 32, .loop r st tm) :: dropO [q] σ.ob, ct := σ.ct + 64 } | false => none)
  | _ => none
def exB : Exi → Bool
  | .normal => true
  | _ => false
def lsOf : Exi → LS
  | .normal => .ready
  | e => .done e
noncomputable def evY (c : Ctr S) (r : Nat) (ps : List Nat) (as body : Code) (an : An) (x : HT S c.ls) : Option (AltT S c.outs) :=
  match start tb c x with
  | some σ0 => (match startY r ps σ0 with
    | some σ1 => evC tb tt Φ fa as an.l1 σ1 (AltT S c.outs) (fun _ e' ex σ2 => match ex with
        | .normal => (loopTo .ready .busy σ2).bind fun σ3 => evC tb tt Φ fa body an.r1 σ3 (AltT S c.outs) (fun _ e2 ex σ4 => (loopTo .busy (lsOf ex) σ4).bind fun σ5 =>
            (prep fa.pre σ5).bind fun σ6 => (finishA tb c.obs.length (.one (.tt (exB ex))) σ0 σ6 c.outs).bind fun y => some (e2 y)) _ e'
        | _ => none) (AltT S c.outs) id
    | none => none)
  | none => none
end
end E
end Go.Proofs.Ythhmandpjlggcaa
