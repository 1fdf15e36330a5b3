/- Part of what the laws need: plain words, the walker and its laws, the program's functions. -/
import Derived.Test.YtekpafdhgkocaaaGreatZLift
namespace Go.Proofs.YtekpafdhgkocaaaGreat
open Go.RowKit G
namespace D
abbrev Rm := Value → Mem → Prop
abbrev NN := List Rm
def QW (rs : NN) (i : Nat) : Rm := if i < rs.length then rs.getD (rs.length - 1 - i) (fun _ _ => True) else fun _ _ => True
abbrev zN := List (List Nat)
abbrev yn := Nat → List Value
def chain (chs : zN) (c : Nat) : List Nat := chs.getD c []
def Qb (ops : Array Oper) (i : Nat) (mt : Option Nat) (c : Nat) (ch : List Nat) (b : Nat × Nat) : Bool :=
 (ch.take b.1).all (fun m => CP ops m i) && (match ch[b.2]? with | some m => CP ops i m || i == m | none => true) &&
 (if mt == some c then b.1 == b.2 && ch[b.1]? == some i else !ch.contains i) && decide (b.1 ≤ ch.length)
def LL (ops : Array Oper) (rs : NN) (a0 : Act) (t : Tmp) (v : Value) (M : Mem) : Prop :=
 match writer ops t with
 | none => v = a0.eval (.tmp t)
 | some j => if j < rs.length then QW rs j v M else v = a0.eval (.tmp t)
def Ak (a : Act) (o : Oper) : Option Value := match o.op with
 | .move x | .assign x => some (a.eval x)
 | .extract x ix => (match a.eval x with | .tuple vs => vs[ix]? | _ => none)
 | _ => none
def Dk (ops : Array Oper) (i : Nat) (o : Oper) : Bool := o.guard.isNone && (match o.op with
 | .move (.tmp t) | .assign (.tmp t) | .extract (.tmp t) _ => (match writer ops t with | some j => CP ops j i && j != i | none => true)
 | _ => false)
def Links (ops : Array Oper) (a : Act) (p : Nat → Prop) : Prop := ∀ i o d u, ops[i]? = some o → p i → Dk ops i o = true → o.dst = some d → Ak a o = some u → a.eval (.tmp d) = u
structure DX (ops : Array Oper) (rs : NN) (a0 : Act) (a : Act) (M : Mem) : Prop where
 size : a.tmps.size = a0.tmps.size
 defers : a.defers = a0.defers
 OV : ∀ t, LL ops rs a0 t (a.eval (.tmp t)) M
 HB : Links ops a fun i => i < rs.length
theorem DX.move {ops : Array Oper} {rs : NN} {a0 a : Act} {M : Mem} (h : DX ops rs a0 a M) (i : Nat) {o : Oper} {d : Tmp} {x : Operand} {v : Value} (ho : ops[i]? = some o) (hi : i < rs.length) (hl : Dk ops i o = true) (hd : o.dst = some d) (hop : o.op = .move x ∨ o.op = .assign x) (hx : a.eval x = v) : a.eval (.tmp d) = v :=
 h.HB i o d v ho hi hl hd (by unfold Ak; rcases hop with e | e <;> simp [e, hx])
theorem DX.extract {ops : Array Oper} {rs : NN} {a0 a : Act} {M : Mem} (h : DX ops rs a0 a M) (i : Nat) {o : Oper} {d : Tmp} {x : Operand} {ix : Nat} {vs : Array Value} {v : Value} (ho : ops[i]? = some o) (hi : i < rs.length) (hl : Dk ops i o = true) (hd : o.dst = some d) (hop : o.op = .extract x ix) (hx : a.eval x = .tuple vs) (hv : vs[ix]? = some v) : a.eval (.tmp d) = v :=
 h.HB i o d v ho hi hl hd (by unfold Ak; simp [hop, hx, hv])
def Q4 (ops : Array Oper) (chs : zN) (a : Act) (vs : yn) : Prop :=
 ∀ (c j : Nat) (m : Nat) (o : Oper) (d : Tmp) (v : Value), (chain chs c)[j]? = some m → ops[m]? = some o → o.dst = some d → (vs c)[j]? = some v → a.eval (.tmp d) = v
section
variable {P : Program} {ops : Array Oper} {Q : Exit → Act → World → Prop} {rr : Option Nat} {a0 : Act} {chs : zN} {S : yn → Mem → Prop} {tail : List Oper}
structure Q5 (ops : Array Oper) (k0 : Nat) (chs : zN) (S : yn → Mem → Prop) (rs : NN) (a0 : Act) (l : Array Bool) (a : Act) (M : Mem) : Prop where
 sO : l.size = ops.size
 pre : ∀ i, i < ops.size → kC l i → i < k0
 size : a.tmps.size = a0.tmps.size
 defers : a.defers = a0.defers
 done : ∀ i o d, ops[i]? = some o → kC l i → o.dst = some d → QW rs i (a.eval (.tmp d)) M
 rest : ∀ t, (∀ i o, ops[i]? = some o → kC l i → o.dst ≠ some t) → a.eval (.tmp t) = a0.eval (.tmp t)
 closed : ∀ j o, ops[j]? = some o → kC l j → ∀ e ∈ o.after, Region.binds .any e = true → kC l e.on
 HB : Links ops a (kC l)
 OW : ∃ vs : yn, S vs M ∧ Q4 ops chs a vs ∧ ∀ c, (vs c).length ≤ (chain chs c).length ∧ ∀ j m, (chain chs c)[j]? = some m → (kC l m ↔ j < (vs c).length)
end
abbrev yK := yn → List az → Mem → Prop
def Ext (vs vs' : yn) : Prop := ∀ (c i : Nat) (v : Value), (vs c)[i]? = some v → (vs' c)[i]? = some v
def CH (ps : List yK) (q : Nat) (vs : yn) (A : List az) (M : Mem) : Prop := (ps.getD (vs q).length fun _ _ _ => False) vs A M
def K8 (p : yK) : Prop := ∀ vs vs' A M M', p vs A M → Ext vs vs' → Le M M' → p vs' A M'
theorem CH.at {ps : List yK} {q : Nat} {vs : yn} {A : List az} {M : Mem} {j : Nat} {p : yK} (h : CH ps q vs A M) (hl : (vs q).length = j) (hp : ps[j]? = some p) : p vs A M := by
 unfold CH at h; rw [List.getD_eq_getElem?_getD, hl, hp] at h; exact h
theorem CH.ext {ps : List yK} (hm : ∀ p ∈ ps, K8 p) {q : Nat} {vs vs' : yn} {A : List az} {M M' : Mem} (h : CH ps q vs A M) (he : Ext vs vs') (hq : (vs' q).length = (vs q).length) (hl : Le M M') : CH ps q vs' A M' := by
 unfold CH at h ⊢
 rw [List.getD_eq_getElem?_getD] at h ⊢
 rw [hq]
 cases hp : ps[(vs q).length]? with
 | none => rw [hp] at h; exact h.elim
 | some p => rw [hp] at h; exact hm p (List.mem_of_getElem? hp) vs vs' A M M' h he hl
theorem CH.mono {ps : List yK} (hm : ∀ p ∈ ps, K8 p) {q : Nat} {vs : yn} {A : List az} {M M' : Mem} (h : CH ps q vs A M) (hl : Le M M') : CH ps q vs A M' := h.ext hm (fun _ _ _ h => h) rfl hl
theorem sw {B : List Nat} {m0 M : Mem} {A E R : List az} (h : St B m0 M (A ++ (E ++ R))) : St B m0 M (E ++ (A ++ R)) :=
 h.perm (by rw [← List.append_assoc, ← List.append_assoc]; exact List.Perm.append_right R List.perm_append_comm)
end D
end Go.Proofs.YtekpafdhgkocaaaGreat
