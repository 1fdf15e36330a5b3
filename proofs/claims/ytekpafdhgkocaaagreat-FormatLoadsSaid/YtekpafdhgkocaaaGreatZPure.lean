/- Part of what the laws need: plain words, the walker and its laws, the program's functions. -/
import Derived.Lib.Index
import GoSem.Core.View
namespace Go.Proofs.YtekpafdhgkocaaaGreat
namespace G
variable {α β σ : Type}
def ko (x : Int) : Prop := -9223372036854775808 ≤ x ∧ x ≤ 9223372036854775807
def Qi (x : Int) : Prop := 0 ≤ x ∧ x ≤ 18446744073709551615
def Qa (x : Int) : Prop := 0 ≤ x ∧ x ≤ 4294967295
def DY {α : Type} (l : List α) : Prop := l.length ≤ 9223372036854775807
def idx (l : List α) (i : Int) : Option α := if 0 ≤ i then l[i.toNat]? else none
def fY (l : List α) (i : Int) : Option (List α) := if 0 ≤ i ∧ i ≤ l.length then some (l.drop i.toNat) else none
def jg (l : List α) (j : Int) : Option (List α) := if 0 ≤ j ∧ j ≤ l.length then some (l.take j.toNat) else none
def mu (l : List α) (i j : Int) : Option (List α) := if 0 ≤ i ∧ i ≤ j ∧ j ≤ l.length then some ((l.take j.toNat).drop i.toNat) else none
def app (b : Nat) (l l' : List α) : Option (List α) := if (l.length + l'.length) * b ≤ 140737488355328 then some (l ++ l') else none
def dZ (p : Prop) [Decidable p] : Option Unit := if p then some () else none
def u8 (x : Int) : UInt8 := UInt8.ofNat (x % 256).toNat
def dr (a b : Int) : Int := if b < a then b else a
def imax (a b : Int) : Int := if a < b then b else a
def aR (k : IntKind) (a b : Int) : Int := k.wrap ((BitVec.ofInt k.bits a &&& BitVec.ofInt k.bits b).toNat : Nat)
def tK (k : IntKind) (a b : Int) : Int := k.wrap ((BitVec.ofInt k.bits a ||| BitVec.ofInt k.bits b).toNat : Nat)
def cp (k : IntKind) (a b : Int) : Int := k.wrap ((BitVec.ofInt k.bits a ^^^ BitVec.ofInt k.bits b).toNat : Nat)
def D2 (k : IntKind) (a b : Int) : Int := k.wrap ((BitVec.ofInt k.bits a &&& ~~~(BitVec.ofInt k.bits b)).toNat : Nat)
def iC (k : IntKind) (x y : Int) : Int := k.wrap (x * 2 ^ (min y.toNat k.bits))
def bN (k : IntKind) (x y : Int) : Int := x.fdiv (2 ^ (min y.toNat k.bits))
def gL (f g : Nat → UInt8) : Bool := (List.range 32).all fun i => f i == g i
def gb {α : Type} (n : Nat) (f : Nat → α) : List α := (List.range n).map f
def ah {α : Type} (f : Nat → α) (i : Int) (v : α) : Nat → α := fun k => if (k : Int) = i then v else f k
def aD {α : Type} (f : Nat → α) (i : Int) : α := f i.toNat
def nG {α : Type} (f : Nat → α) (i j n : Nat) : Nat → α := fun p => if i ≤ p ∧ p < i + n then f (p - i + j) else f p
def Jg {α : Type} (l : List α) (o : Nat) (x : List α) : List α := l.take o ++ (x.take (l.length - o) ++ l.drop (o + x.length))
theorem wX {α : Type} {l x : List α} {o : Nat} (h : o ≤ l.length) : (Jg l o x).length = l.length := by
 unfold Jg; simp only [List.length_append, List.length_take, List.length_drop]; omega
def Lo (f : Nat → UInt8) (i m : Nat) (l : List UInt8) : Nat → UInt8 := fun p => if i ≤ p ∧ p < i + m then l.getD (p - i) 0 else f p
def yk {α : Type} (l : List α) (o n : Nat) (z : α) : List α := l.take o ++ (List.replicate n z ++ l.drop (o + n))
theorem AY {α : Type} {l : List α} {o n : Nat} {z : α} (h : o + n ≤ l.length) : (yk l o n z).length = l.length := by
 unfold yk; simp only [List.length_append, List.length_take, List.length_drop, List.length_replicate]; omega
def G9 (n : Nat) (f : Nat → UInt8) (l : List UInt8) : Nat → UInt8 := fun i => if i < n ∧ i < l.length then l.getD i 0 else f i
def kV (f : σ → Option (σ ⊕ α)) : Nat → σ → α → Prop
 | 0, _, _ => False
 | k + 1, s, r => ∃ x, f s = some x ∧ match x with | .inl s' => kV f k s' r | .inr a => a = r
theorem kV.QY {f : σ → Option (σ ⊕ α)} : ∀ {k j : Nat} {s : σ} {r r' : α}, kV f k s r → kV f j s r' → r = r'
 | 0, _, _, _, _, h, _ => h.elim
 | _ + 1, 0, _, _, _, _, h => h.elim
 | k + 1, j + 1, s, r, r', ⟨x, hx, h⟩, ⟨y, hy, h'⟩ => by
   rw [hx] at hy; cases hy
   cases x with
   | inl s' => exact kV.QY h h'
   | inr a => exact h.symm.trans h'
open Classical in
noncomputable def Iter (f : σ → Option (σ ⊕ α)) (s : σ) : Option α := if h : ∃ r k, kV f k s r then some h.choose else none
theorem gP {f : σ → Option (σ ⊕ α)} {s : σ} {r : α} : Iter f s = some r ↔ ∃ k, kV f k s r := by
 unfold Iter
 constructor
 · intro h
   split at h
   · rename_i hx
     cases h; exact hx.choose_spec
   · cases h
 · intro ⟨k, hk⟩
   have hx : ∃ r k, kV f k s r := ⟨r, k, hk⟩
   rw [dif_pos hx]
   obtain ⟨j, hj⟩ := hx.choose_spec
   rw [kV.QY hj hk]
def A8 (f : σ → Option (σ ⊕ α)) (k : Nat) (r : α) : σ ⊕ α → Prop
 | .inl s' => ∃ k', k' < k ∧ kV f k' s' r
 | .inr a => a = r
theorem bP {f : σ → Option (σ ⊕ α)} (I : Nat → σ → Prop) (Q : α → Prop) (round : ∀ k s, I k s → (∃ k' s', f s = some (.inl s') ∧ k' < k ∧ I k' s') ∨ ∃ a, f s = some (.inr a) ∧ Q a) : ∀ (k : Nat) (s : σ), I k s → ∃ r, Iter f s = some r ∧ Q r := by
 intro k
 induction k using Nat.strongRecOn with
 | _ k ih =>
   intro s hI
   rcases round k s hI with ⟨k', s', hf, hlt, hI'⟩ | ⟨a, hf, hq⟩
   · obtain ⟨r, hr, hq⟩ := ih k' hlt s' hI'
     obtain ⟨j, hj⟩ := gP.1 hr
     exact ⟨r, gP.2 ⟨j + 1, _, hf, hj⟩, hq⟩
   · exact ⟨a, gP.2 ⟨1, _, hf, rfl⟩, hq⟩
theorem dK {f : σ → Option (σ ⊕ α)} {s s' : σ} (h : f s = some (.inl s')) : Iter f s = Iter f s' := by
 have key : ∀ r, Iter f s = some r ↔ Iter f s' = some r := fun r => by
  rw [gP, gP]
  constructor
  · rintro ⟨k, hk⟩
    cases k with
    | zero => exact hk.elim
    | succ k => obtain ⟨x, hx, hk⟩ := hk; rw [h] at hx; cases hx; exact ⟨k, hk⟩
  · rintro ⟨k, hk⟩; exact ⟨k + 1, _, h, hk⟩
 cases e : Iter f s' with
 | some r => exact (key r).2 e
 | none =>
   cases e' : Iter f s with
   | none => rfl
   | some r => rw [(key r).1 e'] at e; cases e
theorem cH {f : σ → Option (σ ⊕ α)} {s : σ} {a : α} (h : f s = some (.inr a)) : Iter f s = some a := gP.2 ⟨1, _, h, rfl⟩
open Classical in
noncomputable def qB {γ : Type} (a b : Option γ) : Option γ := if a = b then a else none
theorem CM {γ : Type} (a : Option γ) : qB a a = a := if_pos rfl
def Fix.it {α β : Type} (F : (α → Option β) → α → Option β) : Nat → α → Option β
 | 0 => fun _ => none
 | k + 1 => F (Fix.it F k)
open Classical in
noncomputable def Fix {α β : Type} (F : (α → Option β) → α → Option β) (a : α) : Option β := if h : ∃ r n, ∀ m, n ≤ m → Fix.it F m a = some r then some h.choose else none
theorem GC {α β : Type} {F : (α → Option β) → α → Option β} {a : α} {r : β} (h : Fix F a = some r) : ∃ k, Fix.it F k a = some r := by
 unfold Fix at h
 split at h
 · rename_i hx
   cases h
   obtain ⟨n, hn⟩ := hx.choose_spec
   exact ⟨n, hn n (Nat.le_refl _)⟩
 · cases h
theorem E1 {α β : Type} {F : (α → Option β) → α → Option β} (I : Nat → α → Prop) (Q : α → β → Prop)
 (step : ∀ k x, I k x → ∀ f g : α → Option β, (∀ j y, j < k → I j y → ∃ r, f y = some r ∧ g y = some r ∧ Q y r) → ∃ r, F f x = some r ∧ F g x = some r ∧ Q x r) {k : Nat} {x : α} (hI : I k x) : ∃ r, Fix F x = some r ∧ Q x r := by
 have key : ∀ k n n' x, k < n → k < n' → I k x → ∃ r, Fix.it F n x = some r ∧ Fix.it F n' x = some r ∧ Q x r := by
  intro k
  induction k using Nat.strongRecOn with
  | _ k ih =>
    intro n n' x hn hn' hI
    match n, n', hn, hn' with
    | n + 1, n' + 1, hn, hn' => exact step k x hI _ _ fun j y hj hy => ih j hj n n' y (by omega) (by omega) hy
 obtain ⟨r, h1, _, hq⟩ := key k (k + 1) (k + 1) x (by omega) (by omega) hI
 have hx : ∃ r n, ∀ m, n ≤ m → Fix.it F m x = some r := ⟨r, k + 1, fun m hm => by
  obtain ⟨r', h2, h3, _⟩ := key k (k + 1) m x (by omega) (by omega) hI
  rw [h1] at h2; cases h2; exact h3⟩
 refine ⟨hx.choose, by unfold Fix; rw [dif_pos hx], ?_⟩
 obtain ⟨n, hn⟩ := hx.choose_spec
 obtain ⟨r', h2, h3, hq'⟩ := key k (k + 1 + n) (k + 1 + n) x (by omega) (by omega) hI
 rw [hn _ (by omega)] at h2; cases h2; exact hq'
theorem eK {x : Int} (h1 : -9223372036854775808 ≤ x) (h2 : x ≤ 9223372036854775807) : IntKind.i64.wrap x = x := by
 simp only [IntKind.wrap, IntKind.bits, IntKind.signed]; simp; split <;> omega
theorem E2 {f : σ → Option (σ ⊕ α)} (n : Nat) (st : Nat → σ) (r : α) (hstep : ∀ k, k < n → f (st k) = some (.inl (st (k + 1)))) (hend : f (st n) = some (.inr r)) : ∀ j, j ≤ n → Iter f (st (n - j)) = some r := by
 intro j
 induction j with
 | zero => intro _; exact cH hend
 | succ j ih =>
   intro hj
   rw [dK (hstep (n - (j + 1)) (by omega)), show n - (j + 1) + 1 = n - j by omega]
   exact ih (by omega)
theorem bA {f : σ → Option (σ ⊕ α)} (n : Nat) (st : Nat → σ) (r : α) (hstep : ∀ k, k < n → f (st k) = some (.inl (st (k + 1)))) (hend : f (st n) = some (.inr r)) {s : σ} (hs : s = st 0) : Iter f s = some r := by
 subst hs
 have := E2 n st r hstep hend n (Nat.le_refl _)
 rwa [Nat.sub_self] at this
theorem dh {l : List α} {k : Nat} (h : k < l.length) : idx l (k : Int) = some l[k] := by
 unfold idx; rw [if_pos (by omega)]; simp [h]
theorem JO {l : List α} {i : Int} {k : Nat} (hi : i = (k : Int)) (h : k < l.length) : idx l i = some l[k] := by subst hi; exact dh h
theorem eF {b : Nat} {l l' : List α} (h : (l.length + l'.length) * b ≤ 140737488355328) : app b l l' = some (l ++ l') := by unfold app; rw [if_pos h]
theorem rC {l : List α} {i : Int} (h : 0 ≤ i ∧ i ≤ l.length) : fY l i = some (l.drop i.toNat) := by unfold fY; rw [if_pos h]
theorem lu {l : List α} {i : Int} (h : 0 ≤ i ∧ i ≤ l.length) : jg l i = some (l.take i.toNat) := by unfold jg; rw [if_pos h]
theorem pL {l : List α} {i j : Int} (h : 0 ≤ i ∧ i ≤ j ∧ j ≤ l.length) : mu l i j = some ((l.take j.toNat).drop i.toNat) := by unfold mu; rw [if_pos h]
theorem bg {p : Prop} [Decidable p] (h : p) : dZ p = some () := by unfold dZ; rw [if_pos h]
theorem ea {k n : Nat} (h : k < n) (hn : n ≤ 9223372036854775807) : IntKind.i64.wrap ((k : Int) + 1) = ((k + 1 : Nat) : Int) := by rw [eK (by omega) (by omega)]; omega
def qF (z : α ⊕ β) (F : α → Option β) : Option β := match z with | .inl v => F v | .inr a => some a
@[simp] theorem jr (v : α) (F : α → Option β) : qF (.inl v) F = F v := rfl
@[simp] theorem zh (a : β) (F : α → Option β) : qF (.inr a) F = some a := rfl
theorem ep {p : Prop} [Decidable p] {u : Unit} (h : dZ p = some u) : p := by
 unfold dZ at h; split at h
 · assumption
 · cases h
theorem ox {l : List α} {i : Int} {x : α} (h : idx l i = some x) : ∃ j : Nat, i = (j : Int) ∧ l[j]? = some x := by
 unfold idx at h; split at h
 · exact ⟨i.toNat, by omega, h⟩
 · cases h
theorem sZ {l l' : List α} {i : Int} (h : fY l i = some l') : ∃ j : Nat, i = (j : Int) ∧ j ≤ l.length ∧ l' = l.drop j := by
 unfold fY at h; split at h
 · cases h; exact ⟨i.toNat, by omega, by omega, rfl⟩
 · cases h
theorem rD {l l' : List α} {i : Int} (h : jg l i = some l') : ∃ j : Nat, i = (j : Int) ∧ j ≤ l.length ∧ l' = l.take j := by
 unfold jg at h; split at h
 · cases h; exact ⟨i.toNat, by omega, by omega, rfl⟩
 · cases h
theorem Cm {l l' : List α} {i j : Int} (h : mu l i j = some l') : ∃ p q : Nat, i = (p : Int) ∧ j = (q : Int) ∧ p ≤ q ∧ q ≤ l.length ∧ l' = (l.take q).drop p := by
 unfold mu at h; split at h
 · cases h; exact ⟨i.toNat, j.toNat, by omega, by omega, by omega, by omega, rfl⟩
 · cases h
theorem mC {b : Nat} {l l' r : List α} (h : app b l l' = some r) : (l.length + l'.length) * b ≤ 140737488355328 ∧ r = l ++ l' := by
 unfold app at h; split at h
 · cases h; exact ⟨by assumption, rfl⟩
 · cases h
theorem qz {x : Int} (h1 : 0 ≤ x) (h2 : x ≤ 18446744073709551615) : IntKind.u64.wrap x = x := by
 simp [IntKind.wrap, IntKind.bits, IntKind.signed]; omega
theorem Q1 (x : Int) : IntKind.u8.wrap x = x % 256 := by
 simp [IntKind.wrap, IntKind.bits, IntKind.signed]
theorem lz (x : Int) : ((u8 x).toNat : Int) = x % 256 := by
 unfold u8
 have h1 : (x % 256).toNat < 256 := by omega
 rw [UInt8.toNat_ofNat']
 omega
theorem KV (x : Int) : IntKind.u8.wrap x = ((u8 x).toNat : Int) := by rw [Q1, lz]
def qE (x y : Int) : Bool := decide (x = y)
def IW (x y : List UInt8) : Bool := decide (x = y)
section
variable {κ ν : Type}
def eL (eq : κ → κ → Bool) (l : List (κ × ν)) (k : κ) : Option ν := (l.find? fun p => eq k p.1).map (·.2)
def jP (eq : κ → κ → Bool) (l : List (κ × ν)) (k : κ) (v : ν) : List (κ × ν) := if (l.any fun p => eq k p.1) = true then l.map (fun p => if eq k p.1 = true then (k, v) else p) else l ++ [(k, v)]
def Mw (eq : κ → κ → Bool) (l : List (κ × ν)) (k : κ) : List (κ × ν) := l.filter fun p => !eq k p.1
def Dm (eq : κ → κ → Bool) (l : List (κ × ν)) (k : κ) (z : ν) : List (κ × ν) := if (l.any fun p => eq k p.1) = true then l else l ++ [(k, z)]
end
noncomputable def qC {ι γ : Type} (P : ι → Prop) (k : ι → Option γ) : Option γ :=
 @dite _ ((∃ i, P i) ∧ ∃ r, ∀ i, P i → k i = some r) (Classical.propDecidable _) (fun h => some (Classical.choose h.2)) fun _ => none
theorem wC {ι γ : Type} {P : ι → Prop} {k : ι → Option γ} {r : γ} (h : qC P k = some r) : (∃ i, P i) ∧ ∀ i, P i → k i = some r := by
 unfold qC at h
 split at h
 · rename_i hp
   have := Option.some.inj h
   exact ⟨hp.1, by rw [← this]; exact Classical.choose_spec hp.2⟩
 · cases h
theorem Bj {ι γ : Type} {P : ι → Prop} {k : ι → Option γ} {r : γ} (h0 : ∃ i, P i) (h : ∀ i, P i → k i = some r) : qC P k = some r := by
 have hp : (∃ i, P i) ∧ ∃ r, ∀ i, P i → k i = some r := ⟨h0, r, h⟩
 unfold qC
 rw [dif_pos hp]
 obtain ⟨i, hi⟩ := h0
 have := Classical.choose_spec hp.2 i hi
 rw [h i hi] at this
 exact this.symm
theorem E7 {ι γ γ' : Type} {P : ι → Prop} {φ : γ → γ'} (hφ : ∀ x y, φ x = φ y → x = y) {k : ι → Option γ} {k' : ι → Option γ'} (hk : ∀ i, k' i = (k i).map φ) : qC P k' = (qC P k).map φ := by
 by_cases h : (∃ i, P i) ∧ ∃ r, ∀ i, P i → k i = some r
 · obtain ⟨h0, r, h1⟩ := h
   rw [Bj h0 h1, Bj (r := φ r) h0 fun i hi => by rw [hk, h1 i hi]; rfl]; rfl
 · have e : qC P k = none := by unfold qC; rw [dif_neg h]
   rw [e]
   cases h' : qC P k' with
   | none => rfl
   | some r' =>
     obtain ⟨h0, h1⟩ := wC h'
     refine absurd ⟨h0, ?_⟩ h
     obtain ⟨i, hi⟩ := h0
     have h2 := h1 i hi
     rw [hk] at h2
     obtain ⟨r, hr, rfl⟩ := Option.map_eq_some_iff.1 h2
     refine ⟨r, fun j hj => ?_⟩
     have h3 := h1 j hj
     rw [hk] at h3
     obtain ⟨r2, hr2, e2⟩ := Option.map_eq_some_iff.1 h3
     rw [hr2, hφ _ _ e2]
def mR {κ σ α : Type} (f : κ → σ → Option (σ ⊕ α)) (e : σ → Option α) : List κ → σ → Option α
 | [], s => e s
 | x :: l, s => (f x s).bind fun y => match y with
   | .inl s' => mR f e l s'
   | .inr r => some r
theorem zu {κ σ α β : Type} {φ : α → β} {f : κ → σ → Option (σ ⊕ α)} {f' : κ → σ → Option (σ ⊕ β)} {e : σ → Option α} {e' : σ → Option β} (hf : ∀ x s, f' x s = (f x s).map (Sum.map id φ)) (he : ∀ s, e' s = (e s).map φ) : ∀ (l : List κ) (s : σ), mR f' e' l s = (mR f e l s).map φ
 | [], s => he s
 | x :: l, s => by
   simp only [mR, hf]
   cases f x s with
   | none => rfl
   | some y =>
     cases y with
     | inl s' => exact zu hf he l s'
     | inr r => rfl
end G
end Go.Proofs.YtekpafdhgkocaaaGreat
