/- Part of what the laws need: plain words, the walker and its laws, the program's functions. -/
import Derived.Lib.Index
import GoSem.Core.View
namespace Go.Proofs.Ythhmandpjlggcaa
namespace G
variable {α β σ : Type}
def I64 (x : Int) : Prop := -9223372036854775808 ≤ x ∧ x ≤ 9223372036854775807
def Len {α : Type} (l : List α) : Prop := l.length ≤ 9223372036854775807
def idx (l : List α) (i : Int) : Option α := if 0 ≤ i then l[i.toNat]? else none
def slcFrom (l : List α) (i : Int) : Option (List α) := if 0 ≤ i ∧ i ≤ l.length then some (l.drop i.toNat) else none
def slcTo (l : List α) (j : Int) : Option (List α) := if 0 ≤ j ∧ j ≤ l.length then some (l.take j.toNat) else none
def slcMid (l : List α) (i j : Int) : Option (List α) := if 0 ≤ i ∧ i ≤ j ∧ j ≤ l.length then some ((l.take j.toNat).drop i.toNat) else none
def app (b : Nat) (l l' : List α) : Option (List α) := if (l.length + l'.length) * b ≤ 140737488355328 then some (l ++ l') else none
def chk (p : Prop) [Decidable p] : Option Unit := if p then some () else none
def u8 (x : Int) : UInt8 := UInt8.ofNat (x % 256).toNat
def imin (a b : Int) : Int := if b < a then b else a
def imax (a b : Int) : Int := if a < b then b else a
def band (k : IntKind) (a b : Int) : Int := k.wrap ((BitVec.ofInt k.bits a &&& BitVec.ofInt k.bits b).toNat : Nat)
def bor (k : IntKind) (a b : Int) : Int := k.wrap ((BitVec.ofInt k.bits a ||| BitVec.ofInt k.bits b).toNat : Nat)
def bxor (k : IntKind) (a b : Int) : Int := k.wrap ((BitVec.ofInt k.bits a ^^^ BitVec.ofInt k.bits b).toNat : Nat)
def bandNot (k : IntKind) (a b : Int) : Int := k.wrap ((BitVec.ofInt k.bits a &&& ~~~(BitVec.ofInt k.bits b)).toNat : Nat)
def ishl (k : IntKind) (x y : Int) : Int := k.wrap (x * 2 ^ (min y.toNat k.bits))
def ishr (k : IntKind) (x y : Int) : Int := x.fdiv (2 ^ (min y.toNat k.bits))
def hashEq (f g : Nat → UInt8) : Bool := (List.range 32).all fun i => f i == g i
def setArr {α : Type} (f : Nat → α) (i : Int) (v : α) : Nat → α := fun k => if (k : Int) = i then v else f k
def getArr {α : Type} (f : Nat → α) (i : Int) : α := f i.toNat
def mvArr {α : Type} (f : Nat → α) (i j n : Nat) : Nat → α := fun p => if i ≤ p ∧ p < i + n then f (p - i + j) else f p
def cpy {α : Type} (l : List α) (o : Nat) (x : List α) : List α := l.take o ++ (x.take (l.length - o) ++ l.drop (o + x.length))
theorem cpy_length {α : Type} {l x : List α} {o : Nat} (h : o ≤ l.length) : (cpy l o x).length = l.length := by
  unfold cpy; simp only [List.length_append, List.length_take, List.length_drop]; omega
def LoopN (f : σ → Option (σ ⊕ α)) : Nat → σ → α → Prop
  | 0, _, _ => False
  | k + 1, s, r => ∃ x, f s = some x ∧ match x with | .inl s' => LoopN f k s' r | .inr a => a = r
theorem LoopN.det {f : σ → Option (σ ⊕ α)} : ∀ {k j : Nat} {s : σ} {r r' : α}, LoopN f k s r → LoopN f j s r' → r = r'
  | 0, _, _, _, _, h, _ => h.elim
  | _ + 1, 0, _, _, _, _, h => h.elim
  | k + 1, j + 1, s, r, r', ⟨x, hx, h⟩, ⟨y, hy, h'⟩ => by
    rw [hx] at hy; cases hy
    cases x with
    | inl s' => exact LoopN.det h h'
    | inr a => exact h.symm.trans h'
open Classical in
noncomputable def Iter (f : σ → Option (σ ⊕ α)) (s : σ) : Option α := if h : ∃ r k, LoopN f k s r then some h.choose else none
theorem Iter_iff {f : σ → Option (σ ⊕ α)} {s : σ} {r : α} : Iter f s = some r ↔ ∃ k, LoopN f k s r := by
  unfold Iter
  constructor
  · intro h
    split at h
    · rename_i hx
      cases h; exact hx.choose_spec
    · cases h
  · intro ⟨k, hk⟩
    have hx : ∃ r k, LoopN f k s r := ⟨r, k, hk⟩
    rw [dif_pos hx]
    obtain ⟨j, hj⟩ := hx.choose_spec
    rw [LoopN.det hj hk]
def LoopNext (f : σ → Option (σ ⊕ α)) (k : Nat) (r : α) : σ ⊕ α → Prop
  | .inl s' => ∃ k', k' < k ∧ LoopN f k' s' r
  | .inr a => a = r
theorem Iter_total {f : σ → Option (σ ⊕ α)} (I : Nat → σ → Prop) (Q : α → Prop) (round : ∀ k s, I k s → (∃ k' s', f s = some (.inl s') ∧ k' < k ∧ I k' s') ∨ ∃ a, f s = some (.inr a) ∧ Q a) : ∀ (k : Nat) (s : σ), I k s → ∃ r, Iter f s = some r ∧ Q r := by
  intro k
  induction k using Nat.strongRecOn with
  | _ k ih =>
    intro s hI
    rcases round k s hI with ⟨k', s', hf, hlt, hI'⟩ | ⟨a, hf, hq⟩
    · obtain ⟨r, hr, hq⟩ := ih k' hlt s' hI'
      obtain ⟨j, hj⟩ := Iter_iff.1 hr
      exact ⟨r, Iter_iff.2 ⟨j + 1, _, hf, hj⟩, hq⟩
    · exact ⟨a, Iter_iff.2 ⟨1, _, hf, rfl⟩, hq⟩
theorem Iter_inl {f : σ → Option (σ ⊕ α)} {s s' : σ} (h : f s = some (.inl s')) : Iter f s = Iter f s' := by
  have key : ∀ r, Iter f s = some r ↔ Iter f s' = some r := fun r => by
    rw [Iter_iff, Iter_iff]
    constructor
    · rintro ⟨k, hk⟩
      cases k with
      | zero => exact hk.elim
      | succ k => obtain ⟨x, hx, hk⟩ := hk; rw [h] at hx; cases hx; exact ⟨k, hk⟩
    · rintro ⟨k, hk⟩; exact ⟨k + 1, _, h, hk⟩
  cases e : Iter f s' with
  | some r => exact (key r).2 e
  | none =>
    cases e' : Iter f s with
    | none => rfl
    | some r => rw [(key r).1 e'] at e; cases e
theorem Iter_inr {f : σ → Option (σ ⊕ α)} {s : σ} {a : α} (h : f s = some (.inr a)) : Iter f s = some a := Iter_iff.2 ⟨1, _, h, rfl⟩
open Classical in
noncomputable def agree {γ : Type} (a b : Option γ) : Option γ := if a = b then a else none
def Fix.it {α β : Type} (F : (α → Option β) → α → Option β) : Nat → α → Option β
  | 0 => fun _ => none
  | k + 1 => F (Fix.it F k)
open Classical in
noncomputable def Fix {α β : Type} (F : (α → Option β) → α → Option β) (a : α) : Option β := if h : ∃ r n, ∀ m, n ≤ m → Fix.it F m a = some r then some h.choose else none
theorem Fix_some {α β : Type} {F : (α → Option β) → α → Option β} {a : α} {r : β} (h : Fix F a = some r) : ∃ k, Fix.it F k a = some r := by
  unfold Fix at h
  split at h
  · rename_i hx
    cases h
    obtain ⟨n, hn⟩ := hx.choose_spec
    exact ⟨n, hn n (Nat.le_refl _)⟩
  · cases h
theorem Fix_total {α β : Type} {F : (α → Option β) → α → Option β} (I : Nat → α → Prop) (Q : α → β → Prop)
    (step : ∀ k x, I k x → ∀ f g : α → Option β, (∀ j y, j < k → I j y → ∃ r, f y = some r ∧ g y = some r ∧ Q y r) → ∃ r, F f x = some r ∧ F g x = some r ∧ Q x r) {k : Nat} {x : α} (hI : I k x) : ∃ r, Fix F x = some r ∧ Q x r := by
  have key : ∀ k n n' x, k < n → k < n' → I k x → ∃ r, Fix.it F n x = some r ∧ Fix.it F n' x = some r ∧ Q x r := by
    intro k
    induction k using Nat.strongRecOn with
    | _ k ih =>
      intro n n' x hn hn' hI
      match n, n', hn, hn' with
      | n + 1, n' + 1, hn, hn' => exact step k x hI _ _ fun j y hj hy => ih j hj n n' y (by omega) (by omega) hy
  obtain ⟨r, h1, _, hq⟩ := key k (k + 1) (k + 1) x (by omega) (by omega) hI
  have hx : ∃ r n, ∀ m, n ≤ m → Fix.it F m x = some r := ⟨r, k + 1, fun m hm => by
    obtain ⟨r', h2, h3, _⟩ := key k (k + 1) m x (by omega) (by omega) hI
    rw [h1] at h2; cases h2; exact h3⟩
  refine ⟨hx.choose, by unfold Fix; rw [dif_pos hx], ?_⟩
  obtain ⟨n, hn⟩ := hx.choose_spec
  obtain ⟨r', h2, h3, hq'⟩ := key k (k + 1 + n) (k + 1 + n) x (by omega) (by omega) hI
  rw [hn _ (by omega)] at h2; cases h2; exact hq'
theorem w64 {x : Int} (h1 : -9223372036854775808 ≤ x) (h2 : x ≤ 9223372036854775807) : IntKind.i64.wrap x = x := by
  simp only [IntKind.wrap, IntKind.bits, IntKind.signed]; simp; split <;> omega
theorem Iter_from {f : σ → Option (σ ⊕ α)} (n : Nat) (st : Nat → σ) (r : α) (hstep : ∀ k, k < n → f (st k) = some (.inl (st (k + 1)))) (hend : f (st n) = some (.inr r)) : ∀ j, j ≤ n → Iter f (st (n - j)) = some r := by
  intro j
  induction j with
  | zero => intro _; exact Iter_inr hend
  | succ j ih =>
    intro hj
    rw [Iter_inl (hstep (n - (j + 1)) (by omega)), show n - (j + 1) + 1 = n - j by omega]
    exact ih (by omega)
theorem Iter_count {f : σ → Option (σ ⊕ α)} (n : Nat) (st : Nat → σ) (r : α) (hstep : ∀ k, k < n → f (st k) = some (.inl (st (k + 1)))) (hend : f (st n) = some (.inr r)) {s : σ} (hs : s = st 0) : Iter f s = some r := by
  subst hs
  have := Iter_from n st r hstep hend n (Nat.le_refl _)
  rwa [Nat.sub_self] at this
theorem idx_of {l : List α} {k : Nat} (h : k < l.length) : idx l (k : Int) = some l[k] := by
  unfold idx; rw [if_pos (by omega)]; simp [h]
theorem idx_of' {l : List α} {i : Int} {k : Nat} (hi : i = (k : Int)) (h : k < l.length) : idx l i = some l[k] := by subst hi; exact idx_of h
theorem app_of {b : Nat} {l l' : List α} (h : (l.length + l'.length) * b ≤ 140737488355328) : app b l l' = some (l ++ l') := by unfold app; rw [if_pos h]
theorem inc64 {k n : Nat} (h : k < n) (hn : n ≤ 9223372036854775807) : IntKind.i64.wrap ((k : Int) + 1) = ((k + 1 : Nat) : Int) := by rw [w64 (by omega) (by omega)]; omega
def joinK (z : α ⊕ β) (F : α → Option β) : Option β := match z with | .inl v => F v | .inr a => some a
@[simp] theorem joinK_inl (v : α) (F : α → Option β) : joinK (.inl v) F = F v := rfl
@[simp] theorem joinK_inr (a : β) (F : α → Option β) : joinK (.inr a) F = some a := rfl
theorem chk_some {p : Prop} [Decidable p] {u : Unit} (h : chk p = some u) : p := by
  unfold chk at h; split at h
  · assumption
  · cases h
theorem idx_some {l : List α} {i : Int} {x : α} (h : idx l i = some x) : ∃ j : Nat, i = (j : Int) ∧ l[j]? = some x := by
  unfold idx at h; split at h
  · exact ⟨i.toNat, by omega, h⟩
  · cases h
theorem slcFrom_some {l l' : List α} {i : Int} (h : slcFrom l i = some l') : ∃ j : Nat, i = (j : Int) ∧ j ≤ l.length ∧ l' = l.drop j := by
  unfold slcFrom at h; split at h
  · cases h; exact ⟨i.toNat, by omega, by omega, rfl⟩
  · cases h
theorem slcTo_some {l l' : List α} {i : Int} (h : slcTo l i = some l') : ∃ j : Nat, i = (j : Int) ∧ j ≤ l.length ∧ l' = l.take j := by
  unfold slcTo at h; split at h
  · cases h; exact ⟨i.toNat, by omega, by omega, rfl⟩
  · cases h
theorem slcMid_some {l l' : List α} {i j : Int} (h : slcMid l i j = some l') : ∃ p q : Nat, i = (p : Int) ∧ j = (q : Int) ∧ p ≤ q ∧ q ≤ l.length ∧ l' = (l.take q).drop p := by
  unfold slcMid at h; split at h
  · cases h; exact ⟨i.toNat, j.toNat, by omega, by omega, by omega, by omega, rfl⟩
  · cases h
theorem app_some {b : Nat} {l l' r : List α} (h : app b l l' = some r) : (l.length + l'.length) * b ≤ 140737488355328 ∧ r = l ++ l' := by
  unfold app at h; split at h
  · cases h; exact ⟨by assumption, rfl⟩
  · cases h
theorem wu8 (x : Int) : IntKind.u8.wrap x = x % 256 := by
  simp [IntKind.wrap, IntKind.bits, IntKind.signed]
theorem u8_toNat (x : Int) : ((u8 x).toNat : Int) = x % 256 := by
  unfold u8
  have h1 : (x % 256).toNat < 256 := by omega
  rw [UInt8.toNat_ofNat']
  omega
theorem u8_wrap (x : Int) : IntKind.u8.wrap x = ((u8 x).toNat : Int) := by rw [wu8, u8_toNat]
def intEq (x y : Int) : Bool := decide (x = y)
def strEq (x y : List UInt8) : Bool := decide (x = y)
section
variable {κ ν : Type}
def mget (eq : κ → κ → Bool) (l : List (κ × ν)) (k : κ) : Option ν := (l.find? fun p => eq k p.1).map (·.2)
def mput (eq : κ → κ → Bool) (l : List (κ × ν)) (k : κ) (v : ν) : List (κ × ν) := if (l.any fun p => eq k p.1) = true then l.map (fun p => if eq k p.1 = true then (k, v) else p) else l ++ [(k, v)]
def mdel (eq : κ → κ → Bool) (l : List (κ × ν)) (k : κ) : List (κ × ν) := l.filter fun p => !eq k p.1
def mens (eq : κ → κ → Bool) (l : List (κ × ν)) (k : κ) (z : ν) : List (κ × ν) := if (l.any fun p => eq k p.1) = true then l else l ++ [(k, z)]
end
end G
end Go.Proofs.Ythhmandpjlggcaa
