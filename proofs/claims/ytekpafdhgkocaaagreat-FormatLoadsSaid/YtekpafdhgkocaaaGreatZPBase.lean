/- Part of what the laws need: plain words, the walker and its laws, the program's functions. -/
import Derived.Test.YtekpafdhgkocaaaGreatZPure
namespace Go.Proofs.YtekpafdhgkocaaaGreat
namespace G
theorem bn {α : Type} {l : List α} {k : Nat} (d : α) (h : k < l.length) : idx l (k : Int) = some (l.getD k d) := by rw [dh h]; simp [h]
theorem pB {α : Type} {l : List α} {i : Int} {k : Nat} (d : α) (hi : i = (k : Int)) (h : k < l.length) : idx l i = some (l.getD k d) := by subst hi; exact bn d h
theorem jM {α : Type} {l : List α} {i : Int} {k : Nat} (hi : i = (k : Int)) (h : k < l.length) : ∃ x, idx l i = some x := ⟨_, JO hi h⟩
theorem D3 {α : Type} (x : Option α) : (x.bind fun y => some y) = x := by cases x <;> rfl
theorem ij {σ α γ : Type} {f : σ → Option (σ ⊕ α)} (l : List γ) (bad : γ → Bool) (st : Nat → σ) (ex : Nat → α) (fin : α)
 (hstep : ∀ k (h : k < l.length), bad l[k] = false → f (st k) = some (.inl (st (k + 1))))
 (hbad : ∀ k (h : k < l.length), bad l[k] = true → f (st k) = some (.inr (ex k)))
 (hend : f (st l.length) = some (.inr fin)) {s : σ} (hs : s = st 0) :
 ((∀ x ∈ l, bad x = false) ∧ Iter f s = some fin) ∨ ∃ k, ∃ h : k < l.length, bad l[k] = true ∧ (∀ j (hj : j < k), bad (l[j]'(by omega)) = false) ∧ Iter f s = some (ex k) := by
 by_cases hx : l.findIdx bad < l.length
 · refine .inr ⟨_, hx, List.findIdx_getElem, fun j hj => by simpa using List.not_of_lt_findIdx hj, ?_⟩
   exact bA _ st _ (fun k hk => hstep k (by omega) (by simpa using List.not_of_lt_findIdx hk)) (hbad _ hx List.findIdx_getElem) hs
 · have hall : ∀ x ∈ l, bad x = false := by
    rw [List.findIdx_lt_length] at hx
    intro x hm
    cases e : bad x with
    | false => rfl
    | true => exact absurd ⟨x, hm, e⟩ hx
   exact .inl ⟨hall, bA l.length st fin (fun k hk => hstep k hk (hall _ (List.getElem_mem hk))) hend hs⟩
theorem yi {k : Nat} (h : k ≤ 9223372036854775807) : IntKind.i64.wrap (k : Int) = (k : Int) := eK (by omega) (by omega)
theorem Mx {x : Int} {k : Nat} (hx : x = (k : Int)) (h : k ≤ 9223372036854775807) : IntKind.i64.wrap (bN .u64 (IntKind.u64.wrap (IntKind.i64.wrap x)) 1) = ((k / 2 : Nat) : Int) := by
 subst hx
 rw [yi h, show IntKind.u64.wrap (k : Int) = (k : Int) by simp only [IntKind.wrap, IntKind.bits, IntKind.signed]; simp; omega]
 have : bN .u64 (k : Int) 1 = ((k / 2 : Nat) : Int) := by
  unfold bN
  rw [show (2 : Int) ^ (min (1 : Int).toNat IntKind.u64.bits) = 2 from rfl, Int.fdiv_eq_ediv_of_nonneg _ (by omega)]
  omega
 rw [this, yi (by omega)]
def MS {σ α : Type} (f : σ → Option (σ ⊕ α)) : Nat → σ → Option α
 | 0, _ => none
 | n + 1, s => match f s with
   | none => none
   | some (.inl s') => MS f n s'
   | some (.inr a) => some a
theorem rT {σ α : Type} {f : σ → Option (σ ⊕ α)} {r : α} : ∀ (n : Nat) {s : σ}, MS f n s = some r → Iter f s = some r
 | 0, s, h => by cases h
 | n + 1, s, h => by
   unfold MS at h
   split at h
   · cases h
   · rename_i s' hs; rw [dK hs]; exact rT n h
   · rename_i a ha; rw [cH ha]; exact h
end G
end Go.Proofs.YtekpafdhgkocaaaGreat
