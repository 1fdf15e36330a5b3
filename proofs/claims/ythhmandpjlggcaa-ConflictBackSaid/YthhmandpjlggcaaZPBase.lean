/- Part of what the laws need: plain words, the walker and its laws, the program's functions. -/
import Derived.Test.YthhmandpjlggcaaZPure
namespace Go.Proofs.Ythhmandpjlggcaa
namespace G
theorem bind_id {α : Type} (x : Option α) : (x.bind fun y => some y) = x := by cases x <;> rfl
theorem Iter_scan {σ α γ : Type} {f : σ → Option (σ ⊕ α)} (l : List γ) (bad : γ → Bool) (st : Nat → σ) (ex : Nat → α) (fin : α)
    (hstep : ∀ k (h : k < l.length), bad l[k] = false → f (st k) = some (.inl (st (k + 1))))
    (hbad : ∀ k (h : k < l.length), bad l[k] = true → f (st k) = some (.inr (ex k)))
    (hend : f (st l.length) = some (.inr fin)) {s : σ} (hs : s = st 0) :
    ((∀ x ∈ l, bad x = false) ∧ Iter f s = some fin) ∨ ∃ k, ∃ h : k < l.length, bad l[k] = true ∧ (∀ j (hj : j < k), bad (l[j]'(by omega)) = false) ∧ Iter f s = some (ex k) := by
  by_cases hx : l.findIdx bad < l.length
  · refine .inr ⟨_, hx, List.findIdx_getElem, fun j hj => by simpa using List.not_of_lt_findIdx hj, ?_⟩
    exact Iter_count _ st _ (fun k hk => hstep k (by omega) (by simpa using List.not_of_lt_findIdx hk)) (hbad _ hx List.findIdx_getElem) hs
  · have hall : ∀ x ∈ l, bad x = false := by
      rw [List.findIdx_lt_length] at hx
      intro x hm
      cases e : bad x with
      | false => rfl
      | true => exact absurd ⟨x, hm, e⟩ hx
    exact .inl ⟨hall, Iter_count l.length st fin (fun k hk => hstep k hk (hall _ (List.getElem_mem hk))) hend hs⟩
theorem wrap_nat {k : Nat} (h : k ≤ 9223372036854775807) : IntKind.i64.wrap (k : Int) = (k : Int) := w64 (by omega) (by omega)
theorem mid_of {x : Int} {k : Nat} (hx : x = (k : Int)) (h : k ≤ 9223372036854775807) : IntKind.i64.wrap (ishr .u64 (IntKind.u64.wrap (IntKind.i64.wrap x)) 1) = ((k / 2 : Nat) : Int) := by
  subst hx
  rw [wrap_nat h, show IntKind.u64.wrap (k : Int) = (k : Int) by simp only [IntKind.wrap, IntKind.bits, IntKind.signed]; simp; omega]
  have : ishr .u64 (k : Int) 1 = ((k / 2 : Nat) : Int) := by
    unfold ishr
    rw [show (2 : Int) ^ (min (1 : Int).toNat IntKind.u64.bits) = 2 from rfl, Int.fdiv_eq_ediv_of_nonneg _ (by omega)]
    omega
  rw [this, wrap_nat (by omega)]
end G
end Go.Proofs.Ythhmandpjlggcaa
