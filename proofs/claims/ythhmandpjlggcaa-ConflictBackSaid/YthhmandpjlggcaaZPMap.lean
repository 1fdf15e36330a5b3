/- Part of what the laws need: plain words, the walker and its laws, the program's functions. -/
import Derived.Test.YthhmandpjlggcaaZPure
namespace Go.Proofs.Ythhmandpjlggcaa
namespace G
section
variable {κ ν : Type} {eq : κ → κ → Bool} {l : List (κ × ν)} {k x : κ} {v : ν}
def EqB (eq : κ → κ → Bool) : Prop := ∀ x y, eq x y = true ↔ x = y
theorem eqb_int : EqB intEq := fun x y => by simp [intEq]
theorem EqB.refl (h : EqB eq) (x : κ) : eq x x = true := (h x x).2 rfl
theorem EqB.ne (h : EqB eq) {x y : κ} (hn : x ≠ y) : eq x y = false := by
  cases e : eq x y with
  | false => rfl
  | true => exact absurd ((h x y).1 e) hn
theorem mget_cons (p : κ × ν) : mget eq (p :: l) x = if eq x p.1 = true then some p.2 else mget eq l x := by
  unfold mget
  rw [List.find?_cons]
  cases eq x p.1 <;> rfl
theorem mget_app (r : List (κ × ν)) : mget eq (l ++ r) x = (mget eq l x).or (mget eq r x) := by
  unfold mget
  rw [List.find?_append]
  cases l.find? fun p => eq x p.1 <;> rfl
theorem mget_none : mget eq l x = none ↔ (l.any fun p => eq x p.1) = false := by
  unfold mget
  rw [Option.map_eq_none_iff, List.find?_eq_none, List.any_eq_false]
theorem mget_some (h : EqB eq) (hv : mget eq l x = some v) : (x, v) ∈ l := by
  unfold mget at hv
  obtain ⟨p, hp, rfl⟩ := Option.map_eq_some_iff.1 hv
  have h1 := List.find?_some hp
  have h2 := List.mem_of_find?_eq_some hp
  obtain rfl := (h _ _).1 h1
  exact h2
theorem mget_put (h : EqB eq) : mget eq (mput eq l k v) x = if eq x k = true then some v else mget eq l x := by
  unfold mput
  split
  · rename_i ha
    induction l with
    | nil => simp at ha
    | cons p l ih =>
      rw [List.map_cons, mget_cons, mget_cons]
      by_cases hp : eq k p.1 = true
      · obtain rfl := (h _ _).1 hp
        rw [if_pos hp]
        by_cases hx : eq x p.1 = true
        · rw [if_pos hx, if_pos hx]
        · rw [if_neg hx, if_neg hx, if_neg hx]
          clear ih ha
          induction l with
          | nil => rfl
          | cons q l ih =>
            rw [List.map_cons, mget_cons, mget_cons]
            by_cases hq : eq p.1 q.1 = true
            · obtain e := (h _ _).1 hq
              rw [if_pos hq, if_neg hx, if_neg (by rw [← e]; exact hx), ih]
            · rw [if_neg hq, ih]
      · rw [if_neg hp]
        rw [Bool.not_eq_true] at hp
        rw [List.any_cons, hp, Bool.false_or] at ha
        rw [ih ha]
        by_cases hx : eq x p.1 = true
        · rw [if_pos hx]
          by_cases hk : eq x k = true
          · have e1 := (h _ _).1 hx
            have e2 := (h _ _).1 hk
            rw [← e2, e1, h.refl] at hp; cases hp
          · rw [if_neg hk]; rw [if_pos hx]
        · rw [if_neg hx, if_neg hx]
  · rename_i ha
    rw [Bool.not_eq_true] at ha
    rw [mget_app]
    by_cases hx : eq x k = true
    · obtain rfl := (h _ _).1 hx
      rw [if_pos hx, mget_none.2 ha, mget_cons, if_pos (h.refl _)]; rfl
    · rw [if_neg hx, mget_cons, if_neg hx]
      cases mget eq l x <;> rfl
theorem mput_new (hn : mget eq l k = none) : mput eq l k v = l ++ [(k, v)] := by
  unfold mput
  rw [mget_none.1 hn]; rfl
end
end G
end Go.Proofs.Ythhmandpjlggcaa
