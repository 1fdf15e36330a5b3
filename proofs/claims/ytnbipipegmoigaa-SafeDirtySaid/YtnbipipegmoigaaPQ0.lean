/- Lists with cells exchanged within a range. No program in sight. -/
import Derived.Test.YtnbipipegmoigaaPBase
namespace Go.Proofs.Ytnbipipegmoigaa
open G
section
variable {T : Type} [Inhabited T]
/-- Cell i. -/
def cz (l : List T) (i : Int) : T := l.getD i.toNat default
/-- Cells i and j exchanged. -/
def sz (l : List T) (i j : Int) : List T := (l.set i.toNat (cz l j)).set j.toNat (cz l i)
theorem idc {l : List T} {i : Int} (h0 : 0 ≤ i) (h : i < (l.length : Int)) : idx l i = some (cz l i) := by
  unfold idx cz
  rw [if_pos h0, List.getD_eq_getElem?_getD, List.getElem?_eq_getElem (by omega)]; rfl
theorem sz_len (l : List T) (i j : Int) : (sz l i j).length = l.length := by simp [sz]
theorem cz_set {l : List T} {m k : Int} {v : T} (hm : 0 ≤ m ∧ m < (l.length : Int)) (hk : 0 ≤ k) : cz (l.set m.toNat v) k = if k = m then v else cz l k := by
  unfold cz
  rw [List.getD_eq_getElem?_getD, List.getElem?_set]
  by_cases h : k = m
  · subst h; rw [if_pos rfl, if_pos rfl, if_pos (by omega)]; rfl
  · rw [if_neg (by omega), if_neg h]; simp
theorem cz_sz {l : List T} {i j : Int} (hi : 0 ≤ i ∧ i < (l.length : Int)) (hj : 0 ≤ j ∧ j < (l.length : Int)) {k : Int} (hk : 0 ≤ k) : cz (sz l i j) k = if k = i then cz l j else if k = j then cz l i else cz l k := by
  unfold sz
  rw [cz_set (by simpa using hj) hk, cz_set hi hk]
  by_cases h1 : k = j
  · by_cases h2 : k = i
    · rw [if_pos h1, if_pos h2, ← h1, ← h2]
    · rw [if_pos h1, if_neg h2, if_pos h1]
  · rw [if_neg h1]
    by_cases h2 : k = i
    · rw [if_pos h2, if_pos h2]
    · rw [if_neg h2, if_neg h2, if_neg h1]
theorem cz_get {l : List T} {i : Nat} (h : i < l.length) : cz l (i : Int) = l[i] := by
  unfold cz; rw [Int.toNat_natCast, List.getD_eq_getElem?_getD, List.getElem?_eq_getElem h]; rfl
theorem sz_perm {l : List T} {i j : Int} (hi : 0 ≤ i ∧ i < (l.length : Int)) (hj : 0 ≤ j ∧ j < (l.length : Int)) : (sz l i j).Perm l := by
  unfold sz
  have e1 : cz l i = l[i.toNat]'(by omega) := by rw [← cz_get (by omega), Int.toNat_of_nonneg hi.1]
  have e2 : cz l j = l[j.toNat]'(by omega) := by rw [← cz_get (by omega), Int.toNat_of_nonneg hj.1]
  rw [e1, e2]
  exact List.set_set_perm (by omega) (by omega)
/-- Cells within [a, b) were exchanged. -/
inductive Sws (a b : Int) (l : List T) : List T → Prop
  | refl : Sws a b l l
  | step {l' : List T} {i j : Int} : Sws a b l l' → (a ≤ i ∧ i < b) → (a ≤ j ∧ j < b) → (0 ≤ i ∧ i < (l'.length : Int)) → (0 ≤ j ∧ j < (l'.length : Int)) → Sws a b l (sz l' i j)
variable {a b : Int} {l l' l'' : List T}
theorem Sws.len (h : Sws a b l l') : l'.length = l.length := by
  induction h with
  | refl => rfl
  | step _ _ _ _ _ ih => rw [sz_len, ih]
theorem Sws.trans (h : Sws a b l l') (k : Sws a b l' l'') : Sws a b l l'' := by
  induction k with
  | refl => exact h
  | step _ h1 h2 h3 h4 ih => exact ih.step h1 h2 h3 h4
theorem Sws.mono (h : Sws a b l l') {a' b' : Int} (ha : a' ≤ a) (hb : b ≤ b') : Sws a' b' l l' := by
  induction h with
  | refl => exact .refl
  | step _ h1 h2 h3 h4 ih => exact ih.step ⟨by omega, by omega⟩ ⟨by omega, by omega⟩ h3 h4
theorem Sws.one (i j : Int) (h1 : a ≤ i ∧ i < b) (h2 : a ≤ j ∧ j < b) (ha : 0 ≤ a) (hb : b ≤ (l.length : Int)) : Sws a b l (sz l i j) := Sws.refl.step h1 h2 ⟨by omega, by omega⟩ ⟨by omega, by omega⟩
theorem Sws.perm (h : Sws a b l l') : l'.Perm l := by
  induction h with
  | refl => exact .refl _
  | step _ _ _ h3 h4 ih => exact (sz_perm h3 h4).trans ih
theorem Sws.out (h : Sws a b l l') {k : Int} (hk : 0 ≤ k) (ho : k < a ∨ b ≤ k) : cz l' k = cz l k := by
  induction h with
  | refl => rfl
  | step _ h1 h2 h3 h4 ih => rw [cz_sz h3 h4 hk, if_neg (by omega), if_neg (by omega), ih]
theorem Sws.all (h : Sws a b l l') (P : T → Prop) (hP : ∀ k, 0 ≤ k → a ≤ k → k < b → P (cz l k)) : ∀ k, 0 ≤ k → a ≤ k → k < b → P (cz l' k) := by
  induction h with
  | refl => exact hP
  | step _ h1 h2 h3 h4 ih =>
    intro k hk h5 h6
    rw [cz_sz h3 h4 hk]
    split
    · exact ih _ h4.1 h2.1 h2.2
    · split
      · exact ih _ h3.1 h1.1 h1.2
      · exact ih _ hk h5 h6
end
end Go.Proofs.Ytnbipipegmoigaa
