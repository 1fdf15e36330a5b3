/- SafeDirty is true. No program in sight. -/
import Derived.Test.YtnbipipegmoigaaPD2
namespace Go.Proofs.Ytnbipipegmoigaa
open G
namespace G
theorem EqX_self (x : List G.Extent) (hn : x.length ≤ 1000) : G.slices_Equal_api_Extent_api_Extent x x = some true := by
  unfold G.slices_Equal_api_Extent_api_Extent
  rw [if_neg (by simp)]
  refine Iter_count (f := G.slices_Equal_api_Extent_api_Extent_l1 x x) x.length (fun k => (k : Int)) _ (fun k hk => ?_) ?_ rfl
  · unfold G.slices_Equal_api_Extent_api_Extent_l1
    rw [if_pos (by omega), idx_of hk]
    simp only [Option.bind_some]
    rw [if_neg (by simp), inc64 hk (by omega)]
  · unfold G.slices_Equal_api_Extent_api_Extent_l1
    rw [if_neg (by omega)]
section
variable {l : List G.Command}
theorem Dirty_none {i : Int} (h : ∀ k : Nat, ∀ hk : k < l.length, i = (k : Int) → l[k].kind ≠ 1) : G.safe_Dirty l i = some [] ∧ G.graftref16_Dirty l i = some [] := by
  unfold G.safe_Dirty G.graftref16_Dirty
  by_cases h1 : i < 0
  · rw [if_pos h1, if_pos h1]; exact ⟨rfl, rfl⟩
  · rw [if_neg h1, if_neg h1]
    by_cases h2 : i ≥ (l.length : Int)
    · rw [decide_eq_true h2, if_pos h2]; exact ⟨rfl, rfl⟩
    · rw [decide_eq_false h2, if_neg h2]
      have hi : i.toNat < l.length := by omega
      have hk := h i.toNat hi (by omega)
      rw [show idx l i = some l[i.toNat] from idx_of' (by omega) hi]
      simp only [Option.bind_some, src5, if_neg hk]
      rw [if_neg (by decide), if_pos trivial, if_pos (by simpa using hk)]
      exact ⟨rfl, rfl⟩
theorem Dirty2_of (h : Rt l) (hs : ∀ c ∈ l, tlen c ≤ 300) (i : Int) : ∃ D, G.safe_Dirty l i = some D ∧ G.graftref16_Dirty l i = some D ∧ D.length ≤ 300 := by
  by_cases hc : ∃ k : Nat, ∃ hk : k < l.length, i = (k : Int) ∧ l[k].kind = 1
  · obtain ⟨k, hk, rfl, hkd⟩ := hc
    have hsk := hs _ (List.getElem_mem hk)
    refine ⟨_, Dirty1_of h hk hkd hsk, refDirty_of h hk hkd hsk, ?_⟩
    have := dirt_len (l := l) k l[k].from_ l[k].len.toNat
    unfold tlen at hsk
    rw [if_pos hkd] at hsk
    omega
  · obtain ⟨h1, h2⟩ := Dirty_none (l := l) (i := i) fun k hk e hkd => hc ⟨k, hk, e, hkd⟩
    exact ⟨[], h1, h2, by simp⟩
theorem first_of (h : Rt l) (hs : ∀ c ∈ l, tlen c ≤ 300) : ∃ r, Iter (G.graftlaw16_SafeDirty_l1 l) ((l.length : Int), (l.length : Int) - 1) = some r ∧ IsFst l r := by
  have hn := h.len
  refine Iter_total (f := G.graftlaw16_SafeDirty_l1 l)
    (fun m s => ∃ j : Nat, s.2 = (j : Int) - 1 ∧ m = j ∧ j ≤ l.length ∧ ((∀ i, j ≤ i → i < l.length → drt l i = false) ∧ s.1 = (l.length : Int) ∨ ∃ k, j ≤ k ∧ k < l.length ∧ drt l k = true ∧ (∀ i, j ≤ i → i < k → drt l i = false) ∧ s.1 = (k : Int)))
    (fun r => IsFst l r) ?_ l.length _ ⟨l.length, rfl, rfl, Nat.le_refl _, .inl ⟨fun i h1 h2 => by omega, rfl⟩⟩
  rintro m ⟨f, k⟩ ⟨j, rfl, rfl, hj, hf⟩
  unfold G.graftlaw16_SafeDirty_l1
  simp only at hf ⊢
  by_cases h0 : (m : Int) - 1 ≥ 0
  · left
    have hm : m - 1 < l.length := by omega
    obtain ⟨D, e1, e2, _⟩ := Dirty2_of h hs ((m - 1 : Nat) : Int)
    obtain ⟨out, e3, e4⟩ := Dirty_of h hm (hs _ (List.getElem_mem hm))
    rw [e2] at e3
    cases e3
    rw [if_pos h0, show (m : Int) - 1 = ((m - 1 : Nat) : Int) by omega, e1]
    simp only [Option.bind_some]
    rw [w64 (by omega) (by omega)]
    by_cases hD : D = []
    · subst hD
      have hd : drt l (m - 1) = false := by
        refine Bool.eq_false_iff.2 fun hd => (e4.2 hd) rfl
      rw [if_neg (by simp)]
      refine ⟨m - 1, _, rfl, by omega, m - 1, rfl, rfl, by omega, ?_⟩
      rcases hf with ⟨q1, q2⟩ | ⟨k, q1, q2, q3, q4, q5⟩
      · refine .inl ⟨fun i i1 i2 => ?_, q2⟩
        by_cases e : i = m - 1
        · subst e; exact hd
        · exact q1 i (by omega) i2
      · refine .inr ⟨k, by omega, q2, q3, fun i i1 i2 => ?_, q5⟩
        by_cases e : i = m - 1
        · subst e; exact hd
        · exact q4 i (by omega) i2
    · rw [if_pos (by have := List.length_pos_iff.2 hD; omega)]
      exact ⟨m - 1, _, rfl, by omega, m - 1, rfl, rfl, by omega, .inr ⟨m - 1, Nat.le_refl _, hm, e4.1 hD, fun i i1 i2 => by omega, rfl⟩⟩
  · right
    rw [if_neg h0]
    have hm : m = 0 := by omega
    subst hm
    refine ⟨_, rfl, ?_⟩
    rcases hf with ⟨q1, q2⟩ | ⟨k, q1, q2, q3, q4, q5⟩
    · exact .inl ⟨fun i hi => q1 i (Nat.zero_le _) hi, q2⟩
    · exact .inr ⟨k, q2, q3, fun i hi => q4 i (Nat.zero_le _) hi, q5⟩
end
end G
theorem G.graftlaw16_SafeDirty_true (a0 : List G.Command) (a1 : Int) (h0 : Len a0 ∧ ∀ y ∈ a0, G.Command.Ok y) (_h1 : I64 a1) : G.graftlaw16_SafeDirty a0 a1 = some true := by
  have n0 : a0.length ≤ 9223372036854775807 := h0.1
  unfold G.graftlaw16_SafeDirty
  obtain ⟨b, e1, s1⟩ := G.Right_of a0 n0
  obtain ⟨c, e2, s2⟩ := G.Short_of a0 n0
  rw [e1, e2, G.alive16]
  cases b
  · rfl
  cases c
  · rfl
  have hr := s1 rfl
  have hs := s2 rfl
  have hn := hr.len
  obtain ⟨D, d1, d2, d3⟩ := G.Dirty2_of hr hs a1
  obtain ⟨r, r1, r2⟩ := G.first_of hr hs
  obtain ⟨q, q1, q2⟩ := G.Prefix_of hr.len hr.good
  have := r2.unique q2
  subst this
  rw [d1, d2, w64 (x := (a0.length : Int) - 1) (by omega) (by omega), r1, q1]
  simp only [Option.bind_some]
  rw [if_neg (by decide), G.EqX_self D (by omega)]
  simp
end Go.Proofs.Ytnbipipegmoigaa
