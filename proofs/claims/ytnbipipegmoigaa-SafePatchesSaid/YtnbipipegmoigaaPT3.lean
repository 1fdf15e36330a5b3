/- Merging, in the program and in the reference. No program in sight. -/
import Derived.Test.YtnbipipegmoigaaPT2
namespace Go.Proofs.Ytnbipipegmoigaa
open G
namespace G
section
variable {N M : Int} {l : List G.Command}
theorem drop_cons {α : Type} {l : List α} {i : Nat} (h : i < l.length) : l.drop i = l[i] :: l.drop (i + 1) := by rw [List.drop_eq_getElem_cons h]
theorem Merge_of (hf : ∀ c ∈ l, Fit N M c) (hN : N ≤ 1000000) (hM : M ≤ 4611686018427387903) (hn : l.length ≤ 1000000) : G.tidy_Merge l = some (can_ l) := by
  have inner : ∀ (c : G.Command) (i : Nat), Fit N M c → i ≤ l.length → ∃ r, Iter (G.tidy_Merge_l2 l) ((i : Int), c) = some r ∧ ∃ (c' : G.Command) (j : Nat), r = ((j : Int), c') ∧ i ≤ j ∧ j ≤ l.length ∧ can_ (c :: l.drop i) = c' :: can_ (l.drop j) := by
    intro c i hc hi
    refine Iter_total (f := G.tidy_Merge_l2 l) (fun m st => ∃ (c1 : G.Command) (k : Nat), st = ((k : Int), c1) ∧ m = l.length - k ∧ i ≤ k ∧ k ≤ l.length ∧ Fit N M c1 ∧ can_ (c :: l.drop i) = can_ (c1 :: l.drop k))
      (fun r => ∃ (c' : G.Command) (j : Nat), r = ((j : Int), c') ∧ i ≤ j ∧ j ≤ l.length ∧ can_ (c :: l.drop i) = c' :: can_ (l.drop j)) ?_ (l.length - i) _ ⟨c, i, rfl, rfl, Nat.le_refl _, hi, hc, rfl⟩
    rintro m st ⟨c1, k, rfl, rfl, h1, h2, h3, h4⟩
    unfold G.tidy_Merge_l2
    by_cases hk : k < l.length
    · rw [if_pos (by simp; omega)]
      have hd := hf _ (List.getElem_mem hk)
      simp only [idx_of hk, Option.bind_some, join_of h3 hd hN hM]
      by_cases hc1 : can c1 l[k]
      · simp only [if_pos hc1]
        refine .inl ⟨l.length - (k + 1), _, by rw [if_neg (by simp)], by omega, joi c1 l[k], k + 1, ?_, rfl, by omega, by omega, Fit.joi hc1 h3 hd, ?_⟩
        · rw [inc64 hk (by omega)]
        · rw [h4, drop_cons hk, can_step hc1 h3.nice hd.nice]
      · simp only [if_neg hc1]
        refine .inr ⟨_, by rw [if_pos trivial], c1, k, rfl, h1, h2, ?_⟩
        rw [h4, drop_cons hk, can_stop hc1 hd.nice]
    · have : k = l.length := by omega
      subst this
      rw [if_neg (by simp)]
      exact .inr ⟨_, rfl, c1, l.length, rfl, h1, h2, by rw [h4, List.drop_length]; rfl⟩
  unfold G.tidy_Merge
  have := Iter_total (f := G.tidy_Merge_l1 l) (fun m st => ∃ (out : List G.Command) (k : Nat), st = (out, (k : Int)) ∧ m = l.length - k ∧ k ≤ l.length ∧ out.length ≤ k ∧ out ++ can_ (l.drop k) = can_ l)
    (fun r => r = can_ l) ?_ l.length ([], 0) ⟨[], 0, rfl, rfl, Nat.zero_le _, Nat.le_refl _, by simp⟩
  · obtain ⟨r, h1, rfl⟩ := this; exact h1
  rintro m st ⟨out, k, rfl, rfl, h1, h2, h3⟩
  unfold G.tidy_Merge_l1
  by_cases hk : k < l.length
  · rw [if_pos (by simp; omega)]
    have hd := hf _ (List.getElem_mem hk)
    obtain ⟨r, e, c', j, rfl, h4, h5, h6⟩ := inner l[k] (k + 1) hd (by omega)
    have hcl := Clone_of l[k] (by have := hd.data hN; omega)
    simp only [idx_of hk, Option.bind_some, hcl, inc64 hk (by omega), e]
    rw [app_of (by simp; omega)]
    refine .inl ⟨l.length - j, _, rfl, by omega, out ++ [c'], j, rfl, rfl, h5, by simp; omega, ?_⟩
    rw [← h3, drop_cons hk, h6]; simp
  · have : k = l.length := by omega
    subst this
    rw [if_neg (by simp)]
    exact .inr ⟨_, rfl, by rw [← h3, List.drop_length]; simp [can_]⟩
theorem refMerge_of (hf : ∀ c ∈ l, Fit N M c) (hN : N ≤ 1000000) (hM : M ≤ 4611686018427387903) (hn : l.length ≤ 1000000) : G.graftref09_Merge l = some (can_ l) := by
  unfold G.graftref09_Merge
  have := Iter_total (f := G.graftref09_Merge_l1 l) (fun m st => ∃ (out : List G.Command) (k : Nat), st = ((k : Int), out) ∧ m = l.length - k ∧ k ≤ l.length ∧ out.length ≤ k ∧
      ((k = 0 ∧ out = []) ∨ ∃ pre c, out = pre ++ [c] ∧ Fit N M c ∧ can_ l = pre ++ can_ (c :: l.drop k)))
    (fun r => r = can_ l) ?_ l.length (0, []) ⟨[], 0, rfl, rfl, Nat.zero_le _, Nat.le_refl _, .inl ⟨rfl, rfl⟩⟩
  · obtain ⟨r, h1, rfl⟩ := this; exact h1
  rintro m st ⟨out, k, rfl, rfl, h1, h2, h3⟩
  unfold G.graftref09_Merge_l1
  simp only
  by_cases hk : k < l.length
  · rw [if_pos (by omega)]
    have hd := hf _ (List.getElem_mem hk)
    rcases h3 with ⟨rfl, rfl⟩ | ⟨pre, c, rfl, hc, h3⟩
    · rw [if_pos (by decide)]
      simp only [Option.bind_some, if_true]
      rw [idx_of' (k := 0) rfl hk]
      simp only [Option.bind_some]
      rw [app_of (by simp)]
      refine .inl ⟨l.length - 1, _, rfl, by omega, [l[0]], 1, ?_, rfl, by omega, by simp, .inr ⟨[], l[0], rfl, hd, ?_⟩⟩
      · rfl
      · have := drop_cons hk; rw [List.drop_zero] at this; rw [← this]; rfl
    · have e1 : IntKind.i64.wrap (((pre ++ [c]).length : Int) - 1) = (pre.length : Int) := by
        have hlen : (pre ++ [c]).length = pre.length + 1 := by simp
        rw [hlen] at h2 ⊢; rw [w64 (by omega) (by omega)]; omega
      rw [e1]
      have hix : idx (pre ++ [c]) (pre.length : Int) = some c := by rw [idx_of (by simp)]; simp
      rw [if_neg (by omega)]
      simp only [hix, idx_of hk, Option.bind_some, refcan_of hc hN hM]
      by_cases hcan : can c l[k]
      · rw [decide_eq_true hcan]
        simp only [Bool.not_true, Bool.false_eq_true, if_false]
        have e2 : (if c.kind = 1 then some (⟨c.kind, c.to, c.from_, IntKind.i64.wrap (c.len + l[k].len), c.data⟩ : G.Command)
            else (app 1 ([] : List UInt8) c.data).bind fun x7 => (app 1 x7 l[k].data).bind fun x9 => some (⟨c.kind, c.to, c.from_, c.len, x9⟩ : G.Command)) = some (joi c l[k]) := by
          by_cases h1 : c.kind = 1
          · have hkd := hcan.1.symm.trans h1
            have l1 := hc.nice.len1; have f1 := hc.fits; have t1 := hc.to0; have l2 := hd.nice.len1; have f2 := hd.fits; have t2 := hd.to0
            unfold tend at f1 f2
            rw [tlen_copy h1] at l1 f1; rw [tlen_copy hkd] at l2 f2
            rw [if_pos h1, joi_1 h1, w64 (by omega) (by omega), hc.nice.copy h1, h1]
          · obtain ⟨k1, k2, k3⟩ := hc.nice.lit h1
            have d1 := hc.data hN; have d2 := hd.data hN
            rw [if_neg h1, joi_2 h1, app_of (by simp; omega)]
            simp only [Option.bind_some, List.nil_append]
            rw [app_of (by omega)]
            simp only [Option.bind_some, k1, k2, k3]
        rw [e2]
        simp only [Option.bind_some, Int.toNat_natCast]
        refine .inl ⟨l.length - (k + 1), _, rfl, by omega, pre ++ [joi c l[k]], k + 1, ?_, rfl, by omega, by simp at h2 ⊢; omega, .inr ⟨pre, joi c l[k], rfl, Fit.joi hcan hc hd, ?_⟩⟩
        · rw [inc64 hk (by omega)]; simp
        · rw [h3, drop_cons hk, can_step hcan hc.nice hd.nice]
      · rw [decide_eq_false hcan]
        simp only [Bool.not_false, if_true]
        rw [app_of (by simp at h2 ⊢; omega)]
        refine .inl ⟨l.length - (k + 1), _, rfl, by omega, pre ++ [c] ++ [l[k]], k + 1, ?_, rfl, by omega, by simp at h2 ⊢; omega, .inr ⟨pre ++ [c], l[k], rfl, hd, ?_⟩⟩
        · rw [inc64 hk (by omega)]
        · rw [h3, drop_cons hk, can_stop hcan hd.nice]; simp
  · have : k = l.length := by omega
    subst this
    rw [if_neg (by omega)]
    refine .inr ⟨_, rfl, ?_⟩
    rcases h3 with ⟨h4, rfl⟩ | ⟨pre, c, rfl, hc, h3⟩
    · rw [List.length_eq_zero_iff] at h4; subst h4; rfl
    · rw [h3, List.drop_length]; rfl
end
end G
end Go.Proofs.Ytnbipipegmoigaa
