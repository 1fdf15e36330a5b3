/- Parts of commands, and comparing part by part. No program in sight. -/
import Derived.Test.YtnbipipegmoigaaPT2
namespace Go.Proofs.Ytnbipipegmoigaa
open G
namespace G
/-- The command for n bytes from o on. -/
def part (c : G.Command) (o n : Int) : G.Command := if c.kind = 1 then ⟨1, o, c.from_ + (o - c.to), n, []⟩ else ⟨2, o, 0, 0, (c.data.take (o - c.to + n).toNat).drop (o - c.to).toNat⟩
section
variable {N M : Int} {c : G.Command} {o n : Int}
theorem part_kind (h : Nice c) : (part c o n).kind = c.kind := by
  unfold part; split
  · rename_i k; exact k.symm
  · rename_i k; exact (h.lit k).1.symm
theorem part_to : (part c o n).to = o := by unfold part; split <;> rfl
theorem part_tlen (h : Nice c) (h1 : c.to ≤ o) (h2 : 1 ≤ n) (h3 : o + n ≤ tend c) : tlen (part c o n) = n := by
  by_cases hk : c.kind = 1
  · rw [tlen_copy ((part_kind h).trans hk)]; unfold part; rw [if_pos hk]
  · rw [tlen_lit (by rw [part_kind h]; exact hk)]; unfold part; rw [if_neg hk]
    unfold tend at h3; rw [tlen_lit hk] at h3
    simp only [List.length_drop, List.length_take]; omega
theorem part_fit (h : Fit N M c) (h1 : c.to ≤ o) (h2 : 1 ≤ n) (h3 : o + n ≤ tend c) : Fit N M (part c o n) := by
  refine ⟨⟨by rw [part_tlen h.nice h1 h2 h3]; exact h2, fun hk => ?_, fun hk => ?_⟩, by rw [part_to]; have := h.to0; omega, ?_, fun hk => ?_⟩
  · rw [part_kind h.nice] at hk; unfold part; rw [if_pos hk]
  · rw [part_kind h.nice] at hk; unfold part; rw [if_neg hk]; exact ⟨rfl, rfl, rfl⟩
  · show (part c o n).to + tlen (part c o n) ≤ N
    rw [part_tlen h.nice h1 h2 h3, part_to]; have := h.fits; omega
  · rw [part_kind h.nice] at hk
    have := h.src hk
    unfold tend at h3; rw [tlen_copy hk] at h3
    unfold part; rw [if_pos hk]
    show 0 ≤ c.from_ + (o - c.to) ∧ c.from_ + (o - c.to) + n ≤ M
    omega
theorem exp_part (h : Nice c) (h1 : c.to ≤ o) (h2 : 1 ≤ n) (h3 : o + n ≤ tend c) : exp (part c o n) = ((exp c).drop (o - c.to).toNat).take n.toNat := by
  unfold tend at h3
  by_cases hk : c.kind = 1
  · rw [tlen_copy hk] at h3
    rw [exp_copy ((part_kind h).trans hk), exp_copy hk, ← List.map_drop, ← List.map_take]
    have e1 : (part c o n).len = n := by unfold part; rw [if_pos hk]
    have e2 : (part c o n).from_ = c.from_ + (o - c.to) := by unfold part; rw [if_pos hk]
    rw [e1, e2]
    apply List.ext_getElem
    · simp; omega
    · intro i hi hi'
      simp
      omega
  · rw [tlen_lit hk] at h3
    rw [exp_lit (by rw [part_kind h]; exact hk), exp_lit hk, ← List.map_drop, ← List.map_take]
    unfold part; rw [if_neg hk]
    simp only
    rw [List.drop_take]
    congr 2; omega
theorem Contains_of {t k : Int} {o n : Int} (h1 : -1000000 ≤ t ∧ t ≤ 1000000) (h2 : -1000000 ≤ k ∧ k ≤ 1000000) (h3 : -1000000 ≤ o ∧ o ≤ 1000000) (h4 : -1000000 ≤ n ∧ n ≤ 1000000) : G.extent_Contains ⟨t, k⟩ [⟨o, n⟩] = some (decide (t ≤ o ∧ o + n ≤ t + k)) := by
  have e1 : G.extent_Contains_1 ⟨o, n⟩ ⟨t, k⟩ = some (decide (¬ (t ≤ o ∧ o + n ≤ t + k))) := by
    unfold G.extent_Contains_1 G.extent_End
    simp only
    by_cases h : o < t
    · rw [if_pos h]; congr 1; symm; exact decide_eq_true (by omega)
    · rw [if_neg h]
      simp only [Option.bind_some, w64 (x := o + n) (by omega) (by omega), w64 (x := t + k) (by omega) (by omega)]
      congr 1; rw [decide_eq_decide]; omega
  unfold G.extent_Contains G.slices_ContainsFunc_api_Extent_api_Extent_extent_Contains_1 G.slices_IndexFunc_api_Extent_api_Extent_extent_Contains_1
  have e2 : Iter (G.slices_IndexFunc_api_Extent_api_Extent_extent_Contains_1_l1 [⟨o, n⟩] ⟨t, k⟩) 0 = some (if t ≤ o ∧ o + n ≤ t + k then -1 else 0) := by
    by_cases h : t ≤ o ∧ o + n ≤ t + k
    · rw [if_pos h]
      rw [Iter_inl (s' := 1) (by unfold G.slices_IndexFunc_api_Extent_api_Extent_extent_Contains_1_l1; rw [if_pos (by simp)]; simp only [idx_of' (k := 0) (show (0 : Int) = ((0 : Nat) : Int) from rfl) (show 0 < [(⟨o, n⟩ : G.Extent)].length by simp), Option.bind_some, List.getElem_cons_zero, e1]; rw [if_neg (by rw [decide_eq_true_eq]; exact fun k => k h)]; rfl)]
      exact Iter_inr (by unfold G.slices_IndexFunc_api_Extent_api_Extent_extent_Contains_1_l1; rw [if_neg (by simp)])
    · rw [if_neg h]
      exact Iter_inr (by unfold G.slices_IndexFunc_api_Extent_api_Extent_extent_Contains_1_l1; rw [if_pos (by simp)]; simp only [idx_of' (k := 0) (show (0 : Int) = ((0 : Nat) : Int) from rfl) (show 0 < [(⟨o, n⟩ : G.Extent)].length by simp), Option.bind_some, List.getElem_cons_zero, e1]; rw [if_pos (decide_eq_true h)])
  rw [e2]
  simp only [Option.bind_some]
  by_cases h : t ≤ o ∧ o + n ≤ t + k
  · rw [if_pos h]; simp [h]
  · rw [if_neg h]; simp [h]
theorem Part_of (h : Fit N M c) (hN : N ≤ 1000000) (hM : M ≤ 4611686018427387903) (h1 : c.to ≤ o) (h2 : 1 ≤ n) (h3 : o + n ≤ tend c) : G.command_Part c ⟨o, n⟩ = some (part c o n, true) := by
  have t0 := h.to0; have l1 := h.nice.len1; have f1 := h.fits
  have hof : G.command_of c = some ⟨⟨c.to, tlen c⟩⟩ := by unfold G.command_of tlen; split <;> rfl
  unfold G.command_Part
  rw [hof]
  unfold G.command_target_has
  unfold tend at f1 h3
  simp only [Option.bind_some]
  rw [if_pos (by omega), Contains_of (by omega) (by omega) (by omega) (by omega)]
  simp only [Option.bind_some]
  rw [decide_eq_true (by omega), if_neg (by decide), w64 (x := o - c.to) (by omega) (by omega)]
  by_cases hk : c.kind = 1
  · have := h.src hk
    rw [tlen_copy hk] at *
    rw [if_pos hk, w64 (x := c.from_ + (o - c.to)) (by omega) (by omega)]
    unfold G.command_Copy part; rw [if_pos hk]; rfl
  · have hd := h.data hN
    rw [tlen_lit hk] at *
    rw [if_neg hk, w64 (x := o - c.to + n) (by omega) (by omega), slcMid_of (by omega)]
    simp only [Option.bind_some]
    rw [Literal_of _ _ (by simp; omega) (by simp)]
    unfold part; rw [if_neg hk]; simp
theorem Part_no (h : Fit N M c) (h2 : n ≤ 0) : G.command_Part c ⟨o, n⟩ = some (nilC, false) := by
  have hof : G.command_of c = some ⟨⟨c.to, tlen c⟩⟩ := by unfold G.command_of tlen; split <;> rfl
  unfold G.command_Part
  rw [hof]
  unfold G.command_target_has
  simp only [Option.bind_some]
  rw [if_neg (by omega)]
  simp only [Option.bind_some, if_true]; rfl
theorem head_of {l : List G.Command} (h : Fit N M c) (hN : N ≤ 1000000) (hM : M ≤ 4611686018427387903) (h1 : 1 ≤ n) (h2 : n ≤ tlen c) :
    G.tidy_head n (c :: l) = some (part c c.to n, if n < tlen c then part c (c.to + n) (tlen c - n) :: l else l) := by
  have t0 := h.to0; have f1 := h.fits
  have h0 : idx (c :: l) 0 = some c := idx_of' (k := 0) rfl (by simp)
  unfold tend at f1
  unfold G.tidy_head
  simp only [h0, Option.bind_some, Target_of]
  rw [Part_of h hN hM (Int.le_refl _) h1 (by unfold tend; omega), w64 (x := c.to + n) (by omega) (by omega), w64 (x := tlen c - n) (by omega) (by omega)]
  simp only [Option.bind_some]
  by_cases hn : n < tlen c
  · rw [Part_of h hN hM (by omega) (by omega) (by unfold tend; omega), if_pos hn]
    simp
  · rw [Part_no h (by omega), if_neg hn]
    simp only [Option.bind_some, Bool.false_eq_true, if_false]
    rw [slcFrom_of (by simp; omega)]
    simp
theorem EqualB_of (a b : List UInt8) (hn : a.length ≤ 9000000000000000000) : G.slices_Equal_byte_byte a b = some (decide (a = b)) := by
  unfold G.slices_Equal_byte_byte
  by_cases hl : a.length = b.length
  · rw [if_neg (by omega)]
    have hs : ∀ k (h : k < a.length), G.slices_Equal_byte_byte_l1 a b (k : Int) = some (if a[k] = b[k]'(by omega) then .inl ((k + 1 : Nat) : Int) else .inr false) := fun k h => by
      unfold G.slices_Equal_byte_byte_l1
      rw [if_pos (by omega), idx_of h, idx_of (l := b) (by omega)]
      simp only [Option.bind_some, inc64 h (by omega)]
      by_cases e : a[k] = b[k]'(by omega)
      · rw [if_pos e, if_neg (by rw [e]; simp)]
      · rw [if_neg e, if_pos]
        intro e'
        exact e (UInt8.toNat_inj.1 (by omega))
    rcases Iter_scan (f := G.slices_Equal_byte_byte_l1 a b) (List.range a.length) (fun k => decide (a.getD k 0 ≠ b.getD k 0)) (fun k => (k : Int)) (fun _ => false) true
      (fun k h hb => by
        simp only [List.length_range] at h
        simp only [List.getElem_range, List.getD_eq_getElem?_getD, List.getElem?_eq_getElem h, List.getElem?_eq_getElem (show k < b.length by omega), Option.getD_some, decide_eq_false_iff_not, ne_eq, Decidable.not_not] at hb
        rw [hs k h, if_pos hb])
      (fun k h hb => by
        simp only [List.length_range] at h
        simp only [List.getElem_range, List.getD_eq_getElem?_getD, List.getElem?_eq_getElem h, List.getElem?_eq_getElem (show k < b.length by omega), Option.getD_some, decide_eq_true_eq, ne_eq] at hb
        rw [hs k h, if_neg hb])
      (by unfold G.slices_Equal_byte_byte_l1; rw [if_neg (by simp)]) (s := 0) rfl with ⟨hall, he⟩ | ⟨k, h, hb, _, he⟩
    · rw [he]; congr 1; symm; rw [decide_eq_true_eq]
      refine List.ext_getElem hl fun i h1 h2 => ?_
      have := hall i (by simp; exact h1)
      simpa [h1, h2] using this
    · rw [he]; congr 1; symm; rw [decide_eq_false_iff_not]
      rintro rfl
      simp at hb
  · rw [if_pos (by omega)]; congr 1; symm; rw [decide_eq_false_iff_not]; intro h; rw [h] at hl; exact hl rfl
/-- Two commands of the same length write the same. -/
theorem exp_eq {a b : G.Command} (ha : Nice a) (hb : Nice b) (hl : tlen a = tlen b) : exp a = exp b ↔ ((a.kind = 1 ↔ b.kind = 1) ∧ a.from_ = b.from_ ∧ a.data = b.data) := by
  have l1 := ha.len1
  by_cases hk : a.kind = 1
  · by_cases hkb : b.kind = 1
    · rw [tlen_copy hk] at l1 hl; rw [tlen_copy hkb] at hl
      rw [exp_copy hk, exp_copy hkb, ← hl, ha.copy hk, hb.copy hkb]
      constructor
      · intro h
        have := congrArg (fun z => z[0]?) h
        simp [show 0 < a.len.toNat by omega] at this
        exact ⟨by simp [hk, hkb], this, rfl⟩
      · rintro ⟨_, h, _⟩; rw [h]
    · constructor
      · intro h
        rw [tlen_copy hk] at l1
        have : (Sum.inl (a.from_ + ((0 : Nat) : Int)) : Org) ∈ exp a := by rw [exp_copy hk]; exact List.mem_map.2 ⟨0, by simp; omega, rfl⟩
        rw [h, exp_lit hkb] at this
        simp at this
      · rintro ⟨h, _⟩; exact absurd (h.1 hk) hkb
  · by_cases hkb : b.kind = 1
    · constructor
      · intro h
        rw [hl, tlen_copy hkb] at l1
        have : (Sum.inl (b.from_ + ((0 : Nat) : Int)) : Org) ∈ exp b := by rw [exp_copy hkb]; exact List.mem_map.2 ⟨0, by simp; omega, rfl⟩
        rw [← h, exp_lit hk] at this
        simp at this
      · rintro ⟨h, _⟩; exact absurd (h.2 hkb) hk
    · rw [exp_lit hk, exp_lit hkb, (ha.lit hk).2.1, (hb.lit hkb).2.1]
      constructor
      · intro h
        refine ⟨by simp [hk, hkb], rfl, ?_⟩
        exact (List.map_inj_right (fun x y e => by cases e; rfl)).1 h
      · rintro ⟨_, _, h⟩; rw [h]
end
end G
end Go.Proofs.Ytnbipipegmoigaa
