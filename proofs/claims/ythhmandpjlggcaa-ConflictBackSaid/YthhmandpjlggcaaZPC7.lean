/- Part of what the laws need: plain words, the walker and its laws, the program's functions. -/
import Derived.Test.YthhmandpjlggcaaZPC5
namespace Go.Proofs.Ythhmandpjlggcaa
open G
namespace G
theorem OverlapsR_of {c : G.Command} (h : Good dM c) : G.graftref04_Overlaps c = some (hit c c) := by
  unfold G.graftref04_Overlaps
  by_cases hk : c.kind = 1
  · rw [if_pos hk]
    have hr := ReadsR_of h h
    unfold G.graftref12_Reads at hr
    rw [if_neg (by simp [hk])] at hr
    obtain ⟨y1, e1, hr⟩ := Option.bind_eq_some_iff.1 hr
    obtain ⟨y2, e2, hr⟩ := Option.bind_eq_some_iff.1 hr
    obtain ⟨y3, e3, hr⟩ := Option.bind_eq_some_iff.1 hr
    have e0 : y3.len = rd c c := Option.some.inj hr
    rw [e1, e2]
    simp only [Option.bind_some]
    rw [e3]
    simp only [Option.bind_some]
    have := rd_pos h h
    rw [e0]
    by_cases hh : hit c c = true
    · rw [hh]; simp only [Option.some.injEq, decide_eq_true_eq]; exact this.2 hh
    · have hn : ¬ rd c c > 0 := fun h1 => hh (this.1 h1)
      rw [Bool.not_eq_true] at hh
      rw [hh]
      simp only [Option.some.injEq, decide_eq_false_iff_not]
      exact hn
  · rw [if_neg hk]
    unfold hit
    simp [hk]
theorem EqualI_of (a : List Int) (hn : a.length ≤ 1000) : G.slices_Equal_int_int a a = some true := by
  unfold G.slices_Equal_int_int
  rw [if_neg (by simp)]
  refine Iter_count (f := G.slices_Equal_int_int_l1 a a) a.length (fun k => (k : Int)) _ (fun k hk => ?_) ?_ rfl
  · unfold G.slices_Equal_int_int_l1
    rw [if_pos (by omega), idx_of hk]
    simp only [Option.bind_some]
    rw [if_neg (by simp), inc64 hk (by omega)]
  · unfold G.slices_Equal_int_int_l1
    rw [if_neg (by omega)]
theorem graftlaw12_ConflictSelf_true (a0 : List G.Command) (h0 : Len a0 ∧ ∀ y ∈ a0, G.Command.Ok y) : G.graftlaw12_ConflictSelf a0 = some true := by
  unfold G.graftlaw12_ConflictSelf
  obtain ⟨b, hb, hR⟩ := Right_of a0 h0.1
  rw [hb]
  simp only [Option.bind_some]
  cases b with
  | false => rw [if_pos rfl, alive12]; rfl
  | true =>
    rw [if_neg (by simp)]
    have h := hR rfl
    have hn := h.len
    have hsl := slf_len a0 a0.length
    have h1 : Iter (G.graftlaw12_ConflictSelf_l1 a0) ([], 0) = some (slf a0 a0.length) := by
      refine Iter_count (f := G.graftlaw12_ConflictSelf_l1 a0) a0.length (fun k => (slf a0 k, (k : Int))) _ (fun k hk => ?_) ?_ (by simp [slf])
      · unfold G.graftlaw12_ConflictSelf_l1
        rw [if_pos (by simp only; omega)]
        simp only [idx_of hk, Option.bind_some, OverlapsR_of (h.good _ (List.getElem_mem hk))]
        have hl := slf_len a0 k
        rw [slf_succ, cat_getElem hk, inc64 hk (by omega)]
        by_cases hh : hit a0[k] a0[k] = true
        · rw [if_pos hh, if_pos hh, app_of (by simp; omega)]; rfl
        · rw [if_neg hh, if_neg hh]; simp
      · unfold G.graftlaw12_ConflictSelf_l1
        rw [if_neg (by simp)]
    have h2 : Iter (G.graftlaw12_ConflictSelf_l2 a0 (slf a0 a0.length)) 0 = some (.inl ()) := by
      refine Iter_count (f := G.graftlaw12_ConflictSelf_l2 a0 (slf a0 a0.length)) (slf a0 a0.length).length (fun k => (k : Int)) _ (fun k hk => ?_) ?_ rfl
      · unfold G.graftlaw12_ConflictSelf_l2
        rw [if_pos (by omega), idx_of hk]
        simp only [Option.bind_some]
        have hm : (slf a0 a0.length)[k] ∈ slf a0 a0.length := List.getElem_mem hk
        obtain ⟨i, hi, he⟩ : ∃ i : Nat, (i < a0.length ∧ hit (cat a0 i) (cat a0 i) = true) ∧ (i : Int) = (slf a0 a0.length)[k] := by
          unfold slf at hm
          obtain ⟨i, hi, he⟩ := List.mem_map.1 hm
          rw [List.mem_filter, List.mem_range] at hi
          exact ⟨i, hi, he⟩
        have hg := h.good _ (List.getElem_mem hi.1)
        have hh := hi.2
        rw [cat_getElem hi.1] at hh
        have := (rd_pos hg hg).2 hh
        rw [← he, idx_of hi.1]
        simp only [Option.bind_some, ReadsP_of hg hg]
        rw [if_neg (by omega), inc64 hk (by omega)]
      · unfold G.graftlaw12_ConflictSelf_l2
        rw [if_neg (by omega)]
    rw [h1]
    simp only [Option.bind_some]
    rw [h2]
    simp only [Option.bind_some, joinK_inl]
    rw [alive12]
    simp only [Option.bind_some, if_true]
    rw [Self_of h]
    simp only [Option.bind_some]
    rw [EqualI_of _ (by omega)]
    rfl
theorem wadd (a b : Int) : IntKind.i64.wrap (IntKind.i64.wrap a + b) = IntKind.i64.wrap (a + b) := by
  simp only [IntKind.wrap, IntKind.bits, IntKind.signed]; simp; omega
def sg (f : Nat → Int) : Nat → Int
  | 0 => 0
  | k + 1 => sg f k + f k
theorem sg_one (f : Nat → Int) (i : Nat) : ∀ k, sg f k = (if i < k then f i else 0) + sg (fun j => if i = j then 0 else f j) k
  | 0 => by simp [sg]
  | k + 1 => by
    have := sg_one f i k
    unfold sg
    by_cases h : i = k
    · subst h
      rw [if_pos (by omega), if_pos rfl]
      rw [if_neg (by omega)] at this
      omega
    · rw [if_neg h]
      by_cases h2 : i < k
      · rw [if_pos (by omega)]; rw [if_pos h2] at this; omega
      · rw [if_neg (by omega)]; rw [if_neg h2] at this; omega
theorem ov_rd {a b : G.Command} (ha : Good dM a) (hb : Good dM b) (hk : a.kind = 1) : ∃ e, G.graftref01_Overlap ⟨b.to, tlen b⟩ ⟨a.from_, a.len⟩ = some e ∧ e.len = rd a b := by
  obtain ⟨k1, k2, k3⟩ := src_ex ha hk
  have b1 := hb.to0; have b2 := hb.len1; have b3 := hb.max
  simp only at k1 k2 k3
  unfold G.graftref01_Overlap rd hit
  unfold tend at b3 ⊢
  simp only
  rw [w64 (x := a.from_ + a.len) (by omega) (by omega), w64 (x := b.to + tlen b) (by omega) (by omega)]
  by_cases h : imax b.to a.from_ ≥ imin (b.to + tlen b) (a.from_ + a.len)
  · rw [if_pos h, if_neg]
    · exact ⟨_, rfl, rfl⟩
    · rw [decide_eq_true_eq]
      revert h
      unfold imax imin
      split <;> split <;> omega
  · rw [if_neg h, if_pos]
    · refine ⟨_, rfl, ?_⟩
      simp only
      rw [w64] <;> (unfold imax imin; repeat' split) <;> omega
    · rw [decide_eq_true_eq]
      revert h
      unfold imax imin
      split <;> split <;> omega
theorem rd_rng {a b : G.Command} (ha : Good dM a) (hb : Good dM b) : 0 ≤ rd a b ∧ rd a b ≤ 4611686018427387903 := by
  unfold rd
  split
  · rename_i h
    unfold hit at h
    rw [decide_eq_true_eq] at h
    obtain ⟨k1, k2, k3⟩ := src_ex ha h.1
    have b1 := hb.to0; have b2 := hb.len1; have b3 := hb.max
    simp only at k1 k2 k3
    unfold tend at *
    unfold imax imin
    split <;> split <;> omega
  · omega
section
variable {l : List G.Command}
theorem Weight_of (h : Rt l) (i j : Int) : G.conflict_Weight l ⟨i, j⟩ = some (if i = j ∨ i < 0 ∨ j < 0 ∨ i ≥ l.length ∨ j ≥ l.length then 0 else rd (cat l i.toNat) (cat l j.toNat)) := by
  unfold G.conflict_Weight
  simp only
  by_cases e : i = j
  · rw [if_pos (by simp [e])]; simp [e]
  · rw [if_neg (by simp [e])]
    by_cases e2 : imin i j < 0
    · rw [if_pos e2]
      simp only [Option.bind_some, if_true]
      rw [if_pos]
      unfold imin at e2
      split at e2 <;> omega
    · rw [if_neg e2]
      simp only [Option.bind_some, decide_eq_true_eq]
      have e2' : 0 ≤ i ∧ 0 ≤ j := by unfold imin at e2; split at e2 <;> omega
      by_cases e3 : imax i j ≥ (l.length : Int)
      · rw [if_pos e3, if_pos]
        unfold imax at e3
        split at e3 <;> omega
      · have e3' : i < l.length ∧ j < l.length := by unfold imax at e3; split at e3 <;> omega
        rw [if_neg e3, if_neg (by omega)]
        obtain ⟨i, rfl⟩ := Int.eq_ofNat_of_zero_le e2'.1
        obtain ⟨j, rfl⟩ := Int.eq_ofNat_of_zero_le e2'.2
        have hi : i < l.length := by omega
        have hj : j < l.length := by omega
        rw [idx_of hi, idx_of hj]
        simp only [Option.bind_some, ReadsP_of (h.good _ (List.getElem_mem hi)) (h.good _ (List.getElem_mem hj)), Int.toNat_natCast]
        rw [cat_getElem hi, cat_getElem hj]
theorem Covered_of (h : Rt l) {c : G.Command} (hc : Good dM c) (hk : c.kind = 1) : G.graftref10_Covered (l.map tgt) ⟨c.from_, c.len⟩ = some (IntKind.i64.wrap (sg (fun j => rd c (cat l j)) l.length)) := by
  have hn := h.len
  unfold G.graftref10_Covered
  refine Iter_count (f := G.graftref10_Covered_l1 (l.map tgt) ⟨c.from_, c.len⟩) l.length (fun k => (IntKind.i64.wrap (sg (fun j => rd c (cat l j)) k), (k : Int))) _ (fun k hk' => ?_) ?_ (by simp only [sg]; rw [w64 (by omega) (by omega)]; rfl)
  · unfold G.graftref10_Covered_l1
    rw [if_pos (by simp only [List.length_map]; omega), idx_of (l := l.map tgt) (k := k) (by simpa using hk')]
    simp only [Option.bind_some, List.getElem_map]
    obtain ⟨e, e1, e2⟩ := ov_rd hc (h.good _ (List.getElem_mem hk')) hk
    unfold tgt
    rw [e1]
    simp only [Option.bind_some]
    rw [e2, wadd, inc64 hk' (by omega)]
    simp only [sg, cat_getElem hk']
  · unfold G.graftref10_Covered_l1
    rw [if_neg (by simp)]
theorem Sum_of (h : Rt l) {i : Nat} (hi : i < l.length) : Iter (G.graftlaw12_ConflictWeights_l3 l (i : Int)) (rd l[i] l[i], 0) = some (IntKind.i64.wrap (sg (fun j => rd l[i] (cat l j)) l.length)) := by
  have hn := h.len
  have hg := h.good _ (List.getElem_mem hi)
  obtain ⟨r0, r1⟩ := rd_rng hg hg
  refine Iter_count (f := G.graftlaw12_ConflictWeights_l3 l (i : Int)) l.length (fun k => (IntKind.i64.wrap (rd l[i] l[i] + sg (fun j => if i = j then 0 else rd l[i] (cat l j)) k), (k : Int))) _ (fun k hk => ?_) ?_ (by simp only [sg]; rw [w64 (by omega) (by omega)]; simp)
  · unfold G.graftlaw12_ConflictWeights_l3
    simp only
    rw [if_pos (by omega), Weight_of h]
    simp only [Option.bind_some]
    rw [wadd, inc64 hk (by omega)]
    have e : (if (i : Int) = (k : Int) ∨ (i : Int) < 0 ∨ (k : Int) < 0 ∨ (i : Int) ≥ (l.length : Int) ∨ (k : Int) ≥ (l.length : Int) then 0 else rd (cat l (i : Int).toNat) (cat l (k : Int).toNat)) = (if i = k then 0 else rd l[i] (cat l k)) := by
      by_cases e : i = k
      · rw [if_pos (by omega), if_pos e]
      · rw [if_neg (by omega), if_neg e, Int.toNat_natCast, Int.toNat_natCast, cat_getElem hi]
    rw [e, Int.add_assoc]
    rfl
  · unfold G.graftlaw12_ConflictWeights_l3
    simp only
    rw [if_neg (by omega), sg_one (fun j => rd l[i] (cat l j)) i l.length, if_pos hi, cat_getElem hi]
end
theorem graftlaw12_ConflictWeights_true (a0 : List G.Command) (a1 : Nat → Int) (h0 : Len a0 ∧ ∀ y ∈ a0, G.Command.Ok y) : G.graftlaw12_ConflictWeights a0 a1 = some true := by
  unfold G.graftlaw12_ConflictWeights
  obtain ⟨b, hb, hR⟩ := Right_of a0 h0.1
  rw [hb]
  simp only [Option.bind_some]
  cases b with
  | false => rw [if_pos rfl, alive12]; rfl
  | true =>
    rw [if_neg (by simp)]
    have h := hR rfl
    have hn := h.len
    have h1 : Iter (G.graftlaw12_ConflictWeights_l1 a0) ([], 0) = some (a0.map tgt) := by
      refine Iter_count (f := G.graftlaw12_ConflictWeights_l1 a0) a0.length (fun k => ((a0.take k).map tgt, (k : Int))) _ (fun k hk => ?_) ?_ (by simp)
      · unfold G.graftlaw12_ConflictWeights_l1
        rw [if_pos (by simp only; omega)]
        simp only [idx_of hk, Option.bind_some, Target4_of]
        rw [app_of (by simp; omega), inc64 hk (by omega), List.take_succ_eq_append_getElem hk, List.map_append]
        rfl
      · unfold G.graftlaw12_ConflictWeights_l1
        rw [if_neg (by simp), List.take_length]
    have h2 : Iter (G.graftlaw12_ConflictWeights_l2 a0 (a0.map tgt)) 0 = some (.inl ()) := by
      refine Iter_count (f := G.graftlaw12_ConflictWeights_l2 a0 (a0.map tgt)) a0.length (fun k => (k : Int)) _ (fun k hk => ?_) ?_ rfl
      · unfold G.graftlaw12_ConflictWeights_l2
        rw [if_pos (by omega), idx_of hk]
        simp only [Option.bind_some]
        by_cases hc : a0[k].kind = 1
        · rw [if_neg (by simp [hc])]
          have hg := h.good _ (List.getElem_mem hk)
          rw [ReadsP_of hg hg]
          simp only [Option.bind_some]
          rw [Sum_of h hk]
          simp only [Option.bind_some]
          unfold G.graftref04_Source
          simp only [Option.bind_some]
          rw [Covered_of h hg hc]
          simp only [Option.bind_some]
          rw [if_neg (by simp), inc64 hk (by omega)]
        · rw [if_pos hc, inc64 hk (by omega)]
      · unfold G.graftlaw12_ConflictWeights_l2
        rw [if_neg (by omega)]
    rw [h1]
    simp only [Option.bind_some]
    rw [h2]
    simp only [Option.bind_some, joinK_inl]
    rw [Weight_of h]
    simp only [Option.bind_some]
    have e : (if a1 0 < (0 : Int) then some true else if a1 1 < (0 : Int) then some true else if a1 0 ≥ (a0.length : Int) then some true else if a1 1 ≥ (a0.length : Int) then some true else some (a1 0 == a1 1)) = some (decide (a1 0 = a1 1 ∨ a1 0 < 0 ∨ a1 1 < 0 ∨ a1 0 ≥ a0.length ∨ a1 1 ≥ a0.length)) := by
      repeat' split
      all_goals simp only [Option.some.injEq]
      · symm; rw [decide_eq_true_eq]; omega
      · symm; rw [decide_eq_true_eq]; omega
      · symm; rw [decide_eq_true_eq]; omega
      · symm; rw [decide_eq_true_eq]; omega
      · by_cases e : a1 0 = a1 1
        · simp [e]
        · rw [beq_eq_false_iff_ne.2 e]; symm; rw [decide_eq_false_iff_not]; omega
    rw [e, alive12]
    simp only [Option.bind_some]
    by_cases hx : a1 0 = a1 1 ∨ a1 0 < 0 ∨ a1 1 < 0 ∨ a1 0 ≥ a0.length ∨ a1 1 ≥ a0.length
    · rw [if_pos (decide_eq_true hx), if_pos hx]; rfl
    · rw [if_neg (by simpa using hx), if_neg hx]
      obtain ⟨i, ei⟩ := Int.eq_ofNat_of_zero_le (a := a1 0) (by omega)
      obtain ⟨j, ej⟩ := Int.eq_ofNat_of_zero_le (a := a1 1) (by omega)
      rw [ei, ej] at hx ⊢
      have hi : i < a0.length := by omega
      have hj : j < a0.length := by omega
      rw [idx_of hi, idx_of hj]
      simp only [Option.bind_some, ReadsR_of (h.good _ (List.getElem_mem hi)) (h.good _ (List.getElem_mem hj)), Int.toNat_natCast, if_true]
      rw [cat_getElem hi, cat_getElem hj]
      simp
end G
end Go.Proofs.Ythhmandpjlggcaa
