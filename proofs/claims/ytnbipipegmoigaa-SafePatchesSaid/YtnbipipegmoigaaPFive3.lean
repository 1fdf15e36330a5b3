/- The check of a delta, and that of the reference: the same fault. -/
import Derived.Test.YtnbipipegmoigaaPFive2
namespace Go.Proofs.Ytnbipipegmoigaa
open G
namespace G
/-- The target of command i meets that of an earlier one. -/
def ovi (l : List G.Command) (i : Nat) : Bool := (l.take i).any fun c => ov (cat l i) c
theorem meets_iff {l : List G.Command} : Meets l ↔ ∃ i, i < l.length ∧ ovi l i = true := by
  have key : ∀ i j, i < l.length → j < i → ov (cat l i) (cat l j) = true → ∃ i, i < l.length ∧ ovi l i = true := fun i j hi hj h => by
    refine ⟨i, hi, ?_⟩
    unfold ovi
    rw [List.any_eq_true]
    refine ⟨cat l j, ?_, h⟩
    rw [cat_getElem (by omega)]
    exact List.mem_take_iff_getElem.2 ⟨j, by omega, rfl⟩
  constructor
  · rintro ⟨i, j, hi, hj, hne, h⟩
    rcases Nat.lt_or_gt_of_ne hne with k | k
    · exact key j i hj k (by rw [ov_comm]; exact h)
    · exact key i j hi k h
  · rintro ⟨i, hi, h⟩
    unfold ovi at h
    rw [List.any_eq_true] at h
    obtain ⟨c, hc, h⟩ := h
    obtain ⟨j, hj, rfl⟩ := List.mem_take_iff_getElem.1 hc
    refine ⟨i, j, hi, by omega, by omega, ?_⟩
    rw [cat_getElem (i := j) (by omega)]; exact h
section
variable {d : G.Delta}
theorem overlap_in (hg : ∀ c ∈ d.commands, Good d c) (hn : d.commands.length ≤ 17592186044416) {i : Nat} (hi : i < d.commands.length) :
    Iter (G.delta_overlap_l2 d.commands (i : Int) (d.commands.take i)) 0 = some (if ovi d.commands i = true then .inr (i : Int) else .inl ((i + 1 : Nat) : Int)) := by
  have hl : (d.commands.take i).length = i := by simp; omega
  have hK := Iter_scan (f := G.delta_overlap_l2 d.commands (i : Int) (d.commands.take i)) (d.commands.take i) (fun c => ov (cat d.commands i) c) (fun k => (k : Int)) (fun _ => .inr (i : Int)) (.inl ((i + 1 : Nat) : Int))
    (fun k h hb => by
      obtain ⟨e, he⟩ := Overlap_of (hg _ (cat_mem hi)) (hg _ (List.mem_of_mem_take (List.getElem_mem h)))
      unfold G.delta_overlap_l2
      rw [if_pos (by omega), idx_of h, idx_getD default hi]
      simp only [Option.bind_some, Target_of, he, hb, Bool.false_eq_true, if_false]
      rw [inc64 (n := 17592186044417) (by omega) (by omega)])
    (fun k h hb => by
      obtain ⟨e, he⟩ := Overlap_of (hg _ (cat_mem hi)) (hg _ (List.mem_of_mem_take (List.getElem_mem h)))
      unfold G.delta_overlap_l2
      rw [if_pos (by omega), idx_of h, idx_getD default hi]
      simp only [Option.bind_some, Target_of, he, hb, if_true])
    (by unfold G.delta_overlap_l2; rw [if_neg (by omega), inc64 (n := 17592186044417) (by omega) (by omega)]) (s := 0) rfl
  rcases hK with ⟨ha, he⟩ | ⟨k, h, hb, _, he⟩
  · rw [he, if_neg]
    unfold ovi; rw [List.any_eq_true]
    rintro ⟨c, hc, h⟩
    rw [ha c hc] at h; cases h
  · rw [he, if_pos]
    unfold ovi; rw [List.any_eq_true]
    exact ⟨_, List.getElem_mem h, hb⟩
theorem overlap5_in (hg : ∀ c ∈ d.commands, Good d c) (hn : d.commands.length ≤ 17592186044416) {i : Nat} (hi : i < d.commands.length) :
    Iter (G.graftref05_Check_l3 d (i : Int)) 0 = some (if ovi d.commands i = true then .inr (.inr (4, (i : Int))) else .inl ((i + 1 : Nat) : Int)) := by
  have hl : (d.commands.take i).length = i := by simp; omega
  have hK := Iter_scan (f := G.graftref05_Check_l3 d (i : Int)) (d.commands.take i) (fun c => ov (cat d.commands i) c) (fun k => (k : Int)) (fun _ => .inr (.inr (4, (i : Int)))) (.inl ((i + 1 : Nat) : Int))
    (fun k h hb => by
      obtain ⟨e, he, he2⟩ := Overlap1_of (hg _ (cat_mem hi)) (hg _ (List.mem_of_mem_take (List.getElem_mem h)))
      have hk : (d.commands.take i)[k] = d.commands[k]'(by omega) := List.getElem_take
      rw [hk] at he he2 hb
      unfold G.graftref05_Check_l3
      rw [if_pos (by omega), idx_getD default hi, idx_of (show k < d.commands.length by omega)]
      simp only [Option.bind_some, Target4_of, he]
      rw [if_neg (by rw [hb] at he2; simpa using he2), inc64 (n := 17592186044417) (by omega) (by omega)])
    (fun k h hb => by
      obtain ⟨e, he, he2⟩ := Overlap1_of (hg _ (cat_mem hi)) (hg _ (List.mem_of_mem_take (List.getElem_mem h)))
      have hk : (d.commands.take i)[k] = d.commands[k]'(by omega) := List.getElem_take
      rw [hk] at he he2 hb
      unfold G.graftref05_Check_l3
      rw [if_pos (by omega), idx_getD default hi, idx_of (show k < d.commands.length by omega)]
      simp only [Option.bind_some, Target4_of, he]
      rw [if_pos (by rw [hb] at he2; simpa using he2)])
    (by unfold G.graftref05_Check_l3; rw [if_neg (by omega), inc64 (n := 17592186044417) (by omega) (by omega)]) (s := 0) rfl
  rcases hK with ⟨ha, he⟩ | ⟨k, h, hb, _, he⟩
  · rw [he, if_neg]
    unfold ovi; rw [List.any_eq_true]
    rintro ⟨c, hc, h⟩
    rw [ha c hc] at h; cases h
  · rw [he, if_pos]
    unfold ovi; rw [List.any_eq_true]
    exact ⟨_, List.getElem_mem h, hb⟩
/-- The first command whose target meets that of an earlier one. -/
def IsFirst (l : List G.Command) (i : Nat) : Prop := i < l.length ∧ ovi l i = true ∧ ∀ j, j < i → ovi l j = false
theorem IsFirst.unique {l : List G.Command} {i j : Nat} (h : IsFirst l i) (k : IsFirst l j) : i = j := by
  rcases Nat.lt_trichotomy i j with q | q | q
  · have := k.2.2 i q; rw [h.2.1] at this; cases this
  · exact q
  · have := h.2.2 j q; rw [k.2.1] at this; cases this
theorem overlap_of (hg : ∀ c ∈ d.commands, Good d c) (hn : d.commands.length ≤ 17592186044416) (hm : Meets d.commands) :
    ∃ i, IsFirst d.commands i ∧ G.delta_overlap d.commands = some (i : Int) := by
  have hK := Iter_scan (f := G.delta_overlap_l1 d.commands) (List.range d.commands.length) (fun i => ovi d.commands i) (fun k => (k : Int)) (fun k => (k : Int)) (-1)
    (fun k h hb => by
      simp at h hb
      unfold G.delta_overlap_l1
      rw [if_pos (by omega), slcTo_of (by omega)]
      simp only [Option.bind_some, Int.toNat_natCast]
      rw [overlap_in hg hn h, hb]; rfl)
    (fun k h hb => by
      simp at h hb
      unfold G.delta_overlap_l1
      rw [if_pos (by omega), slcTo_of (by omega)]
      simp only [Option.bind_some, Int.toNat_natCast]
      rw [overlap_in hg hn h, hb]; rfl)
    (by unfold G.delta_overlap_l1; simp) (s := 0) rfl
  unfold G.delta_overlap
  rcases hK with ⟨ha, he⟩ | ⟨k, h, hb, hj, he⟩
  · obtain ⟨i, hi, h⟩ := meets_iff.1 hm
    have := ha i (List.mem_range.2 hi)
    rw [h] at this; cases this
  · simp at h hb
    exact ⟨k, ⟨h, hb, fun j hjk => by simpa using hj j hjk⟩, he⟩
theorem overlap5_of (hg : ∀ c ∈ d.commands, Good d c) (hn : d.commands.length ≤ 17592186044416) :
    (¬ Meets d.commands ∧ Iter (G.graftref05_Check_l2 d) 0 = some (.inl ())) ∨ (Meets d.commands ∧ ∃ i, IsFirst d.commands i ∧ Iter (G.graftref05_Check_l2 d) 0 = some (.inr (4, (i : Int)))) := by
  have hK := Iter_scan (f := G.graftref05_Check_l2 d) (List.range d.commands.length) (fun i => ovi d.commands i) (fun k => (k : Int)) (fun k => .inr (4, (k : Int))) (.inl ())
    (fun k h hb => by
      simp at h hb
      unfold G.graftref05_Check_l2
      rw [if_pos (by omega), overlap5_in hg hn h, hb]; rfl)
    (fun k h hb => by
      simp at h hb
      unfold G.graftref05_Check_l2
      rw [if_pos (by omega), overlap5_in hg hn h, hb]; rfl)
    (by unfold G.graftref05_Check_l2; simp) (s := 0) rfl
  rcases hK with ⟨ha, he⟩ | ⟨k, h, hb, hj, he⟩
  · refine .inl ⟨fun hm => ?_, he⟩
    obtain ⟨i, hi, h⟩ := meets_iff.1 hm
    have := ha i (List.mem_range.2 hi)
    rw [h] at this; cases this
  · simp at h hb
    exact .inr ⟨meets_iff.2 ⟨k, h, hb⟩, k, ⟨h, hb, fun j hjk => by simpa using hj j hjk⟩, he⟩
theorem Find5_full (hg : ∀ c ∈ d.commands, Good d c) (hn : d.commands.length ≤ 17592186044416) (o : Int) : ∃ r, G.graftref05_Find d o = some r ∧ (r < 0 ↔ ¬ Cov d.commands o) ∧ (0 ≤ r → ∃ k : Nat, ∃ h : k < d.commands.length, r = (k : Int) ∧ d.commands[k].to ≤ o ∧ o < tend d.commands[k]) := by
  have hh : ∀ c ∈ d.commands, G.graftref05_has c o = some (decide (c.to ≤ o ∧ o < tend c)) := fun c hc => by
    have h1 := hg c hc
    unfold G.graftref05_has G.graftref01_Has
    have := h1.to0; have := h1.max; have := h1.len1
    simp only [Target4_of, Option.bind_some]
    unfold tend at *
    rw [w64 (by omega) (by omega)]
    by_cases h : o ≥ c.to
    · rw [if_pos h]; simp only [Option.bind_some]; congr 1; rw [decide_eq_decide]; omega
    · rw [if_neg h]; simp only [Option.bind_some]; congr 1; symm; rw [decide_eq_false_iff_not]; omega
  have hK := Iter_scan (f := G.graftref05_Find_l1 d o) d.commands (fun c => decide (c.to ≤ o ∧ o < tend c)) (fun k => (k : Int)) (fun k => (k : Int)) (-1)
    (fun k h hb => by
      unfold G.graftref05_Find_l1
      rw [if_pos (by omega), idx_of h]
      simp only [Option.bind_some, hh _ (List.getElem_mem h), hb, Bool.false_eq_true, if_false]
      rw [inc64 (n := 17592186044417) (by omega) (by omega)])
    (fun k h hb => by
      unfold G.graftref05_Find_l1
      rw [if_pos (by omega), idx_of h]
      simp only [Option.bind_some, hh _ (List.getElem_mem h), hb, if_true])
    (by unfold G.graftref05_Find_l1; simp) (s := 0) rfl
  unfold G.graftref05_Find
  rcases hK with ⟨ha, he⟩ | ⟨k, h, hb, hj, he⟩
  · refine ⟨-1, he, ?_, fun h => by omega⟩
    refine ⟨fun _ ⟨c, hc, h⟩ => ?_, fun _ => by omega⟩
    have := ha c hc
    simp only [decide_eq_false_iff_not] at this
    exact this h
  · refine ⟨(k : Int), he, ⟨fun h => by omega, fun hnc => absurd ⟨_, List.getElem_mem h, by simpa using hb⟩ hnc⟩, fun _ => ⟨k, h, rfl, by simpa using hb⟩⟩
theorem Find5_of (hg : ∀ c ∈ d.commands, Good d c) (hn : d.commands.length ≤ 17592186044416) (o : Int) : ∃ r, G.graftref05_Find d o = some r ∧ (r < 0 ↔ ¬ Cov d.commands o) := by
  obtain ⟨r, h1, h2, _⟩ := Find5_full hg hn o
  exact ⟨r, h1, h2⟩
theorem gap5_of (hg : ∀ c ∈ d.commands, Good d c) (hn : d.commands.length ≤ 17592186044416) {t : Int} (ht : IsEnd d.commands t) :
    G.graftref05_gap d = some (if t < d.newLen then t else -1) := by
  unfold G.graftref05_gap
  obtain ⟨r, hr, hq⟩ := Iter_total (f := G.graftref05_gap_l1 d)
    (fun m st => ∃ (k : Nat) (out : Int), st = (out, (k : Int) - 1) ∧ m = d.commands.length + 1 - k ∧ k ≤ d.commands.length + 1 ∧ (out = -1 ∨ (t ≤ out ∧ out < d.newLen)) ∧ (t < d.newLen → (0 < k ∧ t = 0 ∨ ∃ j, j + 1 < k ∧ t = tend (cat d.commands j)) → out = t))
    (fun r => r = if t < d.newLen then t else -1) (by
      rintro m st ⟨k, out, rfl, rfl, hk, h1, h2⟩
      unfold G.graftref05_gap_l1
      by_cases hlt : k < d.commands.length + 1
      · left
        rw [if_pos (show (out, (k : Int) - 1).2 < (d.commands.length : Int) by simp; omega)]
        obtain ⟨v, hv, hv0, hvc⟩ : ∃ v, (if (out, (k : Int) - 1).2 ≥ 0 then (idx d.commands (out, (k : Int) - 1).2).bind fun x2 => (idx d.commands (out, (k : Int) - 1).2).bind fun x3 => (G.graftref04_Len x3).bind fun y2 => some (IntKind.i64.wrap (x2.to + y2)) else some 0) = some v ∧ 0 ≤ v ∧ (k = 0 ∧ v = 0 ∨ ∃ j, j + 1 = k ∧ v = tend (cat d.commands j)) := by
          by_cases hk0 : k = 0
          · subst hk0
            exact ⟨0, by rw [if_neg (by simp)], Int.le_refl _, .inl ⟨rfl, rfl⟩⟩
          · have hgo := hg _ (cat_mem (l := d.commands) (i := k - 1) (by omega))
            rw [if_pos (by simp; omega)]
            simp only [idx_getD' (k := k - 1) default (show (k : Int) - 1 = ((k - 1 : Nat) : Int) by omega) (show k - 1 < d.commands.length by omega), Option.bind_some, Len4_of]
            have := hgo.to0; have := hgo.max; have := hgo.len1
            refine ⟨tend (cat d.commands (k - 1)), ?_, by unfold tend at *; omega, .inr ⟨k - 1, by omega, rfl⟩⟩
            unfold tend at *
            show some (IntKind.i64.wrap ((cat d.commands (k - 1)).to + tlen (cat d.commands (k - 1)))) = _
            rw [w64 (by omega) (by omega)]
        rw [hv]
        obtain ⟨f, hf, hfc⟩ := Find5_of hg hn v
        obtain ⟨b, hb, hbi⟩ : ∃ b, (if v < d.newLen then (G.graftref05_Find d v).bind fun y1 => if y1 < 0 then (if (out, (k : Int) - 1).1 < 0 then some true else some (decide (v < (out, (k : Int) - 1).1))) else some false else some false) = some b ∧ (b = true ↔ v < d.newLen ∧ ¬ Cov d.commands v ∧ (out < 0 ∨ v < out)) := by
          by_cases c1 : v < d.newLen
          · rw [if_pos c1, hf]
            simp only [Option.bind_some]
            by_cases c2 : f < 0
            · rw [if_pos c2]
              have c2' := hfc.1 c2
              by_cases c3 : out < 0
              · exact ⟨true, by rw [if_pos c3], by simp [c1, c2', c3]⟩
              · exact ⟨_, by rw [if_neg c3], by simp [c1, c2', c3]⟩
            · exact ⟨false, by rw [if_neg c2], by simp only [Bool.false_eq_true, false_iff]; exact fun h => c2 (hfc.2 h.2.1)⟩
          · exact ⟨false, by rw [if_neg c1], by simp [c1]⟩
        simp only [Option.bind_some]
        rw [hb]
        simp only [Option.bind_some]
        have hw : IntKind.i64.wrap ((k : Int) - 1 + 1) = ((k + 1 : Nat) : Int) - 1 := by rw [w64 (by omega) (by omega)]; omega
        have hvt : ¬ Cov d.commands v → t ≤ v := fun h => by
          refine Int.not_lt.1 fun hlt' => h (ht.cov v hv0 hlt')
        by_cases hbt : b = true
        · have hb' := hbi.1 hbt
          rw [if_pos hbt, hw]
          refine ⟨d.commands.length + 1 - (k + 1), _, rfl, by omega, k + 1, v, rfl, rfl, by omega, .inr ⟨hvt hb'.2.1, hb'.1⟩, fun htn hc => ?_⟩
          have h3 := hvt hb'.2.1
          have key : (0 < k ∧ t = 0 ∨ ∃ j, j + 1 < k ∧ t = tend (cat d.commands j)) → v = t := fun hc => by
            have q1 := h2 htn hc
            have q2 := ht.pos
            have q3 := hb'.2.2
            clear hvc hc h2
            omega
          rcases hc with ⟨_, h0⟩ | ⟨j, hj, hjt⟩
          · rcases hvc with ⟨h4, h5⟩ | ⟨j, h4, h5⟩
            · omega
            · exact key (.inl ⟨by omega, h0⟩)
          · by_cases hjk : j + 1 = k
            · rcases hvc with ⟨h4, h5⟩ | ⟨j', h4, h5⟩
              · omega
              · have : j' = j := by omega
                subst this; omega
            · exact key (.inr ⟨j, by omega, hjt⟩)
        · have hb' := fun h => hbt (hbi.2 h)
          rw [if_neg hbt, hw]
          refine ⟨d.commands.length + 1 - (k + 1), _, rfl, by omega, k + 1, out, rfl, rfl, by omega, h1, fun htn hc => ?_⟩
          have hvis : v = t → out = t := fun hvt' => by
            have := ht.pos
            have h6 : ¬ (out < 0 ∨ v < out) := fun h => hb' ⟨by clear hvc hc h2; omega, by rw [hvt']; exact ht.not, h⟩
            clear hvc hc h2
            omega
          rcases hc with ⟨_, h0⟩ | ⟨j, hj, hjt⟩
          · rcases hvc with ⟨h4, h5⟩ | ⟨j, h4, h5⟩
            · exact hvis (by omega)
            · exact h2 htn (.inl ⟨by omega, h0⟩)
          · by_cases hjk : j + 1 = k
            · rcases hvc with ⟨h4, h5⟩ | ⟨j', h4, h5⟩
              · omega
              · have : j' = j := by omega
                subst this
                exact hvis (by omega)
            · exact h2 htn (.inr ⟨j, by omega, hjt⟩)
      · right
        rw [if_neg (show ¬ (out, (k : Int) - 1).2 < (d.commands.length : Int) by simp; omega)]
        refine ⟨_, rfl, ?_⟩
        by_cases htn : t < d.newLen
        · rw [if_pos htn]
          refine h2 htn ?_
          rcases ht.cand with h | ⟨c, hc, h⟩
          · exact .inl ⟨by omega, h⟩
          · obtain ⟨i, hi, rfl⟩ := mem_cat hc
            exact .inr ⟨i, by omega, h⟩
        · rw [if_neg htn]
          rcases h1 with h | h
          · exact h
          · omega) (d.commands.length + 1) ((-1), (-1))
    ⟨0, -1, by simp, by omega, by omega, .inl rfl, fun _ h => by rcases h with h | ⟨j, h, _⟩ <;> omega⟩
  rw [hr, hq]
end
/-- The lengths are in range. -/
def InR (d : G.Delta) : Prop := 0 ≤ d.oldLen ∧ d.oldLen ≤ 4611686018427387903 ∧ 0 ≤ d.newLen ∧ d.newLen ≤ 4611686018427387903
instance (d : G.Delta) : Decidable (InR d) := by unfold InR; infer_instance
/-- The fault of a delta. -/
def IsChk (d : G.Delta) (e p : Int) : Prop :=
  (¬ InR d ∧ e = 2 ∧ p = -1) ∨ (InR d ∧ ∃ i, i < d.commands.length ∧ (∀ j, j < i → Good d (cat d.commands j)) ∧ ¬ Good d (cat d.commands i) ∧ e = sng d (cat d.commands i) ∧ p = i) ∨
  (InR d ∧ (∀ c ∈ d.commands, Good d c) ∧ Meets d.commands ∧ ∃ i : Nat, IsFirst d.commands i ∧ e = 4 ∧ p = i) ∨
  (InR d ∧ (∀ c ∈ d.commands, Good d c) ∧ ¬ Meets d.commands ∧ ∃ t, IsEnd d.commands t ∧ ((t < d.newLen ∧ e = 3 ∧ p = t) ∨ (¬ t < d.newLen ∧ e = 0 ∧ p = 0)))
theorem Check5 {d : G.Delta} (hn : d.commands.length ≤ 17592186044416) : ∃ e p, IsChk d e p ∧ G.delta_Check d = some ⟨e, p⟩ ∧ G.graftref05_Check d = some (e, p) := by
  have h1 : ((G.delta_inRange d.oldLen).bind fun y4 => if y4 = false then some true else (G.delta_inRange d.newLen).bind fun y5 => some (!y5)) = some (decide (¬ InR d)) := by
    unfold G.delta_inRange InR
    simp only [Valid_of, Option.bind_some]
    by_cases a : vld 0 d.oldLen = true
    · rw [a, if_neg (by simp)]
      congr 1
      have a' := vld_iff.1 a
      by_cases b : vld 0 d.newLen = true
      · have b' := vld_iff.1 b
        rw [b]; symm; exact decide_eq_false (fun h => h (by omega))
      · have b' := fun h => b (vld_iff.2 h)
        rw [show vld 0 d.newLen = false by simpa using b]; symm; exact decide_eq_true (fun h => b' (by omega))
    · have a' := fun h => a (vld_iff.2 h)
      rw [show vld 0 d.oldLen = false by simpa using a, if_pos rfl]
      congr 1; symm; exact decide_eq_true (fun h => a' (by omega))
  have h2 : (if d.oldLen < 0 then some true else if d.newLen < 0 then some true else (G.graftref01_Max).bind fun y6 => if d.oldLen > y6 then some true else (G.graftref01_Max).bind fun y7 => some (decide (d.newLen > y7))) = some (decide (¬ InR d)) := by
    unfold G.graftref01_Max InR
    simp only [Option.bind_some]
    split
    · congr 1; symm; rw [decide_eq_true_eq]; omega
    · split
      · congr 1; symm; rw [decide_eq_true_eq]; omega
      · split
        · congr 1; symm; rw [decide_eq_true_eq]; omega
        · congr 1; rw [decide_eq_decide]; omega
  unfold G.delta_Check G.graftref05_Check
  rw [h1, h2]
  by_cases hr : InR d
  · simp only [hr, not_true_eq_false, decide_false, Option.bind_some, Bool.false_eq_true, if_false]
    have hA := Iter_scan (f := G.delta_Check_l1 d) d.commands (fun c => decide (sng d c ≠ 0)) (fun k => (k : Int)) (fun k => .inr (⟨sng d (cat d.commands k), (k : Int)⟩ : G.Fault)) (.inl ())
      (fun k h hb => by
        unfold G.delta_Check_l1
        rw [if_pos (by omega), idx_of h]
        simp only [Option.bind_some, single_of]
        rw [if_neg (by simpa using hb), inc64 (n := 17592186044417) (by omega) (by omega)])
      (fun k h hb => by
        unfold G.delta_Check_l1
        rw [if_pos (by omega), idx_of h]
        simp only [Option.bind_some, single_of]
        rw [if_pos (by simpa using hb), cat_getElem h])
      (by unfold G.delta_Check_l1; simp) (s := 0) rfl
    have hB := Iter_scan (f := G.graftref05_Check_l1 d) d.commands (fun c => decide (sng d c ≠ 0)) (fun k => (k : Int)) (fun k => .inr (sng d (cat d.commands k), (k : Int))) (.inl ())
      (fun k h hb => by
        unfold G.graftref05_Check_l1
        rw [if_pos (by omega), idx_of h]
        simp only [Option.bind_some, single5_of]
        rw [if_neg (by simpa using hb), inc64 (n := 17592186044417) (by omega) (by omega)])
      (fun k h hb => by
        unfold G.graftref05_Check_l1
        rw [if_pos (by omega), idx_of h]
        simp only [Option.bind_some, single5_of]
        rw [if_pos (by simpa using hb), cat_getElem h])
      (by unfold G.graftref05_Check_l1; simp) (s := 0) rfl
    rcases hA with ⟨ha, he⟩ | ⟨k, h, hb, hj, he⟩
    · rcases hB with ⟨_, hf⟩ | ⟨k, h, hb, _, _⟩
      · have hg : ∀ c ∈ d.commands, Good d c := fun c hc => sng_zero.1 (by simpa using ha c hc)
        simp only [he, hf, Option.bind_some, joinK_inl]
        rcases tiles_of (l := d.commands) (fun c hc => ⟨(hg c hc).to0, (hg c hc).len1, (hg c hc).max⟩) hn with ⟨hm, ht⟩ | ⟨hm, t, ht, hte⟩
        · obtain ⟨i, hi, ho⟩ := overlap_of hg hn hm
          rcases overlap5_of hg hn with ⟨hm', _⟩ | ⟨_, j, hj, ho'⟩
          · exact absurd hm hm'
          · have := hi.unique hj
            subst this
            refine ⟨4, (i : Int), .inr (.inr (.inl ⟨hr, hg, hm, i, hi, rfl, rfl⟩)), ?_, ?_⟩
            · rw [ht]; simp only [Option.bind_some, if_true, ho]
            · rw [ho']; rfl
        · rcases overlap5_of hg hn with ⟨_, ho'⟩ | ⟨hm', _⟩
          · have := hte.pos
            by_cases hlt : t < d.newLen
            · refine ⟨3, t, .inr (.inr (.inr ⟨hr, hg, hm, t, hte, .inl ⟨hlt, rfl, rfl⟩⟩)), ?_, ?_⟩
              · rw [ht]; simp [hlt]
              · rw [ho']; simp only [Option.bind_some, joinK_inl, gap5_of hg hn hte, if_pos hlt]; rw [if_pos (by omega)]
            · refine ⟨0, 0, .inr (.inr (.inr ⟨hr, hg, hm, t, hte, .inr ⟨hlt, rfl, rfl⟩⟩)), ?_, ?_⟩
              · rw [ht]; simp [hlt]
              · rw [ho']; simp only [Option.bind_some, joinK_inl, gap5_of hg hn hte, if_neg hlt]; rw [if_neg (by omega)]
          · exact absurd hm' hm
      · have := ha _ (List.getElem_mem h)
        rw [hb] at this; cases this
    · rcases hB with ⟨ha, _⟩ | ⟨k', h', hb', hj', hf⟩
      · have := ha _ (List.getElem_mem h)
        rw [hb] at this; cases this
      · have : k = k' := by
          rcases Nat.lt_trichotomy k k' with q | q | q
          · have := hj' k q; rw [hb] at this; cases this
          · exact q
          · have := hj k' q; rw [hb'] at this; cases this
        subst this
        refine ⟨sng d (cat d.commands k), (k : Int), .inr (.inl ⟨hr, k, h, fun j hjk => ?_, ?_, rfl, rfl⟩), ?_, ?_⟩
        · rw [cat_getElem (by omega)]; exact sng_zero.1 (by simpa using hj j hjk)
        · rw [cat_getElem h]; exact sng_ne.1 (by simpa using hb)
        · rw [he]; rfl
        · rw [hf]; rfl
  · exact ⟨2, -1, .inl ⟨hr, rfl, rfl⟩, by simp [hr], by simp [hr]⟩
/-- A valid delta. -/
structure VD (d : G.Delta) : Prop where
  rng : InR d
  good : ∀ c ∈ d.commands, Good d c
  apart : ¬ Meets d.commands
  full : ∀ o, 0 ≤ o → o < d.newLen → Cov d.commands o
theorem IsChk.zero {d : G.Delta} {e p : Int} (h : IsChk d e p) : (e = 0 ↔ VD d) ∧ (e = 0 → p = 0) := by
  rcases h with ⟨h1, rfl, rfl⟩ | ⟨h1, i, hi, _, hb, rfl, rfl⟩ | ⟨h1, h2, h3, i, _, rfl, rfl⟩ | ⟨h1, h2, h3, t, ht, ⟨h4, rfl, rfl⟩ | ⟨h4, rfl, rfl⟩⟩
  · exact ⟨⟨fun h => by omega, fun h => absurd h.rng h1⟩, fun h => by omega⟩
  · exact ⟨⟨fun h => absurd (sng_zero.1 h) hb, fun h => absurd (h.good _ (cat_mem hi)) hb⟩, fun h => absurd (sng_zero.1 h) hb⟩
  · exact ⟨⟨fun h => by omega, fun h => absurd h3 h.apart⟩, fun h => by omega⟩
  · exact ⟨⟨fun h => by omega, fun h => absurd (h.full p ht.pos h4) ht.not⟩, fun h => by omega⟩
  · exact ⟨⟨fun _ => ⟨h1, h2, h3, fun o h5 h6 => ht.cov o h5 (by omega)⟩, fun _ => rfl⟩, fun _ => rfl⟩
theorem Check_valid {d : G.Delta} (hn : d.commands.length ≤ 17592186044416) (h : VD d) : G.delta_Check d = some ⟨0, 0⟩ ∧ G.graftref05_Check d = some (0, 0) := by
  obtain ⟨e, p, h1, h2, h3⟩ := Check5 hn
  have he := h1.zero.1.2 h
  have hp := h1.zero.2 he
  subst he hp
  exact ⟨h2, h3⟩
theorem Valid5_of {d : G.Delta} (hn : d.commands.length ≤ 17592186044416) : ∃ b, G.delta_Valid d = some b ∧ G.graftref05_Valid d = some b ∧ (b = true ↔ VD d) := by
  obtain ⟨e, p, h1, h2, h3⟩ := Check5 hn
  unfold G.delta_Valid G.graftref05_Valid
  rw [h2, h3]
  simp only [Option.bind_some]
  refine ⟨decide (e = 0), ?_, ?_, by rw [decide_eq_true_eq]; exact h1.zero.1⟩
  · congr 1; rw [decide_eq_decide]; exact ⟨fun h => h.1, fun h => ⟨h, h1.zero.2 h⟩⟩
  · congr 1
end G
end Go.Proofs.Ytnbipipegmoigaa
