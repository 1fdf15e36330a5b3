/- Laws of commands that later chapters use again. No program in sight. -/
import Derived.Test.YtnbipipegmoigaaPFive3
namespace Go.Proofs.Ytnbipipegmoigaa
open G
namespace G
def few5 (d : G.Delta) : Bool := d.commands.all (fun c => decide (c.data.length ≤ 300)) && decide (d.commands.length ≤ 40)
theorem Few5_of (d : G.Delta) (hn : d.commands.length ≤ 9223372036854775807) : G.graftref05_Few d = some (few5 d) := by
  unfold G.graftref05_Few few5
  have hK := Iter_scan (f := G.graftref05_Few_l1 d) d.commands (fun c => !decide (c.data.length ≤ 300)) (fun k => (k : Int)) (fun _ => .inr false) (.inl ())
    (fun k h hb => by
      unfold G.graftref05_Few_l1
      rw [if_pos (by omega), idx_of h]
      simp only [Option.bind_some]
      simp at hb
      rw [if_neg (by omega), inc64 h hn])
    (fun k h hb => by
      unfold G.graftref05_Few_l1
      rw [if_pos (by omega), idx_of h]
      simp only [Option.bind_some]
      simp at hb
      rw [if_pos (by omega)])
    (by unfold G.graftref05_Few_l1; rw [if_neg (by omega)]) (s := 0) rfl
  rcases hK with ⟨ha, he⟩ | ⟨k, h, hb, _, he⟩
  · have : d.commands.all (fun c => decide (c.data.length ≤ 300)) = true := by rw [List.all_eq_true]; intro x hx; simpa using ha x hx
    rw [he, this]
    simp only [Option.bind_some, joinK_inl, Bool.true_and]
    congr 1; rw [decide_eq_decide]; omega
  · have : d.commands.all (fun c => decide (c.data.length ≤ 300)) = false := by rw [List.all_eq_false]; exact ⟨_, List.getElem_mem h, by simpa using hb⟩
    rw [he, this]; rfl
theorem few5_iff {d : G.Delta} : few5 d = true ↔ (∀ c ∈ d.commands, c.data.length ≤ 300) ∧ d.commands.length ≤ 40 := by
  unfold few5; rw [Bool.and_eq_true, List.all_eq_true, decide_eq_true_eq]; simp
theorem CloneB_of (l : List UInt8) (h : l.length ≤ 140737488355328) : G.slices_Clone_byte_byte l = some l := by
  unfold G.slices_Clone_byte_byte
  rw [app_of (by simpa using h)]
  cases l with
  | nil => exact agree_same _
  | cons a l => rfl
theorem Clone_of (c : G.Command) (h : c.data.length ≤ 140737488355328) : G.command_Clone c = some c := by
  unfold G.command_Clone
  rw [CloneB_of _ h]
  rfl
theorem With_of (d : G.Delta) (l : List G.Command) (h : ∀ c ∈ l, c.data.length ≤ 140737488355328) (hn : l.length ≤ 1000000000000) : G.delta_With d l = some ⟨d.oldLen, d.newLen, d.oldHash, d.newHash, l⟩ := by
  unfold G.delta_With
  refine Iter_count l.length (fun k => ((k : Int), d.oldLen, d.newLen, d.oldHash, d.newHash, l.take k, 0, 0, (fun _ => 0), (fun _ => 0), [])) _ (fun k hk => ?_) ?_ rfl
  · unfold G.delta_With_l1
    rw [if_pos (by simp; omega)]
    simp only [idx_of hk, Option.bind_some, Clone_of _ (h _ (List.getElem_mem hk))]
    rw [app_of (by simp; omega)]
    simp only [Option.bind_some, inc64 hk (by omega)]
    rw [List.take_succ_eq_append_getElem hk]
  · unfold G.delta_With_l1
    rw [if_neg (by simp)]
    simp
theorem Withw_of (d : G.Delta) (l : List G.Command) (h : ∀ c ∈ l, c.data.length ≤ 140737488355328) (hn : l.length ≤ 1000000000000) : G.delta_With_w d l = some (d.oldLen, d.newLen, d.oldHash, d.newHash, l) := by
  unfold G.delta_With_w
  refine Iter_count l.length (fun k => ((k : Int), d.oldLen, d.newLen, d.oldHash, d.newHash, 0, 0, (fun _ => 0), (fun _ => 0), l.take k, [])) _ (fun k hk => ?_) ?_ rfl
  · unfold G.delta_With_w_l1
    rw [if_pos (by simp; omega)]
    simp only [idx_of hk, Option.bind_some, Clone_of _ (h _ (List.getElem_mem hk))]
    rw [app_of (by simp; omega)]
    simp only [Option.bind_some, inc64 hk (by omega)]
    rw [List.take_succ_eq_append_getElem hk]
  · unfold G.delta_With_w_l1
    rw [if_neg (by simp)]
    simp
theorem Same4_eq (a b : G.Command) : G.graftref04_Same a b = some (decide (a = b)) := by
  unfold G.graftref04_Same
  obtain ⟨a1, a2, a3, a4, a5⟩ := a
  obtain ⟨b1, b2, b3, b4, b5⟩ := b
  simp only [G.Command.mk.injEq]
  by_cases h1 : a1 = b1
  · by_cases h2 : a2 = b2
    · by_cases h3 : a3 = b3
      · by_cases h4 : a4 = b4 <;> simp [h1, h2, h3, h4]
      · simp [h1, h2, h3]
    · simp [h1, h2]
  · simp [h1]
theorem lists_eq {a b : List G.Command} (hl : a.length = b.length) : (∀ i, i < a.length → cat a i = cat b i) ↔ a = b := by
  constructor
  · intro h
    refine List.ext_getElem hl fun i h1 h2 => ?_
    rw [← cat_getElem h1, ← cat_getElem h2]; exact h i h1
  · rintro rfl i _; rfl
theorem loop_eq {f : Int → Option (Int ⊕ Bool)} {a b : List G.Command} (hl : a.length = b.length) (hf : ∀ k : Nat, f (k : Int) = if k < a.length then some (if cat a k = cat b k then .inl ((k + 1 : Nat) : Int) else .inr false) else some (.inr true)) : Iter f 0 = some (decide (a = b)) := by
  have hK := Iter_scan (f := f) (List.range a.length) (fun k => decide (cat a k ≠ cat b k)) (fun k => (k : Int)) (fun _ => false) true
    (fun k h hb => by
      have hb' : cat a k = cat b k := by simpa using hb
      simp at h; rw [hf, if_pos h, if_pos hb'])
    (fun k h hb => by
      have hb' : ¬ cat a k = cat b k := by simpa using hb
      simp at h; rw [hf, if_pos h, if_neg hb'])
    (by rw [hf, if_neg (by simp)]) (s := 0) rfl
  rcases hK with ⟨ha, he⟩ | ⟨k, h, hb, _, he⟩
  · rw [he]; congr 1; symm; rw [decide_eq_true_eq]
    exact (lists_eq hl).1 fun i hi => by simpa using ha i (List.mem_range.2 hi)
  · simp at h hb
    rw [he]; congr 1; symm; rw [decide_eq_false_iff_not]
    exact fun e => hb ((lists_eq hl).2 e k h)
theorem All_eq (a b : List G.Command) (hn : a.length ≤ 9223372036854775807) : G.graftref04_All a b = some (decide (a = b)) := by
  unfold G.graftref04_All
  by_cases hl : a.length = b.length
  · rw [if_neg (by simp; omega)]
    refine loop_eq hl fun k => ?_
    unfold G.graftref04_All_l1
    by_cases hk : k < a.length
    · rw [if_pos (by omega), if_pos hk, idx_getD default hk, idx_getD default (show k < b.length by omega)]
      simp only [Option.bind_some, Same4_eq]
      by_cases h : cat a k = cat b k
      · rw [if_neg (by simpa using h), if_pos h, inc64 hk hn]
      · rw [if_pos (by simpa using h), if_neg h]
    · rw [if_neg (by omega), if_neg hk]
  · rw [if_pos (by omega)]; congr 1; symm; rw [decide_eq_false_iff_not]; exact fun e => hl (by rw [e])
/-- The same delta. -/
def sm (a b : G.Delta) : Bool := decide (a.oldLen = b.oldLen) && decide (a.newLen = b.newLen) && hashEq a.oldHash b.oldHash && hashEq a.newHash b.newHash && decide (a.commands = b.commands)
theorem Same5_eq (a b : G.Delta) (hn : a.commands.length ≤ 9223372036854775807) : G.graftref05_Same a b = some (sm a b) := by
  unfold G.graftref05_Same sm
  rw [All_eq _ _ hn]
  by_cases h1 : a.oldLen = b.oldLen
  · by_cases h2 : a.newLen = b.newLen
    · cases h3 : hashEq a.oldHash b.oldHash
      · simp [h1, h2]
      · cases h4 : hashEq a.newHash b.newHash <;> simp [h1, h2]
    · simp [h1, h2]
  · simp [h1]
theorem hash_self (f : Nat → UInt8) : hashEq f f = true := by unfold hashEq; rw [List.all_eq_true]; intro i _; simp
theorem sm_self (a : G.Delta) : sm a a = true := by unfold sm; simp [hash_self]
theorem Find1_of {c : G.Command} {o : Int} (h0 : 0 ≤ c.to) (h1 : 1 ≤ tlen c) (h2 : tend c ≤ 4611686018427387903) (ho : 0 ≤ o ∧ o ≤ 4611686018427387903) : G.delta_Find_1 c o = some (decide (c.to ≤ o ∧ o < tend c)) := by
  have e1 : ∀ t : G.Extent, t = ⟨c.to, tlen c⟩ → G.extent_Contains_1 ⟨o, 1⟩ t = some (decide (¬ (c.to ≤ o ∧ o < tend c))) := by
    rintro t rfl
    unfold G.extent_Contains_1 G.extent_End tend at *
    simp only
    by_cases h : o < c.to
    · rw [if_pos h]; congr 1; symm; exact decide_eq_true (by omega)
    · rw [if_neg h]
      simp only [Option.bind_some, w64 (x := o + 1) (by omega) (by omega), w64 (x := c.to + tlen c) (by omega) (by omega)]
      congr 1; rw [decide_eq_decide]; omega
  unfold G.delta_Find_1 G.extent_Contains G.slices_ContainsFunc_api_Extent_api_Extent_extent_Contains_1 G.slices_IndexFunc_api_Extent_api_Extent_extent_Contains_1
  simp only [Target_of, Option.bind_some]
  have e2 : Iter (G.slices_IndexFunc_api_Extent_api_Extent_extent_Contains_1_l1 [⟨o, 1⟩] ⟨c.to, tlen c⟩) 0 = some (if c.to ≤ o ∧ o < tend c then -1 else 0) := by
    by_cases h : c.to ≤ o ∧ o < tend c
    · rw [if_pos h]
      rw [Iter_inl (s' := 1) (by unfold G.slices_IndexFunc_api_Extent_api_Extent_extent_Contains_1_l1; rw [if_pos (by simp)]; simp only [idx_of' (k := 0) (show (0 : Int) = ((0 : Nat) : Int) from rfl) (show 0 < [(⟨o, 1⟩ : G.Extent)].length by simp), Option.bind_some, List.getElem_cons_zero, e1 _ rfl]; rw [if_neg (by rw [decide_eq_true_eq]; exact fun k => k h)]; rfl)]
      exact Iter_inr (by unfold G.slices_IndexFunc_api_Extent_api_Extent_extent_Contains_1_l1; rw [if_neg (by simp)])
    · rw [if_neg h]
      exact Iter_inr (by unfold G.slices_IndexFunc_api_Extent_api_Extent_extent_Contains_1_l1; rw [if_pos (by simp)]; simp only [idx_of' (k := 0) (show (0 : Int) = ((0 : Nat) : Int) from rfl) (show 0 < [(⟨o, 1⟩ : G.Extent)].length by simp), Option.bind_some, List.getElem_cons_zero, e1 _ rfl]; rw [if_pos (decide_eq_true h)])
  rw [e2]
  simp only [Option.bind_some]
  by_cases h : c.to ≤ o ∧ o < tend c
  · rw [if_pos h]; simp [h]
  · rw [if_neg h]; simp [h]
end G
end Go.Proofs.Ytnbipipegmoigaa
