/- The statements on deltas: With, Same, the example of the chapter; Check and With. -/
import Derived.Test.YtkalbidbhaalmaaPFive3
namespace Go.Proofs.Ytkalbidbhaalmaa
open G
namespace G
def few5 (d : G.Delta) : Bool := d.commands.all (fun c => decide (c.data.length ≤ 300)) && decide (d.commands.length ≤ 40)
theorem Few5_of (d : G.Delta) (hn : d.commands.length ≤ 9223372036854775807) : G.graftref05_Few d = some (few5 d) := by
  unfold G.graftref05_Few few5
  have hK := Iter_scan (f := G.graftref05_Few_l1 d) d.commands (fun c => !decide (c.data.length ≤ 300)) (fun k => (k : Int)) (fun _ => .inr false) (.inl ())
    (fun k h hb => by
      unfold G.graftref05_Few_l1
      rw [if_pos (by omega), idx_of h]
      simp only [Option.bind_some]
      simp at hb
      rw [if_neg (by omega), inc64 h hn])
    (fun k h hb => by
      unfold G.graftref05_Few_l1
      rw [if_pos (by omega), idx_of h]
      simp only [Option.bind_some]
      simp at hb
      rw [if_pos (by omega)])
    (by unfold G.graftref05_Few_l1; rw [if_neg (by omega)]) (s := 0) rfl
  rcases hK with ⟨ha, he⟩ | ⟨k, h, hb, _, he⟩
  · have : d.commands.all (fun c => decide (c.data.length ≤ 300)) = true := by rw [List.all_eq_true]; intro x hx; simpa using ha x hx
    rw [he, this]
    simp only [Option.bind_some, joinK_inl, Bool.true_and]
    congr 1; rw [decide_eq_decide]; omega
  · have : d.commands.all (fun c => decide (c.data.length ≤ 300)) = false := by rw [List.all_eq_false]; exact ⟨_, List.getElem_mem h, by simpa using hb⟩
    rw [he, this]; rfl
theorem few5_iff {d : G.Delta} : few5 d = true ↔ (∀ c ∈ d.commands, c.data.length ≤ 300) ∧ d.commands.length ≤ 40 := by
  unfold few5; rw [Bool.and_eq_true, List.all_eq_true, decide_eq_true_eq]; simp
theorem Clone_of (c : G.Command) (h : c.data.length ≤ 140737488355328) : G.command_Clone c = some c := by
  unfold G.command_Clone G.slices_Clone_byte_byte
  rw [app_of (by simpa using h)]
  rfl
theorem With_of (d : G.Delta) (l : List G.Command) (h : ∀ c ∈ l, c.data.length ≤ 140737488355328) (hn : l.length ≤ 1000000000000) : G.delta_With d l = some ⟨d.oldLen, d.newLen, d.oldHash, d.newHash, l⟩ := by
  unfold G.delta_With
  refine Iter_count l.length (fun k => (l.take k, (k : Int))) _ (fun k hk => ?_) ?_ rfl
  · unfold G.delta_With_l1
    rw [if_pos (by simp; omega)]
    simp only [idx_of hk, Option.bind_some, Clone_of _ (h _ (List.getElem_mem hk))]
    rw [app_of (by simp; omega)]
    simp only [Option.bind_some, inc64 hk (by omega)]
    rw [List.take_succ_eq_append_getElem hk]
  · unfold G.delta_With_l1
    rw [if_neg (by simp)]
    simp
theorem Same4_eq (a b : G.Command) : G.graftref04_Same a b = some (decide (a = b)) := by
  unfold G.graftref04_Same
  obtain ⟨a1, a2, a3, a4, a5⟩ := a
  obtain ⟨b1, b2, b3, b4, b5⟩ := b
  simp only [G.Command.mk.injEq]
  by_cases h1 : a1 = b1
  · by_cases h2 : a2 = b2
    · by_cases h3 : a3 = b3
      · by_cases h4 : a4 = b4 <;> simp [h1, h2, h3, h4]
      · simp [h1, h2, h3]
    · simp [h1, h2]
  · simp [h1]
theorem SameC_eq (a b : G.Command) : G.command_Same a b = some (decide (a = b)) := by
  rw [← Same4_eq]
  unfold G.graftref04_Same G.command_Same G.bytes_Equal
  rfl
theorem lists_eq {a b : List G.Command} (hl : a.length = b.length) : (∀ i, i < a.length → cat a i = cat b i) ↔ a = b := by
  constructor
  · intro h
    refine List.ext_getElem hl fun i h1 h2 => ?_
    rw [← cat_getElem h1, ← cat_getElem h2]; exact h i h1
  · rintro rfl i _; rfl
theorem loop_eq {f : Int → Option (Int ⊕ Bool)} {a b : List G.Command} (hl : a.length = b.length) (hf : ∀ k : Nat, f (k : Int) = if k < a.length then some (if cat a k = cat b k then .inl ((k + 1 : Nat) : Int) else .inr false) else some (.inr true)) : Iter f 0 = some (decide (a = b)) := by
  have hK := Iter_scan (f := f) (List.range a.length) (fun k => decide (cat a k ≠ cat b k)) (fun k => (k : Int)) (fun _ => false) true
    (fun k h hb => by
      have hb' : cat a k = cat b k := by simpa using hb
      simp at h; rw [hf, if_pos h, if_pos hb'])
    (fun k h hb => by
      have hb' : ¬ cat a k = cat b k := by simpa using hb
      simp at h; rw [hf, if_pos h, if_neg hb'])
    (by rw [hf, if_neg (by simp)]) (s := 0) rfl
  rcases hK with ⟨ha, he⟩ | ⟨k, h, hb, _, he⟩
  · rw [he]; congr 1; symm; rw [decide_eq_true_eq]
    exact (lists_eq hl).1 fun i hi => by simpa using ha i (List.mem_range.2 hi)
  · simp at h hb
    rw [he]; congr 1; symm; rw [decide_eq_false_iff_not]
    exact fun e => hb ((lists_eq hl).2 e k h)
theorem All_eq (a b : List G.Command) (hn : a.length ≤ 9223372036854775807) : G.graftref04_All a b = some (decide (a = b)) := by
  unfold G.graftref04_All
  by_cases hl : a.length = b.length
  · rw [if_neg (by simp; omega)]
    refine loop_eq hl fun k => ?_
    unfold G.graftref04_All_l1
    by_cases hk : k < a.length
    · rw [if_pos (by omega), if_pos hk, idx_getD default hk, idx_getD default (show k < b.length by omega)]
      simp only [Option.bind_some, Same4_eq]
      by_cases h : cat a k = cat b k
      · rw [if_neg (by simpa using h), if_pos h, inc64 hk hn]
      · rw [if_pos (by simpa using h), if_neg h]
    · rw [if_neg (by omega), if_neg hk]
  · rw [if_pos (by omega)]; congr 1; symm; rw [decide_eq_false_iff_not]; exact fun e => hl (by rw [e])
theorem Equal_eq (a b : List G.Command) (hn : a.length ≤ 9223372036854775807) : G.slices_EqualFunc_api_Command_api_Command_api_Command_api_Command_command_Same a b () = some (decide (a = b)) := by
  unfold G.slices_EqualFunc_api_Command_api_Command_api_Command_api_Command_command_Same
  by_cases hl : a.length = b.length
  · rw [if_neg (by simp; omega)]
    refine loop_eq hl fun k => ?_
    unfold G.slices_EqualFunc_api_Command_api_Command_api_Command_api_Command_command_Same_l1
    by_cases hk : k < a.length
    · rw [if_pos (by omega), if_pos hk, idx_getD default hk, idx_getD default (show k < b.length by omega)]
      simp only [Option.bind_some, SameC_eq]
      by_cases h : cat a k = cat b k
      · rw [if_neg (by simpa using h), if_pos h, inc64 hk hn]
      · rw [if_pos (by simpa using h), if_neg h]
    · rw [if_neg (by omega), if_neg hk]
  · rw [if_pos (by omega)]; congr 1; symm; rw [decide_eq_false_iff_not]; exact fun e => hl (by rw [e])
/-- The same delta. -/
def sm (a b : G.Delta) : Bool := decide (a.oldLen = b.oldLen) && decide (a.newLen = b.newLen) && hashEq a.oldHash b.oldHash && hashEq a.newHash b.newHash && decide (a.commands = b.commands)
theorem Same5_eq (a b : G.Delta) (hn : a.commands.length ≤ 9223372036854775807) : G.graftref05_Same a b = some (sm a b) := by
  unfold G.graftref05_Same sm
  rw [All_eq _ _ hn]
  by_cases h1 : a.oldLen = b.oldLen
  · by_cases h2 : a.newLen = b.newLen
    · cases h3 : hashEq a.oldHash b.oldHash
      · simp [h1, h2]
      · cases h4 : hashEq a.newHash b.newHash <;> simp [h1, h2]
    · simp [h1, h2]
  · simp [h1]
theorem SameD_eq (a b : G.Delta) (hn : a.commands.length ≤ 9223372036854775807) : G.delta_Same a b = some (sm a b) := by
  rw [← Same5_eq a b hn]
  unfold G.graftref05_Same G.delta_Same
  rw [All_eq _ _ hn, Equal_eq _ _ hn]
theorem hash_self (f : Nat → UInt8) : hashEq f f = true := by unfold hashEq; rw [List.all_eq_true]; intro i _; simp
theorem sm_self (a : G.Delta) : sm a a = true := by unfold sm; simp [hash_self]
/-- A gap; two targets that meet. -/
theorem IsChk.gap {d : G.Delta} {e p t : Int} (h : IsChk d e p) (hr : InR d) (hg : ∀ c ∈ d.commands, Good d c) (hm : ¬ Meets d.commands) (ht : IsEnd d.commands t) (hl : t < d.newLen) : e = 3 ∧ p = t := by
  rcases h with ⟨h1, rfl, rfl⟩ | ⟨h1, i, hi, _, hb, rfl, rfl⟩ | ⟨h1, h2, h3, i, _, rfl, rfl⟩ | ⟨h1, h2, h3, t', ht', ⟨h4, rfl, rfl⟩ | ⟨h4, rfl, rfl⟩⟩
  · exact absurd hr h1
  · exact absurd (hg _ (cat_mem hi)) hb
  · exact absurd h3 hm
  · exact ⟨rfl, ht'.unique ht⟩
  · rw [ht'.unique ht] at h4; exact absurd hl h4
theorem IsChk.over {d : G.Delta} {e p : Int} {i : Nat} (h : IsChk d e p) (hr : InR d) (hg : ∀ c ∈ d.commands, Good d c) (hm : IsFirst d.commands i) : e = 4 ∧ p = i := by
  have hm' : Meets d.commands := meets_iff.2 ⟨i, hm.1, hm.2.1⟩
  rcases h with ⟨h1, rfl, rfl⟩ | ⟨h1, i, hi, _, hb, rfl, rfl⟩ | ⟨h1, h2, h3, j, hj, rfl, rfl⟩ | ⟨h1, h2, h3, _⟩
  · exact absurd hr h1
  · exact absurd (hg _ (cat_mem hi)) hb
  · rw [hm.unique hj]; exact ⟨rfl, rfl⟩
  · exact absurd hm' h3
/-- The commands of the example. -/
def exA : G.Command := ⟨1, 2, 0, 4, []⟩
def exB : G.Command := ⟨2, 0, 0, 0, [97, 98]⟩
theorem tl_A : tlen exA = 4 := rfl
theorem tl_B : tlen exB = 2 := rfl
theorem good_A {d : G.Delta} (h1 : d.oldLen = 4) (h2 : d.newLen = 6) : Good d exA := ⟨by decide, by rw [tl_A]; omega, by unfold tend; rw [tl_A, h2]; decide, by unfold tend; rw [tl_A]; decide, fun _ => by rw [h1]; decide, fun h => absurd rfl h⟩
theorem good_B {d : G.Delta} (h2 : d.newLen = 6) : Good d exB := ⟨by decide, by rw [tl_B]; omega, by unfold tend; rw [tl_B, h2]; decide, by unfold tend; rw [tl_B]; decide, fun h => absurd h (by decide), fun _ => by decide⟩
theorem ex_valid {d : G.Delta} (h1 : d.oldLen = 4) (h2 : d.newLen = 6) (hc : d.commands = [exA, exB]) : VD d := by
  refine ⟨by unfold InR; omega, fun c hc' => ?_, ?_, fun o h3 h4 => ?_⟩
  · rw [hc] at hc'; simp at hc'
    rcases hc' with rfl | rfl
    · exact good_A h1 h2
    · exact good_B h2
  · rw [hc, meets_iff]
    rintro ⟨i, hi, h⟩
    simp at hi
    match i, hi with
    | 0, _ => exact absurd h (by decide)
    | 1, _ => exact absurd h (by decide)
  · rw [hc]
    by_cases h : o < 2
    · exact ⟨exB, by simp, by show 0 ≤ o; exact h3, by unfold tend; rw [tl_B]; show o < 0 + 2; omega⟩
    · exact ⟨exA, by simp, by show 2 ≤ o; omega, by unfold tend; rw [tl_A]; show o < 2 + 4; omega⟩
theorem ex_gap {d : G.Delta} (h1 : d.oldLen = 4) (h2 : d.newLen = 6) (hc : d.commands = [exA]) : G.delta_Check d = some ⟨3, 0⟩ := by
  obtain ⟨e, p, hk, h3, _⟩ := Check5 (d := d) (by rw [hc]; decide)
  have := hk.gap (t := 0) (by unfold InR; omega) (fun c hc' => by rw [hc] at hc'; simp at hc'; subst hc'; exact good_A h1 h2) (by
    rw [hc, meets_iff]
    rintro ⟨i, hi, h⟩
    simp at hi
    subst hi
    exact absurd h (by decide)) ⟨Int.le_refl _, fun o h4 h5 => by omega, by
      rw [hc]; rintro ⟨c, hc', h4, h5⟩
      simp at hc'; subst hc'
      exact absurd h4 (by decide), .inl rfl⟩ (by omega)
  rw [h3, this.1, this.2]
theorem Find1_of {c : G.Command} {o : Int} (h0 : 0 ≤ c.to) (h1 : 1 ≤ tlen c) (h2 : tend c ≤ 4611686018427387903) (ho : 0 ≤ o ∧ o ≤ 4611686018427387903) : G.delta_Find_1 c o = some (decide (c.to ≤ o ∧ o < tend c)) := by
  have e1 : ∀ t : G.Extent, t = ⟨c.to, tlen c⟩ → G.extent_Contains_1 ⟨o, 1⟩ t = some (decide (¬ (c.to ≤ o ∧ o < tend c))) := by
    rintro t rfl
    unfold G.extent_Contains_1 G.extent_End tend at *
    simp only
    by_cases h : o < c.to
    · rw [if_pos h]; congr 1; symm; exact decide_eq_true (by omega)
    · rw [if_neg h]
      simp only [Option.bind_some, w64 (x := o + 1) (by omega) (by omega), w64 (x := c.to + tlen c) (by omega) (by omega)]
      congr 1; rw [decide_eq_decide]; omega
  unfold G.delta_Find_1 G.extent_Contains G.slices_ContainsFunc_api_Extent_api_Extent_extent_Contains_1 G.slices_IndexFunc_api_Extent_api_Extent_extent_Contains_1
  simp only [Target_of, Option.bind_some]
  have e2 : Iter (G.slices_IndexFunc_api_Extent_api_Extent_extent_Contains_1_l1 [⟨o, 1⟩] ⟨c.to, tlen c⟩) 0 = some (if c.to ≤ o ∧ o < tend c then -1 else 0) := by
    by_cases h : c.to ≤ o ∧ o < tend c
    · rw [if_pos h]
      rw [Iter_inl (s' := 1) (by unfold G.slices_IndexFunc_api_Extent_api_Extent_extent_Contains_1_l1; rw [if_pos (by simp)]; simp only [idx_of' (k := 0) (show (0 : Int) = ((0 : Nat) : Int) from rfl) (show 0 < [(⟨o, 1⟩ : G.Extent)].length by simp), Option.bind_some, List.getElem_cons_zero, e1 _ rfl]; rw [if_neg (by rw [decide_eq_true_eq]; exact fun k => k h)]; rfl)]
      exact Iter_inr (by unfold G.slices_IndexFunc_api_Extent_api_Extent_extent_Contains_1_l1; rw [if_neg (by simp)])
    · rw [if_neg h]
      exact Iter_inr (by unfold G.slices_IndexFunc_api_Extent_api_Extent_extent_Contains_1_l1; rw [if_pos (by simp)]; simp only [idx_of' (k := 0) (show (0 : Int) = ((0 : Nat) : Int) from rfl) (show 0 < [(⟨o, 1⟩ : G.Extent)].length by simp), Option.bind_some, List.getElem_cons_zero, e1 _ rfl]; rw [if_pos (decide_eq_true h)])
  rw [e2]
  simp only [Option.bind_some]
  by_cases h : c.to ≤ o ∧ o < tend c
  · rw [if_pos h]; simp [h]
  · rw [if_neg h]; simp [h]
theorem alive5 : G.graftlaw05_alive = some true := by
  unfold G.graftlaw05_alive
  rw [show (⟨1, 2, 0, 4, ([] : List UInt8)⟩ : G.Command) = exA from rfl, show (⟨2, 0, 0, 0, ([(97 : UInt8), (98 : UInt8)] : List UInt8)⟩ : G.Command) = exB from rfl]
  have hv : VD ⟨4, 6, fun _ => 0, fun _ => 0, [exA, exB]⟩ := ex_valid rfl rfl rfl
  rw [(Check_valid (by decide) hv).1]
  simp only [Option.bind_some, and_self, if_true]
  rw [With_of _ _ (fun c hc => by simp at hc; subst hc; decide) (by decide)]
  simp only [Option.bind_some]
  rw [ex_gap rfl rfl rfl]
  simp only [Option.bind_some, and_self, if_true]
  have hf : G.delta_Find ⟨4, 6, fun _ => 0, fun _ => 0, [exA, exB]⟩ 1 = some 1 := by
    unfold G.delta_Find G.slices_IndexFunc_api_Command_api_Command_delta_Find_1
    have fa := Find1_of (c := exA) (o := 1) (by decide) (by decide) (by unfold tend; rw [tl_A]; decide) (by decide)
    have fb := Find1_of (c := exB) (o := 1) (by decide) (by decide) (by unfold tend; rw [tl_B]; decide) (by decide)
    rw [Iter_inl (s' := 1) (by
      unfold G.slices_IndexFunc_api_Command_api_Command_delta_Find_1_l1
      rw [if_pos (by simp)]
      simp only [idx_of' (k := 0) (show (0 : Int) = ((0 : Nat) : Int) from rfl) (show 0 < [exA, exB].length by simp), Option.bind_some, List.getElem_cons_zero, fa]
      rw [if_neg (by decide)]; rfl)]
    rw [Iter_inr (a := 1) (by
      unfold G.slices_IndexFunc_api_Command_api_Command_delta_Find_1_l1
      rw [if_pos (by simp)]
      simp only [idx_of' (k := 1) (show (1 : Int) = ((1 : Nat) : Int) from rfl) (show 1 < [exA, exB].length by simp), Option.bind_some, List.getElem_cons_succ, List.getElem_cons_zero, fb]
      rw [if_pos (by decide)])]
    rfl
  rw [hf]
  simp only [Option.bind_some, if_true]
  obtain ⟨b, h1, _, h2⟩ := Valid5_of (d := ⟨4, 6, fun _ => 0, fun _ => 0, [exA, exB]⟩) (by decide)
  rw [h1, h2.2 hv]; rfl
end G
theorem G.graftlaw05_DeltaChecks_true (a0 : G.Delta) (h0 : G.Delta.Ok a0) : G.graftlaw05_DeltaChecks a0 = some true := by
  unfold G.graftlaw05_DeltaChecks
  rw [Few5_of a0 h0.2.2.1, alive5]
  cases hf : few5 a0
  · rfl
  · have hn := (few5_iff.1 hf).2
    obtain ⟨e, p, h1, h2, h3⟩ := Check5 (d := a0) (by omega)
    obtain ⟨b, h4, _, h5⟩ := Valid5_of (d := a0) (by omega)
    simp only [Option.bind_some, Bool.true_eq_false, if_false, h2, h3, if_true, h4]
    congr 1
    rw [beq_iff_eq]
    have := h1.zero.1
    by_cases he : e = 0
    · rw [h5.2 (this.1 he), he]; rfl
    · have hb : b = false := by cases b; rfl; exact absurd (this.2 (h5.1 rfl)) he
      rw [hb]; symm; simpa using he
theorem G.graftlaw05_DeltaWith_true (a0 a1 : G.Delta) (h0 : G.Delta.Ok a0) (h1 : G.Delta.Ok a1) : G.graftlaw05_DeltaWith a0 a1 = some true := by
  unfold G.graftlaw05_DeltaWith
  rw [Few5_of a0 h0.2.2.1, Few5_of a1 h1.2.2.1, alive5]
  cases hf : few5 a0
  · rfl
  · cases hf1 : few5 a1
    · rfl
    · have f0 := few5_iff.1 hf
      have f1 := few5_iff.1 hf1
      simp only [Option.bind_some, Bool.true_eq_false, if_false, Bool.not_true, Bool.false_eq_true, if_true]
      rw [With_of a0 a1.commands (fun c hc => by have := f1.1 c hc; omega) (by omega)]
      unfold G.graftref05_With
      simp only [Option.bind_some]
      rw [Same5_eq _ _ (by show a1.commands.length ≤ _; omega), sm_self, Same5_eq a0 a1 (by omega), SameD_eq a0 a1 (by omega), SameD_eq a0 a0 (by omega), SameD_eq _ a0 (by show a1.commands.length ≤ _; omega), All_eq _ _ (by omega)]
      simp only [Option.bind_some, if_true, sm_self]
      congr 1
      unfold sm
      simp only [hash_self, decide_true, Bool.true_and, beq_iff_eq]
      rw [decide_eq_decide]
      exact ⟨fun h => h.symm, fun h => h.symm⟩
end Go.Proofs.Ytkalbidbhaalmaa
