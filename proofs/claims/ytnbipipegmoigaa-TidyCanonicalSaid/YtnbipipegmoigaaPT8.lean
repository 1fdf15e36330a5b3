/- The example of the chapter; TidyEquivalent and TidyCanonical are true. No program in sight. -/
import Derived.Test.YtnbipipegmoigaaPT7
namespace Go.Proofs.Ytnbipipegmoigaa
open G
namespace G
def cA : G.Command := ⟨1, 0, 5, 2, []⟩
def cB : G.Command := ⟨1, 2, 7, 3, []⟩
def cC : G.Command := ⟨1, 5, 9, 1, []⟩
theorem tl_cA : tlen cA = 2 := by unfold tlen cA; rfl
theorem tl_cB : tlen cB = 3 := by unfold tlen cB; rfl
theorem tl_cC : tlen cC = 1 := by unfold tlen cC; rfl
theorem te_cA : tend cA = 2 := by unfold tend; rw [tl_cA]; rfl
theorem te_cB : tend cB = 5 := by unfold tend; rw [tl_cB]; rfl
theorem te_cC : tend cC = 6 := by unfold tend; rw [tl_cC]; rfl
/-- The example's delta. -/
def exD : G.Delta := ⟨10, 6, fun _ => 0, fun _ => 0, [cC, cB, cA]⟩
theorem exD_vd : VD exD := by
  refine ⟨by unfold InR exD; simp, fun c hc => ?_, ?_, fun o h1 h2 => ?_⟩
  · have hc : c = cC ∨ c = cB ∨ c = cA := by simpa [exD] using hc
    rcases hc with rfl | rfl | rfl
    · exact ⟨by decide, by rw [tl_cC]; decide, by rw [te_cC]; decide, by rw [te_cC]; decide, fun _ => by simp [cC, exD], fun h => absurd rfl h⟩
    · exact ⟨by decide, by rw [tl_cB]; decide, by rw [te_cB]; decide, by rw [te_cB]; decide, fun _ => by simp [cB, exD], fun h => absurd rfl h⟩
    · exact ⟨by decide, by rw [tl_cA]; decide, by rw [te_cA]; decide, by rw [te_cA]; decide, fun _ => by simp [cA, exD], fun h => absurd rfl h⟩
  · rintro ⟨i, j, hi, hj, hne, h⟩
    have hi : i < 3 := hi
    have hj : j < 3 := hj
    have e0 : cat exD.commands 0 = cC := rfl
    have e1 : cat exD.commands 1 = cB := rfl
    have e2 : cat exD.commands 2 = cA := rfl
    have oo : ∀ a b : G.Command, ov a b = true ↔ a.to < tend b ∧ b.to < tend a := fun a b => by unfold ov; rw [decide_eq_true_eq]
    have tA : cA.to = 0 := rfl
    have tB : cB.to = 2 := rfl
    have tC : cC.to = 5 := rfl
    have hi3 : i = 0 ∨ i = 1 ∨ i = 2 := by omega
    have hj3 : j = 0 ∨ j = 1 ∨ j = 2 := by omega
    rcases hi3 with rfl | rfl | rfl <;> rcases hj3 with rfl | rfl | rfl <;> first | exact hne rfl | (simp only [e0, e1, e2, oo, te_cA, te_cB, te_cC, tA, tB, tC] at h; omega)
  · have h2 : o < 6 := h2
    have tA : cA.to = 0 := rfl
    have tB : cB.to = 2 := rfl
    have tC : cC.to = 5 := rfl
    by_cases k1 : o < 2
    · exact ⟨cA, by simp [exD], by omega, by rw [te_cA]; omega⟩
    · by_cases k2 : o < 5
      · exact ⟨cB, by simp [exD], by omega, by rw [te_cB]; omega⟩
      · exact ⟨cC, by simp [exD], by omega, by rw [te_cC]; omega⟩
theorem exD_sm : Sm exD [cA, cB, cC] := by
  refine ⟨exD_vd, by decide, by decide, ?_, ?_⟩
  · show [cA, cB, cC].Perm [cC, cB, cA]
    exact (List.reverse_perm [cA, cB, cC]).symm
  · refine ⟨rfl, ?_, ?_, ?_⟩
    · rw [te_cA]; rfl
    · rw [te_cB]; rfl
    · exact te_cC
theorem exD_can : can_ [cA, cB, cC] = [⟨1, 0, 5, 5, []⟩, cC] := by decide
theorem exD_find : G.delta_Find exD 3 = some 1 := by
  unfold G.delta_Find G.slices_IndexFunc_api_Command_api_Command_delta_Find_1
  have fa := Find1_of (c := cC) (o := 3) (by decide) (by rw [tl_cC]; decide) (by rw [te_cC]; decide) (by decide)
  have fb := Find1_of (c := cB) (o := 3) (by decide) (by rw [tl_cB]; decide) (by rw [te_cB]; decide) (by decide)
  rw [te_cC] at fa
  rw [te_cB] at fb
  rw [show exD.commands = [cC, cB, cA] from rfl]
  rw [Iter_inl (s' := 1) (by
    unfold G.slices_IndexFunc_api_Command_api_Command_delta_Find_1_l1
    rw [if_pos (by simp)]
    simp only [idx_of' (k := 0) (show (0 : Int) = ((0 : Nat) : Int) from rfl) (show 0 < [cC, cB, cA].length by simp), Option.bind_some, List.getElem_cons_zero, fa]
    rw [if_neg (by decide)]; rfl)]
  rw [Iter_inr (a := 1) (by
    unfold G.slices_IndexFunc_api_Command_api_Command_delta_Find_1_l1
    rw [if_pos (by simp)]
    simp only [idx_of' (k := 1) (show (1 : Int) = ((1 : Nat) : Int) from rfl) (show 1 < [cC, cB, cA].length by simp), Option.bind_some, List.getElem_cons_succ, List.getElem_cons_zero, fb]
    rw [if_pos (by decide)])]
  rfl
theorem exD_of : G.tidy_Of exD 3 = some (⟨true, 8, 0⟩, true) := by
  unfold G.tidy_Of
  rw [exD_find]
  simp only [Option.bind_some]
  rw [if_neg (by decide), show idx exD.commands 1 = some cB from idx_of' (k := 1) rfl (by decide)]
  simp only [Option.bind_some]
  rw [Part_of (exD_sm.fit cB (by simp)) exD_sm.rng.1 exD_sm.rng.2 (by decide) (by decide) (by rw [te_cB]; decide)]
  simp only [Option.bind_some]
  rw [show part cB 3 1 = ⟨1, 3, 8, 1, []⟩ from rfl, Source_of]
  rfl
theorem alive9 : G.graftlaw09_alive = some true := by
  unfold G.graftlaw09_alive
  rw [show (⟨1, 0, 5, 2, ([] : List UInt8)⟩ : G.Command) = cA from rfl, show (⟨1, 2, 7, 3, ([] : List UInt8)⟩ : G.Command) = cB from rfl, show (⟨1, 5, 9, 1, ([] : List UInt8)⟩ : G.Command) = cC from rfl,
    show (⟨10, 6, fun _ => 0, fun _ => 0, [cC, cB, cA]⟩ : G.Delta) = exD from rfl]
  rw [Merge_of exD_sm.fit exD_sm.rng.1 exD_sm.rng.2 (by decide), exD_can, exD_of, Equivalent_of exD_sm exD_sm]
  simp only [Option.bind_some]
  rw [All_eq _ _ (by decide), decide_eq_true rfl, decide_eq_true (show Same9 exD exD _ _ from ⟨rfl, rfl, rfl⟩)]
  rfl
end G
theorem G.graftlaw09_TidyEquivalent_true (a0 : G.Delta) (a1 : G.Delta) (h0 : G.Delta.Ok a0) (h1 : G.Delta.Ok a1) : G.graftlaw09_TidyEquivalent a0 a1 = some true := by
  unfold G.graftlaw09_TidyEquivalent
  have n0 : a0.commands.length ≤ 9223372036854775807 := h0.2.2.1
  have n1 : a1.commands.length ≤ 9223372036854775807 := h1.2.2.1
  obtain ⟨b0, e0, s0⟩ := Small_of a0 n0
  obtain ⟨b1, e1, s1⟩ := Small_of a1 n1
  rw [e0, e1, alive9]
  cases b0
  · rfl
  cases b1
  · rfl
  obtain ⟨A, hA⟩ := s0 rfl
  obtain ⟨B, hB⟩ := s1 rfl
  rw [hA.tidy, hB.tidy, Equivalent_of hA hB, refEquivalent_of hA hB]
  have e : (if a0.oldLen = a1.oldLen then if a0.newLen = a1.newLen then (G.graftref04_All (can_ A) (can_ B)).bind fun y8 => some y8 else some false else some false) = some (decide (Same9 a0 a1 A B)) := by
    by_cases k1 : a0.oldLen = a1.oldLen
    · by_cases k2 : a0.newLen = a1.newLen
      · rw [if_pos k1, if_pos k2, All_eq _ _ (by have h := (can_laws hA.nice hA.til).2.2.2; have := hA.slen; omega)]
        simp only [Option.bind_some]
        congr 1; rw [decide_eq_decide, can_eq hA.nice hA.til hB.nice hB.til]
        unfold Same9; simp [k1, k2]
      · rw [if_pos k1, if_neg k2]; congr 1; symm; rw [decide_eq_false_iff_not]; exact fun h => k2 h.2.1
    · rw [if_neg k1]; congr 1; symm; rw [decide_eq_false_iff_not]; exact fun h => k1 h.1
  simp only [Option.bind_some, Bool.not_true, Bool.true_eq_false, Bool.false_eq_true, if_false, if_true, e, beq_self_eq_true]
theorem G.graftlaw09_TidyCanonical_true (a0 : G.Delta) (h0 : G.Delta.Ok a0) : G.graftlaw09_TidyCanonical a0 = some true := by
  unfold G.graftlaw09_TidyCanonical
  have n0 : a0.commands.length ≤ 9223372036854775807 := h0.2.2.1
  obtain ⟨b0, e0, s0⟩ := Small_of a0 n0
  rw [e0, alive9]
  cases b0
  · rfl
  obtain ⟨A, hA⟩ := s0 rfl
  obtain ⟨k1, k2, k3, k4⟩ := can_laws hA.nice hA.til
  have hC := hA.can
  have hL := hA.slen
  have hi := can_idem hA.nice hA.til
  rw [hA.tidy, hA.rtidy]
  simp only [Option.bind_some, Bool.true_eq_false, if_false, if_true]
  obtain ⟨b, v1, _, v2⟩ := Valid5_of (d := ⟨a0.oldLen, a0.newLen, a0.oldHash, a0.newHash, can_ A⟩) (by show (can_ A).length ≤ _; omega)
  have hb : b = true := v2.2 hC.vd
  subst hb
  rw [Same5_eq _ _ (by show (can_ A).length ≤ _; omega), sm_self, v1, Equivalent_of hC hA, hC.tidy, hi, decide_eq_true (show Same9 (⟨a0.oldLen, a0.newLen, a0.oldHash, a0.newHash, can_ A⟩ : G.Delta) a0 (can_ A) A from ⟨rfl, rfl, k1⟩)]
  simp only [Option.bind_some, if_true]
  rw [Same5_eq _ _ (by show (can_ A).length ≤ _; omega), sm_self]
  simp only [Option.bind_some, if_true]
  congr 1; rw [decide_eq_true_eq]
  have := hA.perm.length_eq
  omega
end Go.Proofs.Ytnbipipegmoigaa
