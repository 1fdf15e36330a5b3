/- Part of what the laws need: plain words, the walker and its laws, the program's functions. -/
import Derived.Test.YthnhjibbkleneaaZPP1
namespace Go.Proofs.Ythnhjibbkleneaa
open G
namespace G
theorem fits8 (a0 : List UInt8) (d : G.Delta) (hf : few5 d = true) : ∃ b, G.patch_fits a0 d = some b ∧ G.graftref08_Fits a0 d = some (b && decide (d.newLen ≤ 3000)) ∧ (b = true → d.oldLen = (a0.length : Int) ∧ (d.newLen ≤ 3000 → ∃ S, Sm d S)) := by
  obtain ⟨h1, h2⟩ := few5_iff.1 hf
  obtain ⟨b, v1, v2, v3⟩ := Valid5_of (d := d) (by omega)
  have e1 : G.patch_fits a0 d = some (b && (d.oldLen == (a0.length : Int))) := by
    unfold G.patch_fits
    rw [v1]
    cases b <;> rfl
  have e2 : G.graftref08_Fits a0 d = some ((b && (d.oldLen == (a0.length : Int))) && decide (d.newLen ≤ 3000)) := by
    unfold G.graftref08_Fits
    rw [Few5_of d (by omega), hf]
    simp only [Option.bind_some, if_true]
    rw [v2]
    cases b
    · rfl
    · simp only [Option.bind_some, if_true, Bool.true_and]
      by_cases hl : d.oldLen = (a0.length : Int)
      · rw [if_pos hl, hl]; simp
      · rw [if_neg hl]; simp [hl]
  refine ⟨_, e1, e2, fun h => ?_⟩
  simp only [Bool.and_eq_true, beq_iff_eq] at h
  exact ⟨h.2, fun hn => Sm_of (v3.1 h.1) h2 hn⟩
end G
theorem G.graftlaw08_PatchApplies_true (a0 : List UInt8) (a1 : G.Delta) (_h0 : Len a0) (h1 : G.Delta.Ok a1) : G.graftlaw08_PatchApplies a0 a1 = some true := by
  unfold G.graftlaw08_PatchApplies
  rw [Few5_of a1 h1.2.2.1, alive8]
  by_cases hl : (a0.length : Int) > 300
  · rw [if_pos hl]; rfl
  rw [if_neg hl]
  cases hf : few5 a1 with
  | false => rfl
  | true =>
  simp only [Option.bind_some, Bool.true_eq_false, if_false]
  by_cases hn : a1.newLen > 3000
  · rw [decide_eq_true hn]; rfl
  rw [decide_eq_false hn]
  simp only [Bool.false_eq_true, if_false]
  rw [app_of (by simp; omega)]
  simp only [Option.bind_some, List.nil_append]
  obtain ⟨b, e1, e2, e3⟩ := fits8 a0 a1 hf
  rw [e2, decide_eq_true (show a1.newLen ≤ 3000 by omega), EqualB_of a0 a0 (by omega), decide_eq_true rfl]
  cases b
  · unfold G.patch_Apply
    rw [e1]
    rfl
  · obtain ⟨ho, hS⟩ := e3 rfl
    obtain ⟨S, hS⟩ := hS (by omega)
    have := file_len (a0 := a0) hS
    have := hS.new
    rw [Apply_of hS ho (by omega), refApply_of hS ho (by omega)]
    simp only [Option.bind_some, Bool.true_eq_false, Bool.and_self, if_false, if_true]
    rw [EqualB_of _ _ (by omega), decide_eq_true rfl]
    rfl
end Go.Proofs.Ythnhjibbkleneaa
