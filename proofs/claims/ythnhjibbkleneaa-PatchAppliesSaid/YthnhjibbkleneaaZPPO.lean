/- Part of what the laws need: plain words, the walker and its laws, the program's functions. -/
import Derived.Test.YthnhjibbkleneaaZPP1
namespace Go.Proofs.Ythnhjibbkleneaa
open G
namespace G
theorem apart_iff {l : List G.Command} : ¬ Meets l ↔ l.Pairwise (fun a b => ov a b = false) := by
  rw [List.pairwise_iff_getElem]
  constructor
  · intro h i j hi hj hij
    cases e : ov l[i] l[j] with
    | false => rfl
    | true => exact absurd ⟨i, j, hi, hj, by omega, by rw [cat_getElem hi, cat_getElem hj, e]⟩ h
  · rintro h ⟨i, j, hi, hj, hne, e⟩
    rw [cat_getElem hi, cat_getElem hj] at e
    rcases Nat.lt_or_gt_of_ne hne with k | k
    · rw [h i j hi hj k] at e; cases e
    · rw [ov_comm, h j i hj hi k] at e; cases e
section
variable {d : G.Delta} {S L : List G.Command} {a0 : List UInt8}
theorem VD.perm (h : VD d) (hp : L.Perm d.commands) : VD ⟨d.oldLen, d.newLen, d.oldHash, d.newHash, L⟩ := by
  refine ⟨h.rng, fun c hc => good_set (h.good c (hp.mem_iff.1 hc)) _, ?_, fun o h1 h2 => ?_⟩
  · exact apart_iff.2 ((hp.pairwise_iff (fun h => by rw [ov_comm]; exact h)).2 (apart_iff.1 h.apart))
  · obtain ⟨c, hc, h3⟩ := h.full o h1 h2
    exact ⟨c, hp.mem_iff.2 hc, h3⟩
theorem Sm.other (h : Sm d S) (hp : L.Perm d.commands) : Sm ⟨d.oldLen, d.newLen, d.oldHash, d.newHash, L⟩ S :=
  ⟨h.vd.perm hp, by show L.length ≤ 40; rw [hp.length_eq]; exact h.len, h.new, h.perm.trans hp.symm, h.til⟩
theorem swap_perm {l : List G.Command} {i j : Nat} (hi : i < l.length) (hj : j < l.length) : ((l.set i l[j]).set j l[i]).Perm l := by
  by_cases e : i = j
  · subst e; rw [List.set_set, List.set_getElem_self]
  · exact List.set_set_perm hi hj
theorem Reverse_of {l : List G.Command} (hn : l.length ≤ 1000000) : ∃ r, G.slices_Reverse_api_Command_api_Command_v0 l = some r ∧ r.Perm l := by
  unfold G.slices_Reverse_api_Command_api_Command_v0
  rw [w64 (by omega) (by omega)]
  refine Iter_total (f := G.slices_Reverse_api_Command_api_Command_v0_l1) (fun m s => ∃ i : Nat, s.1 = (i : Int) ∧ s.2.1 < (l.length : Int) ∧ -1 ≤ s.2.1 ∧ i ≤ l.length ∧ s.2.2.Perm l ∧ m = l.length - i) (fun r => r.Perm l) (by
    rintro m ⟨_, j, L⟩ ⟨i, rfl, h1, h2, h3, h4, rfl⟩
    simp only at h1 h2 h4
    have hl := h4.length_eq
    unfold G.slices_Reverse_api_Command_api_Command_v0_l1
    simp only
    by_cases hlt : (i : Int) < j
    · left
      obtain ⟨j, rfl⟩ : ∃ k : Nat, j = (k : Int) := ⟨j.toNat, by omega⟩
      have hi : i < L.length := by omega
      have hj : j < L.length := by omega
      rw [if_pos hlt, idx_of hj, idx_of hi]
      simp only [Option.bind_some, Int.toNat_natCast]
      rw [idx_of (by rw [List.length_set]; exact hj)]
      simp only [Option.bind_some]
      rw [inc64 hi (by omega), w64 (by omega) (by omega)]
      exact ⟨l.length - (i + 1), _, rfl, by omega, i + 1, rfl, by simp only; omega, by simp only; omega, by omega, (swap_perm hi hj).trans h4, rfl⟩
    · right
      rw [if_neg hlt]
      exact ⟨_, rfl, h4⟩) l.length ((0 : Int), (l.length : Int) - 1, l) ⟨0, rfl, by simp only; omega, by simp only; omega, Nat.zero_le _, List.Perm.refl _, rfl⟩
end
end G
theorem G.graftlaw08_PatchOrder_true (a0 : List UInt8) (a1 : G.Delta) (_h0 : Len a0) (h1 : G.Delta.Ok a1) : G.graftlaw08_PatchOrder a0 a1 = some true := by
  unfold G.graftlaw08_PatchOrder
  rw [alive8]
  by_cases hl : (a0.length : Int) > 300
  · rw [if_pos hl]; rfl
  rw [if_neg hl]
  obtain ⟨b, e1, e2⟩ := Fits8_of a0 a1 h1.2.2.1
  rw [e1]
  cases b
  · rfl
  obtain ⟨ho, S, hS⟩ := e2 rfl
  have := file_len (a0 := a0) hS
  have := hS.new
  have hlen := hS.len
  simp only [Option.bind_some, Bool.not_true, Bool.false_eq_true, if_false]
  rw [Apply_of hS ho (by omega)]
  simp only [Option.bind_some]
  rw [app_of (by simp; omega)]
  simp only [Option.bind_some, List.nil_append]
  obtain ⟨r, e3, e4⟩ := Reverse_of (l := a1.commands) (by omega)
  rw [e3, hS.sort, refApply_of hS ho (by omega)]
  unfold G.graftref05_With_v1
  simp only [Option.bind_some, if_true]
  rw [Apply_of (hS.other e4) ho (by omega), Apply_of (hS.other hS.perm) ho (by omega)]
  simp only [Option.bind_some]
  rw [EqualB_of _ _ (by omega), decide_eq_true rfl]
  rfl
end Go.Proofs.Ythnhjibbkleneaa
