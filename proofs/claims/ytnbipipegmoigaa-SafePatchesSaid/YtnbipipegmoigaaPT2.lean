/- What the functions of layer 9 do with commands. No program in sight. -/
import Derived.Test.YtnbipipegmoigaaPT1
import Derived.Test.YtnbipipegmoigaaPW5b
namespace Go.Proofs.Ytnbipipegmoigaa
open G
namespace G
/-- A command whose numbers are small. -/
structure Fit (N M : Int) (c : G.Command) : Prop where
  nice : Nice c
  to0 : 0 ≤ c.to
  fits : tend c ≤ N
  src : c.kind = 1 → 0 ≤ c.from_ ∧ c.from_ + c.len ≤ M
theorem Good.fit {d : G.Delta} {c : G.Command} (h : Good d c) : Fit d.newLen d.oldLen c := ⟨h.nice, h.to0, h.fits, fun hk => ⟨(h.copy hk).1, (h.copy hk).2.2.1⟩⟩
section
variable {N M : Int} {a b c : G.Command}
theorem Fit.joi (h : can a b) (ha : Fit N M a) (hb : Fit N M b) : Fit N M (joi a b) := by
  refine ⟨joi_nice h ha.nice hb.nice, by rw [joi_to]; exact ha.to0, by rw [joi_tend h ha.nice]; exact hb.fits, fun hk => ?_⟩
  rw [joi_kind ha.nice] at hk
  have h1 := ha.src hk
  have h2 := hb.src (h.1.symm.trans hk)
  have h3 := h.2.2 hk
  rw [joi_1 hk]
  show 0 ≤ a.from_ ∧ a.from_ + (a.len + b.len) ≤ M
  omega
theorem Fit.data (ha : Fit N M a) (hN : N ≤ 1000000) : a.data.length ≤ 1000000 := by
  by_cases hk : a.kind = 1
  · rw [ha.nice.copy hk]; simp
  · have := ha.fits; have := ha.to0; unfold tend at *; rw [tlen_lit hk] at *; omega
/-- Byte strings one behind the other. -/
theorem Concat_of (l : List (List UInt8)) (h : l.flatten.length ≤ 100000000) (hn : l.length ≤ 1000) : G.slices_Concat_byte_byte l = some l.flatten := by
  have hpre : ∀ k, (l.take k).flatten.length ≤ l.flatten.length := fun k => by
    conv => rhs; rw [← List.take_append_drop k l]
    rw [List.flatten_append, List.length_append]; omega
  have hsucc : ∀ k (hk : k < l.length), (l.take (k + 1)).flatten = (l.take k).flatten ++ l[k] := fun k hk => by
    rw [List.take_succ_eq_append_getElem hk, List.flatten_append]; simp
  unfold G.slices_Concat_byte_byte
  rw [Iter_count (f := G.slices_Concat_byte_byte_l1 l) l.length (fun k => (((l.take k).flatten.length : Int), (k : Int))) (l.flatten.length : Int) (fun k hk => ?s1) ?f1 (s := (0, 0)) rfl]
  · simp only [Option.bind_some]
    have hg : G.slices_Grow_byte_byte_nil0 (l.flatten.length : Int) = some [] := by
      unfold G.slices_Grow_byte_byte_nil0
      rw [if_neg (by omega), w64 (x := (0 : Int) - 0) (by omega) (by omega), w64 (by omega) (by omega)]
      by_cases h0 : (l.flatten.length : Int) - (0 - 0) > 0
      · rw [if_pos h0, chk_of (by omega)]; rfl
      · rw [if_neg h0]
    rw [hg]
    simp only [Option.bind_some]
    rw [Iter_count (f := G.slices_Concat_byte_byte_l2 l) l.length (fun k => ((l.take k).flatten, (k : Int))) l.flatten (fun k hk => ?s2) ?f2 (s := ([], 0)) rfl]
    case s2 =>
      unfold G.slices_Concat_byte_byte_l2
      rw [if_pos (by simp; omega)]
      have := hpre (k + 1); rw [hsucc k hk, List.length_append] at this
      simp only [idx_of hk, Option.bind_some, inc64 hk (by omega)]
      rw [app_of (by omega)]
      simp only [Option.bind_some, hsucc k hk]
    case f2 =>
      unfold G.slices_Concat_byte_byte_l2
      rw [if_neg (by simp)]; simp
  case s1 =>
    unfold G.slices_Concat_byte_byte_l1
    rw [if_pos (by simp; omega)]
    have := hpre (k + 1); rw [hsucc k hk, List.length_append] at this
    simp only [idx_of hk, Option.bind_some, inc64 hk (by omega)]
    rw [w64 (by omega) (by omega), if_neg (by omega), hsucc k hk, List.length_append]
    congr 4
  case f1 =>
    unfold G.slices_Concat_byte_byte_l1
    rw [if_neg (by simp)]; simp
theorem Literal_of (t : Int) (l : List (List UInt8)) (h : l.flatten.length ≤ 100000000) (hn : l.length ≤ 1000) : G.command_Literal t l = some ⟨2, t, 0, 0, l.flatten⟩ := by
  unfold G.command_Literal; rw [Concat_of l h hn]; rfl
theorem Source_of (c : G.Command) : G.command_Source c = some (if c.kind = 1 then (⟨c.from_, c.len⟩, true) else (⟨0, 0⟩, false)) := by
  unfold G.command_Source; by_cases h : c.kind = 1 <;> simp [h]
def nilC : G.Command := ⟨0, 0, 0, 0, []⟩
theorem join_of (ha : Fit N M a) (hb : Fit N M b) (hN : N ≤ 1000000) (hM : M ≤ 4611686018427387903) : G.tidy_join a b = some (if can a b then (joi a b, true) else (nilC, false)) := by
  have f1 := ha.fits; have f2 := ha.to0; have l1 := ha.nice.len1; have f3 := hb.fits; have f4 := hb.to0; have l2 := hb.nice.len1
  have d1 := ha.data hN; have d2 := hb.data hN
  unfold G.tidy_join
  by_cases hk : a.kind = b.kind
  · rw [if_neg (by simpa using hk), Target_of]
    unfold G.extent_End
    unfold tend at f1 f3
    simp only [Option.bind_some, w64 (x := a.to + tlen a) (by omega) (by omega)]
    by_cases he : a.to + tlen a = b.to
    · rw [if_neg (by simp [he]), Source_of]
      by_cases h1 : a.kind = 1
      · have s1 := ha.src h1; have s2 := hb.src (hk.symm.trans h1)
        rw [tlen_copy h1] at l1 f1 he
        simp only [if_pos h1, Option.bind_some]
        rw [if_neg (by simp)]
        simp only [w64 (x := a.from_ + a.len) (by omega) (by omega)]
        by_cases hf : a.from_ + a.len = b.from_
        · rw [tlen_copy (hk.symm.trans h1)] at l2 f3
          rw [if_pos hf, if_pos ⟨hk, by unfold tend; rw [tlen_copy h1]; exact he, fun _ => hf⟩, joi_1 h1]
          unfold G.command_Copy
          rw [w64 (by omega) (by omega)]; rfl
        · rw [if_neg hf, if_neg (fun h => hf (h.2.2 h1))]; rfl
      · simp only [if_neg h1, Option.bind_some, if_true]
        rw [Literal_of _ _ (by simp; omega) (by simp), if_pos ⟨hk, he, fun h => absurd h h1⟩, joi_2 h1]
        simp
    · rw [if_pos (by simpa using he), if_neg (fun h => he h.2.1)]; rfl
  · rw [if_pos hk, if_neg (fun h => hk h.1)]; rfl
theorem refcan_of (ha : Fit N M a) (hN : N ≤ 1000000) (hM : M ≤ 4611686018427387903) : G.graftref09_can a b = some (decide (can a b)) := by
  have f1 := ha.fits; have f2 := ha.to0; have l1 := ha.nice.len1
  unfold tend at f1
  unfold G.graftref09_can
  by_cases hk : a.kind = b.kind
  · rw [if_neg (by simpa using hk), Len4_of]
    simp only [Option.bind_some, w64 (x := a.to + tlen a) (by omega) (by omega)]
    by_cases he : a.to + tlen a = b.to
    · rw [if_neg (by simp [he])]
      by_cases h1 : a.kind = 1
      · have s1 := ha.src h1
        rw [tlen_copy h1] at l1
        rw [if_neg (by rw [h1]; decide), w64 (by omega) (by omega)]
        congr 1
        by_cases hf : b.from_ = a.from_ + a.len
        · rw [decide_eq_true ⟨hk, he, fun _ => hf.symm⟩]; simpa using hf
        · rw [decide_eq_false (fun h => hf (h.2.2 h1).symm)]; simpa using hf
      · rw [if_pos (ha.nice.lit h1).1]
        congr 1; symm; rw [decide_eq_true_eq]; exact ⟨hk, he, fun h => absurd h h1⟩
    · rw [if_pos (by simp; omega)]
      congr 1; symm; rw [decide_eq_false_iff_not]; exact fun h => he h.2.1
  · rw [if_pos hk]; show some false = _; congr 1; symm; rw [decide_eq_false_iff_not]; exact fun h => hk h.1
end
end G
end Go.Proofs.Ytnbipipegmoigaa
