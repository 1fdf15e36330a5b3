/- Commands alone: what the checks of layers 4 and 5 answer, and that the reference answers the same. -/
import Derived.Test.YthnhjibbkleneaaPBase
import Derived.Test.YthnhjibbkleneaaEG
namespace Go.Proofs.Ythnhjibbkleneaa
open G
namespace G
/-- The length of a command's target. -/
def tlen (c : G.Command) : Int := if c.kind = 1 then c.len else (c.data.length : Int)
def tend (c : G.Command) : Int := c.to + tlen c
theorem Target_of (c : G.Command) : G.command_Target c = some ⟨c.to, tlen c⟩ := by unfold G.command_Target G.command_of tlen; split <;> rfl
theorem Len4_of (c : G.Command) : G.graftref04_Len c = some (tlen c) := by unfold G.graftref04_Len tlen; split <;> rfl
theorem Target4_of (c : G.Command) : G.graftref04_Target c = some ⟨c.to, tlen c⟩ := by unfold G.graftref04_Target; rw [Len4_of]; rfl
/-- Offset and length are not negative, the end is at most the maximum. -/
def vld (o n : Int) : Bool := decide (0 ≤ o ∧ 0 ≤ n ∧ o + n ≤ 4611686018427387903)
theorem vld_iff {o n : Int} : vld o n = true ↔ 0 ≤ o ∧ 0 ≤ n ∧ o + n ≤ 4611686018427387903 := by unfold vld; simp
theorem Valid_of (e : G.Extent) : G.extent_Valid e = some (vld e.off e.len) := by
  have hm : imin e.off e.len ≥ 0 ↔ 0 ≤ e.off ∧ 0 ≤ e.len := by unfold imin; split <;> omega
  unfold G.extent_Valid vld
  by_cases h : 0 ≤ e.off ∧ 0 ≤ e.len
  · rw [if_pos (hm.2 h)]
    split
    · rw [w64 (by omega) (by omega)]; congr 1; rw [decide_eq_decide]; omega
    · congr 1; symm; rw [decide_eq_false_iff_not]; omega
  · rw [if_neg (fun k => h (hm.1 k))]
    congr 1; symm; rw [decide_eq_false_iff_not]
    omega
theorem Valid1_of (e : G.Extent) : G.graftref01_Valid e = some (vld e.off e.len) := by
  unfold G.graftref01_Valid vld G.graftref01_Max
  simp only [Option.bind_some]
  split
  · split
    · split
      · rw [w64 (by omega) (by omega)]; congr 1; rw [decide_eq_decide]; omega
      · congr 1; symm; rw [decide_eq_false_iff_not]; omega
    · congr 1; symm; rw [decide_eq_false_iff_not]; omega
  · congr 1; symm; rw [decide_eq_false_iff_not]; omega
/-- The error of a command. -/
def chk4 (c : G.Command) : Int :=
  if c.kind ≠ 1 ∧ c.kind ≠ 2 then 11 else if tlen c = 0 then 7 else if vld c.to (tlen c) = false then 2 else
    if c.kind = 1 then (if c.data.length = 0 ∧ vld c.from_ c.len = true then 0 else 2) else if c.from_ = 0 ∧ c.len = 0 then 0 else 2
theorem Check_of (c : G.Command) : G.command_Check c = some (chk4 c) := by
  have e1 : G.command_of c = some ⟨⟨c.to, tlen c⟩⟩ := by unfold G.command_of tlen; split <;> rfl
  unfold G.command_Check chk4
  simp only [e1, Valid_of, Option.bind_some]
  by_cases k1 : c.kind = 1
  · by_cases t0 : tlen c = 0
    · simp [k1, t0]
    · cases hv : vld c.to (tlen c)
      · simp [k1, t0, hv]
      · by_cases d0 : c.data.length = 0
        · cases hw : vld c.from_ c.len <;> simp [k1, t0, hv, d0, hw]
        · have : ¬ (c.data.length : Int) = 0 := by omega
          simp [k1, t0, hv, d0, this]
  · by_cases k2 : c.kind = 2
    · by_cases t0 : tlen c = 0
      · simp [k2, t0]
      · cases hv : vld c.to (tlen c)
        · simp [k2, t0, hv]
        · by_cases f0 : c.from_ = 0
          · by_cases l0 : c.len = 0 <;> simp [k2, t0, hv, f0, l0]
          · simp [k2, t0, hv, f0]
    · simp [k1, k2]
theorem Check4_of (c : G.Command) : G.graftref04_Check c = some (chk4 c) := by
  unfold G.graftref04_Check chk4 G.graftref04_Source
  simp only [Target4_of, Len4_of, Valid1_of, Option.bind_some]
  by_cases k1 : c.kind = 1
  · by_cases t0 : tlen c = 0
    · simp [k1, t0]
    · cases hv : vld c.to (tlen c)
      · simp [k1, t0, hv]
      · by_cases d0 : c.data.length = 0
        · have : ¬ (c.data.length : Int) > 0 := by omega
          cases hw : vld c.from_ c.len <;> simp [k1, t0, hv, d0, hw]
        · have : 0 < c.data.length := by omega
          simp [k1, t0, hv, d0, this]
  · by_cases k2 : c.kind = 2
    · by_cases t0 : tlen c = 0
      · simp [k2, t0]
      · cases hv : vld c.to (tlen c)
        · simp [k2, t0, hv]
        · by_cases f0 : c.from_ = 0
          · by_cases l0 : c.len = 0 <;> simp [k2, t0, hv, f0, l0]
          · simp [k2, t0, hv, f0]
    · simp [k1, k2]
theorem chk4_zero {c : G.Command} (h : chk4 c = 0) : 0 ≤ c.to ∧ 1 ≤ tlen c ∧ tend c ≤ 4611686018427387903 ∧ (c.kind = 1 → 0 ≤ c.from_ ∧ 0 ≤ c.len ∧ c.from_ + c.len ≤ 4611686018427387903 ∧ c.data = []) ∧ (c.kind ≠ 1 → c.kind = 2 ∧ c.from_ = 0 ∧ c.len = 0) := by
  unfold chk4 at h
  split at h
  · omega
  · rename_i hk
    split at h
    · omega
    · rename_i ht
      split at h
      · omega
      · rename_i hv
        have hv' := vld_iff.1 (by simpa using hv)
        refine ⟨hv'.1, by omega, hv'.2.2, fun k1 => ?_, fun k1 => ?_⟩
        · rw [if_pos k1] at h
          split at h
          · rename_i hd
            have := vld_iff.1 hd.2
            exact ⟨this.1, this.2.1, this.2.2, List.eq_nil_of_length_eq_zero hd.1⟩
          · omega
        · rw [if_neg k1] at h
          split at h
          · rename_i hd
            exact ⟨by omega, hd.1, hd.2⟩
          · omega
/-- The error of a command of a delta. -/
def sng (d : G.Delta) (c : G.Command) : Int := if chk4 c ≠ 0 then chk4 c else if c.kind = 1 ∧ c.from_ + c.len > d.oldLen then 5 else if tend c > d.newLen then 6 else 0
theorem single_of (d : G.Delta) (c : G.Command) : G.delta_single d c = some (sng d c) := by
  unfold G.delta_single sng G.command_Source G.extent_End
  simp only [Check_of, Target_of, Option.bind_some]
  by_cases h : chk4 c = 0
  · have hz := chk4_zero h
    simp only [h, ne_eq, not_true_eq_false, if_false]
    have e1 : IntKind.i64.wrap (c.to + tlen c) = tend c := w64 (by unfold tend at hz; omega) (by unfold tend at hz; omega)
    by_cases k1 : c.kind = 1
    · have h2 := hz.2.2.2.1 k1
      have e2 : IntKind.i64.wrap (c.from_ + c.len) = c.from_ + c.len := w64 (by omega) (by omega)
      by_cases h3 : c.from_ + c.len > d.oldLen <;> by_cases h4 : tend c > d.newLen <;> simp [k1, h3, h4, e1, e2]
    · by_cases h4 : tend c > d.newLen <;> simp [k1, h4, e1]
  · simp only [h, ne_eq, not_false_eq_true, if_true]
theorem single5_of (d : G.Delta) (c : G.Command) : G.graftref05_single d c = some (sng d c) := by
  unfold G.graftref05_single sng
  simp only [Check4_of, Len4_of, Option.bind_some]
  by_cases h : chk4 c = 0
  · have hz := chk4_zero h
    simp only [h, ne_eq, not_true_eq_false, if_false]
    have e1 : IntKind.i64.wrap (c.to + tlen c) = tend c := w64 (by unfold tend at hz; omega) (by unfold tend at hz; omega)
    by_cases k1 : c.kind = 1
    · have h2 := hz.2.2.2.1 k1
      have e2 : IntKind.i64.wrap (c.from_ + c.len) = c.from_ + c.len := w64 (by omega) (by omega)
      by_cases h3 : c.from_ + c.len > d.oldLen <;> by_cases h4 : tend c > d.newLen <;> simp [k1, h3, h4, e1, e2]
    · by_cases h4 : tend c > d.newLen <;> simp [k1, h4, e1]
  · simp only [h, ne_eq, not_false_eq_true, if_true]
/-- A command that is good alone. -/
structure Good (d : G.Delta) (c : G.Command) : Prop where
  to0 : 0 ≤ c.to
  len1 : 1 ≤ tlen c
  fits : tend c ≤ d.newLen
  max : tend c ≤ 4611686018427387903
  copy : c.kind = 1 → 0 ≤ c.from_ ∧ 0 ≤ c.len ∧ c.from_ + c.len ≤ d.oldLen ∧ c.from_ + c.len ≤ 4611686018427387903 ∧ c.data = []
  lit : c.kind ≠ 1 → c.kind = 2 ∧ c.from_ = 0 ∧ c.len = 0
theorem sng_zero {d : G.Delta} {c : G.Command} : sng d c = 0 ↔ Good d c := by
  constructor
  · intro h
    unfold sng at h
    split at h
    · rename_i h1; exact absurd h h1
    · rename_i h1
      have hz := chk4_zero (by simpa using h1)
      split at h
      · omega
      · rename_i h2
        split at h
        · omega
        · rename_i h3
          exact ⟨hz.1, hz.2.1, by omega, hz.2.2.1, fun k => by have := hz.2.2.2.1 k; exact ⟨this.1, this.2.1, by have := fun q => h2 ⟨k, q⟩; omega, this.2.2.1, this.2.2.2⟩, hz.2.2.2.2⟩
  · intro h
    have hc : chk4 c = 0 := by
      unfold chk4
      have hk : ¬ (c.kind ≠ 1 ∧ c.kind ≠ 2) := fun k => k.2 (h.lit k.1).1
      have := h.to0; have := h.len1; have := h.max
      rw [if_neg hk, if_neg (by omega), if_neg (by rw [vld_iff.2 ⟨h.to0, by omega, h.max⟩]; simp)]
      by_cases k1 : c.kind = 1
      · have hq := h.copy k1
        rw [if_pos k1, if_pos ⟨by rw [hq.2.2.2.2]; rfl, vld_iff.2 ⟨hq.1, hq.2.1, hq.2.2.2.1⟩⟩]
      · have hq := h.lit k1
        rw [if_neg k1, if_pos ⟨hq.2.1, hq.2.2⟩]
    unfold sng
    rw [if_neg (by simpa using hc), if_neg (fun k => by have := (h.copy k.1).2.2.1; omega), if_neg (by have := h.fits; omega)]
theorem sng_ne {d : G.Delta} {c : G.Command} : sng d c ≠ 0 ↔ ¬ Good d c := not_congr sng_zero
/-- The targets of two commands meet. -/
def ov (a b : G.Command) : Bool := decide (a.to < tend b ∧ b.to < tend a)
theorem ov_comm (a b : G.Command) : ov a b = ov b a := by unfold ov; rw [decide_eq_decide]; omega
theorem Overlap_of {d : G.Delta} {a b : G.Command} (ha : Good d a) (hb : Good d b) : ∃ e, G.extent_Overlap ⟨a.to, tlen a⟩ ⟨b.to, tlen b⟩ = some (e, ov a b) := by
  have := ha.to0; have := hb.to0; have := ha.max; have := hb.max; have := ha.len1; have := hb.len1
  unfold G.extent_Overlap G.extent_End G.extent_between
  simp only [Option.bind_some]
  unfold tend at *
  rw [w64 (x := a.to + tlen a) (by omega) (by omega), w64 (x := b.to + tlen b) (by omega) (by omega)]
  have hx : imin (a.to + tlen a) (b.to + tlen b) - imax a.to b.to ≤ 4611686018427387903 ∧ -4611686018427387903 ≤ imin (a.to + tlen a) (b.to + tlen b) - imax a.to b.to ∧ (imin (a.to + tlen a) (b.to + tlen b) - imax a.to b.to < 1 ↔ ¬ (a.to < b.to + tlen b ∧ b.to < a.to + tlen a)) := by
    unfold imin imax; split <;> split <;> omega
  rw [w64 (by omega) (by omega)]
  unfold ov tend
  split
  · rename_i h
    exact ⟨_, by rw [decide_eq_false (hx.2.2.1 h)]; rfl⟩
  · rename_i h
    exact ⟨_, by rw [decide_eq_true (Classical.not_not.1 (fun k => h (hx.2.2.2 k)))]; rfl⟩
theorem Overlap1_of {d : G.Delta} {a b : G.Command} (ha : Good d a) (hb : Good d b) : ∃ e, G.graftref01_Overlap ⟨a.to, tlen a⟩ ⟨b.to, tlen b⟩ = some e ∧ decide (e.len > 0) = ov a b := by
  have := ha.to0; have := hb.to0; have := ha.max; have := hb.max; have := ha.len1; have := hb.len1
  unfold G.graftref01_Overlap
  simp only
  unfold tend at *
  rw [w64 (x := a.to + tlen a) (by omega) (by omega), w64 (x := b.to + tlen b) (by omega) (by omega)]
  have hx : imin (a.to + tlen a) (b.to + tlen b) - imax a.to b.to ≤ 4611686018427387903 ∧ -4611686018427387903 ≤ imin (a.to + tlen a) (b.to + tlen b) - imax a.to b.to ∧ (imax a.to b.to ≥ imin (a.to + tlen a) (b.to + tlen b) ↔ ¬ (a.to < b.to + tlen b ∧ b.to < a.to + tlen a)) := by
    unfold imin imax; split <;> split <;> omega
  unfold ov tend
  split
  · rename_i h
    exact ⟨_, rfl, by rw [decide_eq_false (hx.2.2.1 h)]; rfl⟩
  · rename_i h
    refine ⟨_, rfl, ?_⟩
    rw [w64 (by omega) (by omega), decide_eq_decide]
    constructor
    · intro _; exact Classical.not_not.1 (fun k => h (hx.2.2.2 k))
    · intro _; show imin (a.to + tlen a) (b.to + tlen b) - imax a.to b.to > 0; omega
abbrev cat (l : List G.Command) (i : Nat) : G.Command := l.getD i default
theorem cat_getElem {l : List G.Command} {i : Nat} (h : i < l.length) : cat l i = l[i] := by simp [cat, h]
/-- The target of command i meets that of an earlier one. -/
def ovi (l : List G.Command) (i : Nat) : Bool := (l.take i).any fun c => ov (cat l i) c
end G
end Go.Proofs.Ythnhjibbkleneaa
