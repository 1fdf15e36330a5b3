/- Commands done in their order: what is read after it was written. No program in sight. -/
import Derived.Test.YtnbipipegmoigaaPFive
namespace Go.Proofs.Ytnbipipegmoigaa
open G
namespace G
def dM : G.Delta := ⟨4611686018427387903, 4611686018427387903, fun _ => 0, fun _ => 0, []⟩
theorem good_dM {c : G.Command} (h : chk4 c = 0) : Good dM c := by
  obtain ⟨h1, h2, h3, h4, h5⟩ := chk4_zero h
  exact ⟨h1, h2, h3, h3, fun hk => by obtain ⟨k1, k2, k3, k4⟩ := h4 hk; exact ⟨k1, k2, k3, k3, k4⟩, h5⟩
/-- What graftref12.Right asks. -/
structure Rt (l : List G.Command) : Prop where
  len : l.length ≤ 30
  good : ∀ c ∈ l, Good dM c
  data : ∀ c ∈ l, c.data.length ≤ 200
  apart : ∀ i, i < l.length → ovi l i = false
section
variable {l : List G.Command}
theorem right_in {i : Nat} (hn : l.length ≤ 30) (hi : i < l.length) (hg : ∀ j (hj : j < l.length), j ≤ i → Good dM l[j]) :
    Iter (G.graftref12_Right_l2 l (i : Int)) 0 = some (if ovi l i = true then .inr false else .inl ((i + 1 : Nat) : Int)) := by
  have hl : (l.take i).length = i := by simp; omega
  have hK := Iter_scan (f := G.graftref12_Right_l2 l (i : Int)) (l.take i) (fun c => ov (cat l i) c) (fun k => (k : Int)) (fun _ => .inr false) (.inl ((i + 1 : Nat) : Int))
    (fun k h hb => by
      have hk : (l.take i)[k] = l[k]'(by omega) := List.getElem_take
      obtain ⟨e, he, he2⟩ := Overlap1_of (hg i hi (Nat.le_refl _)) (hg k (by omega) (by omega))
      rw [hk, cat_getElem hi] at hb
      unfold G.graftref12_Right_l2
      rw [if_pos (by omega), idx_of hi, idx_of (show k < l.length by omega)]
      simp only [Option.bind_some, Target4_of, he]
      rw [if_neg (by rw [hb] at he2; simpa using he2), inc64 (n := 17592186044417) (by omega) (by omega)])
    (fun k h hb => by
      have hk : (l.take i)[k] = l[k]'(by omega) := List.getElem_take
      obtain ⟨e, he, he2⟩ := Overlap1_of (hg i hi (Nat.le_refl _)) (hg k (by omega) (by omega))
      rw [hk, cat_getElem hi] at hb
      unfold G.graftref12_Right_l2
      rw [if_pos (by omega), idx_of hi, idx_of (show k < l.length by omega)]
      simp only [Option.bind_some, Target4_of, he]
      rw [if_pos (by rw [hb] at he2; simpa using he2)])
    (by unfold G.graftref12_Right_l2; rw [if_neg (by omega), inc64 (n := 17592186044417) (by omega) (by omega)]) (s := 0) rfl
  rcases hK with ⟨ha, he⟩ | ⟨k, h, hb, _, he⟩
  · rw [he, if_neg]
    unfold ovi; rw [List.any_eq_true]
    rintro ⟨c, hc, h⟩
    rw [ha c hc] at h; cases h
  · rw [he, if_pos]
    unfold ovi; rw [List.any_eq_true]
    exact ⟨_, List.getElem_mem h, hb⟩
theorem Right_of (l : List G.Command) (hL : l.length ≤ 9223372036854775807) : ∃ b, G.graftref12_Right l = some b ∧ (b = true → Rt l) := by
  unfold G.graftref12_Right
  by_cases hn : (l.length : Int) > 30
  · rw [if_pos hn]; exact ⟨false, rfl, fun h => by cases h⟩
  rw [if_neg hn]
  refine Iter_total (f := G.graftref12_Right_l1 l)
    (fun m s => ∃ i : Nat, s = (i : Int) ∧ m = l.length - i ∧ i ≤ l.length ∧ ∀ j (hj : j < l.length), j < i → Good dM l[j] ∧ l[j].data.length ≤ 200 ∧ ovi l j = false)
    (fun b => b = true → Rt l) ?_ l.length 0 ⟨0, rfl, rfl, Nat.zero_le _, fun j hj h => by omega⟩
  rintro m s ⟨i, rfl, rfl, hi, hall⟩
  unfold G.graftref12_Right_l1
  by_cases hlt : i < l.length
  · rw [if_pos (by omega)]
    simp only [idx_of hlt, Option.bind_some, Check4_of]
    by_cases hc : chk4 l[i] ≠ 0
    · rw [if_pos hc]
      exact .inr ⟨false, rfl, fun h => by cases h⟩
    · have hg := good_dM (Classical.not_not.1 hc)
      rw [if_neg hc]
      simp only [Option.bind_some]
      by_cases hd : (l[i].data.length : Int) > 200
      · rw [if_pos (decide_eq_true hd)]
        exact .inr ⟨false, rfl, fun h => by cases h⟩
      · rw [if_neg (by simpa using hd), right_in (by omega) hlt (fun j hj hji => by
          by_cases e : j = i
          · subst e; exact hg
          · exact (hall j hj (by omega)).1)]
        by_cases ho : ovi l i = true
        · rw [if_pos ho]; exact .inr ⟨false, rfl, fun h => by cases h⟩
        · rw [if_neg ho]
          refine .inl ⟨l.length - (i + 1), _, rfl, by omega, i + 1, rfl, rfl, by omega, fun j hj hji => ?_⟩
          by_cases e : j = i
          · subst e; exact ⟨hg, by omega, by simpa using ho⟩
          · exact hall j hj (by omega)
  · rw [if_neg (by omega)]
    refine .inr ⟨true, rfl, fun _ => ⟨by omega, fun c hc => ?_, fun c hc => ?_, fun j hj => (hall j hj (by omega)).2.2⟩⟩
    · obtain ⟨j, hj, rfl⟩ := List.mem_iff_getElem.1 hc; exact (hall j hj (by omega)).1
    · obtain ⟨j, hj, rfl⟩ := List.mem_iff_getElem.1 hc; exact (hall j hj (by omega)).2.1
/-- The command reads what another writes. -/
def hit (c j : G.Command) : Bool := decide (c.kind = 1 ∧ c.from_ < tend j ∧ j.to < c.from_ + c.len)
/-- Command i reads what an earlier one wrote. -/
def drt (l : List G.Command) (i : Nat) : Bool := (l.take i).any (hit (cat l i))
def IsFst (l : List G.Command) (r : Int) : Prop := ((∀ i, i < l.length → drt l i = false) ∧ r = (l.length : Int)) ∨ ∃ k, k < l.length ∧ drt l k = true ∧ (∀ j, j < k → drt l j = false) ∧ r = (k : Int)
theorem IsFst.unique {r s : Int} (h : IsFst l r) (k : IsFst l s) : r = s := by
  rcases h with ⟨h1, rfl⟩ | ⟨i, hi, h1, h2, rfl⟩ <;> rcases k with ⟨k1, rfl⟩ | ⟨j, hj, k1, k2, rfl⟩
  · rfl
  · rw [h1 j hj] at k1; cases k1
  · rw [k1 i hi] at h1; cases h1
  · rcases Nat.lt_trichotomy i j with h | h | h
    · rw [k2 i h] at h1; cases h1
    · rw [h]
    · rw [h2 j h] at k1; cases k1
theorem OverlapE {a b : G.Extent} (ha : 0 ≤ a.off ∧ 1 ≤ a.len ∧ a.off + a.len ≤ 4611686018427387903) (hb : 0 ≤ b.off ∧ 1 ≤ b.len ∧ b.off + b.len ≤ 4611686018427387903) : ∃ e, G.extent_Overlap a b = some (e, decide (a.off < b.off + b.len ∧ b.off < a.off + a.len)) := by
  unfold G.extent_Overlap G.extent_End G.extent_between
  simp only [Option.bind_some]
  rw [w64 (x := a.off + a.len) (by omega) (by omega), w64 (x := b.off + b.len) (by omega) (by omega)]
  have hx : imin (a.off + a.len) (b.off + b.len) - imax a.off b.off ≤ 4611686018427387903 ∧ -4611686018427387903 ≤ imin (a.off + a.len) (b.off + b.len) - imax a.off b.off ∧ (imin (a.off + a.len) (b.off + b.len) - imax a.off b.off < 1 ↔ ¬ (a.off < b.off + b.len ∧ b.off < a.off + a.len)) := by
    unfold imin imax; split <;> split <;> omega
  rw [w64 (by omega) (by omega)]
  split
  · rename_i h
    exact ⟨_, by rw [decide_eq_false (hx.2.2.1 h)]; rfl⟩
  · rename_i h
    exact ⟨_, by rw [decide_eq_true (Classical.not_not.1 (fun k => h (hx.2.2.2 k)))]; rfl⟩
def tgt (c : G.Command) : G.Extent := ⟨c.to, tlen c⟩
theorem reads_of {c : G.Command} {ps : List G.Command} (hc : Good dM c) (hp : ∀ p ∈ ps, Good dM p) (hn : ps.length ≤ 1000) : G.safe_reads c (ps.map tgt) = some (ps.any (hit c)) := by
  unfold G.safe_reads
  have hS : G.command_Source c = some (if c.kind = 1 then (⟨c.from_, c.len⟩, true) else (⟨0, 0⟩, false)) := by
    unfold G.command_Source; by_cases h : c.kind = 1 <;> simp [h]
  rw [hS]
  by_cases hk : c.kind = 1
  · obtain ⟨k1, k2, k3, k4, _⟩ := hc.copy hk
    have k5 := hc.len1
    unfold tlen at k5
    rw [if_pos hk] at k5
    simp only [if_pos hk, Option.bind_some, if_true]
    unfold G.slices_ContainsFunc_api_Extent_api_Extent_safe_reads_1 G.slices_IndexFunc_api_Extent_api_Extent_safe_reads_1
    have hr : ∀ k (h : k < ps.length), G.safe_reads_1 (tgt ps[k]) ⟨c.from_, c.len⟩ = some (hit c ps[k]) := fun k h => by
      have g := hp _ (List.getElem_mem h)
      have g1 := g.to0; have g2 := g.len1; have g3 := g.max
      obtain ⟨e, he⟩ := OverlapE (a := ⟨c.from_, c.len⟩) (b := tgt ps[k]) ⟨k1, k5, k4⟩ ⟨g1, g2, g3⟩
      unfold G.safe_reads_1
      rw [he]
      simp only [Option.bind_some]
      congr 1
      unfold hit
      rw [decide_eq_decide]
      show c.from_ < ps[k].to + tlen ps[k] ∧ ps[k].to < c.from_ + c.len ↔ _
      unfold tend; simp [hk]
    have hK := Iter_scan (f := G.slices_IndexFunc_api_Extent_api_Extent_safe_reads_1_l1 (ps.map tgt) ⟨c.from_, c.len⟩) ps (hit c) (fun k => (k : Int)) (fun k => (k : Int)) (-1)
      (fun k h hb => by
        unfold G.slices_IndexFunc_api_Extent_api_Extent_safe_reads_1_l1
        rw [if_pos (by simp; omega), idx_of (show k < (ps.map tgt).length by simp; omega)]
        simp only [Option.bind_some, List.getElem_map, hr k h, hb, Bool.false_eq_true, if_false]
        rw [inc64 h (by omega)])
      (fun k h hb => by
        unfold G.slices_IndexFunc_api_Extent_api_Extent_safe_reads_1_l1
        rw [if_pos (by simp; omega), idx_of (show k < (ps.map tgt).length by simp; omega)]
        simp only [Option.bind_some, List.getElem_map, hr k h, hb, if_true])
      (by unfold G.slices_IndexFunc_api_Extent_api_Extent_safe_reads_1_l1; rw [if_neg (by simp)]) (s := 0) rfl
    rcases hK with ⟨ha, he⟩ | ⟨k, h, hb, _, he⟩
    · rw [he]
      simp only [Option.bind_some]
      congr 1
      rw [show decide ((-1 : Int) ≥ 0) = false from rfl]; symm
      rw [List.any_eq_false]; intro x hx; rw [ha x hx]; simp
    · rw [he]
      simp only [Option.bind_some]
      congr 1
      rw [decide_eq_true (show (k : Int) ≥ 0 by omega)]; symm
      rw [List.any_eq_true]; exact ⟨_, List.getElem_mem h, hb⟩
  · simp only [if_neg hk, Option.bind_some, Bool.false_eq_true, if_false]
    congr 1; symm
    rw [List.any_eq_false]; intro x hx; unfold hit; simp [hk]
theorem Prefix_of (hn : l.length ≤ 30) (good : ∀ c ∈ l, Good dM c) : ∃ r, G.safe_Prefix l = some r ∧ IsFst l r := by
  unfold G.safe_Prefix G.safe_steps G.safe_steps_1_safe_Prefix
  simp only [Option.bind_some]
  have hK := Iter_scan (f := G.safe_steps_1_safe_Prefix_l1 l) (List.range l.length) (fun i => drt l i) (fun k => ((l.take k).map tgt, (k : Int), l, 0)) (fun k => .inl (l, (k : Int))) (.inr (l, 0))
    (fun k hk hb => by
      simp only [List.length_range] at hk
      simp only [List.getElem_range] at hb
      have hr := reads_of (ps := l.take k) (good _ (List.getElem_mem hk)) (fun p hp => good p (List.mem_of_mem_take hp)) (by simp; omega)
      unfold drt at hb
      rw [cat_getElem hk] at hb
      rw [hb] at hr
      unfold G.safe_steps_1_safe_Prefix_l1 G.safe_Prefix_b1
      rw [if_pos (by simp; omega)]
      simp only [idx_of hk, Option.bind_some, hr, Bool.false_eq_true, if_false, Target_of]
      rw [app_of (by simp; omega), inc64 hk (by omega), List.take_succ_eq_append_getElem hk, List.map_append]
      rfl)
    (fun k hk hb => by
      simp only [List.length_range] at hk
      simp only [List.getElem_range] at hb
      have hr := reads_of (ps := l.take k) (good _ (List.getElem_mem hk)) (fun p hp => good p (List.mem_of_mem_take hp)) (by simp; omega)
      unfold drt at hb
      rw [cat_getElem hk] at hb
      rw [hb] at hr
      unfold G.safe_steps_1_safe_Prefix_l1 G.safe_Prefix_b1
      rw [if_pos (by simp; omega)]
      simp only [idx_of hk, Option.bind_some, hr, if_true])
    (by unfold G.safe_steps_1_safe_Prefix_l1; rw [if_neg (by simp)]) (s := ([], 0, l, 0)) rfl
  rcases hK with ⟨ha, he⟩ | ⟨k, hk, hb, hj, he⟩
  · rw [he]
    exact ⟨_, rfl, .inl ⟨fun i hi => ha i (List.mem_range.2 hi), rfl⟩⟩
  · rw [he]
    simp only [List.length_range] at hk
    simp only [List.getElem_range] at hb hj
    exact ⟨_, rfl, .inr ⟨k, hk, hb, hj, rfl⟩⟩
/-- Byte o was written by one of the first i. -/
def wrt (l : List G.Command) (i : Nat) (o : Int) : Bool := (l.take i).any fun c => decide (c.to ≤ o ∧ o < tend c)
theorem written_of (h : Rt l) {i : Nat} (hi : i ≤ l.length) (o : Int) : G.graftref16_written l (i : Int) o = some (wrt l i o) := by
  have hn := h.len
  have hl : (l.take i).length = i := by simp; omega
  unfold G.graftref16_written
  have hh : ∀ k (hk : k < l.length), G.graftref01_Has ⟨l[k].to, tlen l[k]⟩ o = some (decide (l[k].to ≤ o ∧ o < tend l[k])) := fun k hk => by
    have g := h.good _ (List.getElem_mem hk)
    have g1 := g.to0; have g2 := g.len1; have g3 := g.max
    unfold tend at g3 ⊢
    unfold G.graftref01_Has
    simp only
    rw [w64 (by omega) (by omega)]
    by_cases h : o ≥ l[k].to
    · rw [if_pos h]; congr 1; rw [decide_eq_decide]; omega
    · rw [if_neg h]; congr 1; symm; rw [decide_eq_false_iff_not]; omega
  have hK := Iter_scan (f := G.graftref16_written_l1 l (i : Int) o) (l.take i) (fun c => decide (c.to ≤ o ∧ o < tend c)) (fun k => (k : Int)) (fun _ => true) false
    (fun k hk hb => by
      have e : (l.take i)[k] = l[k]'(by omega) := List.getElem_take
      rw [e] at hb
      unfold G.graftref16_written_l1
      rw [if_pos (by omega), idx_of (show k < l.length by omega)]
      simp only [Option.bind_some, Target4_of, hh k (by omega), hb, Bool.false_eq_true, if_false]
      rw [inc64 (n := 1000) (by omega) (by omega)])
    (fun k hk hb => by
      have e : (l.take i)[k] = l[k]'(by omega) := List.getElem_take
      rw [e] at hb
      unfold G.graftref16_written_l1
      rw [if_pos (by omega), idx_of (show k < l.length by omega)]
      simp only [Option.bind_some, Target4_of, hh k (by omega), hb, if_true])
    (by unfold G.graftref16_written_l1; rw [if_neg (by omega)]) (s := 0) rfl
  unfold wrt
  rcases hK with ⟨ha, he⟩ | ⟨k, hk, hb, _, he⟩
  · rw [he]; congr 1; symm
    rw [List.any_eq_false]; intro x hx; rw [ha x hx]; simp
  · rw [he]; congr 1; symm
    rw [List.any_eq_true]; exact ⟨_, List.getElem_mem hk, hb⟩
theorem drt_iff {i : Nat} (hi : i < l.length) (hg : ∀ c ∈ l, Good dM c) : drt l i = true ↔ l[i].kind = 1 ∧ ∃ o, l[i].from_ ≤ o ∧ o < l[i].from_ + l[i].len ∧ wrt l i o = true := by
  unfold drt wrt
  rw [cat_getElem hi, List.any_eq_true]
  constructor
  · rintro ⟨c, hc, h⟩
    unfold hit at h
    obtain ⟨h1, h2, h3⟩ := of_decide_eq_true h
    have g := hg c (List.mem_of_mem_take hc)
    have g1 := g.len1
    have gl := (hg _ (List.getElem_mem hi)).len1
    rw [show tlen l[i] = l[i].len by unfold tlen; rw [if_pos h1]] at gl
    refine ⟨h1, imax l[i].from_ c.to, ?_, ?_, ?_⟩
    · unfold imax; split <;> omega
    · unfold imax; split <;> omega
    · rw [List.any_eq_true]
      refine ⟨c, hc, decide_eq_true ?_⟩
      unfold tend at *
      unfold imax; split <;> omega
  · rintro ⟨h1, o, h2, h3, h4⟩
    obtain ⟨c, hc, h5⟩ := List.any_eq_true.1 h4
    have h5 := of_decide_eq_true h5
    exact ⟨c, hc, by unfold hit; exact decide_eq_true ⟨h1, by omega, by omega⟩⟩
theorem Dirty_of (h : Rt l) {i : Nat} (hi : i < l.length) (hs : tlen l[i] ≤ 300) : ∃ out, G.graftref16_Dirty l (i : Int) = some out ∧ (out ≠ [] ↔ drt l i = true) := by
  have hn := h.len
  have hg := h.good _ (List.getElem_mem hi)
  unfold G.graftref16_Dirty
  rw [if_neg (by omega), if_neg (by omega), idx_of hi]
  simp only [Option.bind_some]
  by_cases hk : l[i].kind = 1
  · rw [if_neg (by simp [hk])]
    obtain ⟨k1, k2, k3, k4, _⟩ := hg.copy hk
    rw [show tlen l[i] = l[i].len by unfold tlen; rw [if_pos hk]] at hs
    obtain ⟨r, hr, hq⟩ := Iter_total (f := G.graftref16_Dirty_l1 l (i : Int))
      (fun m s => ∃ (o : Int) (out : List G.Extent), s = (o, out) ∧ m = (l[i].from_ + l[i].len - o).toNat ∧ l[i].from_ ≤ o ∧ o ≤ l[i].from_ + l[i].len ∧ (out.length : Int) ≤ o - l[i].from_ ∧ (out ≠ [] ↔ ∃ p, l[i].from_ ≤ p ∧ p < o ∧ wrt l i p = true))
      (fun out => out ≠ [] ↔ ∃ p, l[i].from_ ≤ p ∧ p < l[i].from_ + l[i].len ∧ wrt l i p = true) (by
        rintro m s ⟨o, out, rfl, rfl, h1, h2, h3, h4⟩
        unfold G.graftref16_Dirty_l1
        rw [idx_of hi]
        simp only [Option.bind_some]
        rw [w64 (x := l[i].from_ + l[i].len) (by omega) (by omega)]
        by_cases hlt : o < l[i].from_ + l[i].len
        · left
          rw [if_pos hlt, written_of h (by omega)]
          simp only [Option.bind_some]
          have e1 : IntKind.i64.wrap (o + 1) = o + 1 := w64 (by omega) (by omega)
          have hcases : ∀ p : Int, (l[i].from_ ≤ p ∧ p < o + 1) ↔ ((l[i].from_ ≤ p ∧ p < o) ∨ p = o) := fun p => by omega
          by_cases hw : wrt l i o = false
          · rw [if_pos hw, e1]
            refine ⟨_, _, rfl, by omega, o + 1, out, rfl, rfl, by omega, by omega, by omega, h4.trans ⟨fun ⟨p, q1, q2, q3⟩ => ⟨p, q1, by omega, q3⟩, fun ⟨p, q1, q2, q3⟩ => ⟨p, q1, ?_, q3⟩⟩⟩
            by_cases e : p = o
            · subst e; rw [hw] at q3; cases q3
            · omega
          · have hw' : wrt l i o = true := by simpa using hw
            rw [if_neg hw]
            have hlen : IntKind.i64.wrap ((out.length : Int) - 1) = (out.length : Int) - 1 := w64 (by omega) (by omega)
            rw [hlen]
            have hv : ∃ b : Bool, (if (out.length : Int) - 1 ≥ 0 then (idx out ((out.length : Int) - 1)).bind fun x9 => (idx out ((out.length : Int) - 1)).bind fun x10 => some (IntKind.i64.wrap (x9.off + x10.len) == o) else some false) = some b ∧ (b = true → 0 < out.length) := by
              by_cases h0 : (out.length : Int) - 1 ≥ 0
              · rw [if_pos h0, idx_getD' (k := out.length - 1) default (by omega) (by omega)]
                exact ⟨_, rfl, fun _ => by omega⟩
              · rw [if_neg h0]; exact ⟨false, rfl, fun h => by cases h⟩
            obtain ⟨b, hb1, hb2⟩ := hv
            rw [hb1]
            simp only [Option.bind_some]
            by_cases hb : b = true
            · have hpos := hb2 hb
              rw [if_pos hb, idx_getD' (k := out.length - 1) default (by omega) (by omega), e1]
              simp only [Option.bind_some]
              refine ⟨_, _, rfl, by omega, o + 1, _, rfl, rfl, by omega, by omega, by rw [List.length_set]; omega, ⟨fun _ => ⟨o, by omega, by omega, hw'⟩, fun _ hnil => ?_⟩⟩
              have := congrArg List.length hnil
              rw [List.length_set] at this
              have h0 : out.length = 0 := this
              omega
            · rw [if_neg hb, app_of (by simp; omega), e1]
              simp only [Option.bind_some]
              refine ⟨_, _, rfl, by omega, o + 1, _, rfl, rfl, by omega, by omega, by simp; omega, ⟨fun _ => ⟨o, by omega, by omega, hw'⟩, fun _ => by simp⟩⟩
        · right
          rw [if_neg hlt]
          refine ⟨_, rfl, ?_⟩
          rw [show l[i].from_ + l[i].len = o by omega]; exact h4) _ (l[i].from_, []) ⟨l[i].from_, [], rfl, rfl, Int.le_refl _, by omega, by simp, by simp; intro p q1 q2; omega⟩
    refine ⟨r, hr, hq.trans ?_⟩
    rw [drt_iff hi h.good]
    exact ⟨fun h => ⟨hk, h⟩, fun h => h.2⟩
  · rw [if_pos (by simpa using hk)]
    refine ⟨[], rfl, ?_⟩
    rw [drt_iff hi h.good]
    exact ⟨fun h => absurd rfl h, fun h => absurd h.1 hk⟩
theorem rPrefix_of (h : Rt l) (hs : ∀ c ∈ l, tlen c ≤ 300) : ∃ r, G.graftref16_Prefix l = some r ∧ IsFst l r := by
  have hn := h.len
  unfold G.graftref16_Prefix
  have hK := Iter_scan (f := G.graftref16_Prefix_l1 l) (List.range l.length) (fun i => drt l i) (fun k => (k : Int)) (fun k => (k : Int)) (l.length : Int)
    (fun k hk hb => by
      simp only [List.length_range] at hk
      simp only [List.getElem_range] at hb
      obtain ⟨out, he, ho⟩ := Dirty_of h hk (hs _ (List.getElem_mem hk))
      have : out = [] := Classical.byContradiction fun hne => by rw [ho.1 hne] at hb; cases hb
      subst this
      unfold G.graftref16_Prefix_l1
      rw [if_pos (by omega), he]
      simp only [Option.bind_some]
      rw [if_neg (by simp), inc64 hk (by omega)])
    (fun k hk hb => by
      simp only [List.length_range] at hk
      simp only [List.getElem_range] at hb
      obtain ⟨out, he, ho⟩ := Dirty_of h hk (hs _ (List.getElem_mem hk))
      have hne := ho.2 hb
      unfold G.graftref16_Prefix_l1
      rw [if_pos (by omega), he]
      simp only [Option.bind_some]
      rw [if_pos (by have := List.length_pos_iff.2 hne; omega)])
    (by unfold G.graftref16_Prefix_l1; rw [if_neg (by simp)]) (s := 0) rfl
  rcases hK with ⟨ha, he⟩ | ⟨k, hk, hb, hj, he⟩
  · exact ⟨_, he, .inl ⟨fun i hi => ha i (List.mem_range.2 hi), rfl⟩⟩
  · simp only [List.length_range] at hk
    simp only [List.getElem_range] at hb hj
    exact ⟨_, he, .inr ⟨k, hk, hb, hj, rfl⟩⟩
end
end G
end Go.Proofs.Ytnbipipegmoigaa
