/- Commands done in their order: what is read after it was written. No program in sight. -/
import Derived.Test.YthnhjibbkleneaaPFive
namespace Go.Proofs.Ythnhjibbkleneaa
open G
namespace G
def dM : G.Delta := ⟨4611686018427387903, 4611686018427387903, fun _ => 0, fun _ => 0, []⟩
theorem good_dM {c : G.Command} (h : chk4 c = 0) : Good dM c := by
  obtain ⟨h1, h2, h3, h4, h5⟩ := chk4_zero h
  exact ⟨h1, h2, h3, h3, fun hk => by obtain ⟨k1, k2, k3, k4⟩ := h4 hk; exact ⟨k1, k2, k3, k3, k4⟩, h5⟩
/-- What graftref12.Right asks. -/
structure Rt (l : List G.Command) : Prop where
  len : l.length ≤ 30
  good : ∀ c ∈ l, Good dM c
  data : ∀ c ∈ l, c.data.length ≤ 200
  apart : ∀ i, i < l.length → ovi l i = false
section
variable {l : List G.Command}
theorem right_in {i : Nat} (hn : l.length ≤ 30) (hi : i < l.length) (hg : ∀ j (hj : j < l.length), j ≤ i → Good dM l[j]) :
    Iter (G.graftref12_Right_l2 l (i : Int)) 0 = some (if ovi l i = true then .inr false else .inl ((i + 1 : Nat) : Int)) := by
  have hl : (l.take i).length = i := by simp; omega
  have hK := Iter_scan (f := G.graftref12_Right_l2 l (i : Int)) (l.take i) (fun c => ov (cat l i) c) (fun k => (k : Int)) (fun _ => .inr false) (.inl ((i + 1 : Nat) : Int))
    (fun k h hb => by
      have hk : (l.take i)[k] = l[k]'(by omega) := List.getElem_take
      obtain ⟨e, he, he2⟩ := Overlap1_of (hg i hi (Nat.le_refl _)) (hg k (by omega) (by omega))
      rw [hk, cat_getElem hi] at hb
      unfold G.graftref12_Right_l2
      rw [if_pos (by omega), idx_of hi, idx_of (show k < l.length by omega)]
      simp only [Option.bind_some, Target4_of, he]
      rw [if_neg (by rw [hb] at he2; simpa using he2), inc64 (n := 17592186044417) (by omega) (by omega)])
    (fun k h hb => by
      have hk : (l.take i)[k] = l[k]'(by omega) := List.getElem_take
      obtain ⟨e, he, he2⟩ := Overlap1_of (hg i hi (Nat.le_refl _)) (hg k (by omega) (by omega))
      rw [hk, cat_getElem hi] at hb
      unfold G.graftref12_Right_l2
      rw [if_pos (by omega), idx_of hi, idx_of (show k < l.length by omega)]
      simp only [Option.bind_some, Target4_of, he]
      rw [if_pos (by rw [hb] at he2; simpa using he2)])
    (by unfold G.graftref12_Right_l2; rw [if_neg (by omega), inc64 (n := 17592186044417) (by omega) (by omega)]) (s := 0) rfl
  rcases hK with ⟨ha, he⟩ | ⟨k, h, hb, _, he⟩
  · rw [he, if_neg]
    unfold ovi; rw [List.any_eq_true]
    rintro ⟨c, hc, h⟩
    rw [ha c hc] at h; cases h
  · rw [he, if_pos]
    unfold ovi; rw [List.any_eq_true]
    exact ⟨_, List.getElem_mem h, hb⟩
theorem Right_of (l : List G.Command) (hL : l.length ≤ 9223372036854775807) : ∃ b, G.graftref12_Right l = some b ∧ (b = true → Rt l) := by
  unfold G.graftref12_Right
  by_cases hn : (l.length : Int) > 30
  · rw [if_pos hn]; exact ⟨false, rfl, fun h => by cases h⟩
  rw [if_neg hn]
  refine Iter_total (f := G.graftref12_Right_l1 l)
    (fun m s => ∃ i : Nat, s = (i : Int) ∧ m = l.length - i ∧ i ≤ l.length ∧ ∀ j (hj : j < l.length), j < i → Good dM l[j] ∧ l[j].data.length ≤ 200 ∧ ovi l j = false)
    (fun b => b = true → Rt l) ?_ l.length 0 ⟨0, rfl, rfl, Nat.zero_le _, fun j hj h => by omega⟩
  rintro m s ⟨i, rfl, rfl, hi, hall⟩
  unfold G.graftref12_Right_l1
  by_cases hlt : i < l.length
  · rw [if_pos (by omega)]
    simp only [idx_of hlt, Option.bind_some, Check4_of]
    by_cases hc : chk4 l[i] ≠ 0
    · rw [if_pos hc]
      exact .inr ⟨false, rfl, fun h => by cases h⟩
    · have hg := good_dM (Classical.not_not.1 hc)
      rw [if_neg hc]
      simp only [Option.bind_some]
      by_cases hd : (l[i].data.length : Int) > 200
      · rw [if_pos (decide_eq_true hd)]
        exact .inr ⟨false, rfl, fun h => by cases h⟩
      · rw [if_neg (by simpa using hd), right_in (by omega) hlt (fun j hj hji => by
          by_cases e : j = i
          · subst e; exact hg
          · exact (hall j hj (by omega)).1)]
        by_cases ho : ovi l i = true
        · rw [if_pos ho]; exact .inr ⟨false, rfl, fun h => by cases h⟩
        · rw [if_neg ho]
          refine .inl ⟨l.length - (i + 1), _, rfl, by omega, i + 1, rfl, rfl, by omega, fun j hj hji => ?_⟩
          by_cases e : j = i
          · subst e; exact ⟨hg, by omega, by simpa using ho⟩
          · exact hall j hj (by omega)
  · rw [if_neg (by omega)]
    refine .inr ⟨true, rfl, fun _ => ⟨by omega, fun c hc => ?_, fun c hc => ?_, fun j hj => (hall j hj (by omega)).2.2⟩⟩
    · obtain ⟨j, hj, rfl⟩ := List.mem_iff_getElem.1 hc; exact (hall j hj (by omega)).1
    · obtain ⟨j, hj, rfl⟩ := List.mem_iff_getElem.1 hc; exact (hall j hj (by omega)).2.1
/-- The command reads what another writes. -/
def hit (c j : G.Command) : Bool := decide (c.kind = 1 ∧ c.from_ < tend j ∧ j.to < c.from_ + c.len)
/-- Command i reads what an earlier one wrote. -/
def drt (l : List G.Command) (i : Nat) : Bool := (l.take i).any (hit (cat l i))
def IsFst (l : List G.Command) (r : Int) : Prop := ((∀ i, i < l.length → drt l i = false) ∧ r = (l.length : Int)) ∨ ∃ k, k < l.length ∧ drt l k = true ∧ (∀ j, j < k → drt l j = false) ∧ r = (k : Int)
theorem IsFst.unique {r s : Int} (h : IsFst l r) (k : IsFst l s) : r = s := by
  rcases h with ⟨h1, rfl⟩ | ⟨i, hi, h1, h2, rfl⟩ <;> rcases k with ⟨k1, rfl⟩ | ⟨j, hj, k1, k2, rfl⟩
  · rfl
  · rw [h1 j hj] at k1; cases k1
  · rw [k1 i hi] at h1; cases h1
  · rcases Nat.lt_trichotomy i j with h | h | h
    · rw [k2 i h] at h1; cases h1
    · rw [h]
    · rw [h2 j h] at k1; cases k1
theorem OverlapE {a b : G.Extent} (ha : 0 ≤ a.off ∧ 1 ≤ a.len ∧ a.off + a.len ≤ 4611686018427387903) (hb : 0 ≤ b.off ∧ 1 ≤ b.len ∧ b.off + b.len ≤ 4611686018427387903) : ∃ e, G.extent_Overlap a b = some (e, decide (a.off < b.off + b.len ∧ b.off < a.off + a.len)) := by
  unfold G.extent_Overlap G.extent_End G.extent_between
  simp only [Option.bind_some]
  rw [w64 (x := a.off + a.len) (by omega) (by omega), w64 (x := b.off + b.len) (by omega) (by omega)]
  have hx : imin (a.off + a.len) (b.off + b.len) - imax a.off b.off ≤ 4611686018427387903 ∧ -4611686018427387903 ≤ imin (a.off + a.len) (b.off + b.len) - imax a.off b.off ∧ (imin (a.off + a.len) (b.off + b.len) - imax a.off b.off < 1 ↔ ¬ (a.off < b.off + b.len ∧ b.off < a.off + a.len)) := by
    unfold imin imax; split <;> split <;> omega
  rw [w64 (by omega) (by omega)]
  split
  · rename_i h
    exact ⟨_, by rw [decide_eq_false (hx.2.2.1 h)]; rfl⟩
  · rename_i h
    exact ⟨_, by rw [decide_eq_true (Classical.not_not.1 (fun k => h (hx.2.2.2 k)))]; rfl⟩
def tgt (c : G.Command) : G.Extent := ⟨c.to, tlen c⟩
theorem reads_of {c : G.Command} {ps : List G.Command} (hc : Good dM c) (hp : ∀ p ∈ ps, Good dM p) (hn : ps.length ≤ 1000) : G.safe_reads c (ps.map tgt) = some (ps.any (hit c)) := by
  unfold G.safe_reads
  have hS : G.command_Source c = some (if c.kind = 1 then (⟨c.from_, c.len⟩, true) else (⟨0, 0⟩, false)) := by
    unfold G.command_Source; by_cases h : c.kind = 1 <;> simp [h]
  rw [hS]
  by_cases hk : c.kind = 1
  · obtain ⟨k1, k2, k3, k4, _⟩ := hc.copy hk
    have k5 := hc.len1
    unfold tlen at k5
    rw [if_pos hk] at k5
    simp only [if_pos hk, Option.bind_some, if_true]
    unfold G.slices_ContainsFunc_api_Extent_api_Extent_safe_reads_1 G.slices_IndexFunc_api_Extent_api_Extent_safe_reads_1
    have hr : ∀ k (h : k < ps.length), G.safe_reads_1 (tgt ps[k]) ⟨c.from_, c.len⟩ = some (hit c ps[k]) := fun k h => by
      have g := hp _ (List.getElem_mem h)
      have g1 := g.to0; have g2 := g.len1; have g3 := g.max
      obtain ⟨e, he⟩ := OverlapE (a := ⟨c.from_, c.len⟩) (b := tgt ps[k]) ⟨k1, k5, k4⟩ ⟨g1, g2, g3⟩
      unfold G.safe_reads_1
      rw [he]
      simp only [Option.bind_some]
      congr 1
      unfold hit
      rw [decide_eq_decide]
      show c.from_ < ps[k].to + tlen ps[k] ∧ ps[k].to < c.from_ + c.len ↔ _
      unfold tend; simp [hk]
    have hK := Iter_scan (f := G.slices_IndexFunc_api_Extent_api_Extent_safe_reads_1_l1 (ps.map tgt) ⟨c.from_, c.len⟩) ps (hit c) (fun k => (k : Int)) (fun k => (k : Int)) (-1)
      (fun k h hb => by
        unfold G.slices_IndexFunc_api_Extent_api_Extent_safe_reads_1_l1
        rw [if_pos (by simp; omega), idx_of (show k < (ps.map tgt).length by simp; omega)]
        simp only [Option.bind_some, List.getElem_map, hr k h, hb, Bool.false_eq_true, if_false]
        rw [inc64 h (by omega)])
      (fun k h hb => by
        unfold G.slices_IndexFunc_api_Extent_api_Extent_safe_reads_1_l1
        rw [if_pos (by simp; omega), idx_of (show k < (ps.map tgt).length by simp; omega)]
        simp only [Option.bind_some, List.getElem_map, hr k h, hb, if_true])
      (by unfold G.slices_IndexFunc_api_Extent_api_Extent_safe_reads_1_l1; rw [if_neg (by simp)]) (s := 0) rfl
    rcases hK with ⟨ha, he⟩ | ⟨k, h, hb, _, he⟩
    · rw [he]
      simp only [Option.bind_some]
      congr 1
      rw [show decide ((-1 : Int) ≥ 0) = false from rfl]; symm
      rw [List.any_eq_false]; intro x hx; rw [ha x hx]; simp
    · rw [he]
      simp only [Option.bind_some]
      congr 1
      rw [decide_eq_true (show (k : Int) ≥ 0 by omega)]; symm
      rw [List.any_eq_true]; exact ⟨_, List.getElem_mem h, hb⟩
  · simp only [if_neg hk, Option.bind_some, Bool.false_eq_true, if_false]
    congr 1; symm
    rw [List.any_eq_false]; intro x hx; unfold hit; simp [hk]
theorem Prefix_of (hn : l.length ≤ 30) (good : ∀ c ∈ l, Good dM c) : ∃ r, G.safe_Prefix l = some r ∧ IsFst l r := by
  unfold G.safe_Prefix G.safe_steps G.safe_steps_1_safe_Prefix
  simp only [Option.bind_some]
  have hK := Iter_scan (f := G.safe_steps_1_safe_Prefix_l1 l) (List.range l.length) (fun i => drt l i) (fun k => ((l.take k).map tgt, (k : Int), l, 0)) (fun k => .inl (l, (k : Int))) (.inr (l, 0))
    (fun k hk hb => by
      simp only [List.length_range] at hk
      simp only [List.getElem_range] at hb
      have hr := reads_of (ps := l.take k) (good _ (List.getElem_mem hk)) (fun p hp => good p (List.mem_of_mem_take hp)) (by simp; omega)
      unfold drt at hb
      rw [cat_getElem hk] at hb
      rw [hb] at hr
      unfold G.safe_steps_1_safe_Prefix_l1 G.safe_Prefix_b1
      rw [if_pos (by simp; omega)]
      simp only [idx_of hk, Option.bind_some, hr, Bool.false_eq_true, if_false, Target_of]
      rw [app_of (by simp; omega), inc64 hk (by omega), List.take_succ_eq_append_getElem hk, List.map_append]
      rfl)
    (fun k hk hb => by
      simp only [List.length_range] at hk
      simp only [List.getElem_range] at hb
      have hr := reads_of (ps := l.take k) (good _ (List.getElem_mem hk)) (fun p hp => good p (List.mem_of_mem_take hp)) (by simp; omega)
      unfold drt at hb
      rw [cat_getElem hk] at hb
      rw [hb] at hr
      unfold G.safe_steps_1_safe_Prefix_l1 G.safe_Prefix_b1
      rw [if_pos (by simp; omega)]
      simp only [idx_of hk, Option.bind_some, hr, if_true])
    (by unfold G.safe_steps_1_safe_Prefix_l1; rw [if_neg (by simp)]) (s := ([], 0, l, 0)) rfl
  rcases hK with ⟨ha, he⟩ | ⟨k, hk, hb, hj, he⟩
  · rw [he]
    exact ⟨_, rfl, .inl ⟨fun i hi => ha i (List.mem_range.2 hi), rfl⟩⟩
  · rw [he]
    simp only [List.length_range] at hk
    simp only [List.getElem_range] at hb hj
    exact ⟨_, rfl, .inr ⟨k, hk, hb, hj, rfl⟩⟩
end
end G
end Go.Proofs.Ythnhjibbkleneaa
