/- SafeEdges is true: no command is unsafe exactly if no edge of the conflict graph is violated. No program in sight. -/
import Derived.Test.YthnhjibbkleneaaPS2
namespace Go.Proofs.Ythnhjibbkleneaa
open G
namespace G
theorem Reads_of {a b : G.Command} (ha : Good dM a) (hb : Good dM b) : ∃ n, G.graftref12_Reads a b = some n ∧ (n > 0 ↔ hit a b = true) := by
  unfold G.graftref12_Reads hit
  by_cases hk : a.kind = 1
  · obtain ⟨k1, k2, k3, k4, _⟩ := ha.copy hk
    have k5 := ha.len1
    rw [show tlen a = a.len by unfold tlen; rw [if_pos hk]] at k5
    have b1 := hb.to0; have b2 := hb.len1; have b3 := hb.max
    rw [if_neg (by simp [hk])]
    unfold G.graftref04_Source G.graftref01_Overlap
    unfold tend at b3 ⊢
    simp only [Option.bind_some, Target4_of]
    rw [w64 (x := a.from_ + a.len) (by omega) (by omega), w64 (x := b.to + tlen b) (by omega) (by omega), decide_eq_true_eq]
    by_cases h : imax a.from_ b.to ≥ imin (a.from_ + a.len) (b.to + tlen b)
    · rw [if_pos h]
      refine ⟨_, rfl, ?_⟩
      simp only
      revert h
      unfold imax imin
      split <;> split <;> omega
    · rw [if_neg h]
      refine ⟨_, rfl, ?_⟩
      simp only
      revert h
      unfold imax imin
      split <;> split <;> (intro h; rw [w64 (by omega) (by omega)]; omega)
  · rw [if_pos (by simpa using hk)]
    exact ⟨0, rfl, by simp [hk]⟩
section
variable {l : List G.Command}
/-- The edges so far: of the commands before i, and of command i to those before j. -/
structure Edg (l : List G.Command) (i j : Nat) (E : List G.graftref11_Edge) : Prop where
  len : E.length ≤ 40 * i + j
  sound : ∀ e ∈ E, ∃ p q : Nat, e = ⟨(p : Int), (q : Int)⟩ ∧ p < l.length ∧ q < l.length ∧ hit (cat l p) (cat l q) = true ∧ p ≠ q
  full : ∀ p q : Nat, p < l.length → q < l.length → p ≠ q → hit (cat l p) (cat l q) = true → p < i ∨ p = i ∧ q < j → (⟨(p : Int), (q : Int)⟩ : G.graftref11_Edge) ∈ E
theorem graph_in (hn : l.length ≤ 30) (hg : ∀ c ∈ l, Good dM c) {i : Nat} (hi : i < l.length) {N : Int} {E0 : List G.graftref11_Edge} (h0 : Edg l i 0 E0) :
    ∃ E, Iter (G.graftref12_Graph_l2 l ((i : Int), N, E0)) (0, N, E0) = some (.inl (((i + 1 : Nat) : Int), N, E)) ∧ Edg l (i + 1) 0 E := by
  obtain ⟨r, e, E, rfl, hE⟩ := Iter_total (f := G.graftref12_Graph_l2 l ((i : Int), N, E0))
    (fun m s => ∃ (j : Nat) (E : List G.graftref11_Edge), s = ((j : Int), N, E) ∧ m = l.length - j ∧ j ≤ l.length ∧ Edg l i j E)
    (fun r => ∃ E, r = .inl (((i + 1 : Nat) : Int), N, E) ∧ Edg l (i + 1) 0 E) (by
      rintro m s ⟨j, E, rfl, rfl, hj, hE⟩
      unfold G.graftref12_Graph_l2
      simp only
      by_cases hlt : j < l.length
      · rw [if_pos (by omega)]
        have hv : ∃ b, (if (i : Int) ≠ (j : Int) then (idx l (i : Int)).bind fun x4 => (idx l (j : Int)).bind fun x5 => (G.graftref12_Reads x4 x5).bind fun y6 => some (decide (y6 > (0 : Int))) else some false) = some b ∧ (b = true ↔ i ≠ j ∧ hit (cat l i) (cat l j) = true) := by
          by_cases e : i = j
          · rw [if_neg (by omega)]
            exact ⟨false, rfl, ⟨fun h => (by cases h), fun h => absurd e h.1⟩⟩
          · obtain ⟨n, e1, e2⟩ := Reads_of (hg _ (List.getElem_mem hi)) (hg _ (List.getElem_mem hlt))
            rw [if_pos (by omega), idx_of hi, idx_of hlt]
            simp only [Option.bind_some, e1]
            refine ⟨_, rfl, ?_⟩
            rw [decide_eq_true_eq, e2, cat_getElem hi, cat_getElem hlt]
            exact ⟨fun h => ⟨e, h⟩, fun h => h.2⟩
        obtain ⟨b, e1, e2⟩ := hv
        rw [e1]
        simp only [Option.bind_some]
        left
        have hl := hE.len
        by_cases hb : b = true
        · obtain ⟨q1, q2⟩ := e2.1 hb
          rw [if_pos hb, app_of (by simp; omega)]
          simp only [Option.bind_some]
          rw [inc64 hlt (by omega)]
          refine ⟨l.length - (j + 1), _, rfl, by omega, j + 1, _, rfl, rfl, by omega, ⟨by simp; omega, fun e he => ?_, fun p q p1 p2 p3 p4 p5 => ?_⟩⟩
          · rcases List.mem_append.1 he with he | he
            · exact hE.sound e he
            · rw [List.mem_singleton] at he
              exact ⟨i, j, he, hi, hlt, q2, q1⟩
          · by_cases e : p = i ∧ q = j
            · obtain ⟨rfl, rfl⟩ := e
              exact List.mem_append.2 (.inr (List.mem_singleton.2 rfl))
            · exact List.mem_append.2 (.inl (hE.full p q p1 p2 p3 p4 (by omega)))
        · rw [if_neg hb, inc64 hlt (by omega)]
          refine ⟨l.length - (j + 1), _, rfl, by omega, j + 1, _, rfl, rfl, by omega, ⟨by omega, hE.sound, fun p q p1 p2 p3 p4 p5 => ?_⟩⟩
          by_cases e : p = i ∧ q = j
          · obtain ⟨rfl, rfl⟩ := e
            exact absurd (e2.2 ⟨p3, p4⟩) hb
          · exact hE.full p q p1 p2 p3 p4 (by omega)
      · rw [if_neg (by omega), inc64 hi (by omega)]
        have hl := hE.len
        exact .inr ⟨_, rfl, E, rfl, ⟨by omega, hE.sound, fun p q p1 p2 p3 p4 p5 => hE.full p q p1 p2 p3 p4 (by omega)⟩⟩) _ ((0 : Int), N, E0) ⟨0, E0, rfl, rfl, Nat.zero_le _, h0⟩
  exact ⟨E, e, hE⟩
theorem Graph_of (hn : l.length ≤ 30) (hg : ∀ c ∈ l, Good dM c) : ∃ E N, G.graftref12_Graph l = some (N, E) ∧ Edg l l.length 0 E := by
  unfold G.graftref12_Graph
  obtain ⟨r, e, E, N, rfl, hE⟩ := Iter_total (f := G.graftref12_Graph_l1 l)
    (fun m s => ∃ (i : Nat) (N : Int) (E : List G.graftref11_Edge), s = ((i : Int), N, E) ∧ m = l.length - i ∧ i ≤ l.length ∧ Edg l i 0 E)
    (fun r => ∃ E N, r = (N, E) ∧ Edg l l.length 0 E) (by
      rintro m s ⟨i, N, E, rfl, rfl, hi, hE⟩
      unfold G.graftref12_Graph_l1
      simp only
      by_cases hlt : i < l.length
      · obtain ⟨E', e, hE'⟩ := graph_in hn hg hlt (N := N) hE
        rw [if_pos (by omega), e]
        exact .inl ⟨l.length - (i + 1), _, rfl, by omega, i + 1, N, E', rfl, rfl, by omega, hE'⟩
      · rw [if_neg (by omega)]
        have : i = l.length := by omega
        subst this
        exact .inr ⟨_, rfl, E, N, rfl, hE⟩) _ ((0 : Int), (l.length : Int), []) ⟨0, _, [], rfl, rfl, Nat.zero_le _, ⟨by simp, fun e he => (by cases he), fun p q _ _ _ _ h => by omega⟩⟩
  exact ⟨E, N, e, hE⟩
/-- 0, 1 and so on. -/
def ids (n : Nat) : List Int := (List.range n).map fun (k : Nat) => (k : Int)
theorem ids_len (n : Nat) : (ids n).length = n := by simp [ids]
theorem ids_get {n k : Nat} (h : k < n) : idx (ids n) (k : Int) = some (k : Int) := by
  rw [idx_of (by rw [ids_len]; exact h)]
  simp [ids]
theorem place_of {n p : Nat} (h : p < n) (hn : n ≤ 1000) : G.graftref12_place (ids n) (p : Int) = some (p : Int) := by
  unfold G.graftref12_place
  refine Iter_count (f := G.graftref12_place_l1 (ids n) (p : Int)) p (fun k => (k : Int)) _ (fun k hk => ?_) ?_ rfl
  · unfold G.graftref12_place_l1
    rw [if_pos (by rw [ids_len]; omega), ids_get (by omega)]
    simp only [Option.bind_some]
    rw [if_neg (by omega), inc64 hk (by omega)]
  · unfold G.graftref12_place_l1
    rw [if_pos (by rw [ids_len]; omega), ids_get h]
    simp only [Option.bind_some]
    rw [if_pos trivial]
theorem ids_loop (hn : l.length ≤ 1000) : Iter (G.graftlaw16_SafeEdges_l1 l) ([], 0) = some (ids l.length) := by
  refine Iter_count (f := G.graftlaw16_SafeEdges_l1 l) l.length (fun k => (ids k, (k : Int))) _ (fun k hk => ?_) ?_ rfl
  · unfold G.graftlaw16_SafeEdges_l1
    rw [if_pos (by simp only; omega), app_of (by simp [ids_len]; omega)]
    simp only [Option.bind_some]
    rw [inc64 hk (by omega)]
    congr 3
    unfold ids
    rw [List.range_succ, List.map_append]; rfl
  · unfold G.graftlaw16_SafeEdges_l1
    rw [if_neg (by simp)]
theorem Violations_of (hn : l.length ≤ 30) (hg : ∀ c ∈ l, Good dM c) : ∃ out, G.graftref12_Violations l (ids l.length) = some out ∧ (out = [] ↔ ∀ i, i < l.length → drt l i = false) := by
  obtain ⟨E, N, e, hE⟩ := Graph_of hn hg
  have hl := hE.len
  have hdrt : (∀ e ∈ E, ¬ e.to < e.from_) ↔ ∀ i, i < l.length → drt l i = false := by
    constructor
    · intro h i hi
      unfold drt
      rw [List.any_eq_false]
      intro c hc hh
      obtain ⟨j, hj, rfl⟩ := List.mem_iff_getElem.1 hc
      simp only [List.length_take] at hj
      simp only [List.getElem_take] at hh
      rw [← cat_getElem (by omega)] at hh
      have := h _ (hE.full i j hi (by omega) (by omega) hh (.inl hi))
      simp only at this
      omega
    · intro h e he hlt
      obtain ⟨p, q, rfl, hp, hq, hh, _⟩ := hE.sound e he
      simp only at hlt
      have := h p hp
      unfold drt at this
      rw [List.any_eq_false] at this
      refine this (cat l q) (List.mem_iff_getElem.2 ⟨q, by simp; omega, ?_⟩) hh
      rw [List.getElem_take, cat_getElem hq]
  unfold G.graftref12_Violations
  rw [e]
  simp only [Option.bind_some]
  obtain ⟨out, e2, h2⟩ := Iter_total (f := G.graftref12_Violations_l1 (ids l.length) (N, E))
    (fun m s => ∃ (out : List G.graftref11_Edge) (k : Nat), s = (out, (k : Int)) ∧ m = E.length - k ∧ k ≤ E.length ∧ out.length ≤ k ∧ (out = [] ↔ ∀ j (hj : j < E.length), j < k → ¬ E[j].to < E[j].from_))
    (fun out => out = [] ↔ ∀ e ∈ E, ¬ e.to < e.from_) (by
      rintro m s ⟨out, k, rfl, rfl, hk, h1, h2⟩
      unfold G.graftref12_Violations_l1
      simp only
      by_cases hlt : k < E.length
      · obtain ⟨p, q, ep, hp, hq, _⟩ := hE.sound _ (List.getElem_mem hlt)
        rw [if_pos (by omega), idx_of hlt]
        simp only [Option.bind_some]
        rw [ep]
        simp only
        rw [place_of hq (by omega), place_of hp (by omega)]
        simp only [Option.bind_some]
        rw [inc64 hlt (by omega)]
        left
        by_cases hpq : (q : Int) < (p : Int)
        · rw [if_pos hpq, app_of (by simp; omega)]
          refine ⟨E.length - (k + 1), _, rfl, by omega, _, k + 1, rfl, rfl, hlt, by simp; omega, ⟨fun h => by simp at h, fun h => ?_⟩⟩
          have := h k hlt (by omega)
          rw [ep] at this
          exact absurd hpq this
        · rw [if_neg hpq]
          refine ⟨E.length - (k + 1), _, rfl, by omega, _, k + 1, rfl, rfl, hlt, by omega, h2.trans ⟨fun h j hj hjk => ?_, fun h j hj hjk => h j hj (by omega)⟩⟩
          by_cases e : j = k
          · subst e; rw [ep]; exact hpq
          · exact h j hj (by omega)
      · rw [if_neg (by omega)]
        refine .inr ⟨_, rfl, h2.trans ⟨fun h e he => ?_, fun h j hj _ => h _ (List.getElem_mem hj)⟩⟩
        obtain ⟨j, hj, rfl⟩ := List.mem_iff_getElem.1 he
        exact h j hj (by omega)) _ ([], (0 : Int)) ⟨[], 0, rfl, rfl, Nat.zero_le _, Nat.le_refl _, by simp⟩
  exact ⟨out, e2, h2.trans hdrt⟩
end
end G
theorem G.graftlaw16_SafeEdges_true (a0 : List G.Command) (h0 : Len a0 ∧ ∀ y ∈ a0, G.Command.Ok y) : G.graftlaw16_SafeEdges a0 = some true := by
  have n0 : a0.length ≤ 9223372036854775807 := h0.1
  unfold G.graftlaw16_SafeEdges
  obtain ⟨b, e1, s1⟩ := G.Right_of a0 n0
  obtain ⟨c, e2, _⟩ := G.Short_of a0 n0
  rw [e1, e2, G.alive16]
  cases b
  · rfl
  cases c
  · rfl
  have hr := s1 rfl
  have hn := hr.len
  obtain ⟨r, q1, q2⟩ := G.Prefix_of hr.len hr.good
  obtain ⟨out, o1, o2⟩ := G.Violations_of hr.len hr.good
  rw [G.ids_loop (by omega), G.Check16_of q1]
  simp only [Option.bind_some]
  rw [o1]
  simp only [Option.bind_some, Bool.not_true, Bool.false_eq_true, if_false, Bool.true_eq_false, if_true]
  congr 1
  rw [beq_iff_eq]
  rcases q2 with ⟨h1, rfl⟩ | ⟨k, hk, h1, _, rfl⟩
  · have := o2.2 h1
    subst this
    simp
  · have : out ≠ [] := fun h => by rw [o2.1 h k hk] at h1; cases h1
    rw [if_pos (by omega)]
    have := List.length_pos_iff.2 this
    rw [decide_eq_false (by simp)]
    symm
    rw [beq_eq_false_iff_ne]
    omega
end Go.Proofs.Ythnhjibbkleneaa
