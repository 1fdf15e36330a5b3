/- Part of what the laws need: plain words, the walker and its laws, the program's functions. -/
import Derived.Test.YthhmandpjlggcaaZPC8
namespace Go.Proofs.Ythhmandpjlggcaa
open G
namespace G
theorem Viol_v1 (l : List G.Command) (o : List Int) : G.conflict_Violations_v1 l o = G.conflict_Violations l o := by
  unfold G.conflict_Violations_v1 G.conflict_Violations G.slices_Backward_int_int_v0 G.slices_Backward_int_int
  rfl
def upl (n : Nat) : List Int := (List.range n).map fun k : Nat => (k : Int)
def dnl (n : Nat) : List Int := (List.range n).map fun k : Nat => (n : Int) - 1 - (k : Int)
theorem upl_len (n : Nat) : (upl n).length = n := by simp [upl]
theorem dnl_len (n : Nat) : (dnl n).length = n := by simp [dnl]
theorem upl_get {n k : Nat} (h : k < (upl n).length) : (upl n)[k] = (k : Int) := by simp [upl]
theorem dnl_get {n k : Nat} (h : k < (dnl n).length) : (dnl n)[k] = (n : Int) - 1 - (k : Int) := by simp [dnl]
theorem plc_up {n k : Nat} (hk : k < n) : plc (upl n) (k : Int) = k :=
  plc_get (by rw [upl_len]; exact hk) (upl_get _) fun hm => by
    obtain ⟨j, hj, he⟩ := List.mem_take_iff_getElem.1 hm
    rw [upl_get] at he
    omega
theorem plc_dn {n k : Nat} (hk : k < n) : plc (dnl n) (k : Int) = n - 1 - k :=
  plc_get (by rw [dnl_len]; omega) (by rw [dnl_get]; omega) fun hm => by
    obtain ⟨j, hj, he⟩ := List.mem_take_iff_getElem.1 hm
    rw [dnl_get] at he
    omega
theorem ord_of (l : List G.Command) (hn : l.length ≤ 1000) : Iter (G.graftlaw12_ConflictBack_l1 l) (0, []) = some (upl l.length) := by
  refine Iter_count (f := G.graftlaw12_ConflictBack_l1 l) l.length (fun k => ((k : Int), upl k)) _ (fun k hk => ?_) ?_ (by simp [upl])
  · unfold G.graftlaw12_ConflictBack_l1
    rw [if_pos (by simp only; omega)]
    have := upl_len k
    rw [app_of (by simp; omega), inc64 hk (by omega)]
    simp [upl, List.range_succ]
  · unfold G.graftlaw12_ConflictBack_l1
    rw [if_neg (by simp)]
theorem Reverse_of (n : Nat) (hn : n ≤ 1000) : G.slices_Reverse_int_int_v0 (upl n) = some (dnl n) := by
  unfold G.slices_Reverse_int_int_v0
  have hl := upl_len n
  rw [hl, w64 (by omega) (by omega)]
  obtain ⟨r, e, h1, h2⟩ := Iter_total (f := G.slices_Reverse_int_int_v0_l1)
    (fun m s => ∃ (i j : Int) (l : List Int), s = (i, j, l) ∧ m = (j + 1 - i).toNat ∧ 0 ≤ i ∧ i + j = (n : Int) - 1 ∧ i ≤ j + 2 ∧ l.length = n ∧ ∀ k : Int, 0 ≤ k → k < n → cz l k = if k < i ∨ j < k then (n : Int) - 1 - k else k)
    (fun r => r.length = n ∧ ∀ k : Int, 0 ≤ k → k < n → cz r k = (n : Int) - 1 - k) (by
      rintro m s ⟨i, j, l, rfl, rfl, h1, h2, h3, h4, h5⟩
      unfold G.slices_Reverse_int_int_v0_l1
      simp only
      by_cases hij : i < j
      · have e1 : idx l j = some (cz l j) := idc (by omega) (by omega)
        have e2 : idx l i = some (cz l i) := idc (by omega) (by omega)
        have e3 : idx (l.set i.toNat (cz l j)) j = some _ := idc (by omega) (by rw [List.length_set]; omega)
        rw [if_pos hij]
        simp only [e1, e2, e3, Option.bind_some]
        rw [w64 (x := i + 1) (by omega) (by omega), w64 (x := j - 1) (by omega) (by omega)]
        refine .inl ⟨_, _, rfl, by omega, i + 1, j - 1, sz l i j, rfl, rfl, by omega, by omega, by omega, by rw [sz_len]; exact h4, fun k k0 k1 => ?_⟩
        rw [cz_sz ⟨by omega, by omega⟩ ⟨by omega, by omega⟩ k0, h5 k k0 k1, h5 i (by omega) (by omega), h5 j (by omega) (by omega)]
        rw [if_neg (c := j < i ∨ j < j) (by omega), if_neg (c := i < i ∨ j < i) (by omega)]
        by_cases q1 : k = i
        · rw [if_pos q1, if_pos (by omega)]; omega
        · rw [if_neg q1]
          by_cases q2 : k = j
          · rw [if_pos q2, if_pos (by omega)]; omega
          · rw [if_neg q2]
            by_cases q3 : k < i ∨ j < k
            · rw [if_pos q3, if_pos (by omega)]
            · rw [if_neg q3, if_neg (by omega)]
      · rw [if_neg hij]
        refine .inr ⟨_, rfl, h4, fun k k0 k1 => ?_⟩
        rw [h5 k k0 k1]
        split
        · rfl
        · omega) _ ((0 : Int), (n : Int) - 1, upl n) ⟨0, (n : Int) - 1, upl n, rfl, rfl, Int.le_refl _, by omega, by omega, hl, fun k k0 k1 => by
      rw [if_neg (by omega)]
      obtain ⟨k, rfl⟩ := Int.eq_ofNat_of_zero_le k0
      rw [cz_get (h := by omega), upl_get]⟩
  rw [e]
  congr 1
  refine List.ext_getElem (by rw [h1, dnl_len]) fun k k1 k2 => ?_
  rw [dnl_get, ← h2 k (by omega) (by omega), cz_get k1]
theorem filter_two {α : Type} (p q : α → Bool) : ∀ (l : List α), (∀ x ∈ l, q x = !p x) → (l.filter p).length + (l.filter q).length = l.length
  | [], _ => rfl
  | x :: l, h => by
    have h1 := filter_two p q l fun y hy => h y (List.mem_cons_of_mem _ hy)
    have h2 := h x List.mem_cons_self
    rw [List.filter_cons, List.filter_cons, h2]
    cases p x
    · simp only [Bool.false_eq_true, if_false, Bool.not_false, if_true, List.length_cons]; omega
    · simp only [Bool.not_true, Bool.false_eq_true, if_false, if_true, List.length_cons]; omega
theorem Contains_no (b : List G.digraph_Edge) (e : G.digraph_Edge) (hn : b.length ≤ 1000) (he : e ∉ b) : G.slices_Contains_digraph_Edge_digraph_Edge b e = some false := by
  unfold G.slices_Contains_digraph_Edge_digraph_Edge G.slices_Index_digraph_Edge_digraph_Edge
  have h1 : Iter (G.slices_Index_digraph_Edge_digraph_Edge_l1 b e) 0 = some (-1) := by
    refine Iter_count (f := G.slices_Index_digraph_Edge_digraph_Edge_l1 b e) b.length (fun k => (k : Int)) _ (fun k hk => ?_) ?_ rfl
    · unfold G.slices_Index_digraph_Edge_digraph_Edge_l1
      rw [if_pos (by omega), idx_of hk]
      simp only [Option.bind_some]
      rw [if_neg, inc64 hk (by omega)]
      rintro ⟨h1, h2⟩
      refine he ?_
      have : e = b[k] := by cases e; cases hb : b[k]; rw [hb] at h1 h2; simp only at h1 h2; rw [h1, h2]
      rw [this]; exact List.getElem_mem hk
    · unfold G.slices_Index_digraph_Edge_digraph_Edge_l1
      rw [if_neg (by omega)]
  rw [h1]; rfl
theorem graftlaw12_ConflictBack_true (a0 : List G.Command) (h0 : Len a0 ∧ ∀ y ∈ a0, G.Command.Ok y) : G.graftlaw12_ConflictBack a0 = some true := by
  unfold G.graftlaw12_ConflictBack
  obtain ⟨b, hb, hR⟩ := Right_of a0 h0.1
  rw [hb]
  simp only [Option.bind_some]
  cases b with
  | false => rw [if_pos rfl, alive12]; rfl
  | true =>
    rw [if_neg (by simp)]
    have h := hR rfl
    have hn := h.len
    have hp := prs_len a0 a0.length
    have hsq : a0.length * a0.length ≤ 30 * 30 := Nat.mul_le_mul (by omega) (by omega)
    obtain ⟨es, out, inn, L, g1, g2, _, g3⟩ := Graph_prog h
    have hlen := (edges_perm g2.nd g3).length_eq
    rw [List.length_map] at hlen
    rw [ord_of a0 (by omega)]
    simp only [Option.bind_some, Viol_v1]
    rw [Viol_of h _ (by rw [upl_len]; omega), Reverse_of _ (by omega)]
    simp only [Option.bind_some]
    rw [Viol_of h _ (by rw [dnl_len]; omega)]
    simp only [Option.bind_some, g1]
    have inp : ∀ p ∈ prs a0 a0.length, p.1 < a0.length ∧ p.2 < a0.length ∧ p.1 ≠ p.2 := fun p hp => by
      obtain ⟨q1, q2⟩ := mem_prs.1 hp
      obtain ⟨q3, q4, _⟩ := mem_nb.1 q2
      exact ⟨q1, q3, q4⟩
    have hu : ∀ p, p ∈ vio (upl a0.length) (prs a0 a0.length) ↔ p ∈ prs a0 a0.length ∧ p.2 < p.1 := fun p => by
      unfold vio
      rw [List.mem_filter]
      refine and_congr_right fun hp => ?_
      obtain ⟨q1, q2, _⟩ := inp p hp
      rw [plc_up q1, plc_up q2, decide_eq_true_eq]
    have hd : ∀ p, p ∈ vio (dnl a0.length) (prs a0 a0.length) ↔ p ∈ prs a0 a0.length ∧ p.1 < p.2 := fun p => by
      unfold vio
      rw [List.mem_filter]
      refine and_congr_right fun hp => ?_
      obtain ⟨q1, q2, _⟩ := inp p hp
      rw [plc_dn q1, plc_dn q2, decide_eq_true_eq]
      omega
    have hsum : (vio (upl a0.length) (prs a0 a0.length)).length + (vio (dnl a0.length) (prs a0 a0.length)).length = (prs a0 a0.length).length := by
      unfold vio
      refine filter_two _ _ _ fun p hp => ?_
      obtain ⟨q1, q2, q3⟩ := inp p hp
      rw [plc_up q1, plc_up q2, plc_dn q1, plc_dn q2]
      by_cases e : p.2 < p.1
      · simp [e]; omega
      · simp [e]; omega
    have hloop : Iter (G.graftlaw12_ConflictBack_l2 ((vio (upl a0.length) (prs a0 a0.length)).map eprg) ((vio (dnl a0.length) (prs a0 a0.length)).map eprg) ((a0.length : Int), es, out, inn)) 0 = some (.inl ()) := by
      refine Iter_count (f := G.graftlaw12_ConflictBack_l2 ((vio (upl a0.length) (prs a0 a0.length)).map eprg) ((vio (dnl a0.length) (prs a0 a0.length)).map eprg) ((a0.length : Int), es, out, inn)) (vio (upl a0.length) (prs a0 a0.length)).length (fun k => (k : Int)) _ (fun k hk => ?_) ?_ rfl
      · unfold G.graftlaw12_ConflictBack_l2
        simp only
        rw [if_pos (by simp; omega), idx_of (k := k) (by simpa using hk)]
        simp only [Option.bind_some, List.getElem_map]
        obtain ⟨m1, m2⟩ := (hu _).1 (List.getElem_mem hk)
        have m3 : eprg ((vio (upl a0.length) (prs a0 a0.length))[k]) ∈ L := (g3 _).2 ⟨_, m1, rfl⟩
        have hhas := g2.has.2 m3
        unfold G.digraph_Graph_Has
        simp only [Option.bind_some, hhas]
        rw [if_neg (by simp), Contains_no _ _ (by rw [List.length_map]; omega) (fun hm => by
          obtain ⟨q, hq, he⟩ := List.mem_map.1 hm
          obtain rfl := eprg_inj he
          have := ((hd _).1 hq).2
          omega)]
        simp only [Option.bind_some, Bool.false_eq_true, if_false]
        rw [if_neg (by unfold eprg; simp only [decide_eq_true_eq]; omega), inc64 hk (by omega)]
      · unfold G.graftlaw12_ConflictBack_l2
        rw [if_neg (by simp)]
    rw [hloop]
    simp only [Option.bind_some, joinK_inl]
    rw [alive12]
    simp only [Option.bind_some]
    rw [if_pos trivial]
    unfold G.digraph_Graph_Size
    simp only [Option.bind_some, List.length_map]
    rw [g2.len, w64 (by omega) (by omega), if_pos (by omega), refGraph_of h]
    simp only [Option.bind_some, List.length_map]
    congr 1
    rw [beq_iff_eq]
    omega
end G
end Go.Proofs.Ythhmandpjlggcaa
