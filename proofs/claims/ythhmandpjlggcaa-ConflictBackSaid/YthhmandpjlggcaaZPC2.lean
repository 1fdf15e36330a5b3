/- Part of what the laws need: plain words, the walker and its laws, the program's functions. -/
import Derived.Test.YthhmandpjlggcaaZPLC
import Derived.Test.YthhmandpjlggcaaZPC1
namespace Go.Proofs.Ythhmandpjlggcaa
open G
namespace G
section
variable {l : List G.Command}
def nb (l : List G.Command) (i : Nat) : List Nat := (List.range l.length).filter fun j => decide (i ≠ j) && hit (cat l i) (cat l j)
def prs (l : List G.Command) (k : Nat) : List (Nat × Nat) := (List.range k).flatMap fun i => (nb l i).map fun j => (i, j)
theorem prs_succ (l : List G.Command) (k : Nat) : prs l (k + 1) = prs l k ++ (nb l k).map fun j => (k, j) := by
  unfold prs
  rw [List.range_succ, List.flatMap_append]
  simp
theorem nb_len (l : List G.Command) (i : Nat) : (nb l i).length ≤ l.length := by
  unfold nb
  exact Nat.le_trans (List.length_filter_le _ _) (by simp)
theorem prs_len (l : List G.Command) : ∀ k, (prs l k).length ≤ k * l.length
  | 0 => by simp [prs]
  | k + 1 => by
    rw [prs_succ, List.length_append, List.length_map]
    have h1 := prs_len l k
    have h2 := nb_len l k
    rw [Nat.succ_mul]
    omega
theorem mem_nb {i j : Nat} : j ∈ nb l i ↔ j < l.length ∧ i ≠ j ∧ hit (cat l i) (cat l j) = true := by
  unfold nb
  rw [List.mem_filter, List.mem_range]
  simp
theorem mem_prs {k : Nat} {p : Nat × Nat} : p ∈ prs l k ↔ p.1 < k ∧ p.2 ∈ nb l p.1 := by
  unfold prs
  rw [List.mem_flatMap]
  constructor
  · rintro ⟨i, hi, hp⟩
    obtain ⟨j, hj, rfl⟩ := List.mem_map.1 hp
    exact ⟨List.mem_range.1 hi, hj⟩
  · rintro ⟨h1, h2⟩
    exact ⟨p.1, List.mem_range.2 h1, List.mem_map.2 ⟨p.2, h2, rfl⟩⟩
def eref (p : Nat × Nat) : G.graftref11_Edge := ⟨(p.1 : Int), (p.2 : Int)⟩
def eprg (p : Nat × Nat) : G.digraph_Edge := ⟨(p.1 : Int), (p.2 : Int)⟩
theorem nb_take (l : List G.Command) (i j : Nat) : ((List.range (j + 1)).filter fun j => decide (i ≠ j) && hit (cat l i) (cat l j)) = ((List.range j).filter fun j => decide (i ≠ j) && hit (cat l i) (cat l j)) ++ (if (decide (i ≠ j) && hit (cat l i) (cat l j)) = true then [j] else []) := by
  rw [List.range_succ, List.filter_append]
  congr 1
  rw [List.filter_cons]
  split <;> rfl
theorem refGraph_in (h : Rt l) {i : Nat} (hi : i < l.length) (N : Int) {E0 : List G.graftref11_Edge} (h0 : E0.length ≤ 900) :
    Iter (G.graftref12_Graph_l2 l ((i : Int), N, E0)) (0, N, E0) = some (.inl (((i + 1 : Nat) : Int), N, E0 ++ (nb l i).map fun j => eref (i, j))) := by
  have hn := h.len
  refine Iter_count (f := G.graftref12_Graph_l2 l ((i : Int), N, E0)) l.length (fun j => ((j : Int), N, E0 ++ ((List.range j).filter fun j => decide (i ≠ j) && hit (cat l i) (cat l j)).map fun j => eref (i, j))) _ (fun j hj => ?_) ?_ (by simp)
  · unfold G.graftref12_Graph_l2
    simp only
    rw [if_pos (by omega)]
    have hlen : ((List.range j).filter fun j => decide (i ≠ j) && hit (cat l i) (cat l j)).length ≤ 30 := Nat.le_trans (List.length_filter_le _ _) (by simp; omega)
    have hv : (if (i : Int) ≠ (j : Int) then (idx l (i : Int)).bind fun x4 => (idx l (j : Int)).bind fun x5 => (G.graftref12_Reads x4 x5).bind fun y6 => some (decide (y6 > (0 : Int))) else some false) = some (decide (i ≠ j) && hit (cat l i) (cat l j)) := by
      by_cases e : i = j
      · rw [if_neg (by omega)]; simp [e]
      · obtain ⟨n, e1, e2⟩ := Reads_of (h.good _ (List.getElem_mem hi)) (h.good _ (List.getElem_mem hj))
        rw [if_pos (by omega), idx_of hi, idx_of hj]
        simp only [Option.bind_some, e1]
        rw [cat_getElem hi, cat_getElem hj]
        by_cases hh : hit l[i] l[j] = true
        · simp [e, hh, e2.2 hh]
        · have : ¬ n > 0 := fun hn => hh (e2.1 hn)
          simp [e, hh, this]
    rw [hv]
    simp only [Option.bind_some]
    rw [nb_take, List.map_append]
    by_cases hb : (decide (i ≠ j) && hit (cat l i) (cat l j)) = true
    · rw [if_pos hb, if_pos hb, app_of (by simp only [List.length_append, List.length_map, List.length_cons, List.length_nil]; omega)]
      simp only [Option.bind_some]
      rw [inc64 hj (by omega), List.append_assoc]
      rfl
    · rw [if_neg hb, if_neg hb, inc64 hj (by omega)]
      simp
  · unfold G.graftref12_Graph_l2
    simp only
    rw [if_neg (by omega), inc64 hi (by omega)]
    rfl
theorem refGraph_of (h : Rt l) : G.graftref12_Graph l = some ((l.length : Int), (prs l l.length).map eref) := by
  have hn := h.len
  unfold G.graftref12_Graph
  refine Iter_count (f := G.graftref12_Graph_l1 l) l.length (fun i => ((i : Int), (l.length : Int), (prs l i).map eref)) _ (fun i hi => ?_) ?_ (by simp [prs])
  · unfold G.graftref12_Graph_l1
    rw [if_pos (by simp only; omega)]
    simp only
    have hl := prs_len l i
    have : i * l.length ≤ 30 * 30 := Nat.mul_le_mul (by omega) (by omega)
    rw [refGraph_in h hi _ (by rw [List.length_map]; omega), prs_succ, List.map_append, List.map_map]
    rfl
  · unfold G.graftref12_Graph_l1
    rw [if_neg (by simp)]
end
end G
end Go.Proofs.Ythhmandpjlggcaa
