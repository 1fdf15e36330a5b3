/- Part of what the laws need: plain words, the walker and its laws, the program's functions. -/
import Derived.Test.YthhmandpjlggcaaZPC4
import Derived.KernelRfl
namespace Go.Proofs.Ythhmandpjlggcaa
open G
namespace G
def rd (a b : G.Command) : Int := if hit a b = true then imin (a.from_ + a.len) (tend b) - imax a.from_ b.to else 0
theorem src_ex {c : G.Command} (h : Good dM c) (hk : c.kind = 1) : Ex ⟨c.from_, c.len⟩ := by
  obtain ⟨k1, k2, k3, k4, _⟩ := h.copy hk
  have k5 := h.len1
  rw [show tlen c = c.len by unfold tlen; rw [if_pos hk]] at k5
  exact ⟨k1, k5, by have e : dM.oldLen = 4611686018427387903 := rfl; rw [e] at k3; exact k3⟩
theorem hit_xov {a b : G.Command} (hk : a.kind = 1) : hit a b = xov ⟨a.from_, a.len⟩ (tgt b) := by
  unfold hit xov xend tgt tend
  simp [hk]
theorem ReadsP_of {a b : G.Command} (ha : Good dM a) (hb : Good dM b) : G.conflict_Reads a b = some (rd a b) := by
  unfold G.conflict_Reads
  rw [src5]
  simp only [Option.bind_some]
  by_cases hk : a.kind = 1
  · rw [if_pos hk]
    simp only [Bool.true_eq_false, if_false, Target_of, Option.bind_some]
    have := OverlapX (src_ex ha hk) (tgt_ex hb)
    unfold tgt at this
    rw [this]
    simp only [Option.bind_some]
    unfold rd
    rw [hit_xov hk]
    unfold tgt
    split
    · unfold xpart xend tend
      rfl
    · rfl
  · rw [if_neg hk]
    unfold rd hit
    simp [hk]
theorem ReadsR_of {a b : G.Command} (ha : Good dM a) (hb : Good dM b) : G.graftref12_Reads a b = some (rd a b) := by
  unfold G.graftref12_Reads rd hit
  by_cases hk : a.kind = 1
  · obtain ⟨k1, k2, k3⟩ := src_ex ha hk
    have b1 := hb.to0; have b2 := hb.len1; have b3 := hb.max
    simp only at k1 k2 k3
    rw [if_neg (by simp [hk])]
    unfold G.graftref04_Source G.graftref01_Overlap
    unfold tend at b3 ⊢
    simp only [Option.bind_some, Target4_of]
    rw [w64 (x := a.from_ + a.len) (by omega) (by omega), w64 (x := b.to + tlen b) (by omega) (by omega)]
    by_cases h : imax a.from_ b.to ≥ imin (a.from_ + a.len) (b.to + tlen b)
    · rw [if_pos h, if_neg]
      · rfl
      · rw [decide_eq_true_eq]
        revert h
        unfold imax imin
        split <;> split <;> omega
    · rw [if_neg h, if_pos]
      · simp only [Option.bind_some]
        congr 1
        refine w64 ?_ ?_ <;> (unfold imax imin; split <;> split <;> omega)
      · rw [decide_eq_true_eq]
        revert h
        unfold imax imin
        split <;> split <;> omega
  · rw [if_pos (by simpa using hk)]
    simp [hk]
theorem rd_pos {a b : G.Command} (ha : Good dM a) (hb : Good dM b) : rd a b > 0 ↔ hit a b = true := by
  unfold rd
  by_cases h : hit a b = true
  · rw [if_pos h]
    refine ⟨fun _ => h, fun _ => ?_⟩
    unfold hit at h
    rw [decide_eq_true_eq] at h
    obtain ⟨k1, k2, k3⟩ := src_ex ha h.1
    have b2 := hb.len1
    simp only at k1 k2 k3
    unfold tend at *
    unfold imax imin
    split <;> split <;> omega
  · rw [if_neg h]; simp [h]
section
variable {l : List G.Command}
def slf (l : List G.Command) (k : Nat) : List Int := ((List.range k).filter fun i => hit (cat l i) (cat l i)).map fun i : Nat => (i : Int)
theorem slf_succ (l : List G.Command) (k : Nat) : slf l (k + 1) = slf l k ++ (if hit (cat l k) (cat l k) = true then [(k : Int)] else []) := by
  unfold slf
  rw [List.range_succ, List.filter_append, List.map_append]
  congr 1
  rw [List.filter_cons]
  split <;> rfl
theorem slf_len (l : List G.Command) (k : Nat) : (slf l k).length ≤ k := by
  unfold slf
  rw [List.length_map]
  exact Nat.le_trans (List.length_filter_le _ _) (by simp)
theorem OverlapsP_of {c : G.Command} (h : Good dM c) : G.command_Overlaps c = some (hit c c) := by
  unfold G.command_Overlaps
  rw [src5]
  simp only [Option.bind_some]
  by_cases hk : c.kind = 1
  · rw [if_pos hk]
    simp only [Bool.true_eq_false, if_false, Target_of, Option.bind_some]
    have := OverlapX (src_ex h hk) (tgt_ex h)
    unfold tgt at this
    rw [this]
    simp only [Option.bind_some]
    rw [hit_xov hk]
    unfold tgt
    split
    · rename_i h1; rw [h1]
    · rename_i h1; rw [Bool.not_eq_true] at h1; rw [h1]
  · rw [if_neg hk]
    unfold hit
    simp [hk]
theorem Self_of (h : Rt l) : G.conflict_Self l = some (slf l l.length) := by
  have hn := h.len
  unfold G.conflict_Self
  refine Iter_count (f := G.conflict_Self_l1 l) l.length (fun k => (slf l k, (k : Int))) _ (fun k hk => ?_) ?_ (by simp [slf])
  · unfold G.conflict_Self_l1
    rw [if_pos (by simp only; omega)]
    simp only [idx_of hk, Option.bind_some, OverlapsP_of (h.good _ (List.getElem_mem hk))]
    have hl := slf_len l k
    rw [slf_succ, cat_getElem hk, inc64 hk (by omega)]
    by_cases hh : hit l[k] l[k] = true
    · rw [if_pos hh, if_pos hh, app_of (by simp; omega)]; rfl
    · rw [if_neg hh, if_neg hh]; simp
  · unfold G.conflict_Self_l1
    rw [if_neg (by simp)]
end
def al12 : List G.Command := [(⟨(1 : Int), (0 : Int), (4 : Int), (4 : Int), ([] : List UInt8)⟩ : G.Command), (⟨(1 : Int), (4 : Int), (0 : Int), (4 : Int), ([] : List UInt8)⟩ : G.Command)]
theorem rt_al12 : Rt al12 := ⟨by decide, fun c hc => good_dM (by
  simp only [al12, List.mem_cons, List.not_mem_nil, or_false] at hc
  rcases hc with rfl | rfl <;> decide), fun c hc => by
  simp only [al12, List.mem_cons, List.not_mem_nil, or_false] at hc
  rcases hc with rfl | rfl <;> decide, fun i hi => by
  match i, hi with
  | 0, _ => decide
  | 1, _ => decide⟩
theorem alive12 : G.graftlaw12_alive = some true := by
  obtain ⟨es, out, inn, L, h1, h2, _, h3⟩ := Graph_prog rt_al12
  have hp : prs al12 al12.length = [(0, 1), (1, 0)] := by decide
  have hlen := (edges_perm h2.nd h3).length_eq
  rw [hp] at hlen h3
  have m1 : (⟨0, 1⟩ : G.digraph_Edge) ∈ L := (h3 _).2 ⟨(0, 1), by simp, rfl⟩
  have m2 : (⟨1, 0⟩ : G.digraph_Edge) ∈ L := (h3 _).2 ⟨(1, 0), by simp, rfl⟩
  have hw : G.conflict_Weight al12 ⟨0, 1⟩ = some 4 := by
    unfold G.conflict_Weight
    have i0 : idx al12 0 = some ⟨1, 0, 4, 4, []⟩ := rfl
    have i1 : idx al12 1 = some ⟨1, 4, 0, 4, []⟩ := rfl
    have hr := ReadsP_of (a := ⟨1, 0, 4, 4, []⟩) (b := ⟨1, 4, 0, 4, []⟩) (rt_al12.good _ (by simp [al12])) (rt_al12.good _ (by simp [al12]))
    simp only [i0, i1, Option.bind_some, hr]
    decide
  have hs := Self_of rt_al12
  have hs2 : slf al12 al12.length = [] := by decide
  unfold G.graftlaw12_alive
  rw [show ([(⟨(1 : Int), (0 : Int), (4 : Int), (4 : Int), ([] : List UInt8)⟩ : G.Command), (⟨(1 : Int), (4 : Int), (0 : Int), (4 : Int), ([] : List UInt8)⟩ : G.Command)]) = al12 from rfl, h1]
  unfold G.digraph_Graph_Size G.digraph_Graph_Has
  simp only [Option.bind_some]
  rw [if_pos (by rw [h2.len, hlen]; rfl), if_pos (h2.has.2 m1), if_pos (h2.has.2 m2), hw]
  simp only [Option.bind_some, if_true]
  rw [hs, hs2]
  rfl
theorem graftlaw12_ConflictGraphs_true (a0 : List G.Command) (h0 : Len a0 ∧ ∀ y ∈ a0, G.Command.Ok y) : G.graftlaw12_ConflictGraphs a0 = some true := by
  unfold G.graftlaw12_ConflictGraphs
  obtain ⟨b, hb, hR⟩ := Right_of a0 h0.1
  rw [hb]
  simp only [Option.bind_some]
  cases b with
  | false => rw [if_pos rfl, alive12]; rfl
  | true =>
    rw [if_neg (by simp)]
    have h := hR rfl
    have hn := h.len
    obtain ⟨es, out, inn, L, h1, h2, _, h3⟩ := Graph_prog h
    have hlen := (edges_perm h2.nd h3).length_eq
    rw [h1, refGraph_of h]
    unfold G.digraph_Graph_Len G.digraph_Graph_Size
    simp only [Option.bind_some]
    rw [if_neg (by simp)]
    have e1 : ((es.length : Int) != (((prs a0 a0.length).map eref).length : Int)) = false := by
      rw [h2.len, hlen, List.length_map, List.length_map]; simp
    rw [e1]
    simp only [Option.bind_some, Bool.false_eq_true, if_false]
    have hpl := prs_len a0 a0.length
    have : a0.length * a0.length ≤ 30 * 30 := Nat.mul_le_mul hn hn
    have hl : Iter (G.graftlaw12_ConflictGraphs_l1 ((a0.length : Int), es, out, inn) ((a0.length : Int), (prs a0 a0.length).map eref)) 0 = some (.inl ()) := by
      refine Iter_count (f := G.graftlaw12_ConflictGraphs_l1 ((a0.length : Int), es, out, inn) ((a0.length : Int), (prs a0 a0.length).map eref)) ((prs a0 a0.length).map eref).length (fun k => (k : Int)) _ (fun k hk => ?_) ?_ rfl
      · unfold G.graftlaw12_ConflictGraphs_l1 G.digraph_Graph_Has
        simp only
        rw [if_pos (by omega), idx_of hk]
        simp only [Option.bind_some]
        have hm : eprg ((prs a0 a0.length)[k]'(by simpa using hk)) ∈ L := (h3 _).2 ⟨_, List.getElem_mem _, rfl⟩
        have := h2.has.2 hm
        rw [if_neg (by
          simp only [List.getElem_map]
          unfold eprg at this
          unfold eref
          rw [this]; simp), inc64 hk (by rw [List.length_map]; omega)]
      · unfold G.graftlaw12_ConflictGraphs_l1
        simp only
        rw [if_neg (by omega)]
    rw [hl, alive12]
    rfl
end G
end Go.Proofs.Ythhmandpjlggcaa
