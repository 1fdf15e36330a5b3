/- Part of what the laws need: plain words, the walker and its laws, the program's functions. -/
import Derived.Test.YthhmandpjlggcaaZPC2
namespace Go.Proofs.Ythhmandpjlggcaa
open G
namespace G
section
variable {l : List G.Command}
theorem graph_row {L : List G.digraph_Edge} {es : List (G.digraph_Edge × Bool)} {out inn : List (Int × List Int)} {n i : Int} {e1 : List (G.digraph_Edge × Bool)} {o1 n1 : List (Int × List Int)} {e2 : List (G.digraph_Edge × Bool)} {o2 n2 : List (Int × List Int)} (hG : GR L es out inn) {J : List Int} (hJ : ∀ j ∈ J, 0 ≤ j ∧ j < n) (hJl : J.length ≤ 50) (hL : L.length ≤ 2000) (hi : 0 ≤ i) (hi' : i < n) (hn : n ≤ 1000) :
    ∃ es' out' inn' L', Iter (G.conflict_Graph_l4 (n, e1, o1, n1) (i, e2, o2, n2) J) (0, es, out, inn) = some (.inl (i + 1, es', out', inn')) ∧ GR L' es' out' inn' ∧ L'.length ≤ L.length + J.length ∧ ∀ e, e ∈ L' ↔ e ∈ L ∨ ∃ j ∈ J, i ≠ j ∧ e = ⟨i, j⟩ := by
  obtain ⟨r, e, es', out', inn', L', rfl, h1, h2, h3⟩ := Iter_total (f := G.conflict_Graph_l4 (n, e1, o1, n1) (i, e2, o2, n2) J)
    (fun m s => ∃ (k : Nat) (es' : List (G.digraph_Edge × Bool)) (out' inn' : List (Int × List Int)) (L' : List G.digraph_Edge), s = ((k : Int), es', out', inn') ∧ m = J.length - k ∧ k ≤ J.length ∧ GR L' es' out' inn' ∧ L'.length ≤ L.length + k ∧ ∀ e, e ∈ L' ↔ e ∈ L ∨ ∃ j ∈ J.take k, i ≠ j ∧ e = ⟨i, j⟩)
    (fun r => ∃ (es' : List (G.digraph_Edge × Bool)) (out' inn' : List (Int × List Int)) (L' : List G.digraph_Edge), r = .inl (i + 1, es', out', inn') ∧ GR L' es' out' inn' ∧ L'.length ≤ L.length + J.length ∧ ∀ e, e ∈ L' ↔ e ∈ L ∨ ∃ j ∈ J, i ≠ j ∧ e = ⟨i, j⟩) (by
      rintro m s ⟨k, es', out', inn', L', rfl, rfl, hk, h1, h2, h3⟩
      unfold G.conflict_Graph_l4
      simp only
      by_cases hlt : k < J.length
      · rw [if_pos (by omega), idx_of hlt]
        simp only [Option.bind_some]
        obtain ⟨j0, j1⟩ := hJ J[k] (List.getElem_mem hlt)
        obtain ⟨c, es2, out2, inn2, L2, q1, q2, q3⟩ := Add_of h1 hi hi' j0 j1 (by omega)
        rw [q1]
        simp only [Option.bind_some]
        rw [inc64 hlt (by omega)]
        refine .inl ⟨J.length - (k + 1), _, rfl, by omega, k + 1, es2, out2, inn2, L2, rfl, rfl, by omega, q2, ?_, fun e => ?_⟩
        · rcases q3 with ⟨_, rfl⟩ | ⟨_, rfl⟩
          · omega
          · simp; omega
        · rw [List.take_succ_eq_append_getElem hlt]
          rcases q3 with ⟨q3, rfl⟩ | ⟨q3, rfl⟩
          · rw [h3]
            constructor
            · rintro (h | ⟨j, hj, hne, he⟩)
              · exact .inl h
              · exact .inr ⟨j, List.mem_append_left _ hj, hne, he⟩
            · rintro (h | ⟨j, hj, hne, he⟩)
              · exact .inl h
              · rcases List.mem_append.1 hj with hj | hj
                · exact .inr ⟨j, hj, hne, he⟩
                · rw [List.mem_singleton] at hj
                  subst hj
                  rcases q3 with q3 | q3
                  · exact absurd q3 hne
                  · rw [he]; exact (h3 _).1 q3
          · rw [List.mem_append, h3, List.mem_singleton]
            constructor
            · rintro ((h | ⟨j, hj, hne, he⟩) | h)
              · exact .inl h
              · exact .inr ⟨j, List.mem_append_left _ hj, hne, he⟩
              · exact .inr ⟨J[k], List.mem_append_right _ (by simp), fun e => q3 (.inl e), h⟩
            · rintro (h | ⟨j, hj, hne, he⟩)
              · exact .inl (.inl h)
              · rcases List.mem_append.1 hj with hj | hj
                · exact .inl (.inr ⟨j, hj, hne, he⟩)
                · rw [List.mem_singleton] at hj
                  subst hj
                  exact .inr he
      · have : k = J.length := by omega
        subst this
        rw [if_neg (by omega), w64 (x := i + 1) (by omega) (by omega)]
        rw [List.take_length] at h3
        exact .inr ⟨_, rfl, es', out', inn', L', rfl, h1, h2, h3⟩) _ ((0 : Int), es, out, inn) ⟨0, es, out, inn, L, rfl, rfl, Nat.zero_le _, hG, by omega, fun e => by simp⟩
  exact ⟨es', out', inn', L', e, h1, h2, h3⟩
theorem targets_of (h : Rt l) : ∃ y, G.conflict_targets l = some (.inr y) ∧ Idx (l.map tgt) y := by
  have hn := h.len
  have h1 : Iter (G.conflict_targets_l1 l) ([], 0) = some (l.map tgt) := by
    refine Iter_count (f := G.conflict_targets_l1 l) l.length (fun k => ((l.take k).map tgt, (k : Int))) _ (fun k hk => ?_) ?_ (by simp)
    · unfold G.conflict_targets_l1
      rw [if_pos (by simp only; omega)]
      simp only [idx_of hk, Option.bind_some, Target_of]
      rw [app_of (by simp; omega), inc64 hk (by omega), List.take_succ_eq_append_getElem hk, List.map_append]
      rfl
    · unfold G.conflict_targets_l1
      rw [if_neg (by simp)]
      simp
  have ha := tgt_apart h l.length
  rw [List.take_length] at ha
  obtain ⟨y, hy, hI⟩ := New_of (B := l.map tgt) (fun e he => by obtain ⟨c, hc, rfl⟩ := List.mem_map.1 he; exact tgt_ex (h.good c hc)) (by simp; omega) ha
  refine ⟨y, ?_, hI⟩
  unfold G.conflict_targets
  rw [h1]
  simp only [Option.bind_some, hy]
theorem meet_pos (h : Rt l) {y : List G.index_entry} (hI : Idx (l.map tgt) y) {i : Nat} (hi : i < l.length) (hk : l[i].kind = 1) :
    ∃ J : List Int, G.index_Index_Meet ⟨l[i].from_, l[i].len⟩ y = some J ∧ J.length ≤ 50 ∧ ∀ j : Int, j ∈ J ↔ ∃ k : Nat, j = (k : Int) ∧ k < l.length ∧ hit (cat l i) (cat l k) = true := by
  have hn := h.len
  have hg := h.good _ (List.getElem_mem hi)
  obtain ⟨k1, k2, k3, k4, _⟩ := hg.copy hk
  have k5 := hg.len1
  rw [show tlen l[i] = l[i].len by unfold tlen; rw [if_pos hk]] at k5
  obtain ⟨M, m1, m2, _, m4⟩ := Meet_of hI (by rw [hI.len]; simp; omega) (s := ⟨l[i].from_, l[i].len⟩) ⟨k1, k5, by have e : dM.oldLen = 4611686018427387903 := rfl; rw [e] at k3; exact k3⟩
  refine ⟨_, m1, by simp; omega, fun j => ?_⟩
  rw [List.mem_map]
  constructor
  · rintro ⟨e, he, rfl⟩
    obtain ⟨e1, e2⟩ := (m4 e).1 he
    obtain ⟨k, hk', rfl⟩ := ents_mem (hI.perm.mem_iff.1 e1)
    simp only [List.length_map] at hk'
    refine ⟨k, rfl, hk', ?_⟩
    rw [cat_getElem hi, cat_getElem hk']
    simp only [List.getElem_map] at e2
    unfold xov xend tgt at e2
    unfold hit tend
    simp only [decide_eq_true_eq] at e2 ⊢
    exact ⟨hk, e2.2, e2.1⟩
  · rintro ⟨k, rfl, hk', hh⟩
    rw [cat_getElem hi, cat_getElem hk'] at hh
    refine ⟨⟨(l.map tgt)[k]'(by simpa using hk'), (k : Int)⟩, (m4 _).2 ⟨hI.perm.mem_iff.2 (mem_ents (by simpa using hk')), ?_⟩, rfl⟩
    simp only [List.getElem_map]
    unfold xov xend tgt
    unfold hit tend at hh
    simp only [decide_eq_true_eq] at hh ⊢
    exact ⟨hh.2.2, hh.2.1⟩
end
end G
end Go.Proofs.Ythhmandpjlggcaa
