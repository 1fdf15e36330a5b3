/- Part of what the laws need: plain words, the walker and its laws, the program's functions. -/
import Derived.Test.YthhmandpjlggcaaZPC3
namespace Go.Proofs.Ythhmandpjlggcaa
open G
namespace G
section
variable {l : List G.Command}
theorem nb_lit {i : Nat} (hi : i < l.length) (hk : l[i].kind ≠ 1) : nb l i = [] := by
  unfold nb
  rw [List.filter_eq_nil_iff]
  intro j _
  rw [cat_getElem hi]
  unfold hit
  simp [hk]
theorem Graph_prog (h : Rt l) : ∃ es out inn L, G.conflict_Graph l = some ((l.length : Int), es, out, inn) ∧ GR L es out inn ∧ L.length ≤ 50 * l.length ∧ ∀ e, e ∈ L ↔ ∃ p ∈ prs l l.length, e = eprg p := by
  have hn := h.len
  obtain ⟨y, hy, hI⟩ := targets_of h
  have hnew : G.digraph_New (l.length : Int) = some ((l.length : Int), [], [], []) := by
    unfold G.digraph_New
    rw [if_neg (by omega)]
    simp only [Option.bind_some]
    rw [if_neg (by simp; omega)]
  unfold G.conflict_Graph
  rw [hnew]
  simp only [Option.bind_some, hy]
  obtain ⟨r, e, es, out, inn, L, rfl, h1, h2, h3⟩ := Iter_total (f := G.conflict_Graph_l3 l ((l.length : Int), [], [], []) y)
    (fun m s => ∃ (i : Nat) (es : List (G.digraph_Edge × Bool)) (out inn : List (Int × List Int)) (L : List G.digraph_Edge), s = ((i : Int), es, out, inn) ∧ m = l.length - i ∧ i ≤ l.length ∧ GR L es out inn ∧ L.length ≤ 50 * i ∧ ∀ e, e ∈ L ↔ ∃ p ∈ prs l i, e = eprg p)
    (fun r => ∃ (es : List (G.digraph_Edge × Bool)) (out inn : List (Int × List Int)) (L : List G.digraph_Edge), r = ((l.length : Int), es, out, inn) ∧ GR L es out inn ∧ L.length ≤ 50 * l.length ∧ ∀ e, e ∈ L ↔ ∃ p ∈ prs l l.length, e = eprg p) (by
      rintro m s ⟨i, es, out, inn, L, rfl, rfl, hi, h1, h2, h3⟩
      unfold G.conflict_Graph_l3
      simp only
      by_cases hlt : i < l.length
      · rw [if_pos (by omega), idx_of hlt]
        simp only [Option.bind_some, src5]
        by_cases hk : l[i].kind = 1
        · rw [if_pos hk]
          simp only [if_true]
          obtain ⟨J, j1, j2, j3⟩ := meet_pos h hI hlt hk
          rw [j1]
          simp only [Option.bind_some]
          obtain ⟨es', out', inn', L', q1, q2, q3, q4⟩ := graph_row (n := (l.length : Int)) (i := (i : Int)) (e1 := []) (o1 := []) (n1 := []) (e2 := es) (o2 := out) (n2 := inn) h1 (J := J) (fun j hj => by obtain ⟨k, rfl, hk', _⟩ := (j3 j).1 hj; omega) j2 (by omega) (by omega) (by omega) (by omega)
          rw [q1]
          refine .inl ⟨l.length - (i + 1), _, rfl, by omega, i + 1, es', out', inn', L', by simp, rfl, by omega, q2, by omega, fun e => ?_⟩
          rw [q4, h3]
          constructor
          · rintro (⟨p, hp, he⟩ | ⟨j, hj, hne, he⟩)
            · exact ⟨p, by rw [prs_succ]; exact List.mem_append_left _ hp, he⟩
            · obtain ⟨k, rfl, hk', hh⟩ := (j3 j).1 hj
              refine ⟨(i, k), ?_, he⟩
              rw [prs_succ]
              exact List.mem_append_right _ (List.mem_map.2 ⟨k, mem_nb.2 ⟨hk', fun e => hne (by rw [e]), hh⟩, rfl⟩)
          · rintro ⟨p, hp, he⟩
            rw [prs_succ] at hp
            rcases List.mem_append.1 hp with hp | hp
            · exact .inl ⟨p, hp, he⟩
            · obtain ⟨k, hk2, rfl⟩ := List.mem_map.1 hp
              obtain ⟨k1, k2, k3⟩ := mem_nb.1 hk2
              exact .inr ⟨(k : Int), (j3 _).2 ⟨k, rfl, k1, k3⟩, by omega, he⟩
        · rw [if_neg hk]
          simp only [Bool.false_eq_true, if_false]
          rw [inc64 hlt (by omega)]
          refine .inl ⟨l.length - (i + 1), _, rfl, by omega, i + 1, es, out, inn, L, rfl, rfl, by omega, h1, by omega, fun e => ?_⟩
          rw [h3, prs_succ, nb_lit hlt hk]
          simp
      · have : i = l.length := by omega
        subst this
        rw [if_neg (by omega)]
        exact .inr ⟨_, rfl, es, out, inn, L, rfl, h1, h2, h3⟩) _ ((0 : Int), [], [], []) ⟨0, [], [], [], [], rfl, rfl, Nat.zero_le _, GR.nil, by simp, fun e => by simp [prs]⟩
  exact ⟨es, out, inn, L, e, h1, h2, h3⟩
theorem nodup_map {α β : Type} {f : α → β} (hf : ∀ a b, f a = f b → a = b) {l : List α} (h : l.Nodup) : (l.map f).Nodup :=
  List.pairwise_map.2 (List.Pairwise.imp (fun hne e => hne (hf _ _ e)) h)
theorem eprg_inj {p q : Nat × Nat} (h : eprg p = eprg q) : p = q := by
  unfold eprg at h
  injection h with h1 h2
  obtain ⟨a, b⟩ := p; obtain ⟨c, d⟩ := q
  simp only at h1 h2
  rw [Prod.mk.injEq]
  omega
theorem prs_nodup (l : List G.Command) : ∀ k, (prs l k).Nodup
  | 0 => by simp [prs]
  | k + 1 => by
    rw [prs_succ, List.nodup_append]
    refine ⟨prs_nodup l k, ?_, fun p hp q hq e => ?_⟩
    · unfold nb
      exact nodup_map (fun a b e => (Prod.mk.inj e).2) (List.Pairwise.filter _ List.nodup_range)
    · subst e
      obtain ⟨j, _, rfl⟩ := List.mem_map.1 hq
      have := (mem_prs.1 hp).1
      simp at this
theorem edges_perm {L : List G.digraph_Edge} (hn : L.Nodup) (h3 : ∀ e, e ∈ L ↔ ∃ p ∈ prs l l.length, e = eprg p) : List.Perm L ((prs l l.length).map eprg) := by
  refine (List.perm_ext_iff_of_nodup hn ?_).2 fun e => ?_
  · exact nodup_map (fun a b e => eprg_inj e) (prs_nodup l l.length)
  · rw [h3, List.mem_map]
    exact ⟨fun ⟨p, hp, he⟩ => ⟨p, hp, he.symm⟩, fun ⟨p, hp, he⟩ => ⟨p, hp, he.symm⟩⟩
end
end G
end Go.Proofs.Ythhmandpjlggcaa
