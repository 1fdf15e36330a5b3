/- Part of what the laws need: plain words, the walker and its laws, the program's functions. -/
import Derived.Test.YthhmandpjlggcaaZEG
import Derived.Test.YthhmandpjlggcaaZPMap
import Derived.Test.YthhmandpjlggcaaZPBase
namespace Go.Proofs.Ythhmandpjlggcaa
open G
theorem eqb_edge : EqB eqk_G_digraph_Edge := fun x y => by
  unfold eqk_G_digraph_Edge
  cases x; cases y
  simp [intEq]
structure GR (L : List G.digraph_Edge) (es : List (G.digraph_Edge × Bool)) (out inn : List (Int × List Int)) : Prop where
  es : es = L.map fun e => (e, true)
  out : ∀ v, (mget intEq out v).getD [] = (L.filter fun e => intEq e.from_ v).map (·.to)
  inn : ∀ v, (mget intEq inn v).getD [] = (L.filter fun e => intEq e.to v).map (·.from_)
  nd : L.Nodup
theorem GR.nil : GR [] [] [] [] := ⟨rfl, fun _ => rfl, fun _ => rfl, List.nodup_nil⟩
section
variable {L : List G.digraph_Edge} {es : List (G.digraph_Edge × Bool)} {out inn : List (Int × List Int)} {n : Int} {e : G.digraph_Edge}
theorem GR.no (h : GR L es out inn) (hn : e ∉ L) : mget eqk_G_digraph_Edge es e = none := by
  rw [mget_none, h.es, List.any_map, List.any_eq_false]
  intro x hx hq
  exact hn (by rw [(eqb_edge _ _).1 hq]; exact hx)
theorem GR.yes (h : GR L es out inn) (hn : e ∈ L) : mget eqk_G_digraph_Edge es e = some true := by
  cases hm : mget eqk_G_digraph_Edge es e with
  | none =>
    rw [mget_none, h.es, List.any_map, List.any_eq_false] at hm
    exact absurd (eqb_edge.refl e) (hm e hn)
  | some v =>
    have := mget_some eqb_edge hm
    rw [h.es] at this
    obtain ⟨x, _, hx⟩ := List.mem_map.1 this
    cases hx; rfl
theorem GR.has (h : GR L es out inn) : (mget eqk_G_digraph_Edge es e).getD false = true ↔ e ∈ L := by
  by_cases hm : e ∈ L
  · rw [h.yes hm]; simp [hm]
  · rw [h.no hm]; simp [hm]
theorem GR.len (h : GR L es out inn) : es.length = L.length := by rw [h.es]; simp
theorem GR.add (h : GR L es out inn) (hn : e ∉ L) : GR (L ++ [e]) (mput eqk_G_digraph_Edge es e true) (mput intEq out e.from_ ((mget intEq out e.from_).getD [] ++ [e.to])) (mput intEq inn e.to ((mget intEq inn e.to).getD [] ++ [e.from_])) := by
  refine ⟨?_, fun v => ?_, fun v => ?_, ?_⟩
  · rw [mput_new (h.no hn), h.es, List.map_append]; rfl
  · rw [mget_put eqb_int, List.filter_append, List.map_append]
    by_cases hv : intEq v e.from_ = true
    · obtain rfl := (eqb_int _ _).1 hv
      rw [if_pos hv, h.out]
      simp [List.filter_cons, eqb_int.refl]
    · have hv' : intEq e.from_ v = false := eqb_int.ne fun e1 => hv (by rw [e1]; exact eqb_int.refl _)
      rw [if_neg hv, h.out]
      simp [List.filter_cons, hv']
  · rw [mget_put eqb_int, List.filter_append, List.map_append]
    by_cases hv : intEq v e.to = true
    · obtain rfl := (eqb_int _ _).1 hv
      rw [if_pos hv, h.inn]
      simp [List.filter_cons, eqb_int.refl]
    · have hv' : intEq e.to v = false := eqb_int.ne fun e1 => hv (by rw [e1]; exact eqb_int.refl _)
      rw [if_neg hv, h.inn]
      simp [List.filter_cons, hv']
  · rw [List.nodup_append]
    exact ⟨h.nd, by simp, fun a ha b hb => by simp at hb; subst hb; exact fun e1 => hn (by rw [← e1]; exact ha)⟩
theorem Add_of (h : GR L es out inn) {i j : Int} (hi : 0 ≤ i) (hi' : i < n) (hj : 0 ≤ j) (hj' : j < n) (hl : L.length ≤ 10000) :
    ∃ k es' out' inn' L', G.digraph_Graph_Add [⟨i, j⟩] n es out inn = some (k, es', out', inn') ∧ GR L' es' out' inn' ∧ ((i = j ∨ (⟨i, j⟩ : G.digraph_Edge) ∈ L) ∧ L' = L ∨ ¬ (i = j ∨ (⟨i, j⟩ : G.digraph_Edge) ∈ L) ∧ L' = L ++ [⟨i, j⟩]) := by
  have hlo : ∀ v, ((mget intEq out v).getD []).length ≤ 10000 := fun v => by rw [h.out, List.length_map]; exact Nat.le_trans (List.length_filter_le _ _) hl
  have hli : ∀ v, ((mget intEq inn v).getD []).length ≤ 10000 := fun v => by rw [h.inn, List.length_map]; exact Nat.le_trans (List.length_filter_le _ _) hl
  have hv : ∀ x : Int, 0 ≤ x → x < n → G.digraph_Graph_vertex x n es out inn = some true := fun x h1 h2 => by
    unfold G.digraph_Graph_vertex G.digraph_Graph_Len
    rw [if_pos h1]
    simp [h2]
  have hx : idx [(⟨i, j⟩ : G.digraph_Edge)] 0 = some ⟨i, j⟩ := rfl
  have hend : ∀ c es' out' inn', G.digraph_Graph_Add_l1 [⟨i, j⟩] n (c, 1, es', out', inn') = some (.inr (c, es', out', inn')) := fun c es' out' inn' => by
    unfold G.digraph_Graph_Add_l1
    rw [if_neg (by simp)]
  have w1 : IntKind.i64.wrap ((0 : Int) + 1) = 1 := by decide
  unfold G.digraph_Graph_Add
  by_cases hc : i = j ∨ (⟨i, j⟩ : G.digraph_Edge) ∈ L
  · refine ⟨0, es, out, inn, L, ?_, h, .inl ⟨hc, rfl⟩⟩
    have h1 : G.digraph_Graph_Add_l1 [⟨i, j⟩] n (0, 0, es, out, inn) = some (.inl (0, 1, es, out, inn)) := by
      unfold G.digraph_Graph_Add_l1
      rw [if_pos (by simp)]
      simp only [hx, Option.bind_some, hv i hi hi', hv j hj hj', w1]
      rcases hc with rfl | hc
      · simp
      · have := h.yes hc
        by_cases hij : i = j
        · simp [hij]
        · simp [hij, this]
    rw [Iter_inl h1, Iter_inr (hend _ _ _ _)]
  · refine ⟨1, _, _, _, _, ?_, h.add (e := ⟨i, j⟩) (fun hm => hc (.inr hm)), .inr ⟨hc, rfl⟩⟩
    have hij : i ≠ j := fun e => hc (.inl e)
    have hno := h.no (e := ⟨i, j⟩) fun hm => hc (.inr hm)
    have a1 : app 8 ((mget intEq out i).getD []) [j] = some ((mget intEq out i).getD [] ++ [j]) := app_of (by have := hlo i; simp; omega)
    have a2 : app 8 ((mget intEq inn j).getD []) [i] = some ((mget intEq inn j).getD [] ++ [i]) := app_of (by have := hli j; simp; omega)
    have c1 : ∀ x : Int, chk (intEq x x = true) = some () := fun x => by unfold chk; rw [if_pos (eqb_int.refl x)]
    have h1 : G.digraph_Graph_Add_l1 [⟨i, j⟩] n (0, 0, es, out, inn) = some (.inl (1, 1, mput eqk_G_digraph_Edge es ⟨i, j⟩ true, mput intEq out i ((mget intEq out i).getD [] ++ [j]), mput intEq inn j ((mget intEq inn j).getD [] ++ [i]))) := by
      unfold G.digraph_Graph_Add_l1
      rw [if_pos (by simp)]
      simp only [hx, Option.bind_some, hv i hi hi', hv j hj hj', w1]
      simp [hij, hno, a1, a2, c1]
    rw [Iter_inl h1, Iter_inr (hend _ _ _ _)]
end
end Go.Proofs.Ythhmandpjlggcaa
