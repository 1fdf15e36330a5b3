/- Part of what the laws need: plain words, the walker and its laws, the program's functions. -/
import Derived.Test.YthhmandpjlggcaaZPC5
import Derived.Test.YthhmandpjlggcaaZPQO
namespace Go.Proofs.Ythhmandpjlggcaa
open G
namespace G
def plc : List Int → Int → Nat
  | [], _ => 0
  | y :: o, x => if y = x then 0 else plc o x + 1
theorem plc_none : ∀ {o : List Int} {x : Int}, x ∉ o → plc o x = o.length
  | [], _, _ => rfl
  | y :: o, x, h => by
    unfold plc
    rw [if_neg (fun e => h (by rw [e]; exact List.mem_cons_self)), plc_none fun hm => h (List.mem_cons_of_mem _ hm)]; rfl
theorem plc_get : ∀ {o : List Int} {x : Int} {k : Nat} (hk : k < o.length), o[k] = x → x ∉ o.take k → plc o x = k
  | y :: o, x, 0, hk, h, _ => by unfold plc; rw [if_pos (show y = x from h)]
  | y :: o, x, k + 1, hk, h, hn => by
    unfold plc
    rw [if_neg (fun e => hn (by rw [e]; simp)), plc_get (k := k) (by simpa using hk) (by simpa using h) (fun hm => hn (by rw [List.take_succ_cons]; exact List.mem_cons_of_mem _ hm))]
theorem place_of (o : List Int) (x : Int) (hn : o.length ≤ 1000) : G.graftref12_place o x = some (plc o x : Int) := by
  unfold G.graftref12_place
  obtain ⟨r, e, h⟩ := Iter_total (f := G.graftref12_place_l1 o x)
    (fun m s => ∃ k : Nat, s = (k : Int) ∧ m = o.length - k ∧ k ≤ o.length ∧ x ∉ o.take k)
    (fun r => r = (plc o x : Int)) (by
      rintro m s ⟨k, rfl, rfl, hk, h⟩
      unfold G.graftref12_place_l1
      by_cases hlt : k < o.length
      · rw [if_pos (by omega), idx_of hlt]
        simp only [Option.bind_some]
        by_cases e : o[k] = x
        · rw [if_pos e]
          exact .inr ⟨_, rfl, by rw [plc_get hlt e h]⟩
        · rw [if_neg e, inc64 hlt (by omega)]
          refine .inl ⟨o.length - (k + 1), _, rfl, by omega, k + 1, rfl, rfl, by omega, fun hm => ?_⟩
          rw [List.take_succ_eq_append_getElem hlt] at hm
          rcases List.mem_append.1 hm with hm | hm
          · exact h hm
          · exact e (List.mem_singleton.1 hm).symm
      · have : k = o.length := by omega
        subst this
        rw [if_neg (by omega)]
        rw [List.take_length] at h
        exact .inr ⟨_, rfl, by rw [plc_none h]⟩) _ (0 : Int) ⟨0, rfl, rfl, Nat.zero_le _, by simp⟩
  rw [e, h]
theorem places_of (o : List Int) (hn : o.length ≤ 1000) : ∃ m, G.slices_Backward_int_int_1_conflict_Violations o [] = some m ∧ ∀ x, G.conflict_Violations_1 x o m = some (plc o x : Int) := by
  unfold G.slices_Backward_int_int_1_conflict_Violations
  rw [w64 (by omega) (by omega)]
  obtain ⟨m, e, h⟩ := Iter_total (f := G.slices_Backward_int_int_1_conflict_Violations_l1 o)
    (fun n s => ∃ (k : Nat) (m : List (Int × Int)), s = ((k : Int) - 1, m) ∧ n = k ∧ k ≤ o.length ∧ ∀ x, mget intEq m x = if x ∈ o.drop k then some ((k + plc (o.drop k) x : Nat) : Int) else none)
    (fun m => ∀ x, mget intEq m x = if x ∈ o then some (plc o x : Int) else none) (by
      rintro n s ⟨k, m, rfl, rfl, hk, h⟩
      unfold G.slices_Backward_int_int_1_conflict_Violations_l1
      simp only
      cases n with
      | zero =>
        rw [if_neg (by omega)]
        refine .inr ⟨_, rfl, fun x => ?_⟩
        rw [h]; simp
      | succ k =>
        have hk' : k < o.length := by omega
        rw [if_pos (by omega), show ((k + 1 : Nat) : Int) - 1 = (k : Int) by omega, idx_of hk']
        simp only [Option.bind_some, G.conflict_Violations_b1]
        rw [w64 (by omega) (by omega)]
        refine .inl ⟨k, _, rfl, by omega, k, _, rfl, rfl, by omega, fun x => ?_⟩
        rw [mget_put eqb_int, h, List.drop_eq_getElem_cons hk']
        by_cases hx : intEq x o[k] = true
        · obtain rfl := (eqb_int _ _).1 hx
          rw [if_pos hx, if_pos List.mem_cons_self]
          unfold plc
          rw [if_pos rfl]; rfl
        · have hne : x ≠ o[k] := fun e => hx (by rw [← e]; exact eqb_int.refl _)
          rw [if_neg hx]
          by_cases hm : x ∈ o.drop (k + 1)
          · rw [if_pos hm, if_pos (List.mem_cons_of_mem _ hm)]
            simp only [plc]
            rw [if_neg (Ne.symm hne)]
            congr 1; omega
          · rw [if_neg hm, if_neg (by rw [List.mem_cons]; exact fun h => h.elim hne hm)]) o.length ((o.length : Int) - 1, []) ⟨o.length, [], rfl, rfl, Nat.le_refl _, fun x => by simp [mget]⟩
  refine ⟨m, e, fun x => ?_⟩
  unfold G.conflict_Violations_1
  rw [h]
  by_cases hx : x ∈ o
  · rw [if_pos hx]; rfl
  · rw [if_neg hx, plc_none hx]; rfl
theorem Collect_of (v : List Int) (hn : v.length ≤ 10000) : G.slices_Collect_int_slices_Values_int_int_1 v = some v := by
  unfold G.slices_Collect_int_slices_Values_int_int_1 G.slices_AppendSeq_int_int_nil0_slices_Values_int_int_1 G.slices_Values_int_int_1_slices_AppendSeq_int_int
  have h1 : Iter (G.slices_Values_int_int_1_slices_AppendSeq_int_int_l1 v) (0, []) = some v := by
    refine Iter_count (f := G.slices_Values_int_int_1_slices_AppendSeq_int_int_l1 v) v.length (fun k => ((k : Int), v.take k)) _ (fun k hk => ?_) ?_ (by simp)
    · unfold G.slices_Values_int_int_1_slices_AppendSeq_int_int_l1 G.slices_AppendSeq_int_int_b1
      rw [if_pos (by simp only; omega), idx_of hk]
      simp only [Option.bind_some]
      rw [app_of (by simp; omega), inc64 hk (by omega), List.take_succ_eq_append_getElem hk]
      rfl
    · unfold G.slices_Values_int_int_1_slices_AppendSeq_int_int_l1
      rw [if_neg (by simp), List.take_length]
  rw [h1]; rfl
theorem sorted_eq {a b : List Int} (h : a.Perm b) (ha : a.Pairwise (· ≤ ·)) (hb : b.Pairwise (· ≤ ·)) : a = b :=
  List.Perm.eq_of_pairwise (le := (· ≤ ·)) (fun x y _ _ h1 h2 => Int.le_antisymm h1 h2) ha hb h
theorem Out_raw (L : List G.digraph_Edge) {es : List (G.digraph_Edge × Bool)} {out inn : List (Int × List Int)} (hG : GR L es out inn) (v n : Int) {w : List Int} (hw : ((L.filter fun e => intEq e.from_ v).map (·.to)).Perm w) (hs : w.Pairwise (· ≤ ·)) (hn : w.length < 50) : G.digraph_Graph_Out v n es out inn = some w := by
  unfold G.digraph_Graph_Out G.slices_Values_int_int
  rw [hG.out]
  simp only [Option.bind_some]
  have hl := hw.length_eq
  unfold G.slices_Sorted_int_slices_Values_int_int_1
  rw [Collect_of _ (by omega)]
  simp only [Option.bind_some]
  obtain ⟨r, e, h1, h2⟩ := QO.Sort_of ((L.filter fun e => intEq e.from_ v).map (·.to)) (by omega)
  rw [e]
  simp only [Option.bind_some]
  rw [sorted_eq (h1.trans hw) h2 hs]
section
variable {l : List G.Command}
def nbi (l : List G.Command) (i : Nat) : List Int := (nb l i).map fun j : Nat => (j : Int)
theorem nbi_sorted (l : List G.Command) (i : Nat) : (nbi l i).Pairwise (· ≤ ·) := by
  unfold nbi nb
  rw [List.pairwise_map]
  refine List.Pairwise.imp (R := fun a b : Nat => a < b) (fun h => by omega) (List.Pairwise.filter _ List.pairwise_lt_range)
theorem nbi_nodup (l : List G.Command) (i : Nat) : (nbi l i).Nodup := by
  unfold nbi nb
  exact nodup_map (fun a b e => by omega) (List.Pairwise.filter _ List.nodup_range)
theorem out_perm {L : List G.digraph_Edge} (hn : L.Nodup) (h3 : ∀ e, e ∈ L ↔ ∃ p ∈ prs l l.length, e = eprg p) {i : Nat} (hi : i < l.length) : ((L.filter fun e => intEq e.from_ (i : Int)).map (·.to)).Perm (nbi l i) := by
  refine (List.perm_ext_iff_of_nodup ?_ (nbi_nodup l i)).2 fun x => ?_
  · rw [List.nodup_iff_pairwise_ne, List.pairwise_map]
    refine List.Pairwise.imp_of_mem (R := fun a b => a ≠ b) (fun {a b} ha hb hne e => hne ?_) (List.Pairwise.filter _ hn)
    have e1 := (eqb_int _ _).1 (List.mem_filter.1 ha).2
    have e2 := (eqb_int _ _).1 (List.mem_filter.1 hb).2
    cases a; cases b
    simp only at e e1 e2
    subst e e1 e2; rfl
  · unfold nbi
    rw [List.mem_map, List.mem_map]
    constructor
    · rintro ⟨e, he, rfl⟩
      obtain ⟨h1, h2⟩ := List.mem_filter.1 he
      obtain ⟨p, hp, rfl⟩ := (h3 _).1 h1
      have h2 := (eqb_int _ _).1 h2
      unfold eprg at h2 ⊢
      simp only at h2
      have h2 : p.1 = i := by omega
      exact ⟨p.2, by rw [← h2]; exact (mem_prs.1 hp).2, rfl⟩
    · rintro ⟨j, hj, rfl⟩
      exact ⟨eprg (i, j), List.mem_filter.2 ⟨(h3 _).2 ⟨(i, j), mem_prs.2 ⟨hi, hj⟩, rfl⟩, eqb_int.refl _⟩, rfl⟩
theorem Out_of {L : List G.digraph_Edge} {es : List (G.digraph_Edge × Bool)} {out inn : List (Int × List Int)} (h : Rt l) (hG : GR L es out inn) (h3 : ∀ e, e ∈ L ↔ ∃ p ∈ prs l l.length, e = eprg p) {i : Nat} (hi : i < l.length) (n : Int) : G.digraph_Graph_Out (i : Int) n es out inn = some (nbi l i) := by
  have hn := h.len
  have := nb_len l i
  exact Out_raw L hG _ _ (out_perm hG.nd h3 hi) (nbi_sorted l i) (by unfold nbi; rw [List.length_map]; omega)
def vio (o : List Int) (ps : List (Nat × Nat)) : List (Nat × Nat) := ps.filter fun p => decide (plc o p.2 < plc o p.1)
theorem vio_append (o : List Int) (a b : List (Nat × Nat)) : vio o (a ++ b) = vio o a ++ vio o b := List.filter_append _ _
theorem vio_len (o : List Int) (a : List (Nat × Nat)) : (vio o a).length ≤ a.length := List.length_filter_le _ _
theorem take_prs {ps : List (Nat × Nat)} {k : Nat} (hk : k < ps.length) (o : List Int) : vio o (ps.take (k + 1)) = vio o (ps.take k) ++ (if plc o ps[k].2 < plc o ps[k].1 then [ps[k]] else []) := by
  rw [List.take_succ_eq_append_getElem hk, vio_append]
  congr 1
  unfold vio
  rw [List.filter_cons]
  by_cases h : plc o ps[k].2 < plc o ps[k].1
  · simp [h]
  · simp [h]
theorem Viol_in {o : List Int} {m : List (Int × Int)} (hm : ∀ x, G.conflict_Violations_1 x o m = some (plc o x : Int)) {i : Nat} (l0 : List Nat) (hl0 : l0.length ≤ 50) (V : List G.digraph_Edge) (hV : V.length ≤ 2000) (hi : i ≤ 1000) :
    Iter (G.conflict_Violations_l2 o m (V, (i : Int)) (l0.map fun j : Nat => (j : Int))) (V, 0) = some (.inl (V ++ (vio o (l0.map fun j => (i, j))).map eprg, ((i + 1 : Nat) : Int))) := by
  refine Iter_count (f := G.conflict_Violations_l2 o m (V, (i : Int)) (l0.map fun j : Nat => (j : Int))) l0.length (fun k => (V ++ (vio o ((l0.map fun j => (i, j)).take k)).map eprg, (k : Int))) _ (fun k hk => ?_) ?_ (by simp [vio])
  · unfold G.conflict_Violations_l2
    simp only
    rw [if_pos (by simp; omega), idx_of (k := k) (by simpa using hk)]
    simp only [Option.bind_some, List.getElem_map, hm]
    have hk2 : k < (l0.map fun j => (i, j)).length := by simpa using hk
    rw [take_prs hk2]
    simp only [List.getElem_map]
    have h1 := vio_len o ((l0.map fun j => (i, j)).take k)
    rw [List.length_take, List.length_map] at h1
    by_cases hlt : plc o (l0[k] : Int) < plc o (i : Int)
    · rw [if_pos (by omega), if_pos hlt, app_of (by simp; omega), inc64 hk (by omega)]
      simp [eprg]
    · rw [if_neg (by omega), if_neg hlt, inc64 hk (by omega)]
      simp
  · unfold G.conflict_Violations_l2
    simp only
    rw [if_neg (by simp), w64 (by omega) (by omega), List.take_of_length_le (by simp)]
    congr 2
theorem Viol_of (h : Rt l) (o : List Int) (ho : o.length ≤ 1000) : G.conflict_Violations l o = some ((vio o (prs l l.length)).map eprg) := by
  have hn := h.len
  obtain ⟨es, out, inn, L, h1, h2, _, h3⟩ := Graph_prog h
  obtain ⟨m, hm1, hm2⟩ := places_of o ho
  unfold G.conflict_Violations G.slices_Backward_int_int
  simp only [Option.bind_some, hm1, h1]
  refine Iter_count (f := G.conflict_Violations_l1 l o m ((l.length : Int), es, out, inn)) l.length (fun k => ((vio o (prs l k)).map eprg, (k : Int))) _ (fun k hk => ?_) ?_ (by simp [prs, vio])
  · unfold G.conflict_Violations_l1
    simp only
    rw [if_pos (by omega), Out_of h h2 h3 hk]
    simp only [Option.bind_some]
    have hp := prs_len l k
    have hv := vio_len o (prs l k)
    have hb := nb_len l k
    have : k * l.length ≤ 30 * 30 := Nat.mul_le_mul (by omega) (by omega)
    unfold nbi
    rw [Viol_in hm2 (nb l k) (by omega) _ (by rw [List.length_map]; omega) (by omega), prs_succ, vio_append, List.map_append]
  · unfold G.conflict_Violations_l1
    rw [if_neg (by simp)]
theorem RefViol_of (h : Rt l) (o : List Int) (ho : o.length ≤ 1000) : G.graftref12_Violations l o = some ((vio o (prs l l.length)).map eref) := by
  have hn := h.len
  unfold G.graftref12_Violations
  rw [refGraph_of h]
  simp only [Option.bind_some]
  have hp := prs_len l l.length
  have : l.length * l.length ≤ 30 * 30 := Nat.mul_le_mul (by omega) (by omega)
  generalize prs l l.length = ps at hp
  refine Iter_count (f := G.graftref12_Violations_l1 o ((l.length : Int), ps.map eref)) ps.length (fun k => ((vio o (ps.take k)).map eref, (k : Int))) _ (fun k hk => ?_) ?_ (by simp [vio])
  · unfold G.graftref12_Violations_l1
    simp only
    rw [if_pos (by simp; omega), idx_of (k := k) (by simpa using hk)]
    simp only [Option.bind_some, List.getElem_map, place_of o _ ho]
    rw [take_prs hk]
    have h1 := vio_len o (ps.take k)
    rw [List.length_take] at h1
    unfold eref
    simp only
    by_cases hlt : plc o (ps[k].2 : Int) < plc o (ps[k].1 : Int)
    · rw [if_pos (by omega), if_pos hlt, app_of (by simp; omega), inc64 hk (by omega)]
      simp
    · rw [if_neg (by omega), if_neg hlt, inc64 hk (by omega)]
      simp
  · unfold G.graftref12_Violations_l1
    simp only
    rw [if_neg (by simp), List.take_length]
theorem edges_of (ps : List (Nat × Nat)) (hn : ps.length ≤ 1000) : G.graftlaw12_edges (ps.map eref) = some (ps.map eprg) := by
  unfold G.graftlaw12_edges
  refine Iter_count (f := G.graftlaw12_edges_l1 (ps.map eref)) ps.length (fun k => ((ps.take k).map eprg, (k : Int))) _ (fun k hk => ?_) ?_ (by simp)
  · unfold G.graftlaw12_edges_l1
    simp only
    rw [if_pos (by simp; omega), idx_of (k := k) (by simpa using hk)]
    simp only [Option.bind_some, List.getElem_map]
    rw [app_of (by simp; omega), inc64 hk (by omega), List.take_succ_eq_append_getElem hk, List.map_append]
    rfl
  · unfold G.graftlaw12_edges_l1
    simp only
    rw [if_neg (by simp), List.take_length]
theorem EqualE_of (a : List G.digraph_Edge) (hn : a.length ≤ 1000) : G.slices_Equal_digraph_Edge_digraph_Edge a a = some true := by
  unfold G.slices_Equal_digraph_Edge_digraph_Edge
  rw [if_neg (by simp)]
  refine Iter_count (f := G.slices_Equal_digraph_Edge_digraph_Edge_l1 a a) a.length (fun k => (k : Int)) _ (fun k hk => ?_) ?_ rfl
  · unfold G.slices_Equal_digraph_Edge_digraph_Edge_l1
    rw [if_pos (by omega), idx_of hk]
    simp only [Option.bind_some]
    rw [if_neg (by simp), inc64 hk (by omega)]
  · unfold G.slices_Equal_digraph_Edge_digraph_Edge_l1
    rw [if_neg (by omega)]
end
theorem graftlaw12_ConflictViolations_true (a0 : List G.Command) (a1 : List Int) (h0 : Len a0 ∧ ∀ y ∈ a0, G.Command.Ok y) (h1 : Len a1 ∧ ∀ y ∈ a1, I64 y) : G.graftlaw12_ConflictViolations a0 a1 = some true := by
  unfold G.graftlaw12_ConflictViolations
  obtain ⟨b, hb, hR⟩ := Right_of a0 h0.1
  rw [hb, alive12]
  simp only [Option.bind_some]
  cases b with
  | false => rfl
  | true =>
    rw [if_neg (by simp)]
    simp only [Option.bind_some]
    have h := hR rfl
    have hn := h.len
    by_cases ho : (a1.length : Int) > 60
    · rw [if_pos (by simpa using ho)]
    · rw [if_neg (by simpa using ho), if_pos trivial, Viol_of h a1 (by omega), RefViol_of h a1 (by omega)]
      simp only [Option.bind_some]
      have hp := prs_len a0 a0.length
      have hv := vio_len a1 (prs a0 a0.length)
      have : a0.length * a0.length ≤ 30 * 30 := Nat.mul_le_mul (by omega) (by omega)
      rw [edges_of _ (by omega)]
      simp only [Option.bind_some]
      rw [EqualE_of _ (by rw [List.length_map]; omega)]
      rfl
end G
end Go.Proofs.Ythhmandpjlggcaa
