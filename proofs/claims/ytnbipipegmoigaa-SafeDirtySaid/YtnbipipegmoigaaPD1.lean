/- The index of extents that do not overlap: New, after, Meet. No program in sight. -/
import Derived.Test.YtnbipipegmoigaaPQ3
namespace Go.Proofs.Ytnbipipegmoigaa
open G
namespace G
theorem midx {i j : Nat} (h : i + j ≤ 9223372036854775807) : IntKind.i64.wrap (ishr .u64 (IntKind.u64.wrap (IntKind.i64.wrap ((i : Int) + (j : Int)))) 1) = (((i + j) / 2 : Nat) : Int) := mid_of (by omega) h
theorem tw_mem {α : Type} {p : α → Bool} {x : α} : ∀ {l : List α}, x ∈ l.takeWhile p → p x = true
  | [], h => by cases h
  | a :: l, h => by
    by_cases ha : p a = true
    · rw [List.takeWhile_cons_of_pos ha] at h
      rcases List.mem_cons.1 h with rfl | h
      · exact ha
      · exact tw_mem h
    · rw [List.takeWhile_cons_of_neg ha] at h; cases h
def xend (e : G.Extent) : Int := e.off + e.len
/-- An extent of at least one byte. -/
def Ex (e : G.Extent) : Prop := 0 ≤ e.off ∧ 1 ≤ e.len ∧ e.off + e.len ≤ 4611686018427387903
def xov (a b : G.Extent) : Bool := decide (a.off < xend b ∧ b.off < xend a)
/-- What two extents share. -/
def xpart (a b : G.Extent) : G.Extent := ⟨imax a.off b.off, imin (xend a) (xend b) - imax a.off b.off⟩
theorem xpart_comm (a b : G.Extent) : xpart a b = xpart b a := by
  unfold xpart
  have e1 : imax a.off b.off = imax b.off a.off := by unfold imax; split <;> split <;> omega
  have e2 : imin (xend a) (xend b) = imin (xend b) (xend a) := by unfold imin; split <;> split <;> omega
  rw [e1, e2]
theorem xov_comm (a b : G.Extent) : xov a b = xov b a := by unfold xov; rw [decide_eq_decide]; omega
theorem OverlapX {a b : G.Extent} (ha : Ex a) (hb : Ex b) : G.extent_Overlap a b = some (if xov a b = true then (xpart a b, true) else (⟨0, 0⟩, false)) := by
  obtain ⟨a1, a2, a3⟩ := ha
  obtain ⟨b1, b2, b3⟩ := hb
  unfold G.extent_Overlap G.extent_End G.extent_between
  simp only [Option.bind_some]
  rw [w64 (x := a.off + a.len) (by omega) (by omega), w64 (x := b.off + b.len) (by omega) (by omega)]
  have hx : imin (a.off + a.len) (b.off + b.len) - imax a.off b.off ≤ 4611686018427387903 ∧ -4611686018427387903 ≤ imin (a.off + a.len) (b.off + b.len) - imax a.off b.off ∧ (imin (a.off + a.len) (b.off + b.len) - imax a.off b.off < 1 ↔ ¬ (a.off < b.off + b.len ∧ b.off < a.off + a.len)) := by
    unfold imin imax; split <;> split <;> omega
  rw [w64 (by omega) (by omega)]
  unfold xov xend
  by_cases h : a.off < b.off + b.len ∧ b.off < a.off + a.len
  · rw [if_neg (fun k => hx.2.2.1 k h), if_pos (decide_eq_true h)]; rfl
  · rw [if_pos (hx.2.2.2 h), if_neg (by simpa using h)]; rfl
/-- The entries of a list. -/
def ents (B : List G.Extent) : List G.index_entry := B.mapIdx fun k e => ⟨e, (k : Int)⟩
theorem ents_len (B : List G.Extent) : (ents B).length = B.length := by unfold ents; simp
theorem ents_get {B : List G.Extent} {k : Nat} (hk : k < B.length) (h' : k < (ents B).length) : (ents B)[k] = ⟨B[k], (k : Int)⟩ := List.getElem_mapIdx
theorem ents_take (B : List G.Extent) {k : Nat} (hk : k < B.length) : (ents B).take (k + 1) = (ents B).take k ++ [⟨B[k], (k : Int)⟩] := by
  rw [List.take_succ_eq_append_getElem (by rw [ents_len]; exact hk), ents_get hk]
theorem ents_mem {B : List G.Extent} {e : G.index_entry} (h : e ∈ ents B) : ∃ k, ∃ hk : k < B.length, e = ⟨B[k], (k : Int)⟩ := by
  obtain ⟨k, hk, rfl⟩ := List.mem_iff_getElem.1 h
  have hk' : k < B.length := by rwa [ents_len] at hk
  exact ⟨k, hk', ents_get hk' hk⟩
theorem mem_ents {B : List G.Extent} {k : Nat} (hk : k < B.length) : (⟨B[k], (k : Int)⟩ : G.index_entry) ∈ ents B := by
  exact List.mem_iff_getElem.2 ⟨k, by rw [ents_len]; exact hk, ents_get hk _⟩
theorem Valid_ex {e : G.Extent} (h : Ex e) : G.extent_Valid e = some true := by
  obtain ⟨h1, h2, h3⟩ := h
  unfold G.extent_Valid
  rw [if_pos (by unfold imin; split <;> omega), if_pos (by omega), w64 (by omega) (by omega)]
  congr 1; exact decide_eq_true (by omega)
theorem new_l1 {B : List G.Extent} (hB : ∀ e ∈ B, Ex e) (hn : B.length ≤ 1000) : Iter (G.index_New_l1 B) (0, []) = some (.inl (ents B)) := by
  refine Iter_count (f := G.index_New_l1 B) B.length (fun k => ((k : Int), (ents B).take k)) _ (fun k hk => ?_) ?_ rfl
  · have he := hB _ (List.getElem_mem hk)
    unfold G.index_New_l1
    rw [if_pos (by simp only; omega)]
    simp only [idx_of hk, Option.bind_some, Valid_ex he]
    rw [if_neg (by decide)]
    simp only [Option.bind_some]
    rw [if_neg (by have := he.2.1; simp only [beq_iff_eq]; omega), app_of (by simp [ents_len]; omega), inc64 hk (by omega), ents_take B hk]
    rfl
  · unfold G.index_New_l1
    rw [if_neg (by simp)]
    rw [List.take_of_length_le (by rw [ents_len]; exact Nat.le_refl _)]
/-- The sorted entries of a list whose extents do not overlap. -/
structure Idx (B : List G.Extent) (y : List G.index_entry) : Prop where
  perm : y.Perm (ents B)
  len : y.length = B.length
  ex : ∀ e ∈ y, Ex e.extent
  srt : y.Pairwise fun a b => xend a.extent ≤ b.extent.off
theorem New_of {B : List G.Extent} (hB : ∀ e ∈ B, Ex e) (hn : B.length < 50) (hd : ∀ i j (hi : i < B.length) (hj : j < B.length), i ≠ j → xov B[i] B[j] = false) : ∃ y, G.index_New B = some (.inr y) ∧ Idx B y := by
  unfold G.index_New
  rw [new_l1 hB (by omega)]
  simp only [Option.bind_some, joinK]
  obtain ⟨y, e, hp, hs⟩ := QI.Sort_of (ents B) (by rw [ents_len]; exact hn)
  rw [e]
  simp only [Option.bind_some]
  have hl : y.length = B.length := by rw [hp.length_eq, ents_len]
  have hex : ∀ e ∈ y, Ex e.extent := fun e he => by
    obtain ⟨k, hk, rfl⟩ := ents_mem (hp.mem_iff.1 he)
    exact hB _ (List.getElem_mem hk)
  have hnd : y.Pairwise fun a b => a.position ≠ b.position := by
    have h0 : (ents B).Pairwise fun a b => a.position ≠ b.position := by
      refine List.pairwise_iff_getElem.2 fun i j hi hj hij => ?_
      rw [ents_get (by rwa [ents_len] at hi), ents_get (by rwa [ents_len] at hj)]
      simp only; omega
    exact (hp.pairwise_iff (fun h => h.symm)).2 h0
  have hsr : y.Pairwise fun a b => xend a.extent ≤ b.extent.off := by
    refine List.pairwise_iff_getElem.2 fun i j hi hj hij => ?_
    have h1 := List.pairwise_iff_getElem.1 hs i j hi hj hij
    have h2 := List.pairwise_iff_getElem.1 hnd i j hi hj hij
    have x2 := hex _ (List.getElem_mem hj)
    obtain ⟨p, hp1, e1⟩ := ents_mem (hp.mem_iff.1 (List.getElem_mem hi))
    obtain ⟨q, hq1, e2⟩ := ents_mem (hp.mem_iff.1 (List.getElem_mem hj))
    have h3 := hd p q hp1 hq1 (fun h => h2 (by rw [e1, e2]; simp only; omega))
    rw [e1] at h1 ⊢
    rw [e2] at h1 x2 ⊢
    unfold xov at h3
    have h3 := of_decide_eq_false h3
    unfold QI.key at h1
    unfold Ex at x2
    simp only at h1 x2 ⊢
    unfold xend at h3 ⊢
    omega
  refine ⟨y, ?_, hp, hl, hex, hsr⟩
  refine Iter_count (f := G.index_New_l2 y) y.length (fun k => (k : Int)) _ (fun k hk => ?_) ?_ rfl
  · unfold G.index_New_l2
    rw [if_pos (by omega)]
    have hv : (if (k : Int) > 0 then (idx y (k : Int)).bind fun x11 => (idx y (IntKind.i64.wrap ((k : Int) - 1))).bind fun x12 => (G.extent_End x12.extent).bind fun y13 => some (decide (x11.extent.off < y13)) else some false) = some false := by
      by_cases h0 : (k : Int) > 0
      · rw [if_pos h0, idx_of hk, w64 (by omega) (by omega), idx_of' (k := k - 1) (by omega) (by omega)]
        unfold G.extent_End
        simp only [Option.bind_some]
        have x1 := hex _ (List.getElem_mem (show k - 1 < y.length by omega))
        have := List.pairwise_iff_getElem.1 hsr (k - 1) k (by omega) hk (by omega)
        unfold Ex at x1
        unfold xend at this
        rw [w64 (by omega) (by omega), decide_eq_false (by omega)]
      · rw [if_neg h0]
    rw [hv]
    simp only [Option.bind_some]
    rw [if_neg (by decide), inc64 hk (by omega)]
  · unfold G.index_New_l2
    rw [if_neg (by omega)]
section
variable {B : List G.Extent} {y : List G.index_entry}
theorem Idx.get (h : Idx B y) {i j : Nat} (hij : i < j) (hj : j < y.length) : xend y[i].extent ≤ y[j].extent.off := List.pairwise_iff_getElem.1 h.srt i j (by omega) hj hij
theorem Idx.mono (h : Idx B y) {i j : Nat} (hij : i ≤ j) (hj : j < y.length) : xend y[i].extent ≤ xend y[j].extent := by
  by_cases e : i = j
  · subst e; exact Int.le_refl _
  · have := h.get (i := i) (j := j) (by omega) hj
    have x := h.ex _ (List.getElem_mem hj)
    unfold Ex at x
    have : xend y[j].extent = y[j].extent.off + y[j].extent.len := rfl
    omega
/-- The first entry that ends after o. -/
theorem after_of (h : Idx B y) (hn : y.length < 50) (o : Int) : ∃ k : Nat, G.index_Index_after o y = some (k : Int) ∧ k ≤ y.length ∧ (∀ j (hj : j < y.length), j < k → xend y[j].extent ≤ o) ∧ ∀ j (hj : j < y.length), k ≤ j → o < xend y[j].extent := by
  unfold G.index_Index_after G.index_Index_Len G.sort_Search_index_Index_after_1x
  simp only [Option.bind_some]
  have hq : ∀ m (hm : m < y.length), G.index_Index_after_1x (m : Int) y o = some (decide (o < xend y[m].extent)) := fun m hm => by
    unfold G.index_Index_after_1x G.extent_End
    have x := h.ex _ (List.getElem_mem hm)
    unfold Ex at x
    rw [idx_of hm]
    simp only [Option.bind_some]
    rw [w64 (by omega) (by omega)]
    rfl
  obtain ⟨r, e, k, rfl, h1, h2, h3⟩ := Iter_total (f := G.sort_Search_index_Index_after_1x_l1 y o)
    (fun m s => ∃ i j : Nat, s = ((i : Int), (j : Int)) ∧ m = j - i ∧ i ≤ j ∧ j ≤ y.length ∧ (∀ p (hp : p < y.length), p < i → xend y[p].extent ≤ o) ∧ ∀ p (hp : p < y.length), j ≤ p → o < xend y[p].extent)
    (fun r => ∃ k : Nat, r = (k : Int) ∧ k ≤ y.length ∧ (∀ j (hj : j < y.length), j < k → xend y[j].extent ≤ o) ∧ ∀ j (hj : j < y.length), k ≤ j → o < xend y[j].extent) (by
      rintro m s ⟨i, j, rfl, rfl, h1, h2, h3, h4⟩
      unfold G.sort_Search_index_Index_after_1x_l1
      simp only
      by_cases hij : i < j
      · have hm : (i + j) / 2 < y.length := by omega
        rw [if_pos (by omega), midx (by omega), hq _ hm]
        simp only [Option.bind_some]
        by_cases hc : o < xend y[(i + j) / 2].extent
        · rw [decide_eq_true hc, if_neg (by decide)]
          exact .inl ⟨_, _, rfl, by omega, i, (i + j) / 2, rfl, rfl, by omega, by omega, h3, fun p hp hjp => by have := h.mono hjp hp; omega⟩
        · rw [decide_eq_false hc, if_pos rfl]
          refine .inl ⟨j - ((i + j) / 2 + 1), _, rfl, by omega, (i + j) / 2 + 1, j, ?_, rfl, by omega, by omega, fun p hp hpi => by have := h.mono (i := p) (j := (i + j) / 2) (by omega) hm; omega, h4⟩
          rw [w64 (by omega) (by omega)]; rfl
      · rw [if_neg (by omega)]
        have : i = j := by omega
        subst this
        exact .inr ⟨_, rfl, i, rfl, h2, h3, h4⟩) _ ((0 : Int), (y.length : Int)) ⟨0, y.length, rfl, rfl, Nat.zero_le _, Nat.le_refl _, fun p _ hp => by omega, fun p hp hp2 => by omega⟩
  rw [e]
  exact ⟨k, rfl, h1, h2, h3⟩
/-- Meet gives the entries that meet s, in order. -/
theorem Meet_of (h : Idx B y) (hn : y.length < 50) {s : G.Extent} (hs : Ex s) : ∃ M : List G.index_entry, G.index_Index_Meet s y = some (M.map (·.position)) ∧ M.length < 50 ∧ (M.Pairwise fun a b => xend a.extent ≤ b.extent.off) ∧ ∀ e, e ∈ M ↔ e ∈ y ∧ xov e.extent s = true := by
  obtain ⟨k, hk, k1, k2, k3⟩ := after_of h hn s.off
  refine ⟨(y.drop k).takeWhile fun e => xov e.extent s, ?_, ?_, ?_, ?_⟩
  · unfold G.index_Index_Meet G.index_Index_overlaps G.index_Index_overlaps_1_index_Index_Meetx
    simp only [Option.bind_some]
    rw [hk]
    simp only [Option.bind_some]
    rw [bind_id]
    obtain ⟨r, e, he⟩ := Iter_total (f := G.index_Index_overlaps_1_index_Index_Meetx_l1 y s)
      (fun m st => ∃ (i : Nat) (out : List Int), st = ((i : Int), out) ∧ m = y.length - i ∧ k ≤ i ∧ i ≤ y.length ∧ out.length ≤ i ∧ out ++ ((y.drop i).takeWhile fun e => xov e.extent s).map (·.position) = ((y.drop k).takeWhile fun e => xov e.extent s).map (·.position))
      (fun r => r = ((y.drop k).takeWhile fun e => xov e.extent s).map (·.position)) (by
        rintro m st ⟨i, out, rfl, rfl, i1, i2, i3, i4⟩
        unfold G.index_Index_overlaps_1_index_Index_Meetx_l1 G.index_Index_Len
        simp only [Option.bind_some]
        by_cases hi : i < y.length
        · have x := h.ex _ (List.getElem_mem hi)
          rw [if_pos (by omega), idx_of hi]
          simp only [Option.bind_some]
          rw [OverlapX x hs]
          simp only [Option.bind_some]
          rw [List.drop_eq_getElem_cons hi] at i4
          by_cases hov : xov y[i].extent s = true
          · rw [if_pos hov]
            rw [List.takeWhile_cons_of_pos (p := fun e : G.index_entry => xov e.extent s) hov, List.map_cons] at i4
            simp only [Bool.true_eq_false, if_false]
            unfold G.index_Index_Meet_b1
            rw [app_of (by simp; omega)]
            simp only [Option.bind_some, Bool.false_eq_true, if_false]
            rw [inc64 hi (by omega)]
            exact .inl ⟨y.length - (i + 1), _, rfl, by omega, i + 1, _, rfl, rfl, by omega, hi, by simp; omega, by rw [List.append_assoc]; exact i4⟩
          · rw [if_neg hov]
            rw [List.takeWhile_cons_of_neg (p := fun e : G.index_entry => xov e.extent s) hov, List.map_nil, List.append_nil] at i4
            simp only [if_true, Option.bind_some]
            exact .inr ⟨_, rfl, i4⟩
        · rw [if_neg (by omega)]
          rw [List.drop_eq_nil_of_le (by omega), List.takeWhile_nil, List.map_nil, List.append_nil] at i4
          exact .inr ⟨_, rfl, i4⟩) _ ((k : Int), []) ⟨k, [], rfl, rfl, Nat.le_refl _, k1, by simp, rfl⟩
    rw [e, he]
  · have h1 := (List.takeWhile_sublist (fun e : G.index_entry => xov e.extent s) (l := y.drop k)).length_le
    rw [List.length_drop] at h1; omega
  · exact h.srt.sublist ((List.takeWhile_sublist _).trans (List.drop_sublist _ _))
  · intro e
    constructor
    · intro he
      exact ⟨List.mem_of_mem_drop ((List.takeWhile_sublist _).mem he), tw_mem (p := fun e : G.index_entry => xov e.extent s) he⟩
    · rintro ⟨he, hov⟩
      obtain ⟨j, hj, rfl⟩ := List.mem_iff_getElem.1 he
      unfold xov at hov
      have hov := of_decide_eq_true hov
      have hkj : k ≤ j := Nat.le_of_not_lt fun hlt => by
        have := k2 j hj hlt
        omega
      have hall : ∀ (n i : Nat), i + n = j → k ≤ i → y[j] ∈ (y.drop i).takeWhile fun e => xov e.extent s := by
        intro n
        induction n with
        | zero =>
          intro i hi hki
          have : i = j := by omega
          subst this
          rw [List.drop_eq_getElem_cons hj, List.takeWhile_cons_of_pos (p := fun e : G.index_entry => xov e.extent s) (by unfold xov; exact decide_eq_true hov)]
          exact List.mem_cons_self ..
        | succ n ih =>
          intro i hi hki
          have hi2 : i < y.length := by omega
          have x := h.ex _ (List.getElem_mem hi2)
          have q1 := h.get (i := i) (j := j) (by omega) hj
          have q2 := k3 i hi2 hki
          rw [List.drop_eq_getElem_cons hi2, List.takeWhile_cons_of_pos (p := fun e : G.index_entry => xov e.extent s) (by
            unfold xov; refine decide_eq_true ⟨?_, q2⟩
            unfold Ex at x; unfold xend at q1; omega)]
          exact List.mem_cons_of_mem _ (ih (i + 1) (by omega) (by omega))
      exact hall (j - k) k (by omega) (Nat.le_refl _)
end
end G
end Go.Proofs.Ytnbipipegmoigaa
