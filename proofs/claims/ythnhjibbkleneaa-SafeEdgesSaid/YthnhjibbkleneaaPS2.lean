/- The example of chapter 16, run; the commands done one after the other. No program in sight. -/
import Derived.Test.YthnhjibbkleneaaPS1
import Derived.KernelRfl
namespace Go.Proofs.Ythnhjibbkleneaa
open G
namespace G
/-- A loop, run for at most so many rounds. -/
def runF {σ α : Type} (f : σ → Option (σ ⊕ α)) : Nat → σ → Option α
  | 0, _ => none
  | n + 1, s => match f s with
    | none => none
    | some (.inl s') => runF f n s'
    | some (.inr a) => some a
theorem Iter_run {σ α : Type} {f : σ → Option (σ ⊕ α)} {r : α} : ∀ (n : Nat) {s : σ}, runF f n s = some r → Iter f s = some r
  | 0, s, h => by cases h
  | n + 1, s, h => by
    unfold runF at h
    split at h
    · cases h
    · rename_i s' hs; rw [Iter_inl hs]; exact Iter_run n h
    · rename_i a ha; rw [Iter_inr ha]; exact h
def sX : G.Command := ⟨1, 0, 2, 2, []⟩
def sY : G.Command := ⟨1, 2, 0, 2, []⟩
theorem ex_rt : Rt [sX, sY] := by
  refine ⟨by decide, fun c hc => ?_, fun c hc => ?_, fun i hi => ?_⟩
  · have : c = sX ∨ c = sY := by simpa using hc
    rcases this with rfl | rfl <;> exact good_dM (by decide)
  · have : c = sX ∨ c = sY := by simpa using hc
    rcases this with rfl | rfl <;> decide
  · have : i = 0 ∨ i = 1 := by have hi : i < 2 := hi; omega
    rcases this with rfl | rfl <;> decide
theorem ex_fst : IsFst [sX, sY] 1 := .inr ⟨1, by decide, by decide, fun j hj => by
  have : j = 0 := by omega
  subst this; decide, rfl⟩
theorem ex_prefix : G.safe_Prefix [sX, sY] = some 1 := by
  obtain ⟨r, h1, h2⟩ := Prefix_of ex_rt.len ex_rt.good
  rw [h1, h2.unique ex_fst]
theorem Short_of (l : List G.Command) (hL : l.length ≤ 9223372036854775807) : ∃ b, G.graftref16_Short l = some b ∧ (b = true → ∀ c ∈ l, tlen c ≤ 300) := by
  unfold G.graftref16_Short
  have hK := Iter_scan (f := G.graftref16_Short_l1 l) l (fun c => decide (tlen c > 300)) (fun k => (k : Int)) (fun _ => false) true
    (fun k h hb => by
      unfold G.graftref16_Short_l1
      rw [if_pos (by omega), idx_of h]
      simp only [Option.bind_some, Len4_of]
      rw [if_neg (of_decide_eq_false hb), inc64 h hL])
    (fun k h hb => by
      unfold G.graftref16_Short_l1
      rw [if_pos (by omega), idx_of h]
      simp only [Option.bind_some, Len4_of]
      rw [if_pos (of_decide_eq_true hb)])
    (by unfold G.graftref16_Short_l1; rw [if_neg (by omega)]) (s := 0) rfl
  rcases hK with ⟨ha, he⟩ | ⟨k, h, hb, _, he⟩
  · exact ⟨true, he, fun _ c hc => Int.not_lt.1 (of_decide_eq_false (ha c hc))⟩
  · exact ⟨false, he, fun h => by cases h⟩
theorem Check16_of {l : List G.Command} {r : Int} (h : G.safe_Prefix l = some r) : G.safe_Check l = some (if r < (l.length : Int) then ⟨16, r⟩ else ⟨0, 0⟩) := by
  unfold G.safe_Check
  rw [h]
  simp only [Option.bind_some]
  by_cases hr : r < (l.length : Int)
  · rw [if_pos hr, if_pos hr]
  · rw [if_neg hr, if_neg hr]

/-! Execute, and the reference's. -/
theorem ContainsE {t k : Int} {o n : Int} (h1 : 0 ≤ t ∧ t ≤ 4611686018427387903) (h2 : 0 ≤ k ∧ k ≤ 4611686018427387903) (h3 : 0 ≤ o ∧ o ≤ 4611686018427387903) (h4 : 0 ≤ n ∧ n ≤ 4611686018427387903) : G.extent_Contains ⟨t, k⟩ [⟨o, n⟩] = some (decide (t ≤ o ∧ o + n ≤ t + k)) := by
  have e1 : G.extent_Contains_1 ⟨o, n⟩ ⟨t, k⟩ = some (decide (¬ (t ≤ o ∧ o + n ≤ t + k))) := by
    unfold G.extent_Contains_1 G.extent_End
    simp only
    by_cases h : o < t
    · rw [if_pos h]; congr 1; symm; exact decide_eq_true (by omega)
    · rw [if_neg h]
      simp only [Option.bind_some, w64 (x := o + n) (by omega) (by omega), w64 (x := t + k) (by omega) (by omega)]
      congr 1; rw [decide_eq_decide]; omega
  unfold G.extent_Contains G.slices_ContainsFunc_api_Extent_api_Extent_extent_Contains_1 G.slices_IndexFunc_api_Extent_api_Extent_extent_Contains_1
  have e2 : Iter (G.slices_IndexFunc_api_Extent_api_Extent_extent_Contains_1_l1 [⟨o, n⟩] ⟨t, k⟩) 0 = some (if t ≤ o ∧ o + n ≤ t + k then -1 else 0) := by
    by_cases h : t ≤ o ∧ o + n ≤ t + k
    · rw [if_pos h]
      rw [Iter_inl (s' := 1) (by unfold G.slices_IndexFunc_api_Extent_api_Extent_extent_Contains_1_l1; rw [if_pos (by simp)]; simp only [idx_of' (k := 0) (show (0 : Int) = ((0 : Nat) : Int) from rfl) (show 0 < [(⟨o, n⟩ : G.Extent)].length by simp), Option.bind_some, List.getElem_cons_zero, e1]; rw [if_neg (by rw [decide_eq_true_eq]; exact fun k => k h)]; rfl)]
      exact Iter_inr (by unfold G.slices_IndexFunc_api_Extent_api_Extent_extent_Contains_1_l1; rw [if_neg (by simp)])
    · rw [if_neg h]
      exact Iter_inr (by unfold G.slices_IndexFunc_api_Extent_api_Extent_extent_Contains_1_l1; rw [if_pos (by simp)]; simp only [idx_of' (k := 0) (show (0 : Int) = ((0 : Nat) : Int) from rfl) (show 0 < [(⟨o, n⟩ : G.Extent)].length by simp), Option.bind_some, List.getElem_cons_zero, e1]; rw [if_pos (decide_eq_true h)])
  rw [e2]
  simp only [Option.bind_some]
  by_cases h : t ≤ o ∧ o + n ≤ t + k
  · rw [if_pos h]; simp [h]
  · rw [if_neg h]; simp [h]
theorem CloneBw_of (l : List UInt8) (h : l.length ≤ 140737488355328) : G.slices_Clone_byte_byte_w l = some l := by
  unfold G.slices_Clone_byte_byte_w
  rw [app_of (by simpa using h)]
  cases l with
  | nil => exact agree_same _
  | cons a l => rfl
/-- The command lies in a file of n bytes. -/
def inF (n : Int) (c : G.Command) : Bool := decide (tend c ≤ n ∧ (c.kind = 1 → c.from_ + c.len ≤ n))
/-- What it writes. -/
def src (f : List UInt8) (c : G.Command) : List UInt8 := if c.kind = 1 then (f.take (c.from_ + c.len).toNat).drop c.from_.toNat else c.data
def run1 (f : List UInt8) (c : G.Command) : List UInt8 := cpy f c.to.toNat (src f c)
theorem src_len {f : List UInt8} {c : G.Command} (h : Good dM c) (hi : inF (f.length : Int) c = true) : ((src f c).length : Int) = tlen c := by
  obtain ⟨i1, i2⟩ := of_decide_eq_true hi
  unfold src tlen
  by_cases hk : c.kind = 1
  · obtain ⟨k1, k2, k3, k4, _⟩ := h.copy hk
    have k5 := h.len1
    unfold tlen at k5
    rw [if_pos hk] at k5
    have := i2 hk
    rw [if_pos hk, if_pos hk]
    simp only [List.length_drop, List.length_take]
    omega
  · rw [if_neg hk, if_neg hk]
theorem run1_len {f : List UInt8} {c : G.Command} (h : Good dM c) (hi : inF (f.length : Int) c = true) : (run1 f c).length = f.length := by
  have h0 := h.to0; have h1 := h.len1
  obtain ⟨i1, i2⟩ := of_decide_eq_true hi
  unfold tend at i1
  unfold run1
  rw [cpy_length (by omega)]
theorem fold_len {n : Nat} : ∀ (l : List G.Command) (f : List UInt8), f.length = n → (∀ c ∈ l, Good dM c ∧ inF (n : Int) c = true) → (l.foldl run1 f).length = n
  | [], f, hf, _ => hf
  | c :: l, f, hf, h => by
    rw [List.foldl_cons]
    have hc := h c (List.mem_cons_self ..)
    exact fold_len l _ (by rw [run1_len hc.1 (by rw [hf]; exact hc.2), hf]) fun x hx => h x (List.mem_cons_of_mem _ hx)
theorem take_fold {l : List G.Command} {k : Nat} (hk : k < l.length) (f : List UInt8) : (l.take (k + 1)).foldl run1 f = run1 ((l.take k).foldl run1 f) l[k] := by
  rw [List.take_succ_eq_append_getElem hk, List.foldl_append]; rfl
section
variable {a0 : List UInt8} {l : List G.Command}
theorem exec_st {n : Nat} (hg : ∀ c ∈ l, Good dM c) (hi : ∀ c ∈ l, inF (n : Int) c = true) (hn : a0.length = n) (k : Nat) : ((l.take k).foldl run1 a0).length = n :=
  fold_len _ _ hn fun c hc => ⟨hg c (List.mem_of_mem_take hc), hi c (List.mem_of_mem_take hc)⟩
theorem src5 (c : G.Command) : G.command_Source c = some (if c.kind = 1 then (⟨c.from_, c.len⟩, true) else (⟨0, 0⟩, false)) := by
  unfold G.command_Source; by_cases h : c.kind = 1 <;> simp [h]
theorem exec_l1 (hg : ∀ c ∈ l, Good dM c) (hl : l.length ≤ 1000000) (ha : a0.length ≤ 1000000) : Iter (G.safe_Execute_l1 a0 l) 0 = some (if l.all (inF (a0.length : Int)) = true then .inl () else .inr ([], false)) := by
  have hq : ∀ k (h : k < l.length), G.safe_Execute_l1 a0 l (k : Int) = some (if inF (a0.length : Int) l[k] = true then .inl ((k + 1 : Nat) : Int) else .inr (.inr ([], false))) := fun k h => by
    have g := hg _ (List.getElem_mem h)
    have g1 := g.to0; have g2 := g.len1; have g3 := g.max
    have g4 : tend l[k] = l[k].to + tlen l[k] := rfl
    unfold G.safe_Execute_l1
    rw [if_pos (by omega), idx_of h]
    simp only [Option.bind_some, src5, Target_of]
    rw [ContainsE (by omega) (by omega) (by omega) (by omega), inc64 h (by omega)]
    simp only [Option.bind_some]
    unfold inF
    by_cases hk : l[k].kind = 1
    · obtain ⟨k1, k2, k3, k4, _⟩ := g.copy hk
      rw [if_pos hk]
      by_cases h1 : (0 : Int) ≤ l[k].to ∧ l[k].to + tlen l[k] ≤ 0 + (a0.length : Int)
      · rw [decide_eq_true h1, if_neg (by decide), if_pos rfl, ContainsE (by omega) (by omega) (by omega) (by omega)]
        simp only [Option.bind_some]
        by_cases h2 : (0 : Int) ≤ l[k].from_ ∧ l[k].from_ + l[k].len ≤ 0 + (a0.length : Int)
        · rw [decide_eq_true h2, if_neg (by decide), if_pos (decide_eq_true ⟨by omega, fun _ => by omega⟩)]
        · rw [decide_eq_false h2, if_pos (by decide), if_neg (by rw [decide_eq_true_eq]; intro h; have := h.2 hk; omega)]
      · rw [decide_eq_false h1, if_pos rfl]
        simp only [Option.bind_some]
        rw [if_pos trivial, if_neg (by rw [decide_eq_true_eq]; intro h; have := h.1; omega)]
    · rw [if_neg hk]
      by_cases h1 : (0 : Int) ≤ l[k].to ∧ l[k].to + tlen l[k] ≤ 0 + (a0.length : Int)
      · rw [decide_eq_true h1, if_neg (by decide), if_neg (by decide)]
        simp only [Option.bind_some]
        rw [if_neg (by decide), if_pos (decide_eq_true ⟨by omega, fun h => absurd h hk⟩)]
      · rw [decide_eq_false h1, if_pos rfl]
        simp only [Option.bind_some]
        rw [if_pos trivial, if_neg (by rw [decide_eq_true_eq]; intro h; have := h.1; omega)]
  have hK := Iter_scan (f := G.safe_Execute_l1 a0 l) l (fun c => !inF (a0.length : Int) c) (fun k => (k : Int)) (fun _ => .inr ([], false)) (.inl ())
    (fun k h hb => by rw [hq k h, if_pos (by simpa using hb)]) (fun k h hb => by rw [hq k h, if_neg (by simpa using hb)])
    (by unfold G.safe_Execute_l1; rw [if_neg (by omega)]) (s := 0) rfl
  rcases hK with ⟨h1, he⟩ | ⟨k, h, hb, _, he⟩
  · rw [he, if_pos]
    rw [List.all_eq_true]; intro c hc; simpa using h1 c hc
  · rw [he, if_neg]
    rw [List.all_eq_true]; intro hall
    have := hall _ (List.getElem_mem h)
    simp [this] at hb
theorem exec_l2 (hg : ∀ c ∈ l, Good dM c) (hl : l.length ≤ 1000000) (ha : a0.length ≤ 1000000) (hi : ∀ c ∈ l, inF (a0.length : Int) c = true) : Iter (G.safe_Execute_l2 l) (0, a0) = some (l.foldl run1 a0, true) := by
  refine Iter_count (f := G.safe_Execute_l2 l) l.length (fun k => ((k : Int), (l.take k).foldl run1 a0)) _ (fun k hk => ?_) ?_ rfl
  · have hs := exec_st hg hi rfl k
    have g := hg _ (List.getElem_mem hk)
    have g1 := g.to0; have g2 := g.len1; have g3 := g.max
    have hin := hi _ (List.getElem_mem hk)
    have hsl := src_len (f := (l.take k).foldl run1 a0) g (by rw [hs]; exact hin)
    rw [take_fold hk]
    generalize (l.take k).foldl run1 a0 = f at *
    obtain ⟨i1, i2⟩ := of_decide_eq_true hin
    have g4 : tend l[k] = l[k].to + tlen l[k] := rfl
    unfold G.safe_Execute_l2
    rw [if_pos (by simp only; omega)]
    simp only [idx_of hk, Option.bind_some, src5]
    rw [inc64 hk (by omega)]
    by_cases hkd : l[k].kind = 1
    · obtain ⟨k1, k2, k3, k4, _⟩ := g.copy hkd
      have i3 := i2 hkd
      have ht : tlen l[k] = l[k].len := by unfold tlen; rw [if_pos hkd]
      simp only [if_pos hkd, if_true]
      unfold G.extent_End
      rw [chk_of (by omega)]
      simp only [Option.bind_some]
      rw [w64 (by omega) (by omega), chk_of (by omega)]
      simp only [Option.bind_some]
      congr 2
      unfold run1
      congr 2
      unfold src at hsl ⊢
      rw [if_pos hkd] at hsl ⊢
      rw [List.drop_take, List.take_take]
      congr 1
      omega
    · simp only [if_neg hkd, Bool.false_eq_true, if_false]
      rw [chk_of (by omega)]
      simp only [Option.bind_some]
      congr 2
      unfold run1
      congr 2
      unfold src at hsl ⊢
      rw [if_neg hkd] at hsl ⊢
      rw [List.take_of_length_le (by omega)]
  · unfold G.safe_Execute_l2
    rw [if_neg (by simp)]
    simp
theorem Execute_of (hg : ∀ c ∈ l, Good dM c) (hl : l.length ≤ 1000000) (ha : a0.length ≤ 1000000) : G.safe_Execute a0 l = some (if l.all (inF (a0.length : Int)) = true then (l.foldl run1 a0, true) else ([], false)) := by
  unfold G.safe_Execute
  rw [exec_l1 hg hl ha]
  by_cases h : l.all (inF (a0.length : Int)) = true
  · rw [if_pos h, if_pos h]
    simp only [Option.bind_some, joinK]
    rw [CloneBw_of _ (by omega)]
    simp only [Option.bind_some]
    exact exec_l2 hg hl ha (List.all_eq_true.1 h)
  · rw [if_neg h, if_neg h]; rfl
end
/-! The example. -/
def eX : G.index_entry := ⟨⟨0, 2⟩, 0⟩
theorem ex_ins : G.slices_insertionSortCmpFunc_index_entry_v0_index_New_1 [eX] 0 1 = some [eX] := by
  unfold G.slices_insertionSortCmpFunc_index_entry_v0_index_New_1
  exact Iter_run 1 (by kernel_rfl)
theorem ex_pdqb (fx : ((List G.index_entry) × Int × Int × Int) → Option (List G.index_entry)) : G.slices_pdqsortCmpFunc_index_entry_v0_index_New_1_b fx [eX] 0 1 1 = some [eX] := by
  unfold G.slices_pdqsortCmpFunc_index_entry_v0_index_New_1_b
  refine Iter_inr ?_
  unfold G.slices_pdqsortCmpFunc_index_entry_v0_index_New_1_l1
  rw [if_pos (by decide)]
  show (G.slices_insertionSortCmpFunc_index_entry_v0_index_New_1 [eX] 0 1).bind _ = _
  rw [ex_ins]; rfl
theorem ex_pdq : G.slices_pdqsortCmpFunc_index_entry_v0_index_New_1 [eX] 0 1 1 = some [eX] := by
  unfold G.slices_pdqsortCmpFunc_index_entry_v0_index_New_1
  obtain ⟨r, h1, h2⟩ := Fix_total (F := G.slices_pdqsortCmpFunc_index_entry_v0_index_New_1_F) (fun _ x => x = ([eX], 0, 1, 1)) (fun _ r => r = [eX]) (fun k x hx f g _ => by subst hx; exact ⟨_, ex_pdqb f, ex_pdqb g, rfl⟩) (k := 0) rfl
  rw [h1, h2]
theorem ex_sort : G.slices_SortFunc_index_entry_index_entry_v0_index_New_1_w [eX] = some [eX] := by
  unfold G.slices_SortFunc_index_entry_index_entry_v0_index_New_1_w
  rw [show G.math_bits_Len (IntKind.u64.wrap ([eX].length : Int)) = some 1 from by kernel_rfl]
  show (G.slices_pdqsortCmpFunc_index_entry_v0_index_New_1 [eX] 0 1 1).bind _ = _
  rw [ex_pdq]; rfl
theorem ex_new : G.index_New [⟨0, 2⟩] = some (.inr [eX]) := by
  unfold G.index_New
  rw [show Iter (G.index_New_l1 [⟨0, 2⟩]) (0, []) = some (.inl [eX]) from Iter_run 2 (by kernel_rfl)]
  show (G.slices_SortFunc_index_entry_index_entry_v0_index_New_1_w [eX]).bind _ = _
  rw [ex_sort]
  exact Iter_run 2 (by kernel_rfl)
theorem ex_meet : G.index_Index_Meet ⟨0, 2⟩ [eX] = some [0] := by
  have h1 : G.index_Index_after 0 [eX] = some 0 := by
    unfold G.index_Index_after
    show (G.sort_Search_index_Index_after_1x 1 [eX] 0).bind _ = _
    rw [show G.sort_Search_index_Index_after_1x 1 [eX] 0 = some 0 from Iter_run 3 (by kernel_rfl)]
    rfl
  have h2 : G.index_Index_overlaps_1_index_Index_Meetx [eX] ⟨0, 2⟩ [] = some [0] := by
    unfold G.index_Index_overlaps_1_index_Index_Meetx
    rw [h1]
    exact Iter_run 3 (by kernel_rfl)
  unfold G.index_Index_Meet
  show (G.index_Index_overlaps_1_index_Index_Meetx [eX] ⟨0, 2⟩ []).bind _ = _
  rw [h2]; rfl
theorem ex_dirty : G.safe_Dirty [sX, sY] 1 = some [⟨0, 2⟩] := by
  unfold G.safe_Dirty
  rw [show (if (1 : Int) < 0 then some true else some (decide ((1 : Int) ≥ (([sX, sY] : List G.Command).length : Int)))) = some false from by kernel_rfl]
  simp only [Option.bind_some]
  rw [if_neg (by decide), show idx [sX, sY] 1 = some sY from by kernel_rfl]
  simp only [Option.bind_some]
  rw [show G.command_Source sY = some (⟨0, 2⟩, true) from by kernel_rfl]
  simp only [Option.bind_some]
  rw [if_neg (by decide), show G.safe_steps [sX, sY] = some [sX, sY] from rfl]
  simp only [Option.bind_some]
  rw [show G.safe_steps_1_safe_Dirty [sX, sY] 1 [] = some (1, [⟨0, 2⟩]) from Iter_run 3 (by kernel_rfl)]
  simp only [Option.bind_some]
  rw [ex_new]
  simp only [Option.bind_some]
  rw [ex_meet]
  simp only [Option.bind_some]
  exact Iter_run 2 (by kernel_rfl)
theorem ex_exec : G.safe_Execute [97, 98, 99, 100] [sY] = some ([97, 98, 97, 98], true) := by
  rw [Execute_of (fun c hc => ex_rt.good c (by simp at hc; simp [hc])) (by decide) (by decide)]
  kernel_rfl
theorem alive16 : G.graftlaw16_alive = some true := by
  unfold G.graftlaw16_alive
  rw [show (⟨1, 0, 2, 2, ([] : List UInt8)⟩ : G.Command) = sX from rfl, show (⟨1, 2, 0, 2, ([] : List UInt8)⟩ : G.Command) = sY from rfl, show idx [sX, sY] 1 = some sY from by kernel_rfl]
  simp only [Option.bind_some]
  rw [show [u8 97, u8 98, u8 99, u8 100] = [97, 98, 99, 100] from by kernel_rfl, ex_exec, Check16_of ex_prefix, ex_dirty, ex_prefix]
  simp only [Option.bind_some]
  rw [show G.slices_Equal_api_Extent_api_Extent [⟨0, 2⟩] [⟨0, 2⟩] = some true from by unfold G.slices_Equal_api_Extent_api_Extent; rw [if_neg (by simp)]; exact Iter_run 2 (by kernel_rfl)]
  rfl
end G
end Go.Proofs.Ythnhjibbkleneaa
