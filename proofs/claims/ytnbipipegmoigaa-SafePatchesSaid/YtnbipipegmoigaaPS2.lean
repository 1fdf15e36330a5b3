/- The example of chapter 16, run; SafeChecks, SafeExecutes and SafePatches are true. No program in sight. -/
import Derived.Test.YtnbipipegmoigaaPS1
import Derived.Test.YtnbipipegmoigaaPT8
import Derived.KernelRfl
namespace Go.Proofs.Ytnbipipegmoigaa
open G
namespace G
/-- A loop, run for at most so many rounds. -/
def runF {σ α : Type} (f : σ → Option (σ ⊕ α)) : Nat → σ → Option α
  | 0, _ => none
  | n + 1, s => match f s with
    | none => none
    | some (.inl s') => runF f n s'
    | some (.inr a) => some a
theorem Iter_run {σ α : Type} {f : σ → Option (σ ⊕ α)} {r : α} : ∀ (n : Nat) {s : σ}, runF f n s = some r → Iter f s = some r
  | 0, s, h => by cases h
  | n + 1, s, h => by
    unfold runF at h
    split at h
    · cases h
    · rename_i s' hs; rw [Iter_inl hs]; exact Iter_run n h
    · rename_i a ha; rw [Iter_inr ha]; exact h
def sX : G.Command := ⟨1, 0, 2, 2, []⟩
def sY : G.Command := ⟨1, 2, 0, 2, []⟩
theorem ex_rt : Rt [sX, sY] := by
  refine ⟨by decide, fun c hc => ?_, fun c hc => ?_, fun i hi => ?_⟩
  · have : c = sX ∨ c = sY := by simpa using hc
    rcases this with rfl | rfl <;> exact good_dM (by decide)
  · have : c = sX ∨ c = sY := by simpa using hc
    rcases this with rfl | rfl <;> decide
  · have : i = 0 ∨ i = 1 := by have hi : i < 2 := hi; omega
    rcases this with rfl | rfl <;> decide
theorem ex_fst : IsFst [sX, sY] 1 := .inr ⟨1, by decide, by decide, fun j hj => by
  have : j = 0 := by omega
  subst this; decide, rfl⟩
theorem ex_prefix : G.safe_Prefix [sX, sY] = some 1 := by
  obtain ⟨r, h1, h2⟩ := Prefix_of ex_rt.len ex_rt.good
  rw [h1, h2.unique ex_fst]
theorem Short_of (l : List G.Command) (hL : l.length ≤ 9223372036854775807) : ∃ b, G.graftref16_Short l = some b ∧ (b = true → ∀ c ∈ l, tlen c ≤ 300) := by
  unfold G.graftref16_Short
  have hK := Iter_scan (f := G.graftref16_Short_l1 l) l (fun c => decide (tlen c > 300)) (fun k => (k : Int)) (fun _ => false) true
    (fun k h hb => by
      unfold G.graftref16_Short_l1
      rw [if_pos (by omega), idx_of h]
      simp only [Option.bind_some, Len4_of]
      rw [if_neg (of_decide_eq_false hb), inc64 h hL])
    (fun k h hb => by
      unfold G.graftref16_Short_l1
      rw [if_pos (by omega), idx_of h]
      simp only [Option.bind_some, Len4_of]
      rw [if_pos (of_decide_eq_true hb)])
    (by unfold G.graftref16_Short_l1; rw [if_neg (by omega)]) (s := 0) rfl
  rcases hK with ⟨ha, he⟩ | ⟨k, h, hb, _, he⟩
  · exact ⟨true, he, fun _ c hc => Int.not_lt.1 (of_decide_eq_false (ha c hc))⟩
  · exact ⟨false, he, fun h => by cases h⟩
theorem Check16_of {l : List G.Command} {r : Int} (h : G.safe_Prefix l = some r) : G.safe_Check l = some (if r < (l.length : Int) then ⟨16, r⟩ else ⟨0, 0⟩) := by
  unfold G.safe_Check
  rw [h]
  simp only [Option.bind_some]
  by_cases hr : r < (l.length : Int)
  · rw [if_pos hr, if_pos hr]
  · rw [if_neg hr, if_neg hr]

/-! Execute, and the reference's. -/
theorem ContainsE {t k : Int} {o n : Int} (h1 : 0 ≤ t ∧ t ≤ 4611686018427387903) (h2 : 0 ≤ k ∧ k ≤ 4611686018427387903) (h3 : 0 ≤ o ∧ o ≤ 4611686018427387903) (h4 : 0 ≤ n ∧ n ≤ 4611686018427387903) : G.extent_Contains ⟨t, k⟩ [⟨o, n⟩] = some (decide (t ≤ o ∧ o + n ≤ t + k)) := by
  have e1 : G.extent_Contains_1 ⟨o, n⟩ ⟨t, k⟩ = some (decide (¬ (t ≤ o ∧ o + n ≤ t + k))) := by
    unfold G.extent_Contains_1 G.extent_End
    simp only
    by_cases h : o < t
    · rw [if_pos h]; congr 1; symm; exact decide_eq_true (by omega)
    · rw [if_neg h]
      simp only [Option.bind_some, w64 (x := o + n) (by omega) (by omega), w64 (x := t + k) (by omega) (by omega)]
      congr 1; rw [decide_eq_decide]; omega
  unfold G.extent_Contains G.slices_ContainsFunc_api_Extent_api_Extent_extent_Contains_1 G.slices_IndexFunc_api_Extent_api_Extent_extent_Contains_1
  have e2 : Iter (G.slices_IndexFunc_api_Extent_api_Extent_extent_Contains_1_l1 [⟨o, n⟩] ⟨t, k⟩) 0 = some (if t ≤ o ∧ o + n ≤ t + k then -1 else 0) := by
    by_cases h : t ≤ o ∧ o + n ≤ t + k
    · rw [if_pos h]
      rw [Iter_inl (s' := 1) (by unfold G.slices_IndexFunc_api_Extent_api_Extent_extent_Contains_1_l1; rw [if_pos (by simp)]; simp only [idx_of' (k := 0) (show (0 : Int) = ((0 : Nat) : Int) from rfl) (show 0 < [(⟨o, n⟩ : G.Extent)].length by simp), Option.bind_some, List.getElem_cons_zero, e1]; rw [if_neg (by rw [decide_eq_true_eq]; exact fun k => k h)]; rfl)]
      exact Iter_inr (by unfold G.slices_IndexFunc_api_Extent_api_Extent_extent_Contains_1_l1; rw [if_neg (by simp)])
    · rw [if_neg h]
      exact Iter_inr (by unfold G.slices_IndexFunc_api_Extent_api_Extent_extent_Contains_1_l1; rw [if_pos (by simp)]; simp only [idx_of' (k := 0) (show (0 : Int) = ((0 : Nat) : Int) from rfl) (show 0 < [(⟨o, n⟩ : G.Extent)].length by simp), Option.bind_some, List.getElem_cons_zero, e1]; rw [if_pos (decide_eq_true h)])
  rw [e2]
  simp only [Option.bind_some]
  by_cases h : t ≤ o ∧ o + n ≤ t + k
  · rw [if_pos h]; simp [h]
  · rw [if_neg h]; simp [h]
theorem CloneBw_of (l : List UInt8) (h : l.length ≤ 140737488355328) : G.slices_Clone_byte_byte_w l = some l := by
  unfold G.slices_Clone_byte_byte_w
  rw [app_of (by simpa using h)]
  cases l with
  | nil => exact agree_same _
  | cons a l => rfl
/-- The command lies in a file of n bytes. -/
def inF (n : Int) (c : G.Command) : Bool := decide (tend c ≤ n ∧ (c.kind = 1 → c.from_ + c.len ≤ n))
/-- What it writes. -/
def src (f : List UInt8) (c : G.Command) : List UInt8 := if c.kind = 1 then (f.take (c.from_ + c.len).toNat).drop c.from_.toNat else c.data
def run1 (f : List UInt8) (c : G.Command) : List UInt8 := cpy f c.to.toNat (src f c)
theorem src_len {f : List UInt8} {c : G.Command} (h : Good dM c) (hi : inF (f.length : Int) c = true) : ((src f c).length : Int) = tlen c := by
  obtain ⟨i1, i2⟩ := of_decide_eq_true hi
  unfold src tlen
  by_cases hk : c.kind = 1
  · obtain ⟨k1, k2, k3, k4, _⟩ := h.copy hk
    have k5 := h.len1
    unfold tlen at k5
    rw [if_pos hk] at k5
    have := i2 hk
    rw [if_pos hk, if_pos hk]
    simp only [List.length_drop, List.length_take]
    omega
  · rw [if_neg hk, if_neg hk]
theorem run1_len {f : List UInt8} {c : G.Command} (h : Good dM c) (hi : inF (f.length : Int) c = true) : (run1 f c).length = f.length := by
  have h0 := h.to0; have h1 := h.len1
  obtain ⟨i1, i2⟩ := of_decide_eq_true hi
  unfold tend at i1
  unfold run1
  rw [cpy_length (by omega)]
theorem fold_len {n : Nat} : ∀ (l : List G.Command) (f : List UInt8), f.length = n → (∀ c ∈ l, Good dM c ∧ inF (n : Int) c = true) → (l.foldl run1 f).length = n
  | [], f, hf, _ => hf
  | c :: l, f, hf, h => by
    rw [List.foldl_cons]
    have hc := h c (List.mem_cons_self ..)
    exact fold_len l _ (by rw [run1_len hc.1 (by rw [hf]; exact hc.2), hf]) fun x hx => h x (List.mem_cons_of_mem _ hx)
theorem take_fold {l : List G.Command} {k : Nat} (hk : k < l.length) (f : List UInt8) : (l.take (k + 1)).foldl run1 f = run1 ((l.take k).foldl run1 f) l[k] := by
  rw [List.take_succ_eq_append_getElem hk, List.foldl_append]; rfl
section
variable {a0 : List UInt8} {l : List G.Command}
theorem exec_st {n : Nat} (hg : ∀ c ∈ l, Good dM c) (hi : ∀ c ∈ l, inF (n : Int) c = true) (hn : a0.length = n) (k : Nat) : ((l.take k).foldl run1 a0).length = n :=
  fold_len _ _ hn fun c hc => ⟨hg c (List.mem_of_mem_take hc), hi c (List.mem_of_mem_take hc)⟩
theorem src5 (c : G.Command) : G.command_Source c = some (if c.kind = 1 then (⟨c.from_, c.len⟩, true) else (⟨0, 0⟩, false)) := by
  unfold G.command_Source; by_cases h : c.kind = 1 <;> simp [h]
theorem exec_l1 (hg : ∀ c ∈ l, Good dM c) (hl : l.length ≤ 1000000) (ha : a0.length ≤ 1000000) : Iter (G.safe_Execute_l1 a0 l) 0 = some (if l.all (inF (a0.length : Int)) = true then .inl () else .inr ([], false)) := by
  have hq : ∀ k (h : k < l.length), G.safe_Execute_l1 a0 l (k : Int) = some (if inF (a0.length : Int) l[k] = true then .inl ((k + 1 : Nat) : Int) else .inr (.inr ([], false))) := fun k h => by
    have g := hg _ (List.getElem_mem h)
    have g1 := g.to0; have g2 := g.len1; have g3 := g.max
    have g4 : tend l[k] = l[k].to + tlen l[k] := rfl
    unfold G.safe_Execute_l1
    rw [if_pos (by omega), idx_of h]
    simp only [Option.bind_some, src5, Target_of]
    rw [ContainsE (by omega) (by omega) (by omega) (by omega), inc64 h (by omega)]
    simp only [Option.bind_some]
    unfold inF
    by_cases hk : l[k].kind = 1
    · obtain ⟨k1, k2, k3, k4, _⟩ := g.copy hk
      rw [if_pos hk]
      by_cases h1 : (0 : Int) ≤ l[k].to ∧ l[k].to + tlen l[k] ≤ 0 + (a0.length : Int)
      · rw [decide_eq_true h1, if_neg (by decide), if_pos rfl, ContainsE (by omega) (by omega) (by omega) (by omega)]
        simp only [Option.bind_some]
        by_cases h2 : (0 : Int) ≤ l[k].from_ ∧ l[k].from_ + l[k].len ≤ 0 + (a0.length : Int)
        · rw [decide_eq_true h2, if_neg (by decide), if_pos (decide_eq_true ⟨by omega, fun _ => by omega⟩)]
        · rw [decide_eq_false h2, if_pos (by decide), if_neg (by rw [decide_eq_true_eq]; intro h; have := h.2 hk; omega)]
      · rw [decide_eq_false h1, if_pos rfl]
        simp only [Option.bind_some]
        rw [if_pos trivial, if_neg (by rw [decide_eq_true_eq]; intro h; have := h.1; omega)]
    · rw [if_neg hk]
      by_cases h1 : (0 : Int) ≤ l[k].to ∧ l[k].to + tlen l[k] ≤ 0 + (a0.length : Int)
      · rw [decide_eq_true h1, if_neg (by decide), if_neg (by decide)]
        simp only [Option.bind_some]
        rw [if_neg (by decide), if_pos (decide_eq_true ⟨by omega, fun h => absurd h hk⟩)]
      · rw [decide_eq_false h1, if_pos rfl]
        simp only [Option.bind_some]
        rw [if_pos trivial, if_neg (by rw [decide_eq_true_eq]; intro h; have := h.1; omega)]
  have hK := Iter_scan (f := G.safe_Execute_l1 a0 l) l (fun c => !inF (a0.length : Int) c) (fun k => (k : Int)) (fun _ => .inr ([], false)) (.inl ())
    (fun k h hb => by rw [hq k h, if_pos (by simpa using hb)]) (fun k h hb => by rw [hq k h, if_neg (by simpa using hb)])
    (by unfold G.safe_Execute_l1; rw [if_neg (by omega)]) (s := 0) rfl
  rcases hK with ⟨h1, he⟩ | ⟨k, h, hb, _, he⟩
  · rw [he, if_pos]
    rw [List.all_eq_true]; intro c hc; simpa using h1 c hc
  · rw [he, if_neg]
    rw [List.all_eq_true]; intro hall
    have := hall _ (List.getElem_mem h)
    simp [this] at hb
theorem exec_l2 (hg : ∀ c ∈ l, Good dM c) (hl : l.length ≤ 1000000) (ha : a0.length ≤ 1000000) (hi : ∀ c ∈ l, inF (a0.length : Int) c = true) : Iter (G.safe_Execute_l2 l) (0, a0) = some (l.foldl run1 a0, true) := by
  refine Iter_count (f := G.safe_Execute_l2 l) l.length (fun k => ((k : Int), (l.take k).foldl run1 a0)) _ (fun k hk => ?_) ?_ rfl
  · have hs := exec_st hg hi rfl k
    have g := hg _ (List.getElem_mem hk)
    have g1 := g.to0; have g2 := g.len1; have g3 := g.max
    have hin := hi _ (List.getElem_mem hk)
    have hsl := src_len (f := (l.take k).foldl run1 a0) g (by rw [hs]; exact hin)
    rw [take_fold hk]
    generalize (l.take k).foldl run1 a0 = f at *
    obtain ⟨i1, i2⟩ := of_decide_eq_true hin
    have g4 : tend l[k] = l[k].to + tlen l[k] := rfl
    unfold G.safe_Execute_l2
    rw [if_pos (by simp only; omega)]
    simp only [idx_of hk, Option.bind_some, src5]
    rw [inc64 hk (by omega)]
    by_cases hkd : l[k].kind = 1
    · obtain ⟨k1, k2, k3, k4, _⟩ := g.copy hkd
      have i3 := i2 hkd
      have ht : tlen l[k] = l[k].len := by unfold tlen; rw [if_pos hkd]
      simp only [if_pos hkd, if_true]
      unfold G.extent_End
      rw [chk_of (by omega)]
      simp only [Option.bind_some]
      rw [w64 (by omega) (by omega), chk_of (by omega)]
      simp only [Option.bind_some]
      congr 2
      unfold run1
      congr 2
      unfold src at hsl ⊢
      rw [if_pos hkd] at hsl ⊢
      rw [List.drop_take, List.take_take]
      congr 1
      omega
    · simp only [if_neg hkd, Bool.false_eq_true, if_false]
      rw [chk_of (by omega)]
      simp only [Option.bind_some]
      congr 2
      unfold run1
      congr 2
      unfold src at hsl ⊢
      rw [if_neg hkd] at hsl ⊢
      rw [List.take_of_length_le (by omega)]
  · unfold G.safe_Execute_l2
    rw [if_neg (by simp)]
    simp
theorem Execute_of (hg : ∀ c ∈ l, Good dM c) (hl : l.length ≤ 1000000) (ha : a0.length ≤ 1000000) : G.safe_Execute a0 l = some (if l.all (inF (a0.length : Int)) = true then (l.foldl run1 a0, true) else ([], false)) := by
  unfold G.safe_Execute
  rw [exec_l1 hg hl ha]
  by_cases h : l.all (inF (a0.length : Int)) = true
  · rw [if_pos h, if_pos h]
    simp only [Option.bind_some, joinK]
    rw [CloneBw_of _ (by omega)]
    simp only [Option.bind_some]
    exact exec_l2 hg hl ha (List.all_eq_true.1 h)
  · rw [if_neg h, if_neg h]; rfl
theorem Run_of {f : List UInt8} {c : G.Command} (g : Good dM c) (hi : inF (f.length : Int) c = true) (ha : f.length ≤ 1000000) : G.graftref16_Run f c = some (run1 f c) := by
  have g1 := g.to0; have g2 := g.len1; have g3 := g.max
  have hsl := src_len g hi
  obtain ⟨i1, i2⟩ := of_decide_eq_true hi
  have g4 : tend c = c.to + tlen c := rfl
  have hv : (if c.kind = 1 then (slcMid f c.from_ (IntKind.i64.wrap (c.from_ + c.len))).bind fun y2 => (app 1 ([] : List UInt8) y2).bind fun y3 => some y3 else some c.data) = some (src f c) := by
    unfold src
    by_cases hk : c.kind = 1
    · obtain ⟨k1, k2, k3, k4, _⟩ := g.copy hk
      have i3 := i2 hk
      rw [if_pos hk, if_pos hk, w64 (by omega) (by omega), slcMid_of (by omega)]
      simp only [Option.bind_some]
      rw [app_of (by simp; omega)]
      rfl
    · rw [if_neg hk, if_neg hk]
  unfold G.graftref16_Run
  rw [hv]
  simp only [Option.bind_some]
  rw [slcTo_of (by omega)]
  simp only [Option.bind_some]
  rw [app_of (by simp; omega)]
  simp only [Option.bind_some, List.nil_append]
  rw [app_of (by simp; omega), w64 (by omega) (by omega), slcFrom_of (by omega)]
  simp only [Option.bind_some]
  rw [app_of (by simp; omega)]
  simp only [Option.bind_some]
  congr 1
  unfold run1 cpy
  rw [List.take_of_length_le (l := src f c) (by omega), List.append_assoc]
  congr 3
  omega
theorem refExecute_of (hg : ∀ c ∈ l, Good dM c) (hl : l.length ≤ 1000000) (ha : a0.length ≤ 1000000) : G.graftref16_Execute a0 l = some (if l.all (inF (a0.length : Int)) = true then (l.foldl run1 a0, true) else ([], false)) := by
  have hq : ∀ k (h : k < l.length), G.graftref16_Execute_l1 a0 l (k : Int) = some (if inF (a0.length : Int) l[k] = true then .inl ((k + 1 : Nat) : Int) else .inr (.inr ([], false))) := fun k h => by
    have g := hg _ (List.getElem_mem h)
    have g1 := g.to0; have g2 := g.len1; have g3 := g.max
    have g4 : tend l[k] = l[k].to + tlen l[k] := rfl
    unfold G.graftref16_Execute_l1
    rw [if_pos (by omega), idx_of h]
    simp only [Option.bind_some, Len4_of]
    rw [w64 (x := l[k].to + tlen l[k]) (by omega) (by omega), inc64 h (by omega)]
    unfold inF
    by_cases h1 : tend l[k] ≤ (a0.length : Int)
    · rw [if_neg (by omega)]
      by_cases hk : l[k].kind = 1
      · obtain ⟨k1, k2, k3, k4, _⟩ := g.copy hk
        rw [if_pos hk, w64 (by omega) (by omega)]
        simp only [Option.bind_some]
        by_cases h2 : l[k].from_ + l[k].len ≤ (a0.length : Int)
        · rw [if_neg (by rw [decide_eq_true_eq]; omega), if_pos (decide_eq_true ⟨h1, fun _ => h2⟩)]
        · rw [if_pos (by rw [decide_eq_true_eq]; omega), if_neg (by rw [decide_eq_true_eq]; exact fun h => h2 (h.2 hk))]
      · rw [if_neg hk]
        simp only [Option.bind_some]
        rw [if_neg (by decide), if_pos (decide_eq_true ⟨h1, fun h => absurd h hk⟩)]
    · rw [if_pos (by omega)]
      simp only [Option.bind_some]
      rw [if_pos trivial, if_neg (by rw [decide_eq_true_eq]; exact fun h => h1 h.1)]
  have hK := Iter_scan (f := G.graftref16_Execute_l1 a0 l) l (fun c => !inF (a0.length : Int) c) (fun k => (k : Int)) (fun _ => .inr ([], false)) (.inl ())
    (fun k h hb => by rw [hq k h, if_pos (by simpa using hb)]) (fun k h hb => by rw [hq k h, if_neg (by simpa using hb)])
    (by unfold G.graftref16_Execute_l1; rw [if_neg (by omega)]) (s := 0) rfl
  unfold G.graftref16_Execute
  rcases hK with ⟨h1, he⟩ | ⟨k, h, hb, _, he⟩
  · have hi : ∀ c ∈ l, inF (a0.length : Int) c = true := fun c hc => by simpa using h1 c hc
    rw [he, if_pos (List.all_eq_true.2 hi)]
    simp only [Option.bind_some, joinK]
    rw [app_of (by simp; omega)]
    simp only [Option.bind_some, List.nil_append]
    refine Iter_count (f := G.graftref16_Execute_l2 l) l.length (fun k => ((l.take k).foldl run1 a0, (k : Int))) _ (fun k hk => ?_) ?_ rfl
    · have hs := exec_st hg hi rfl k
      unfold G.graftref16_Execute_l2
      rw [if_pos (by simp only; omega)]
      simp only [idx_of hk, Option.bind_some]
      rw [Run_of (hg _ (List.getElem_mem hk)) (by rw [hs]; exact hi _ (List.getElem_mem hk)) (by omega), take_fold hk]
      simp only [Option.bind_some]
      rw [inc64 hk (by omega)]
    · unfold G.graftref16_Execute_l2
      rw [if_neg (by simp)]
      simp
  · rw [he, if_neg]
    · rfl
    · rw [List.all_eq_true]; intro hall
      have := hall _ (List.getElem_mem h)
      simp [this] at hb
end
/-! The example. -/
def eX : G.index_entry := ⟨⟨0, 2⟩, 0⟩
theorem ex_ins : G.slices_insertionSortCmpFunc_index_entry_v0_index_New_1 [eX] 0 1 = some [eX] := by
  unfold G.slices_insertionSortCmpFunc_index_entry_v0_index_New_1
  exact Iter_run 1 (by kernel_rfl)
theorem ex_pdqb (fx : ((List G.index_entry) × Int × Int × Int) → Option (List G.index_entry)) : G.slices_pdqsortCmpFunc_index_entry_v0_index_New_1_b fx [eX] 0 1 1 = some [eX] := by
  unfold G.slices_pdqsortCmpFunc_index_entry_v0_index_New_1_b
  refine Iter_inr ?_
  unfold G.slices_pdqsortCmpFunc_index_entry_v0_index_New_1_l1
  rw [if_pos (by decide)]
  show (G.slices_insertionSortCmpFunc_index_entry_v0_index_New_1 [eX] 0 1).bind _ = _
  rw [ex_ins]; rfl
theorem ex_pdq : G.slices_pdqsortCmpFunc_index_entry_v0_index_New_1 [eX] 0 1 1 = some [eX] := by
  unfold G.slices_pdqsortCmpFunc_index_entry_v0_index_New_1
  obtain ⟨r, h1, h2⟩ := Fix_total (F := G.slices_pdqsortCmpFunc_index_entry_v0_index_New_1_F) (fun _ x => x = ([eX], 0, 1, 1)) (fun _ r => r = [eX]) (fun k x hx f g _ => by subst hx; exact ⟨_, ex_pdqb f, ex_pdqb g, rfl⟩) (k := 0) rfl
  rw [h1, h2]
theorem ex_sort : G.slices_SortFunc_index_entry_index_entry_v0_index_New_1_w [eX] = some [eX] := by
  unfold G.slices_SortFunc_index_entry_index_entry_v0_index_New_1_w
  rw [show G.math_bits_Len (IntKind.u64.wrap ([eX].length : Int)) = some 1 from by kernel_rfl]
  show (G.slices_pdqsortCmpFunc_index_entry_v0_index_New_1 [eX] 0 1 1).bind _ = _
  rw [ex_pdq]; rfl
theorem ex_new : G.index_New [⟨0, 2⟩] = some (.inr [eX]) := by
  unfold G.index_New
  rw [show Iter (G.index_New_l1 [⟨0, 2⟩]) (0, []) = some (.inl [eX]) from Iter_run 2 (by kernel_rfl)]
  show (G.slices_SortFunc_index_entry_index_entry_v0_index_New_1_w [eX]).bind _ = _
  rw [ex_sort]
  exact Iter_run 2 (by kernel_rfl)
theorem ex_meet : G.index_Index_Meet ⟨0, 2⟩ [eX] = some [0] := by
  have h1 : G.index_Index_after 0 [eX] = some 0 := by
    unfold G.index_Index_after
    show (G.sort_Search_index_Index_after_1x 1 [eX] 0).bind _ = _
    rw [show G.sort_Search_index_Index_after_1x 1 [eX] 0 = some 0 from Iter_run 3 (by kernel_rfl)]
    rfl
  have h2 : G.index_Index_overlaps_1_index_Index_Meetx [eX] ⟨0, 2⟩ [] = some [0] := by
    unfold G.index_Index_overlaps_1_index_Index_Meetx
    rw [h1]
    exact Iter_run 3 (by kernel_rfl)
  unfold G.index_Index_Meet
  show (G.index_Index_overlaps_1_index_Index_Meetx [eX] ⟨0, 2⟩ []).bind _ = _
  rw [h2]; rfl
theorem ex_dirty : G.safe_Dirty [sX, sY] 1 = some [⟨0, 2⟩] := by
  unfold G.safe_Dirty
  rw [show (if (1 : Int) < 0 then some true else some (decide ((1 : Int) ≥ (([sX, sY] : List G.Command).length : Int)))) = some false from by kernel_rfl]
  simp only [Option.bind_some]
  rw [if_neg (by decide), show idx [sX, sY] 1 = some sY from by kernel_rfl]
  simp only [Option.bind_some]
  rw [show G.command_Source sY = some (⟨0, 2⟩, true) from by kernel_rfl]
  simp only [Option.bind_some]
  rw [if_neg (by decide), show G.safe_steps [sX, sY] = some [sX, sY] from rfl]
  simp only [Option.bind_some]
  rw [show G.safe_steps_1_safe_Dirty [sX, sY] 1 [] = some (1, [⟨0, 2⟩]) from Iter_run 3 (by kernel_rfl)]
  simp only [Option.bind_some]
  rw [ex_new]
  simp only [Option.bind_some]
  rw [ex_meet]
  simp only [Option.bind_some]
  exact Iter_run 2 (by kernel_rfl)
theorem ex_exec : G.safe_Execute [97, 98, 99, 100] [sY] = some ([97, 98, 97, 98], true) := by
  rw [Execute_of (fun c hc => ex_rt.good c (by simp at hc; simp [hc])) (by decide) (by decide)]
  kernel_rfl
theorem alive16 : G.graftlaw16_alive = some true := by
  unfold G.graftlaw16_alive
  rw [show (⟨1, 0, 2, 2, ([] : List UInt8)⟩ : G.Command) = sX from rfl, show (⟨1, 2, 0, 2, ([] : List UInt8)⟩ : G.Command) = sY from rfl, show idx [sX, sY] 1 = some sY from by kernel_rfl]
  simp only [Option.bind_some]
  rw [show [u8 97, u8 98, u8 99, u8 100] = [97, 98, 99, 100] from by kernel_rfl, ex_exec, Check16_of ex_prefix, ex_dirty, ex_prefix]
  simp only [Option.bind_some]
  rw [show G.slices_Equal_api_Extent_api_Extent [⟨0, 2⟩] [⟨0, 2⟩] = some true from by unfold G.slices_Equal_api_Extent_api_Extent; rw [if_neg (by simp)]; exact Iter_run 2 (by kernel_rfl)]
  rfl
end G
theorem G.graftlaw16_SafeChecks_true (a0 : List G.Command) (h0 : Len a0 ∧ ∀ y ∈ a0, G.Command.Ok y) : G.graftlaw16_SafeChecks a0 = some true := by
  have n0 : a0.length ≤ 9223372036854775807 := h0.1
  unfold G.graftlaw16_SafeChecks
  obtain ⟨b, e1, s1⟩ := G.Right_of a0 n0
  obtain ⟨c, e2, s2⟩ := G.Short_of a0 n0
  rw [e1, e2, G.alive16]
  cases b
  · rfl
  cases c
  · rfl
  have hr := s1 rfl
  obtain ⟨r, h1, h2⟩ := G.Prefix_of hr.len hr.good
  obtain ⟨q, h3, h4⟩ := G.rPrefix_of hr (s2 rfl)
  have := h4.unique h2
  subst this
  rw [h3, G.Check16_of h1, h1]
  simp only [Option.bind_some]
  rw [if_neg (by decide)]
  by_cases h : q < (a0.length : Int)
  · simp [h]
  · simp [h]
theorem G.graftlaw16_SafeExecutes_true (a0 : List UInt8) (a1 : List G.Command) (_h0 : Len a0) (h1 : Len a1 ∧ ∀ y ∈ a1, G.Command.Ok y) : G.graftlaw16_SafeExecutes a0 a1 = some true := by
  have n0 : a1.length ≤ 9223372036854775807 := h1.1
  unfold G.graftlaw16_SafeExecutes
  obtain ⟨b, e1, s1⟩ := G.Right_of a1 n0
  obtain ⟨c, e2, s2⟩ := G.Short_of a1 n0
  rw [e1, e2, G.alive16]
  by_cases hl : (a0.length : Int) > 300
  · rw [if_pos hl]; rfl
  rw [if_neg hl]
  cases b
  · rfl
  cases c
  · rfl
  have hr := s1 rfl
  have hn := hr.len
  simp only [Option.bind_some]
  rw [if_neg (by decide), app_of (by simp; omega)]
  simp only [Option.bind_some, List.nil_append]
  rw [G.Execute_of hr.good (by omega) (by omega), G.refExecute_of hr.good (by omega) (by omega)]
  have hq : ∀ x : List UInt8 × Bool, x.1.length ≤ 1000 → ((G.slices_Equal_byte_byte x.1 x.1).bind fun y9 => if y9 = true then (G.slices_Equal_byte_byte a0 a0).bind fun y10 => some y10 else some false) = some true := fun x hx => by
    rw [G.EqualB_of _ _ (by omega), G.EqualB_of _ _ (by omega)]
    simp
  simp only [Option.bind_some, if_true]
  rw [if_neg (by decide)]
  refine hq _ ?_
  split
  · rename_i h
    rw [G.fold_len (n := a0.length) _ _ rfl fun c hc => ⟨hr.good c hc, List.all_eq_true.1 h c hc⟩]; omega
  · simp
/-! SafePatches: commands that are safe, done in place, give the new file. -/
namespace G
theorem good_of {d : G.Delta} {c : G.Command} (h : Good d c) (h1 : d.oldLen ≤ 4611686018427387903) : Good dM c :=
  ⟨h.to0, h.len1, h.max, h.max, fun hk => by obtain ⟨k1, k2, k3, k4, k5⟩ := h.copy hk; exact ⟨k1, k2, k4, k4, k5⟩, h.lit⟩
theorem Small15_of (d : G.Delta) (hn : d.commands.length ≤ 9223372036854775807) : ∃ b, G.graftref15_Small d = some b ∧ (b = true → d.commands.length ≤ 20 ∧ ∃ S, Sm d S) := by
  unfold G.graftref15_Small
  by_cases h : (d.commands.length : Int) ≤ 20
  · rw [if_pos h]
    obtain ⟨b, e, hb⟩ := Small_of d hn
    rw [e]
    exact ⟨b, rfl, fun h1 => ⟨by omega, hb h1⟩⟩
  · rw [if_neg h]; exact ⟨false, rfl, fun h => by cases h⟩
theorem Extended_of (a0 : List UInt8) (n : Int) (ha : a0.length ≤ 1000000) (hn : n ≤ 1000000) : G.graftref16_Extended a0 n = some (a0 ++ List.replicate (n.toNat - a0.length) 0) := by
  unfold G.graftref16_Extended
  rw [app_of (by simp; omega)]
  simp only [Option.bind_some, List.nil_append]
  refine Iter_count (f := G.graftref16_Extended_l1 n) (n.toNat - a0.length) (fun k => a0 ++ List.replicate k 0) _ (fun k hk => ?_) ?_ (by simp)
  · unfold G.graftref16_Extended_l1
    rw [if_pos (by simp; omega), app_of (by simp; omega)]
    simp only [Option.bind_some, List.append_assoc]
    congr 3
    rw [List.replicate_succ']; rfl
  · unfold G.graftref16_Extended_l1
    rw [if_neg (by simp; omega)]
section
variable {a0 : List UInt8} {d : G.Delta} {S : List G.Command}
theorem src_byts {f : List UInt8} {c : G.Command} {N M : Int} (hf : Fit N M c) (hM : M ≤ (a0.length : Int)) (hs : c.kind = 1 → ∀ o : Int, c.from_ ≤ o → o < c.from_ + c.len → f[o.toNat]? = a0[o.toNat]?) (hl : c.kind = 1 → c.from_ + c.len ≤ (f.length : Int)) : src f c = byts a0 c := by
  unfold src
  by_cases hk : c.kind = 1
  · have hc := hf.src hk
    have hn := hf.nice.len1
    rw [tlen_copy hk] at hn
    have hl := hl hk
    rw [if_pos hk, byts_copy hk hc.1 (by omega) (by omega)]
    refine List.ext_getElem? fun i => ?_
    rw [List.getElem?_drop, List.getElem?_drop, List.getElem?_take, List.getElem?_take]
    by_cases h : c.from_.toNat + i < (c.from_ + c.len).toNat
    · rw [if_pos h, if_pos h]
      have := hs hk (c.from_ + (i : Int)) (by omega) (by omega)
      rwa [show (c.from_ + (i : Int)).toNat = c.from_.toNat + i by omega] at this
    · rw [if_neg h, if_neg h]
  · rw [if_neg hk, byts_lit hk]
theorem safe_file (h : Sm d S) (hl : d.oldLen = (a0.length : Int)) (hd : ∀ i, i < d.commands.length → drt d.commands i = false) {f : List UInt8} (hf1 : d.newLen ≤ (f.length : Int)) (hf2 : a0.length ≤ f.length) (hf3 : ∀ i, i < a0.length → f[i]? = a0[i]?) :
    (d.commands.foldl run1 f).take d.newLen.toNat = file a0 S := by
  have hR := h.vd.rng
  unfold InR at hR
  have hg : ∀ c ∈ d.commands, Good dM c := fun c hc => good_of (h.vd.good c hc) hR.2.1
  have hm : ∀ c ∈ d.commands, c ∈ S := fun c hc => h.perm.mem_iff.2 hc
  have hi : ∀ c ∈ d.commands, inF (f.length : Int) c = true := fun c hc => by
    have hf := h.fit c (hm c hc)
    have h1 := hf.fits
    unfold inF
    refine decide_eq_true ⟨by omega, fun hk => ?_⟩
    have h2 := hf.src hk
    omega
  have key : ∀ k, k ≤ d.commands.length → (∀ i (hi : i < d.commands.length), i < k → ∀ o : Int, d.commands[i].to ≤ o → o < tend d.commands[i] → ((d.commands.take k).foldl run1 f)[o.toNat]? = (file a0 S)[o.toNat]?) ∧ (∀ o : Int, 0 ≤ o → wrt d.commands k o = false → ((d.commands.take k).foldl run1 f)[o.toNat]? = f[o.toNat]?) := by
    intro k
    induction k with
    | zero => exact fun _ => ⟨fun i hi h => by omega, fun o _ _ => rfl⟩
    | succ k ih =>
      intro hk
      obtain ⟨ih1, ih2⟩ := ih (by omega)
      have hk : k < d.commands.length := hk
      have hs := exec_st (a0 := f) hg hi rfl k
      have hc := List.getElem_mem hk
      have hft := h.fit _ (hm _ hc)
      have g := hg _ hc
      have g1 := g.to0; have g2 := g.len1; have g3 := g.max
      have te : tend d.commands[k] = d.commands[k].to + tlen d.commands[k] := rfl
      rw [take_fold hk]
      have hsrc : src ((d.commands.take k).foldl run1 f) d.commands[k] = byts a0 d.commands[k] := by
        refine src_byts hft (by omega) (fun hkd o h1 h2 => ?_) (fun hkd => ?_)
        · have hs := hft.src hkd
          have hw : wrt d.commands k o = false := by
            refine Bool.eq_false_iff.2 fun hw => ?_
            have := (drt_iff hk hg).2 ⟨hkd, o, h1, h2, hw⟩
            rw [hd k hk] at this; cases this
          rw [ih2 o (by omega) hw]
          exact hf3 _ (by omega)
        · have := hft.src hkd
          rw [hs]; omega
      have hbl := byts_len (a0 := a0) hft.nice
      have hin := (of_decide_eq_true (hi _ hc)).1
      have hrun : ∀ x : List UInt8, run1 x d.commands[k] = cpy x d.commands[k].to.toNat (src x d.commands[k]) := fun _ => rfl
      rw [hrun, hsrc]
      generalize (d.commands.take k).foldl run1 f = x at *
      have hcp : ∀ o : Int, 0 ≤ o → (cpy x d.commands[k].to.toNat (byts a0 d.commands[k]))[o.toNat]? = if d.commands[k].to ≤ o ∧ o < tend d.commands[k] then (file a0 S)[o.toNat]? else x[o.toNat]? := fun o ho => by
        rw [cpy_at (by omega)]
        by_cases hin : d.commands[k].to ≤ o ∧ o < tend d.commands[k]
        · rw [if_pos hin, if_pos (by omega), file_at h (hm _ hc) hin.1 hin.2]
          congr 1; omega
        · rw [if_neg hin, if_neg (by omega)]
      refine ⟨fun i hi hik o h1 h2 => ?_, fun o ho hw => ?_⟩
      · have hi0 := (h.fit _ (hm _ (List.getElem_mem hi))).to0
        rw [hcp o (by omega)]
        split
        · rfl
        · rename_i hne
          by_cases e : i = k
          · subst e; exact absurd ⟨h1, h2⟩ hne
          · exact ih1 i hi (by omega) o h1 h2
      · unfold wrt at hw
        rw [List.take_succ_eq_append_getElem hk, List.any_append, Bool.or_eq_false_iff] at hw
        have hw2 : ¬ (d.commands[k].to ≤ o ∧ o < tend d.commands[k]) := by simpa using hw.2
        rw [hcp o ho, if_neg hw2]
        exact ih2 o ho hw.1
  obtain ⟨h1, _⟩ := key d.commands.length (Nat.le_refl _)
  rw [List.take_length] at h1
  have fl := file_len (a0 := a0) h
  have hlen := fold_len d.commands f rfl fun c hc => ⟨hg c hc, hi c hc⟩
  refine List.ext_getElem? fun j => ?_
  rw [List.getElem?_take]
  by_cases hj : (j : Int) < d.newLen
  · rw [if_pos (by omega)]
    obtain ⟨c, hc, h3, h4⟩ := h.vd.full (j : Int) (by omega) hj
    obtain ⟨i, hi, rfl⟩ := List.mem_iff_getElem.1 hc
    have := h1 i hi hi (j : Int) h3 h4
    rwa [Int.toNat_natCast] at this
  · rw [if_neg (by omega), List.getElem?_eq_none (by omega)]
end
end G
theorem G.graftlaw16_SafePatches_true (a0 : List UInt8) (a1 : G.Delta) (_h0 : Len a0) (h1 : G.Delta.Ok a1) : G.graftlaw16_SafePatches a0 a1 = some true := by
  have n1 : a1.commands.length ≤ 9223372036854775807 := h1.2.2.1
  unfold G.graftlaw16_SafePatches
  obtain ⟨b, e1, s1⟩ := G.Small15_of a1 n1
  obtain ⟨c, e2, s2⟩ := G.Fits8_of a0 a1 n1
  rw [e1, e2, G.alive16]
  by_cases hl : (a0.length : Int) > 300
  · rw [if_pos hl]; rfl
  rw [if_neg hl]
  cases b
  · rfl
  cases c
  · rfl
  obtain ⟨hn, _⟩ := s1 rfl
  obtain ⟨hol, S, hS⟩ := s2 rfl
  have hnew := hS.new
  have hR := hS.vd.rng
  unfold InR at hR
  have hg : ∀ c ∈ a1.commands, Good G.dM c := fun c hc => G.good_of (hS.vd.good c hc) hR.2.1
  simp only [Option.bind_some]
  rw [if_neg (by decide), G.Extended_of _ _ (by omega) (by omega)]
  simp only [Option.bind_some]
  have hfl : (a0 ++ List.replicate (a1.newLen.toNat - a0.length) (0 : UInt8)).length = max a0.length a1.newLen.toNat := by simp; omega
  generalize hf : a0 ++ List.replicate (a1.newLen.toNat - a0.length) (0 : UInt8) = f at *
  have hi : ∀ c ∈ a1.commands, G.inF (f.length : Int) c = true := fun c hc => by
    have hft := hS.fit c (hS.perm.mem_iff.2 hc)
    have h1 := hft.fits
    unfold G.inF
    refine decide_eq_true ⟨by omega, fun hk => ?_⟩
    have h2 := hft.src hk
    omega
  rw [G.Execute_of hg (by omega) (by omega), if_pos (List.all_eq_true.2 hi)]
  simp only [Option.bind_some]
  have hlen := G.fold_len a1.commands f rfl fun c hc => ⟨hg c hc, hi c hc⟩
  rw [if_neg (show ¬ (true = false) by decide)]
  simp only [Option.bind_some]
  rw [if_neg (show ¬ ((!true) = true) by decide), if_neg (by
    rw [hlen, hfl]
    have : imax (a0.length : Int) a1.newLen = ((max a0.length a1.newLen.toNat : Nat) : Int) := by unfold imax; split <;> omega
    rw [this]; simp)]
  rw [if_pos trivial]
  obtain ⟨r, h2, h3⟩ := G.Prefix_of (l := a1.commands) (by omega) hg
  rw [G.Check16_of h2]
  simp only [Option.bind_some]
  by_cases hr : r < (a1.commands.length : Int)
  · rw [if_pos hr]; rfl
  · rw [if_neg hr]
    have hd : ∀ i, i < a1.commands.length → G.drt a1.commands i = false := by
      rcases h3 with ⟨h, _⟩ | ⟨k, hk, _, _, rfl⟩
      · exact h
      · omega
    rw [if_neg (by decide), slcTo_of (by omega), G.refApply_of hS hol (by omega)]
    simp only [Option.bind_some]
    rw [G.safe_file hS hol hd (by omega) (by omega) fun i hi => by rw [← hf, List.getElem?_append_left hi]]
    simp
end Go.Proofs.Ytnbipipegmoigaa
