/- The sort of slices.SortFunc, for lists of less than 50: the pivot, the parts, the sort. No program in sight. -/
import Derived.Test.YtnbipipegmoigaaPQ1
import Derived.KernelRfl
namespace Go.Proofs.Ytnbipipegmoigaa
open G
namespace QI
theorem band_le {x m : Int} (h0 : 0 ≤ m) (h1 : m ≤ 1000) : 0 ≤ band .u64 x m ∧ band .u64 x m ≤ m := by
  unfold band
  rw [BitVec.toNat_and]
  have h2 : (BitVec.ofInt IntKind.u64.bits m).toNat = m.toNat := by
    show (BitVec.ofInt 64 m).toNat = m.toNat
    rw [BitVec.toNat_ofInt]
    congr 1; omega
  rw [h2]
  have h3 : (BitVec.ofInt IntKind.u64.bits x).toNat &&& m.toNat ≤ m.toNat := Nat.and_le_right
  generalize (BitVec.ofInt IntKind.u64.bits x).toNat &&& m.toNat = k at h3
  have h4 : IntKind.u64.wrap (k : Int) = (k : Int) := by
    simp only [IntKind.wrap, IntKind.bits, IntKind.signed]; simp; omega
  rw [h4]; omega
noncomputable def npOk (n : Nat) : Bool := match G.slices_nextPowerOfTwo (n : Int) with | some m => decide (1 ≤ m ∧ m ≤ 2 * (n : Int)) | none => false
theorem np_all : ((List.range 50).all fun n => decide (n < 8) || npOk n) = true := by kernel_rfl
theorem np_of {n : Int} (h1 : 8 ≤ n) (h2 : n < 50) : ∃ m, G.slices_nextPowerOfTwo n = some m ∧ 1 ≤ m ∧ m ≤ 2 * n := by
  have h := List.all_eq_true.1 np_all n.toNat (List.mem_range.2 (by omega))
  rw [Bool.or_eq_true, decide_eq_true_eq] at h
  have h := h.resolve_left (by omega)
  unfold npOk at h
  rw [Int.toNat_of_nonneg (by omega)] at h
  split at h
  · rename_i m e
    have := of_decide_eq_true h
    exact ⟨m, e, this⟩
  · cases h
variable {l : List T} {a b : Int}
theorem brk_of (ha : 0 ≤ a) (hab : a + 8 ≤ b) (hb : b ≤ (l.length : Int)) (hn : l.length < 50) : ∃ l', G.slices_breakPatternsCmpFunc_index_entry_v0_index_New_1 l a b = some l' ∧ Sws a b l l' := by
  unfold G.slices_breakPatternsCmpFunc_index_entry_v0_index_New_1
  have w1 : IntKind.i64.wrap (b - a) = b - a := w64 (by omega) (by omega)
  have w3 : IntKind.i64.wrap (Int.tdiv (b - a) 4) = (b - a) / 4 := by rw [Int.tdiv_eq_ediv_of_nonneg (by omega), w64 (by omega) (by omega)]
  have w4 : IntKind.i64.wrap ((b - a) / 4 * 2) = (b - a) / 4 * 2 := w64 (by omega) (by omega)
  have w5 : IntKind.i64.wrap (a + (b - a) / 4 * 2) = a + (b - a) / 4 * 2 := w64 (by omega) (by omega)
  have w6 : IntKind.i64.wrap (a + (b - a) / 4 * 2 - 1) = a + (b - a) / 4 * 2 - 1 := w64 (by omega) (by omega)
  have w7 : IntKind.i64.wrap (a + (b - a) / 4 * 2 + 1) = a + (b - a) / 4 * 2 + 1 := w64 (by omega) (by omega)
  obtain ⟨m, hm, m1, m2⟩ := np_of (n := b - a) (by omega) (by omega)
  simp only [w1, w3, w4, w5, w6]
  rw [if_pos (by omega), hm]
  simp only [Option.bind_some]
  exact Iter_total (f := G.slices_breakPatternsCmpFunc_index_entry_v0_index_New_1_l1 a b m)
    (fun k s => ∃ (i : Int) (l1 : List T) (r : Int), s = (i, l1, r) ∧ k = (a + (b - a) / 4 * 2 + 2 - i).toNat ∧ a ≤ i ∧ Sws a b l l1)
    (fun l' => Sws a b l l') (by
      rintro k s ⟨i, l1, r, rfl, rfl, h1, h2⟩
      have hl := h2.len
      unfold G.slices_breakPatternsCmpFunc_index_entry_v0_index_New_1_l1
      simp only [w1, w3, w4, w5, w7]
      by_cases hi : i ≤ a + (b - a) / 4 * 2 + 1
      · rw [if_pos hi]
        obtain ⟨y, hy⟩ : ∃ y, G.slices_xorshift_Next r = some y := ⟨_, rfl⟩
        rw [hy]
        simp only [Option.bind_some]
        have wu : IntKind.u64.wrap (m - 1) = m - 1 := by simp only [IntKind.wrap, IntKind.bits, IntKind.signed]; simp; omega
        rw [wu]
        obtain ⟨q1, q2⟩ := band_le (x := y.1) (m := m - 1) (by omega) (by omega)
        generalize band .u64 y.1 (m - 1) = z at q1 q2
        have wz : IntKind.i64.wrap z = z := w64 (by omega) (by omega)
        have wz2 : IntKind.i64.wrap (z - (b - a)) = z - (b - a) := w64 (by omega) (by omega)
        rw [wz, wz2]
        obtain ⟨v, hv, v1, v2⟩ : ∃ v, (if z ≥ b - a then some (z - (b - a)) else some z) = some v ∧ 0 ≤ v ∧ v < b - a := by
          by_cases h : z ≥ b - a
          · exact ⟨_, if_pos h, by omega, by omega⟩
          · exact ⟨_, if_neg h, by omega, by omega⟩
        rw [hv]
        simp only [Option.bind_some]
        have w8 : IntKind.i64.wrap (a + v) = a + v := w64 (by omega) (by omega)
        have w9 : IntKind.i64.wrap (i + 1) = i + 1 := w64 (by omega) (by omega)
        have e1 : idx l1 (a + v) = some (cz l1 (a + v)) := idc (by omega) (by omega)
        have e2 : idx l1 i = some (cz l1 i) := idc (by omega) (by omega)
        have e3 : idx (l1.set i.toNat (cz l1 (a + v))) (a + v) = some _ := idc (by omega) (by rw [List.length_set]; omega)
        simp only [w8, w9, e1, e2, e3, Option.bind_some]
        exact .inl ⟨_, _, rfl, by omega, i + 1, sz l1 i (a + v), y.2, rfl, rfl, by omega, h2.step ⟨by omega, by omega⟩ ⟨by omega, by omega⟩ ⟨by omega, by omega⟩ ⟨by omega, by omega⟩⟩
      · rw [if_neg hi]
        exact .inr ⟨_, rfl, h2⟩) _ _ ⟨_, l, _, rfl, rfl, by omega, .refl⟩
theorem ord2_of {i j s : Int} (hi : 0 ≤ i ∧ i < (l.length : Int)) (hj : 0 ≤ j ∧ j < (l.length : Int)) : ∃ x y s', G.slices_order2CmpFunc_index_entry_v0_index_New_1 l i j s = some (x, y, s') ∧ (x = i ∧ y = j ∨ x = j ∧ y = i) := by
  unfold G.slices_order2CmpFunc_index_entry_v0_index_New_1
  rw [idc hj.1 hj.2, idc hi.1 hi.2]
  simp only [Option.bind_some, cmp_of]
  split
  · exact ⟨_, _, _, rfl, .inr ⟨rfl, rfl⟩⟩
  · exact ⟨_, _, _, rfl, .inl ⟨rfl, rfl⟩⟩
theorem med_of {i j k s : Int} (hi : 0 ≤ i ∧ i < (l.length : Int)) (hj : 0 ≤ j ∧ j < (l.length : Int)) (hk : 0 ≤ k ∧ k < (l.length : Int)) : ∃ x s', G.slices_medianCmpFunc_index_entry_v0_index_New_1 l i j k s = some (x, s') ∧ (x = i ∨ x = j ∨ x = k) := by
  unfold G.slices_medianCmpFunc_index_entry_v0_index_New_1
  obtain ⟨x1, y1, s1, e1, h1⟩ := ord2_of (l := l) (s := s) hi hj
  rw [e1]
  simp only [Option.bind_some]
  obtain ⟨x2, y2, s2, e2, h2⟩ := ord2_of (l := l) (i := y1) (j := k) (s := s1) (by omega) hk
  rw [e2]
  simp only [Option.bind_some]
  obtain ⟨x3, y3, s3, e3, h3⟩ := ord2_of (l := l) (i := x1) (j := x2) (s := s2) (by omega) (by omega)
  rw [e3]
  exact ⟨_, _, rfl, by simp only; omega⟩
theorem piv_of (ha : 0 ≤ a) (hab : a + 8 ≤ b) (hb : b ≤ (l.length : Int)) (hn : l.length < 50) : ∃ p h, G.slices_choosePivotCmpFunc_index_entry_v0_index_New_1 l a b = some (p, h) ∧ a ≤ p ∧ p < b := by
  unfold G.slices_choosePivotCmpFunc_index_entry_v0_index_New_1
  have w1 : IntKind.i64.wrap (b - a) = b - a := w64 (by omega) (by omega)
  have w3 : IntKind.i64.wrap (Int.tdiv (b - a) 4) = (b - a) / 4 := by rw [Int.tdiv_eq_ediv_of_nonneg (by omega), w64 (by omega) (by omega)]
  have w4 : IntKind.i64.wrap ((b - a) / 4 * 1) = (b - a) / 4 * 1 := w64 (by omega) (by omega)
  have w5 : IntKind.i64.wrap ((b - a) / 4 * 2) = (b - a) / 4 * 2 := w64 (by omega) (by omega)
  have w6 : IntKind.i64.wrap ((b - a) / 4 * 3) = (b - a) / 4 * 3 := w64 (by omega) (by omega)
  have w7 : IntKind.i64.wrap (a + (b - a) / 4 * 1) = a + (b - a) / 4 * 1 := w64 (by omega) (by omega)
  have w8 : IntKind.i64.wrap (a + (b - a) / 4 * 2) = a + (b - a) / 4 * 2 := w64 (by omega) (by omega)
  have w9 : IntKind.i64.wrap (a + (b - a) / 4 * 3) = a + (b - a) / 4 * 3 := w64 (by omega) (by omega)
  simp only [w1, w3, w4, w5, w6, w7, w8, w9]
  rw [if_pos (by omega), if_neg (by omega)]
  simp only [Option.bind_some]
  obtain ⟨x, s, e, h⟩ := med_of (l := l) (i := a + (b - a) / 4 * 1) (j := a + (b - a) / 4 * 2) (k := a + (b - a) / 4 * 3) (s := 0) (by omega) (by omega) (by omega)
  rw [e]
  simp only [Option.bind_some]
  have hx : a ≤ x ∧ x < b := by omega
  split
  · exact ⟨_, _, rfl, hx⟩
  · split
    · exact ⟨_, _, rfl, hx⟩
    · exact ⟨_, _, rfl, hx⟩
theorem rev_of (ha : 0 ≤ a) (hb : b ≤ (l.length : Int)) (hn : l.length < 50) (hab : a ≤ b) : ∃ l', G.slices_reverseRangeCmpFunc_index_entry_v0_index_New_1 l a b = some l' ∧ Sws a b l l' := by
  unfold G.slices_reverseRangeCmpFunc_index_entry_v0_index_New_1
  rw [w64 (by omega) (by omega)]
  exact Iter_total (f := G.slices_reverseRangeCmpFunc_index_entry_v0_index_New_1_l1)
    (fun k s => ∃ (i j : Int) (l1 : List T), s = (i, j, l1) ∧ k = (j - i + 1).toNat ∧ a ≤ i ∧ j < b ∧ Sws a b l l1)
    (fun l' => Sws a b l l') (by
      rintro k s ⟨i, j, l1, rfl, rfl, h1, h2, h3⟩
      have hl := h3.len
      unfold G.slices_reverseRangeCmpFunc_index_entry_v0_index_New_1_l1
      simp only
      by_cases hi : i < j
      · have w8 : IntKind.i64.wrap (j - 1) = j - 1 := w64 (by omega) (by omega)
        have w9 : IntKind.i64.wrap (i + 1) = i + 1 := w64 (by omega) (by omega)
        have e1 : idx l1 j = some (cz l1 j) := idc (by omega) (by omega)
        have e2 : idx l1 i = some (cz l1 i) := idc (by omega) (by omega)
        have e3 : idx (l1.set i.toNat (cz l1 j)) j = some _ := idc (by omega) (by rw [List.length_set]; omega)
        simp only [if_pos hi, w8, w9, e1, e2, e3, Option.bind_some]
        exact .inl ⟨_, _, rfl, by omega, i + 1, j - 1, sz l1 i j, rfl, rfl, by omega, by omega, h3.step ⟨by omega, by omega⟩ ⟨by omega, by omega⟩ ⟨by omega, by omega⟩ ⟨by omega, by omega⟩⟩
      · rw [if_neg hi]
        exact .inr ⟨_, rfl, h3⟩) _ _ ⟨a, b - 1, l, rfl, rfl, Int.le_refl _, by omega, .refl⟩
/-- A search upwards. -/
theorem up_of {f : Int → Option (Int ⊕ Int)} (P : Int → Bool) {i j : Int} (hj : j ≤ 1000) (h0 : 0 ≤ i) (hij : i ≤ j + 1) (hf : ∀ k, i ≤ k → k ≤ j + 1 → f k = some (if k ≤ j ∧ P k = true then .inl (k + 1) else .inr k)) :
    ∃ r, Iter f i = some r ∧ i ≤ r ∧ r ≤ j + 1 ∧ (∀ k, i ≤ k → k < r → P k = true) ∧ (r ≤ j → P r = false) :=
  Iter_total (f := f) (fun m s => m = (j + 1 - s).toNat ∧ i ≤ s ∧ s ≤ j + 1 ∧ ∀ k, i ≤ k → k < s → P k = true) _ (by
    rintro m s ⟨rfl, h1, h2, h3⟩
    rw [hf s h1 h2]
    by_cases h : s ≤ j ∧ P s = true
    · rw [if_pos h]
      exact .inl ⟨_, _, rfl, by omega, rfl, by omega, by omega, fun k k1 k2 => by
        by_cases e : k = s
        · rw [e]; exact h.2
        · exact h3 k k1 (by omega)⟩
    · rw [if_neg h]
      exact .inr ⟨_, rfl, h1, h2, h3, fun hs => by rw [Bool.eq_false_iff]; exact fun hp => h ⟨hs, hp⟩⟩) _ _ ⟨rfl, Int.le_refl _, hij, fun k k1 k2 => by omega⟩
/-- A search downwards. -/
theorem down_of {f : Int → Option (Int ⊕ Int)} (P : Int → Bool) {i j : Int} (h0 : 0 ≤ i) (hij : i ≤ j + 1) (hf : ∀ k, i ≤ k + 1 → k ≤ j → f k = some (if i ≤ k ∧ P k = true then .inl (k - 1) else .inr k)) :
    ∃ r, Iter f j = some r ∧ i ≤ r + 1 ∧ r ≤ j ∧ (∀ k, r < k → k ≤ j → P k = true) ∧ (i ≤ r → P r = false) :=
  Iter_total (f := f) (fun m s => m = (s + 1 - i).toNat ∧ i ≤ s + 1 ∧ s ≤ j ∧ ∀ k, s < k → k ≤ j → P k = true) _ (by
    rintro m s ⟨rfl, h1, h2, h3⟩
    rw [hf s h1 h2]
    by_cases h : i ≤ s ∧ P s = true
    · rw [if_pos h]
      exact .inl ⟨_, _, rfl, by omega, rfl, by omega, by omega, fun k k1 k2 => by
        by_cases e : k = s
        · rw [e]; exact h.2
        · exact h3 k (by omega) k2⟩
    · rw [if_neg h]
      exact .inr ⟨_, rfl, h1, h2, h3, fun hs => by rw [Bool.eq_false_iff]; exact fun hp => h ⟨hs, hp⟩⟩) _ _ ⟨rfl, hij, Int.le_refl _, fun k k1 k2 => by omega⟩
theorem ifb {β : Type} (c : Prop) [Decidable c] (P : Bool) (x y : β) : ((if c then some P else some false : Option Bool).bind fun v => if v = true then some x else some y) = some (if c ∧ P = true then x else y) := by
  by_cases h : c
  · rw [if_pos h]
    simp only [Option.bind_some]
    by_cases hp : P = true
    · rw [if_pos hp, if_pos ⟨h, hp⟩]
    · rw [if_neg hp, if_neg (fun k => hp k.2)]
  · rw [if_neg h, if_neg (fun k => h k.1)]; rfl
theorem ifb2 {β : Type} {c : Prop} [Decidable c] {F : Option Bool} (P : Bool) (x y : β) (hF : c → F = some P) : ((if c then F else some false : Option Bool).bind fun v => if v = true then some x else some y) = some (if c ∧ P = true then x else y) := by
  rw [← ifb c P x y]
  congr 1
  by_cases h : c
  · rw [if_pos h, if_pos h, hF h]
  · rw [if_neg h, if_neg h]
theorem pis_of (ha : 0 ≤ a) (hab : a + 1 ≤ b) (hb : b ≤ (l.length : Int)) (hn : l.length < 50) : ∃ r, G.slices_partialInsertionSortCmpFunc_index_entry_v0_index_New_1 l a b = some (r, l) ∧ (r = true → Srt l a b) := by
  unfold G.slices_partialInsertionSortCmpFunc_index_entry_v0_index_New_1
  rw [w64 (by omega) (by omega)]
  obtain ⟨r, e, r1, r2, r3, r4⟩ := up_of (f := G.slices_partialInsertionSortCmpFunc_index_entry_v0_index_New_1_l2 b (a + 1, 0, l)) (fun k => !decide (key (cz l k) < key (cz l (k - 1)))) (i := a + 1) (j := b - 1) (by omega) (by omega) (by omega) (fun k k1 k2 => by
    unfold G.slices_partialInsertionSortCmpFunc_index_entry_v0_index_New_1_l2
    simp only
    rw [w64 (x := k - 1) (by omega) (by omega), w64 (x := k + 1) (by omega) (by omega)]
    refine (ifb2 (!decide (key (cz l k) < key (cz l (k - 1)))) _ _ (fun h => ?_)).trans ?_
    · rw [idc (by omega) (by omega), idc (by omega) (by omega)]
      simp only [Option.bind_some, cmp_of, cm_lt]
    · congr 1
      by_cases h : k < b
      · simp only [h, show k ≤ b - 1 by omega]
      · simp only [h, show ¬ k ≤ b - 1 by omega])
  have hs : Srt l a r := by
    have key1 : ∀ (n : Nat) (p q : Int), q - p ≤ n → a ≤ p → p < q → q < r → key (cz l p) ≤ key (cz l q) := fun n => by
      induction n with
      | zero => intro p q _ _ _ _; omega
      | succ n ih =>
        intro p q h1 h2 h3 h4
        have := r3 q (by omega) h4
        simp only [Bool.not_eq_true', decide_eq_false_iff_not] at this
        by_cases e : p = q - 1
        · subst e; omega
        · have := ih p (q - 1) (by omega) h2 (by omega) (by omega)
          omega
    exact fun p q h1 h2 h3 => key1 (q - p).toNat p q (by omega) h1 h2 h3
  by_cases h : r = b
  · refine ⟨true, Iter_inr ?_, fun _ => h ▸ hs⟩
    unfold G.slices_partialInsertionSortCmpFunc_index_entry_v0_index_New_1_l1
    simp only
    rw [if_pos (by omega), e]
    simp only [Option.bind_some]
    rw [if_pos h]
  · refine ⟨false, Iter_inr ?_, fun h => by cases h⟩
    unfold G.slices_partialInsertionSortCmpFunc_index_entry_v0_index_New_1_l1
    simp only
    rw [if_pos (by omega), e]
    simp only [Option.bind_some]
    rw [if_neg h, w64 (by omega) (by omega), if_pos (by omega)]
/-- What a partition gives. -/
structure Pt (a b m : Int) (l : List T) : Prop where
  lo : ∀ k, a ≤ k → k < m → key (cz l k) ≤ key (cz l m)
  hi : ∀ k, m < k → k < b → key (cz l m) ≤ key (cz l k)
theorem part_end {L : List T} {j : Int} (ha : 0 ≤ a) (haj : a ≤ j) (hjb : j < b) (hb : b ≤ (L.length : Int)) (h1 : ∀ k, a + 1 ≤ k → k < j + 1 → key (cz L k) ≤ key (cz L a)) (h2 : ∀ k, j < k → k < b → key (cz L a) ≤ key (cz L k)) : Pt a b j (sz L j a) := by
  have c := fun (k : Int) (hk : 0 ≤ k) => cz_sz (l := L) (i := j) (j := a) ⟨by omega, by omega⟩ ⟨by omega, by omega⟩ hk
  refine ⟨fun k k1 k2 => ?_, fun k k1 k2 => ?_⟩
  · rw [c k (by omega), c j (by omega), if_neg (by omega), if_pos rfl]
    split
    · exact h1 j (by omega) (by omega)
    · exact h1 k (by omega) (by omega)
  · have cj : cz (sz L j a) j = cz L a := by rw [c j (by omega), if_pos rfl]
    rw [cj, c k (by omega), if_neg (by omega), if_neg (by omega)]
    exact h2 k k1 k2
theorem part_of {p : Int} (ha : 0 ≤ a) (hap : a ≤ p) (hpb : p < b) (hb : b ≤ (l.length : Int)) (hn : l.length < 50) :
    ∃ m fl l', G.slices_partitionCmpFunc_index_entry_v0_index_New_1 l a b p = some (m, fl, l') ∧ Sws a b l l' ∧ a ≤ m ∧ m < b ∧ Pt a b m l' := by
  unfold G.slices_partitionCmpFunc_index_entry_v0_index_New_1
  have w1 : IntKind.i64.wrap (a + 1) = a + 1 := w64 (by omega) (by omega)
  have w2 : IntKind.i64.wrap (b - 1) = b - 1 := w64 (by omega) (by omega)
  have e1 : idx l p = some (cz l p) := idc (by omega) (by omega)
  have e2 : idx l a = some (cz l a) := idc (by omega) (by omega)
  have e3 : idx (l.set a.toNat (cz l p)) p = some _ := idc (by omega) (by rw [List.length_set]; omega)
  simp only [w1, w2, e1, e2, e3, Option.bind_some]
  have S0 : Sws a b l (sz l a p) := Sws.one a p ⟨by omega, by omega⟩ ⟨by omega, by omega⟩ ha hb
  have hL : (l.set a.toNat (cz l p)).set p.toNat (cz l a) = sz l a p := rfl
  rw [hL]
  have len0 := S0.len
  obtain ⟨i, ei, i1, i2, i3, i4⟩ := up_of (f := G.slices_partitionCmpFunc_index_entry_v0_index_New_1_l1 l a b p (cz l p) (cz l a)) (fun k => decide (key (cz (sz l a p) k) < key (cz (sz l a p) a))) (i := a + 1) (j := b - 1) (by omega) (by omega) (by omega) (fun k k1 k2 => by
    unfold G.slices_partitionCmpFunc_index_entry_v0_index_New_1_l1
    rw [hL, w2, w64 (x := k + 1) (by omega) (by omega)]
    exact ifb2 (decide (key (cz (sz l a p) k) < key (cz (sz l a p) a))) _ _ (fun h => by
      rw [idc (by omega) (by omega), idc (by omega) (by omega)]
      simp only [Option.bind_some, cmp_of, cm_lt]))
  rw [ei]
  simp only [Option.bind_some]
  obtain ⟨j, ej, j1, j2, j3, j4⟩ := down_of (f := G.slices_partitionCmpFunc_index_entry_v0_index_New_1_l2 l a p (cz l p) (cz l a) i) (fun k => !decide (key (cz (sz l a p) k) < key (cz (sz l a p) a))) (i := i) (j := b - 1) (by omega) (by omega) (fun k k1 k2 => by
    unfold G.slices_partitionCmpFunc_index_entry_v0_index_New_1_l2
    rw [hL, w64 (by omega) (by omega)]
    exact ifb2 (!decide (key (cz (sz l a p) k) < key (cz (sz l a p) a))) _ _ (fun h => by
      rw [idc (by omega) (by omega), idc (by omega) (by omega)]
      simp only [Option.bind_some, cmp_of, cm_lt]))
  rw [ej]
  simp only [Option.bind_some]
  have up0 : ∀ k, a + 1 ≤ k → k < i → key (cz (sz l a p) k) ≤ key (cz (sz l a p) a) := fun k k1 k2 => by
    have := of_decide_eq_true (i3 k k1 k2); omega
  have dn0 : ∀ k, j < k → k < b → key (cz (sz l a p) a) ≤ key (cz (sz l a p) k) := fun k k1 k2 => by
    have := j3 k k1 (by omega)
    simp only [Bool.not_eq_true', decide_eq_false_iff_not] at this; omega
  generalize sz l a p = L at *
  by_cases hij : i > j
  · rw [if_pos hij]
    have e4 : idx L a = some (cz L a) := idc (by omega) (by omega)
    have e5 : idx L j = some (cz L j) := idc (by omega) (by omega)
    have e6 : idx (L.set j.toNat (cz L a)) a = some _ := idc (by omega) (by rw [List.length_set]; omega)
    simp only [e4, e5, e6, Option.bind_some]
    exact ⟨j, true, sz L j a, rfl, S0.trans (Sws.one j a ⟨by omega, by omega⟩ ⟨by omega, by omega⟩ ha (by omega)), by omega, by omega, part_end ha (by omega) (by omega) (by omega) (fun k k1 k2 => up0 k k1 (by omega)) dn0⟩
  · rw [if_neg hij]
    have hne : i ≠ j := fun e => by
      have h1 := i4 (by omega)
      have h2 := j4 (by omega)
      rw [e] at h1
      simp only [h1] at h2; cases h2
    have e4 : idx L j = some (cz L j) := idc (by omega) (by omega)
    have e5 : idx L i = some (cz L i) := idc (by omega) (by omega)
    have e6 : idx (L.set i.toNat (cz L j)) j = some _ := idc (by omega) (by rw [List.length_set]; omega)
    have w3 : IntKind.i64.wrap (i + 1) = i + 1 := w64 (by omega) (by omega)
    have w4 : IntKind.i64.wrap (j - 1) = j - 1 := w64 (by omega) (by omega)
    simp only [e4, e5, e6, w3, w4, Option.bind_some]
    have hL2 : (L.set i.toNat (cz L j)).set j.toNat (cz L i) = sz L i j := rfl
    rw [hL2]
    have ai := of_decide_eq_false (i4 (by omega))
    have aj := j4 (by omega)
    simp only [Bool.not_eq_false', decide_eq_true_eq] at aj
    have step : ∀ {L : List T} {i j : Int}, L.length = l.length → a + 1 ≤ i → i < j → j < b → ¬ key (cz L i) < key (cz L a) → key (cz L j) < key (cz L a) → (∀ k, a + 1 ≤ k → k < i → key (cz L k) ≤ key (cz L a)) → (∀ k, j < k → k < b → key (cz L a) ≤ key (cz L k)) →
        (∀ k, a + 1 ≤ k → k < i + 1 → key (cz (sz L i j) k) ≤ key (cz (sz L i j) a)) ∧ (∀ k, j - 1 < k → k < b → key (cz (sz L i j) a) ≤ key (cz (sz L i j) k)) := fun {L i j} q0 q1 q2 q3 q4 q5 q6 q7 => by
      have c := fun (k : Int) (hk : 0 ≤ k) => cz_sz (l := L) (i := i) (j := j) ⟨by omega, by omega⟩ ⟨by omega, by omega⟩ hk
      have ca := c a ha
      rw [if_neg (by omega), if_neg (by omega)] at ca
      rw [ca]
      refine ⟨fun k k1 k2 => ?_, fun k k1 k2 => ?_⟩
      · rw [c k (by omega)]
        split
        · omega
        · rw [if_neg (by omega)]; exact q6 k k1 (by omega)
      · rw [c k (by omega)]
        rw [if_neg (by omega)]
        split
        · omega
        · exact q7 k (by omega) k2
    obtain ⟨r, er, r1, r2, r3, r4, r5⟩ := Iter_total (f := G.slices_partitionCmpFunc_index_entry_v0_index_New_1_l3 a)
      (fun m s => ∃ (i j : Int) (L : List T), s = (i, j, L) ∧ m = (j + 1 - i).toNat ∧ a + 1 ≤ i ∧ j < b ∧ i ≤ j + 1 ∧ Sws a b l L ∧ (∀ k, a + 1 ≤ k → k < i → key (cz L k) ≤ key (cz L a)) ∧ (∀ k, j < k → k < b → key (cz L a) ≤ key (cz L k)))
      (fun r => Sws a b l r.2 ∧ a ≤ r.1 ∧ r.1 < b ∧ (∀ k, a + 1 ≤ k → k < r.1 + 1 → key (cz r.2 k) ≤ key (cz r.2 a)) ∧ (∀ k, r.1 < k → k < b → key (cz r.2 a) ≤ key (cz r.2 k))) (by
        rintro m s ⟨i, j, L, rfl, rfl, s1, s2, s3, s4, s5, s6⟩
        have hl := s4.len
        unfold G.slices_partitionCmpFunc_index_entry_v0_index_New_1_l3
        simp only
        obtain ⟨i', ei, i1, i2, i3, i4⟩ := up_of (f := G.slices_partitionCmpFunc_index_entry_v0_index_New_1_l4 a (i, j, L)) (fun k => decide (key (cz L k) < key (cz L a))) (i := i) (j := j) (by omega) (by omega) (by omega) (fun k k1 k2 => by
          unfold G.slices_partitionCmpFunc_index_entry_v0_index_New_1_l4
          simp only
          rw [w64 (by omega) (by omega)]
          exact ifb2 (decide (key (cz L k) < key (cz L a))) _ _ (fun h => by
            rw [idc (by omega) (by omega), idc (by omega) (by omega)]
            simp only [Option.bind_some, cmp_of, cm_lt]))
        rw [ei]
        simp only [Option.bind_some]
        obtain ⟨j', ej, j1, j2, j3, j4⟩ := down_of (f := G.slices_partitionCmpFunc_index_entry_v0_index_New_1_l5 a (i, j, L) i') (fun k => !decide (key (cz L k) < key (cz L a))) (i := i') (j := j) (by omega) (by omega) (fun k k1 k2 => by
          unfold G.slices_partitionCmpFunc_index_entry_v0_index_New_1_l5
          simp only
          rw [w64 (by omega) (by omega)]
          exact ifb2 (!decide (key (cz L k) < key (cz L a))) _ _ (fun h => by
            rw [idc (by omega) (by omega), idc (by omega) (by omega)]
            simp only [Option.bind_some, cmp_of, cm_lt]))
        rw [ej]
        simp only [Option.bind_some]
        have up1 : ∀ k, a + 1 ≤ k → k < i' → key (cz L k) ≤ key (cz L a) := fun k k1 k2 => by
          by_cases h : k < i
          · exact s5 k k1 h
          · have := of_decide_eq_true (i3 k (by omega) k2); omega
        have dn1 : ∀ k, j' < k → k < b → key (cz L a) ≤ key (cz L k) := fun k k1 k2 => by
          by_cases h : j < k
          · exact s6 k h k2
          · have := j3 k k1 (by omega)
            simp only [Bool.not_eq_true', decide_eq_false_iff_not] at this; omega
        by_cases hij : i' > j'
        · rw [if_pos hij]
          exact .inr ⟨_, rfl, s4, by simp only; omega, by simp only; omega, fun k k1 k2 => up1 k k1 (by simp only at k2; omega), dn1⟩
        · rw [if_neg hij]
          have ai := of_decide_eq_false (i4 (by omega))
          have aj := j4 (by omega)
          simp only [Bool.not_eq_false', decide_eq_true_eq] at aj
          have hne : i' ≠ j' := fun e => by subst e; exact ai aj
          have e4 : idx L j' = some (cz L j') := idc (by omega) (by omega)
          have e5 : idx L i' = some (cz L i') := idc (by omega) (by omega)
          have e6 : idx (L.set i'.toNat (cz L j')) j' = some _ := idc (by omega) (by rw [List.length_set]; omega)
          have w3 : IntKind.i64.wrap (i' + 1) = i' + 1 := w64 (by omega) (by omega)
          have w4 : IntKind.i64.wrap (j' - 1) = j' - 1 := w64 (by omega) (by omega)
          simp only [e4, e5, e6, w3, w4, Option.bind_some]
          obtain ⟨t1, t2⟩ := step hl (by omega) (by omega) (by omega) ai aj up1 dn1
          exact .inl ⟨_, _, rfl, by omega, i' + 1, j' - 1, sz L i' j', rfl, rfl, by omega, by omega, by omega, s4.step ⟨by omega, by omega⟩ ⟨by omega, by omega⟩ ⟨by omega, by omega⟩ ⟨by omega, by omega⟩, t1, t2⟩) _ _ (by
        obtain ⟨t1, t2⟩ := step (L := L) (i := i) (j := j) (by omega) (by omega) (by omega) (by omega) ai aj up0 dn0
        exact ⟨i + 1, j - 1, sz L i j, rfl, rfl, by omega, by omega, by omega, S0.step ⟨by omega, by omega⟩ ⟨by omega, by omega⟩ ⟨by omega, by omega⟩ ⟨by omega, by omega⟩, t1, t2⟩)
    rw [er]
    obtain ⟨j2, L2⟩ := r
    simp only at r1 r2 r3 r4 r5
    have hl2 := r1.len
    have e4 : idx L2 a = some (cz L2 a) := idc (by omega) (by omega)
    have e5 : idx L2 j2 = some (cz L2 j2) := idc (by omega) (by omega)
    have e6 : idx (L2.set j2.toNat (cz L2 a)) a = some _ := idc (by omega) (by rw [List.length_set]; omega)
    simp only [e4, e5, e6, Option.bind_some]
    exact ⟨j2, false, sz L2 j2 a, rfl, r1.step ⟨by omega, by omega⟩ ⟨by omega, by omega⟩ ⟨by omega, by omega⟩ ⟨by omega, by omega⟩, r2, r3, part_end ha (by omega) (by omega) (by omega) r4 r5⟩
theorem pEq_of {p : Int} (ha : 0 ≤ a) (hap : a ≤ p) (hpb : p < b) (hb : b ≤ (l.length : Int)) (hn : l.length < 50) :
    ∃ m l', G.slices_partitionEqualCmpFunc_index_entry_v0_index_New_1 l a b p = some (m, l') ∧ Sws a b l l' ∧ a < m ∧ m ≤ b ∧ ∀ k, a ≤ k → k < m → key (cz l' k) ≤ key (cz l p) := by
  unfold G.slices_partitionEqualCmpFunc_index_entry_v0_index_New_1
  have w1 : IntKind.i64.wrap (a + 1) = a + 1 := w64 (by omega) (by omega)
  have w2 : IntKind.i64.wrap (b - 1) = b - 1 := w64 (by omega) (by omega)
  have e1 : idx l p = some (cz l p) := idc (by omega) (by omega)
  have e2 : idx l a = some (cz l a) := idc (by omega) (by omega)
  have e3 : idx (l.set a.toNat (cz l p)) p = some _ := idc (by omega) (by rw [List.length_set]; omega)
  simp only [w1, w2, e1, e2, e3, Option.bind_some]
  have S0 : Sws a b l (sz l a p) := Sws.one a p ⟨by omega, by omega⟩ ⟨by omega, by omega⟩ ha hb
  have hpv : cz (sz l a p) a = cz l p := by rw [cz_sz ⟨by omega, by omega⟩ ⟨by omega, by omega⟩ ha, if_pos rfl]
  obtain ⟨r, er, r1, r2, r3, r4⟩ := Iter_total (f := G.slices_partitionEqualCmpFunc_index_entry_v0_index_New_1_l1 a)
    (fun m s => ∃ (i j : Int) (L : List T), s = (i, j, L) ∧ m = (j + 1 - i).toNat ∧ a + 1 ≤ i ∧ j < b ∧ i ≤ j + 1 ∧ Sws a b l L ∧ cz L a = cz l p ∧ (∀ k, a + 1 ≤ k → k < i → key (cz L k) ≤ key (cz l p)))
    (fun r => Sws a b l r.2 ∧ a < r.1 ∧ r.1 ≤ b ∧ ∀ k, a ≤ k → k < r.1 → key (cz r.2 k) ≤ key (cz l p)) (by
      rintro m s ⟨i, j, L, rfl, rfl, s1, s2, s3, s4, s5, s6⟩
      have hl := s4.len
      unfold G.slices_partitionEqualCmpFunc_index_entry_v0_index_New_1_l1
      simp only
      obtain ⟨i', ei, i1, i2, i3, i4⟩ := up_of (f := G.slices_partitionEqualCmpFunc_index_entry_v0_index_New_1_l2 a (i, j, L)) (fun k => !decide (key (cz L a) < key (cz L k))) (i := i) (j := j) (by omega) (by omega) (by omega) (fun k k1 k2 => by
        unfold G.slices_partitionEqualCmpFunc_index_entry_v0_index_New_1_l2
        simp only
        rw [w64 (by omega) (by omega)]
        exact ifb2 (!decide (key (cz L a) < key (cz L k))) _ _ (fun h => by
          rw [idc (by omega) (by omega), idc (by omega) (by omega)]
          simp only [Option.bind_some, cmp_of, cm_lt]))
      rw [ei]
      simp only [Option.bind_some]
      obtain ⟨j', ej, j1, j2, j3, j4⟩ := down_of (f := G.slices_partitionEqualCmpFunc_index_entry_v0_index_New_1_l3 a (i, j, L) i') (fun k => decide (key (cz L a) < key (cz L k))) (i := i') (j := j) (by omega) (by omega) (fun k k1 k2 => by
        unfold G.slices_partitionEqualCmpFunc_index_entry_v0_index_New_1_l3
        simp only
        rw [w64 (by omega) (by omega)]
        exact ifb2 (decide (key (cz L a) < key (cz L k))) _ _ (fun h => by
          rw [idc (by omega) (by omega), idc (by omega) (by omega)]
          simp only [Option.bind_some, cmp_of, cm_lt]))
      rw [ej]
      simp only [Option.bind_some]
      have up1 : ∀ k, a + 1 ≤ k → k < i' → key (cz L k) ≤ key (cz l p) := fun k k1 k2 => by
        by_cases h : k < i
        · exact s6 k k1 h
        · have := i3 k (by omega) k2
          simp only [Bool.not_eq_true', decide_eq_false_iff_not, s5] at this; omega
      by_cases hij : i' > j'
      · rw [if_pos hij]
        refine .inr ⟨_, rfl, s4, by simp only; omega, by simp only; omega, fun k k1 k2 => ?_⟩
        by_cases e : k = a
        · subst e; simp only; rw [s5]; exact Int.le_refl _
        · exact up1 k (by omega) k2
      · rw [if_neg hij]
        have ai := i4 (by omega)
        simp only [Bool.not_eq_false', decide_eq_true_eq] at ai
        have aj := of_decide_eq_false (j4 (by omega))
        have hne : i' ≠ j' := fun e => by subst e; exact aj ai
        have e4 : idx L j' = some (cz L j') := idc (by omega) (by omega)
        have e5 : idx L i' = some (cz L i') := idc (by omega) (by omega)
        have e6 : idx (L.set i'.toNat (cz L j')) j' = some _ := idc (by omega) (by rw [List.length_set]; omega)
        have w3 : IntKind.i64.wrap (i' + 1) = i' + 1 := w64 (by omega) (by omega)
        have w4 : IntKind.i64.wrap (j' - 1) = j' - 1 := w64 (by omega) (by omega)
        simp only [e4, e5, e6, w3, w4, Option.bind_some]
        have c := fun (k : Int) (hk : 0 ≤ k) => cz_sz (l := L) (i := i') (j := j') ⟨by omega, by omega⟩ ⟨by omega, by omega⟩ hk
        refine .inl ⟨_, _, rfl, by omega, i' + 1, j' - 1, sz L i' j', rfl, rfl, by omega, by omega, by omega, s4.step ⟨by omega, by omega⟩ ⟨by omega, by omega⟩ ⟨by omega, by omega⟩ ⟨by omega, by omega⟩, ?_, fun k k1 k2 => ?_⟩
        · rw [c a ha, if_neg (by omega), if_neg (by omega), s5]
        · rw [c k (by omega)]
          split
          · rw [s5] at aj; omega
          · rw [if_neg (by omega)]; exact up1 k k1 (by omega)) _ _ ⟨a + 1, b - 1, sz l a p, rfl, rfl, by omega, by omega, by omega, S0, hpv, fun k k1 k2 => by omega⟩
  exact ⟨r.1, r.2, er, r1, r2, r3, r4⟩
end QI
end Go.Proofs.Ytnbipipegmoigaa
