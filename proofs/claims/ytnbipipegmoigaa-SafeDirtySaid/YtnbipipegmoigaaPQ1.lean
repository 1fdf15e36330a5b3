/- The sort of slices.SortFunc, for lists of less than 50. No program in sight. -/
import Derived.Test.YtnbipipegmoigaaPQ0
import Derived.Test.YtnbipipegmoigaaEG
namespace Go.Proofs.Ytnbipipegmoigaa
open G
namespace QI
abbrev T := G.index_entry
def key (x : T) : Int := x.extent.off
def cm (x y : T) : Int := if key x < key y then -1 else if key x > key y then 1 else 0
theorem cmp_of (x y : T) : G.index_New_1 x y = some (cm x y) := by
  unfold G.index_New_1 G.cmp_Compare_int G.cmp_isNaN_int
  unfold cm key
  simp only [Option.bind_some, bne_self_eq_false, Bool.false_eq_true, if_false]
  split
  · rfl
  · split <;> rfl
theorem cm_lt (x y : T) : (cm x y < 0) = (key x < key y) := by
  unfold cm; apply propext; split
  · simp [*]
  · split <;> simp [*]
variable {l : List T} {a b : Int}
def Srt (l : List T) (a b : Int) : Prop := ∀ p q, a ≤ p → p < q → q < b → key (cz l p) ≤ key (cz l q)
theorem ins_in {i : Int} (ha : 0 ≤ a) (hai : a ≤ i) (hib : i < b) (hb : b ≤ (l.length : Int)) (hn : l.length ≤ 1000) (hs : Srt l a i) :
    ∃ l', Iter (G.slices_insertionSortCmpFunc_index_entry_v0_index_New_1_l2 a (i, l)) (i, l) = some (.inl (i + 1, l')) ∧ Sws a b l l' ∧ Srt l' a (i + 1) := by
  obtain ⟨r, h1, l', rfl, h2, h3⟩ := Iter_total (f := G.slices_insertionSortCmpFunc_index_entry_v0_index_New_1_l2 a (i, l))
    (fun m s => ∃ (j : Int) (l1 : List T), s = (j, l1) ∧ m = j.toNat ∧ a ≤ j ∧ j ≤ i ∧ Sws a b l l1 ∧ ∀ p q, a ≤ p → p < q → q ≤ i → q ≠ j → key (cz l1 p) ≤ key (cz l1 q))
    (fun r => ∃ l', r = .inl (i + 1, l') ∧ Sws a b l l' ∧ Srt l' a (i + 1)) (by
      rintro m s ⟨j, l1, rfl, rfl, h1, h2, h3, h4⟩
      have hl := h3.len
      have w1 : IntKind.i64.wrap (j - 1) = j - 1 := w64 (by omega) (by omega)
      have w2 : IntKind.i64.wrap (i + 1) = i + 1 := w64 (by omega) (by omega)
      unfold G.slices_insertionSortCmpFunc_index_entry_v0_index_New_1_l2
      simp only [w1, w2]
      by_cases hj : j > a
      · have e1 : idx l1 j = some (cz l1 j) := idc (by omega) (by omega)
        have e2 : idx l1 (j - 1) = some (cz l1 (j - 1)) := idc (by omega) (by omega)
        have e3 : idx (l1.set j.toNat (cz l1 (j - 1))) (j - 1) = some _ := idc (by omega) (by rw [List.length_set]; omega)
        simp only [if_pos hj, e1, e2, e3, cmp_of, Option.bind_some, cm_lt, decide_eq_true_eq]
        by_cases hc : key (cz l1 j) < key (cz l1 (j - 1))
        · rw [if_pos hc]
          refine .inl ⟨_, _, rfl, ?_, j - 1, sz l1 j (j - 1), rfl, rfl, by omega, by omega, h3.step ⟨by omega, by omega⟩ ⟨by omega, by omega⟩ ⟨by omega, by omega⟩ ⟨by omega, by omega⟩, fun p q hp hpq hq hne => ?_⟩
          · omega
          · have c := fun (k : Int) (hk : 0 ≤ k) => cz_sz (l := l1) (i := j) (j := j - 1) ⟨by omega, by omega⟩ ⟨by omega, by omega⟩ hk
            have A := h4 p q; have B := h4 (j - 1) q; have C := h4 j q; have D := h4 p (j - 1)
            rw [c p (by omega), c q (by omega)]
            repeat' split
            all_goals omega
        · rw [if_neg hc]
          refine .inr ⟨_, rfl, l1, rfl, h3, fun p q hp hpq hq => ?_⟩
          have A := h4 p q; have D := h4 p (j - 1)
          by_cases e : q = j
          · subst e
            by_cases e2 : p = q - 1
            · subst e2; omega
            · omega
          · omega
      · simp only [if_neg hj, Option.bind_some]
        rw [if_neg (by decide)]
        refine .inr ⟨_, rfl, l1, rfl, h3, fun p q hp hpq hq => h4 p q hp hpq (by omega) (by omega)⟩) i.toNat (i, l) ⟨i, l, rfl, rfl, hai, Int.le_refl _, .refl, fun p q hp hpq hq hne => hs p q hp hpq (by omega)⟩
  exact ⟨l', h1, h2, h3⟩
theorem ins_of (ha : 0 ≤ a) (hab : a ≤ b) (hb : b ≤ (l.length : Int)) (hn : l.length ≤ 1000) : ∃ l', G.slices_insertionSortCmpFunc_index_entry_v0_index_New_1 l a b = some l' ∧ Sws a b l l' ∧ Srt l' a b := by
  unfold G.slices_insertionSortCmpFunc_index_entry_v0_index_New_1
  rw [w64 (by omega) (by omega)]
  exact Iter_total (f := G.slices_insertionSortCmpFunc_index_entry_v0_index_New_1_l1 a b)
    (fun m s => ∃ (i : Int) (l1 : List T), s = (i, l1) ∧ m = (b - i).toNat ∧ a < i ∧ Sws a b l l1 ∧ Srt l1 a i)
    (fun l' => Sws a b l l' ∧ Srt l' a b) (by
      rintro m s ⟨i, l1, rfl, rfl, h1, h2, h3⟩
      have hl := h2.len
      unfold G.slices_insertionSortCmpFunc_index_entry_v0_index_New_1_l1
      simp only
      by_cases hi : i < b
      · obtain ⟨l', k1, k2, k3⟩ := ins_in (b := b) ha (by omega) hi (by omega) (by omega) h3
        rw [if_pos hi, k1]
        exact .inl ⟨_, _, rfl, by omega, i + 1, l', rfl, rfl, by omega, h2.trans k2, k3⟩
      · rw [if_neg hi]
        exact .inr ⟨_, rfl, h2, fun p q hp hpq hq => h3 p q hp hpq (by omega)⟩) _ _ ⟨a + 1, l, rfl, rfl, by omega, .refl, fun p q hp hpq hq => by omega⟩
/-- The heap's order, but below r. -/
def HP (l : List T) (lo hi f r : Int) : Prop := ∀ c, 1 ≤ c → c < hi → lo ≤ (c - 1) / 2 → (c - 1) / 2 ≠ r → key (cz l (f + c)) ≤ key (cz l (f + (c - 1) / 2))
theorem sift_of {lo hi f : Int} (hf : 0 ≤ f) (hlo : 0 ≤ lo) (hhi : f + hi ≤ (l.length : Int)) (hn : l.length ≤ 1000) (hlo2 : lo ≤ 1000) (hhi2 : 0 ≤ hi) (hp : HP l lo hi f lo) :
    ∃ l', G.slices_siftDownCmpFunc_index_entry_v0_index_New_1 l lo hi f = some l' ∧ Sws f (f + hi) l l' ∧ HP l' lo hi f (-1) := by
  unfold G.slices_siftDownCmpFunc_index_entry_v0_index_New_1
  exact Iter_total (f := G.slices_siftDownCmpFunc_index_entry_v0_index_New_1_l1 hi f)
    (fun m s => ∃ (r : Int) (l1 : List T), s = (r, l1) ∧ m = (hi - r).toNat ∧ lo ≤ r ∧ r ≤ 1000 ∧ Sws f (f + hi) l l1 ∧ HP l1 lo hi f r ∧ ∀ c, 1 ≤ c → c < hi → (c - 1) / 2 = r → 1 ≤ r → lo ≤ (r - 1) / 2 → key (cz l1 (f + c)) ≤ key (cz l1 (f + (r - 1) / 2)))
    (fun l' => Sws f (f + hi) l l' ∧ HP l' lo hi f (-1)) (by
      rintro m s ⟨r, l1, rfl, rfl, h1, hr, h2, h3, h4⟩
      have hl := h2.len
      unfold G.slices_siftDownCmpFunc_index_entry_v0_index_New_1_l1
      have w1 : IntKind.i64.wrap (2 * r) = 2 * r := w64 (by omega) (by omega)
      have w2 : IntKind.i64.wrap (2 * r + 1) = 2 * r + 1 := w64 (by omega) (by omega)
      have w3 : IntKind.i64.wrap (2 * r + 1 + 1) = 2 * r + 2 := by rw [w64 (by omega) (by omega)]; omega
      have w4 : IntKind.i64.wrap (f + (2 * r + 1)) = f + (2 * r + 1) := w64 (by omega) (by omega)
      have w5 : IntKind.i64.wrap (f + (2 * r + 1) + 1) = f + (2 * r + 2) := by rw [w64 (by omega) (by omega)]; omega
      have w6 : IntKind.i64.wrap (f + r) = f + r := w64 (by omega) (by omega)
      simp only [w1, w2, w3, w4, w5, w6]
      by_cases hc : 2 * r + 1 ≥ hi
      · rw [if_pos hc]
        refine .inr ⟨_, rfl, h2, fun c k1 k2 k3 _ => ?_⟩
        exact h3 c k1 k2 k3 (by omega)
      rw [if_neg hc]
      have hv : ∃ c0, (c0 = 2 * r + 1 ∨ c0 = 2 * r + 2) ∧ c0 < hi ∧ (∀ c, c < hi → c = 2 * r + 1 ∨ c = 2 * r + 2 → key (cz l1 (f + c)) ≤ key (cz l1 (f + c0))) ∧
          (((if 2 * r + 2 < hi then (idx l1 (f + (2 * r + 1))).bind fun x3 => (idx l1 (f + (2 * r + 2))).bind fun x4 => (G.index_New_1 x3 x4).bind fun y5 => some (decide (y5 < 0)) else some false).bind fun v2 => if v2 = true then some (2 * r + 2) else some (2 * r + 1)) = some c0) := by
        by_cases hc2 : 2 * r + 2 < hi
        · rw [if_pos hc2, idc (by omega) (by omega), idc (by omega) (by omega)]
          simp only [Option.bind_some, cmp_of, cm_lt, decide_eq_true_eq]
          by_cases hk : key (cz l1 (f + (2 * r + 1))) < key (cz l1 (f + (2 * r + 2)))
          · rw [if_pos hk]
            exact ⟨_, .inr rfl, hc2, fun c _ hc => by rcases hc with rfl | rfl <;> omega, rfl⟩
          · rw [if_neg hk]
            exact ⟨_, .inl rfl, by omega, fun c _ hc => by rcases hc with rfl | rfl <;> omega, rfl⟩
        · rw [if_neg hc2]
          refine ⟨2 * r + 1, .inl rfl, by omega, fun c h hc => ?_, rfl⟩
          rcases hc with rfl | rfl
          · exact Int.le_refl _
          · omega
      obtain ⟨c0, q1, q2, q3, q4⟩ := hv
      have q4 : ∀ {β : Type} (K : Int → Option β), ((if 2 * r + 2 < hi then (idx l1 (f + (2 * r + 1))).bind fun x3 => (idx l1 (f + (2 * r + 2))).bind fun x4 => (G.index_New_1 x3 x4).bind fun y5 => some (decide (y5 < 0)) else some false).bind fun v2 => (if v2 = true then some (2 * r + 2) else some (2 * r + 1)).bind K) = K c0 := fun {β} K => by
        have := congrArg (fun o => Option.bind o K) q4
        simp only [Option.bind_assoc, Option.bind_some] at this
        exact this
      rw [q4]
      have w7 : IntKind.i64.wrap (f + c0) = f + c0 := w64 (by omega) (by omega)
      have e1 : idx l1 (f + r) = some (cz l1 (f + r)) := idc (by omega) (by omega)
      have e2 : idx l1 (f + c0) = some (cz l1 (f + c0)) := idc (by omega) (by omega)
      have e3 : idx (l1.set (f + r).toNat (cz l1 (f + c0))) (f + c0) = some _ := idc (by omega) (by rw [List.length_set]; omega)
      simp only [w7, e1, e2, e3, cmp_of, Option.bind_some, cm_lt, decide_eq_false_iff_not]
      by_cases hk : key (cz l1 (f + r)) < key (cz l1 (f + c0))
      · rw [if_neg (fun h => h hk)]
        have c := fun (k : Int) (hk : 0 ≤ k) => cz_sz (l := l1) (i := f + r) (j := f + c0) ⟨by omega, by omega⟩ ⟨by omega, by omega⟩ hk
        refine .inl ⟨_, _, rfl, by omega, c0, sz l1 (f + r) (f + c0), rfl, rfl, by omega, by omega, h2.step ⟨by omega, by omega⟩ ⟨by omega, by omega⟩ ⟨by omega, by omega⟩ ⟨by omega, by omega⟩, fun x k1 k2 k3 k4 => ?_, fun x k1 k2 k3 k4 k5 => ?_⟩
        · rw [c (f + x) (by omega), c (f + (x - 1) / 2) (by omega)]
          have A := h3 x k1 k2 k3
          have B := h4 c0 (by omega) q2 (by omega)
          have C := q3 x k2
          by_cases e1 : (x - 1) / 2 = r
          · by_cases e3 : x = c0
            · rw [if_neg (by omega), if_pos (by omega), if_pos (by omega)]; omega
            · rw [if_neg (by omega), if_neg (by omega), if_pos (by omega)]
              exact C (by omega)
          · by_cases e2 : x = r
            · subst e2
              rw [if_pos rfl, if_neg (by omega), if_neg (by omega)]
              exact B (by omega) k3
            · rw [if_neg (by omega), if_neg (by omega), if_neg (by omega), if_neg (by omega)]
              exact A e1
        · rw [c (f + x) (by omega), c (f + (c0 - 1) / 2) (by omega), if_neg (by omega), if_neg (by omega), if_pos (by omega)]
          have A := h3 x k1 k2 (by omega) (by omega)
          rw [k3] at A
          exact A
      · rw [if_pos hk]
        refine .inr ⟨_, rfl, h2, fun x k1 k2 k3 _ => ?_⟩
        by_cases e : (x - 1) / 2 = r
        · have := q3 x k2 (by omega)
          rw [e]; omega
        · exact h3 x k1 k2 k3 e) _ _ ⟨lo, l, rfl, rfl, Int.le_refl _, hlo2, .refl, hp, fun c _ _ _ _ _ => by omega⟩
theorem heap_max {hi f : Int} (h : HP l 0 hi f (-1)) : ∀ (n : Nat) (c : Int), c.toNat ≤ n → 0 ≤ c → c < hi → key (cz l (f + c)) ≤ key (cz l f)
  | 0, c, hn, h0, h1 => by
    have : c = 0 := by omega
    subst this; rw [Int.add_zero]; exact Int.le_refl _
  | n + 1, c, hn, h0, h1 => by
    by_cases e : c = 0
    · subst e; rw [Int.add_zero]; exact Int.le_refl _
    · exact Int.le_trans (h c (by omega) h1 (by omega) (by omega)) (heap_max h n _ (by omega) (by omega) (by omega))
theorem heap_of (ha : 0 ≤ a) (hab : a + 1 ≤ b) (hb : b ≤ (l.length : Int)) (hn : l.length ≤ 1000) : ∃ l', G.slices_heapSortCmpFunc_index_entry_v0_index_New_1 l a b = some l' ∧ Sws a b l l' ∧ Srt l' a b := by
  unfold G.slices_heapSortCmpFunc_index_entry_v0_index_New_1
  have w1 : IntKind.i64.wrap (b - a) = b - a := w64 (by omega) (by omega)
  have w2 : IntKind.i64.wrap (b - a - 1) = b - a - 1 := w64 (by omega) (by omega)
  have w3 : IntKind.i64.wrap (Int.tdiv (b - a - 1) 2) = (b - a - 1) / 2 := by rw [Int.tdiv_eq_ediv_of_nonneg (by omega), w64 (by omega) (by omega)]
  simp only [w1, w2, w3]
  obtain ⟨l1, h1, h2, h3⟩ := Iter_total (f := G.slices_heapSortCmpFunc_index_entry_v0_index_New_1_l1 a b)
    (fun m s => ∃ (i : Int) (l1 : List T), s = (i, l1) ∧ m = (i + 1).toNat ∧ -1 ≤ i ∧ i ≤ 1000 ∧ Sws a b l l1 ∧ HP l1 (i + 1) (b - a) a (-1))
    (fun l1 => Sws a b l l1 ∧ HP l1 0 (b - a) a (-1)) (by
      rintro m s ⟨i, l1, rfl, rfl, k1, k2, k3, k4⟩
      have hl := k3.len
      unfold G.slices_heapSortCmpFunc_index_entry_v0_index_New_1_l1
      simp only
      by_cases hi : i ≥ 0
      · obtain ⟨l2, q1, q2, q3⟩ := sift_of (l := l1) (lo := i) (hi := b - a) (f := a) ha hi (by omega) (by omega) (by omega) (by omega) (fun c c1 c2 c3 c4 => k4 c c1 c2 (by omega) (by omega))
        rw [if_pos hi, w64 (by omega) (by omega), q1]
        simp only [Option.bind_some]
        rw [w64 (by omega) (by omega)]
        refine .inl ⟨_, _, rfl, by omega, i - 1, l2, rfl, rfl, by omega, by omega, k3.trans (q2.mono (by omega) (by omega)), ?_⟩
        rw [show i - 1 + 1 = i by omega]; exact q3
      · rw [if_neg hi]
        have : i + 1 = 0 := by omega
        rw [this] at k4
        exact .inr ⟨_, rfl, k3, k4⟩) _ _ ⟨(b - a - 1) / 2, l, rfl, rfl, by omega, by omega, .refl, fun c c1 c2 c3 c4 => by omega⟩
  rw [h1]
  simp only [Option.bind_some]
  obtain ⟨l2, h4, h5, h6⟩ := Iter_total (f := G.slices_heapSortCmpFunc_index_entry_v0_index_New_1_l2 a)
    (fun m s => ∃ (i : Int) (l2 : List T), s = (i, l2) ∧ m = (i + 1).toNat ∧ -1 ≤ i ∧ i < b - a ∧ Sws a b l l2 ∧ HP l2 0 (i + 1) a (-1) ∧ ∀ p q, a ≤ p → p < q → q < b → a + i < q → key (cz l2 p) ≤ key (cz l2 q))
    (fun l2 => Sws a b l l2 ∧ Srt l2 a b) (by
      rintro m s ⟨i, l2, rfl, rfl, k1, k2, k3, k4, k5⟩
      have hl := k3.len
      unfold G.slices_heapSortCmpFunc_index_entry_v0_index_New_1_l2
      simp only
      by_cases hi : i ≥ 0
      · have w4 : IntKind.i64.wrap (a + i) = a + i := w64 (by omega) (by omega)
        have w5 : IntKind.i64.wrap (i - 1) = i - 1 := w64 (by omega) (by omega)
        have e1 : idx l2 (a + i) = some (cz l2 (a + i)) := idc (by omega) (by omega)
        have e2 : idx l2 a = some (cz l2 a) := idc (by omega) (by omega)
        have e3 : idx (l2.set a.toNat (cz l2 (a + i))) (a + i) = some _ := idc (by omega) (by rw [List.length_set]; omega)
        simp only [if_pos hi, w4, w5, e1, e2, e3, Option.bind_some]
        have c := fun (k : Int) (hk : 0 ≤ k) => cz_sz (l := l2) (i := a) (j := a + i) ⟨by omega, by omega⟩ ⟨by omega, by omega⟩ hk
        obtain ⟨l3, q1, q2, q3⟩ := sift_of (l := sz l2 a (a + i)) (lo := 0) (hi := i) (f := a) ha (by omega) (by rw [sz_len]; omega) (by rw [sz_len]; omega) (by omega) hi (fun x x1 x2 x3 x4 => by
          rw [c (a + x) (by omega), c (a + (x - 1) / 2) (by omega), if_neg (by omega), if_neg (by omega), if_neg (by omega), if_neg (by omega)]
          exact k4 x x1 (by omega) (by omega) (by omega))
        have q1' : G.slices_siftDownCmpFunc_index_entry_v0_index_New_1 ((l2.set a.toNat (cz l2 (a + i))).set (a + i).toNat (cz l2 a)) 0 i a = some l3 := q1
        rw [q1']
        have S1 : Sws a (a + i + 1) l2 (sz l2 a (a + i)) := Sws.one a (a + i) ⟨by omega, by omega⟩ ⟨by omega, by omega⟩ ha (by omega)
        have S2 : Sws a (a + i + 1) l2 l3 := S1.trans (q2.mono (by omega) (by omega))
        refine .inl ⟨_, _, rfl, by omega, i - 1, l3, rfl, rfl, by omega, by omega, k3.trans (S2.mono (by omega) (by omega)), ?_, fun p q p1 p2 p3 p4 => ?_⟩
        · rw [show i - 1 + 1 = i by omega]; exact q3
        · by_cases e : q = a + i
          · subst e
            have hmax := S2.all (fun x => key x ≤ key (cz l2 a)) (fun k r1 r2 r3 => by
              have := heap_max k4 (k - a).toNat (k - a) (by omega) (by omega) (by omega)
              rwa [show a + (k - a) = k by omega] at this) p (by omega) p1 (by omega)
            rw [q2.out (k := a + i) (by omega) (by omega), c (a + i) (by omega)]
            split
            · rename_i h0; rw [h0]; exact hmax
            · rw [if_pos rfl]; exact hmax
          · rw [S2.out (k := q) (by omega) (by omega)]
            by_cases e2 : p < a + i + 1
            · exact S2.all (fun x => key x ≤ key (cz l2 q)) (fun k r1 r2 r3 => k5 k q r2 (by omega) p3 (by omega)) p (by omega) p1 e2
            · rw [S2.out (k := p) (by omega) (by omega)]
              exact k5 p q p1 p2 p3 (by omega)
      · rw [if_neg hi]
        exact .inr ⟨_, rfl, k3, fun p q p1 p2 p3 => k5 p q p1 p2 p3 (by omega)⟩) _ _ ⟨b - a - 1, l1, rfl, rfl, by omega, by omega, h2, by rw [show b - a - 1 + 1 = b - a by omega]; exact h3, fun p q p1 p2 p3 p4 => by omega⟩
  exact ⟨l2, h4, h5, h6⟩
end QI
end Go.Proofs.Ytnbipipegmoigaa
