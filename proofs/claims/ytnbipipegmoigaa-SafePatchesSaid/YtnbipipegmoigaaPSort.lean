/- Sorting: insertion sort, rotation, merging in place, and the stable sort of indices by their targets, as the program's plain functions compute them. -/
import Derived.Test.YtnbipipegmoigaaPBase
import Derived.Test.YtnbipipegmoigaaEG
namespace Go.Proofs.Ytnbipipegmoigaa
open G
namespace G
/-- An index of the list. -/
def Ix (l : List G.Command) (x : Int) : Prop := 0 ≤ x ∧ x < l.length
def key (l : List G.Command) (x : Int) : Int := (l.getD x.toNat default).to
theorem cmp_of {l : List G.Command} {x y : Int} (hx : Ix l x) (hy : Ix l y) : ∃ c, G.delta_sorted_1 x y l = some c ∧ (c < 0 ↔ key l x < key l y) := by
  unfold G.delta_sorted_1 G.cmp_Compare_int G.cmp_isNaN_int key
  obtain ⟨h1, h2⟩ := hx
  obtain ⟨h3, h4⟩ := hy
  rw [idx_getD' (k := x.toNat) default (by omega) (by omega), idx_getD' (k := y.toNat) default (by omega) (by omega)]
  simp only [Option.bind_some, bne_self_eq_false, Bool.false_eq_true, if_false]
  generalize (l.getD x.toNat default).to = p
  generalize (l.getD y.toNat default).to = q
  split
  · exact ⟨_, rfl, by omega⟩
  · split
    · exact ⟨_, rfl, by omega⟩
    · exact ⟨_, rfl, by omega⟩
/-- Two elements change places. -/
def sw (ys : List Int) (i j : Nat) : List Int := (ys.set i (ys.getD j 0)).set j (ys.getD i 0)
theorem sw_len (ys : List Int) (i j : Nat) : (sw ys i j).length = ys.length := by simp [sw]
theorem getD_set (ys : List Int) (i p : Nat) (v : Int) : (ys.set i v).getD p 0 = if p = i ∧ i < ys.length then v else ys.getD p 0 := by
  simp only [List.getD_eq_getElem?_getD, List.getElem?_set]
  by_cases h : i = p
  · subst h
    by_cases h2 : i < ys.length <;> simp [h2]
  · rw [if_neg h, if_neg (fun k => h k.1.symm)]
theorem sw_get {ys : List Int} {i j : Nat} (hi : i < ys.length) (hj : j < ys.length) (p : Nat) : (sw ys i j).getD p 0 = if p = j then ys.getD i 0 else if p = i then ys.getD j 0 else ys.getD p 0 := by
  unfold sw
  rw [getD_set, getD_set]
  simp only [List.length_set]
  by_cases h1 : p = j
  · rw [if_pos ⟨h1, hj⟩, if_pos h1]
  · rw [if_neg (fun k => h1 k.1), if_neg h1]
    by_cases h2 : p = i
    · rw [if_pos ⟨h2, hi⟩, if_pos h2]
    · rw [if_neg (fun k => h2 k.1), if_neg h2]
theorem sw_perm {ys : List Int} {i j : Nat} (hi : i < ys.length) (hj : j < ys.length) : (sw ys i j).Perm ys := by
  unfold sw
  have e1 : ys.getD j 0 = ys[j] := by simp [hj]
  have e2 : ys.getD i 0 = ys[i] := by simp [hi]
  rw [e1, e2]
  exact List.set_set_perm hi hj
/-- The same elements; nothing changed outside of [lo, hi). -/
structure Pm (xs ys : List Int) (lo hi : Nat) : Prop where
  perm : ys.Perm xs
  out : ∀ p, p < lo ∨ hi ≤ p → ys.getD p 0 = xs.getD p 0
theorem Pm.refl (xs : List Int) (lo hi : Nat) : Pm xs xs lo hi := ⟨.refl _, fun _ _ => rfl⟩
theorem Pm.trans {xs ys zs : List Int} {lo hi : Nat} (h : Pm xs ys lo hi) (k : Pm ys zs lo hi) : Pm xs zs lo hi := ⟨k.perm.trans h.perm, fun p hp => (k.out p hp).trans (h.out p hp)⟩
theorem Pm.mono {xs ys : List Int} {lo hi lo' hi' : Nat} (h : Pm xs ys lo hi) (h1 : lo' ≤ lo) (h2 : hi ≤ hi') : Pm xs ys lo' hi' := ⟨h.perm, fun p hp => h.out p (by omega)⟩
theorem Pm.len {xs ys : List Int} {lo hi : Nat} (h : Pm xs ys lo hi) : ys.length = xs.length := h.perm.length_eq
theorem Pm.sw {xs ys : List Int} {lo hi i j : Nat} (h : Pm xs ys lo hi) (hi1 : lo ≤ i ∧ i < hi) (hj1 : lo ≤ j ∧ j < hi) (hl : hi ≤ xs.length) : Pm xs (sw ys i j) lo hi := by
  have hlen := h.len
  refine ⟨(sw_perm (by omega) (by omega)).trans h.perm, fun p hp => ?_⟩
  rw [sw_get (by omega) (by omega), if_neg (by omega), if_neg (by omega)]
  exact h.out p hp
def AllIx (l : List G.Command) (ys : List Int) : Prop := ∀ x ∈ ys, Ix l x
theorem Pm.all {l : List G.Command} {xs ys : List Int} {lo hi : Nat} (h : Pm xs ys lo hi) (ha : AllIx l xs) : AllIx l ys := fun x hx => ha x (h.perm.mem_iff.1 hx)
theorem AllIx.get {l : List G.Command} {ys : List Int} (h : AllIx l ys) {p : Nat} (hp : p < ys.length) : Ix l (ys.getD p 0) := by
  have : ys.getD p 0 = ys[p] := by simp [hp]
  rw [this]; exact h _ (List.getElem_mem hp)
/-- Sorted on [lo, hi). -/
def Srt (l : List G.Command) (ys : List Int) (lo hi : Nat) : Prop := ∀ p q, lo ≤ p → p < q → q < hi → key l (ys.getD p 0) ≤ key l (ys.getD q 0)
theorem Srt.of_out {l : List G.Command} {xs ys : List Int} {lo hi a b : Nat} (h : Srt l xs lo hi) (hp : Pm xs ys a b) (hd : hi ≤ a ∨ b ≤ lo) : Srt l ys lo hi := fun p q h1 h2 h3 => by
  rw [hp.out p (by omega), hp.out q (by omega)]; exact h p q h1 h2 h3
def big : Nat := 1125899906842624
theorem big_eq : big = 1125899906842624 := rfl
section
variable {l : List G.Command}
theorem ins_inner {a i : Nat} {ys : List Int} {w : Int × List Int} (hw : w.1 = (i : Int)) (hall : AllIx l ys) (hi : i < ys.length) (ha : a ≤ i) (hb : ys.length ≤ big) (hs : Srt l ys a i) :
    ∃ zs, Iter (G.slices_insertionSortCmpFunc_int_v0_delta_sorted_1_l2 (a : Int) l w) ((i : Int), ys) = some (.inl (((i + 1 : Nat) : Int), zs)) ∧ Pm ys zs a (i + 1) ∧ Srt l zs a (i + 1) := by
  rw [big_eq] at hb
  obtain ⟨r, hr, zs, rfl, h1, h2⟩ := Iter_total (f := G.slices_insertionSortCmpFunc_int_v0_delta_sorted_1_l2 (a : Int) l w)
    (fun k s => ∃ (j : Nat) (zs : List Int), s = ((j : Int), zs) ∧ k = j ∧ a ≤ j ∧ j ≤ i ∧ Pm ys zs a (i + 1) ∧ ∀ p q, a ≤ p → p < q → q ≤ i → q ≠ j → key l (zs.getD p 0) ≤ key l (zs.getD q 0))
    (fun r => ∃ zs, r = .inl (((i + 1 : Nat) : Int), zs) ∧ Pm ys zs a (i + 1) ∧ Srt l zs a (i + 1)) (by
    rintro k s ⟨j, zs, rfl, hkj, hj1, hj2, hp, ho⟩
    have hlen := hp.len
    have hal := hp.all hall
    unfold G.slices_insertionSortCmpFunc_int_v0_delta_sorted_1_l2
    have done : (∀ p, a ≤ p → p < j → key l (zs.getD p 0) ≤ key l (zs.getD j 0)) → Srt l zs a (i + 1) := fun hd p q h1 h2 h3 => by
      by_cases hq : q = j
      · subst hq; exact hd p h1 h2
      · exact ho p q h1 h2 (by omega) hq
    by_cases hja : j > a
    · have hj' : IntKind.i64.wrap ((j : Int) - 1) = ((j - 1 : Nat) : Int) := by rw [w64 (by omega) (by omega)]; omega
      obtain ⟨c, hc, hcl⟩ := cmp_of (l := l) (hal.get (p := j) (by omega)) (hal.get (p := j - 1) (by omega))
      rw [if_pos (show (j : Int) > (a : Int) by omega), hj', idx_getD (0 : Int) (show j < zs.length by omega), idx_getD (0 : Int) (show j - 1 < zs.length by omega)]
      simp only [Option.bind_some, hc]
      by_cases hlt : c < 0
      · left
        rw [if_pos (by simpa using hlt)]
        obtain ⟨x, hx⟩ := idx_some_of (l := zs.set j (zs.getD (j - 1) 0)) (i := ((j - 1 : Nat) : Int)) (k := j - 1) rfl (by simp; omega)
        simp only [Int.toNat_natCast, hx, Option.bind_some]
        refine ⟨j - 1, _, rfl, by omega, j - 1, sw zs j (j - 1), rfl, rfl, by omega, by omega, hp.sw (by omega) (by omega) (by omega), fun p q h1 h2 h3 h4 => ?_⟩
        rw [sw_get (by omega) (by omega), sw_get (by omega) (by omega)]
        have hk := hcl.1 hlt
        by_cases e1 : p = j - 1
        · rw [if_pos e1]
          by_cases e2 : q = j
          · rw [if_neg (by omega), if_pos e2]; omega
          · rw [if_neg h4, if_neg e2]
            exact ho j q (by omega) (by omega) h3 e2
        · rw [if_neg e1]
          by_cases e3 : p = j
          · rw [if_pos e3, if_neg h4, if_neg (by omega)]
            exact ho (j - 1) q (by omega) (by omega) h3 (by omega)
          · rw [if_neg e3, if_neg h4]
            by_cases e2 : q = j
            · rw [if_pos e2]; exact ho p (j - 1) h1 (by omega) (by omega) (by omega)
            · rw [if_neg e2]; exact ho p q h1 h2 h3 e2
      · right
        rw [if_neg (by simpa using hlt)]
        refine ⟨_, rfl, zs, by rw [hw, inc64 (n := 1125899906842625) (by omega) (by omega)], hp, done fun p h1 h2 => ?_⟩
        have hk : key l (zs.getD (j - 1) 0) ≤ key l (zs.getD j 0) := by
          have := fun h => hlt (hcl.2 h)
          omega
        by_cases e : p = j - 1
        · rw [e]; exact hk
        · exact Int.le_trans (ho p (j - 1) h1 (by omega) (by omega) (by omega)) hk
    · right
      rw [if_neg (show ¬ (j : Int) > (a : Int) by omega)]
      simp only [Option.bind_some, Bool.false_eq_true, if_false]
      exact ⟨_, rfl, zs, by rw [hw, inc64 (n := 1125899906842625) (by omega) (by omega)], hp, done fun p h1 h2 => by omega⟩) i ((i : Int), ys) ⟨i, ys, rfl, rfl, ha, Nat.le_refl _, Pm.refl _ _ _, fun p q h1 h2 h3 h4 => hs p q h1 h2 (by omega)⟩
  exact ⟨zs, hr, h1, h2⟩
theorem insertion_of {a b : Nat} {ys : List Int} (hall : AllIx l ys) (hab : a ≤ b) (hbl : b ≤ ys.length) (hb : ys.length ≤ big) :
    ∃ zs, G.slices_insertionSortCmpFunc_int_v0_delta_sorted_1 ys (a : Int) (b : Int) l = some zs ∧ Pm ys zs a b ∧ Srt l zs a b := by
  have hb' := hb
  rw [big_eq] at hb'
  unfold G.slices_insertionSortCmpFunc_int_v0_delta_sorted_1
  rw [inc64 (k := a) (n := 1125899906842625) (by omega) (by omega)]
  refine Iter_total (fun k s => ∃ (i : Nat) (zs : List Int), s = ((i : Int), zs) ∧ k = b + 1 - i ∧ a + 1 ≤ i ∧ (i ≤ b ∨ i = a + 1) ∧ Pm ys zs a b ∧ Srt l zs a i)
    (fun zs => Pm ys zs a b ∧ Srt l zs a b) ?_ _ _ ⟨a + 1, ys, rfl, rfl, Nat.le_refl _, .inr rfl, Pm.refl _ _ _, fun p q h1 h2 h3 => by omega⟩
  rintro k s ⟨i, zs, rfl, rfl, h1, h2, hp, hs⟩
  have hlen := hp.len
  unfold G.slices_insertionSortCmpFunc_int_v0_delta_sorted_1_l1
  by_cases hib : i < b
  · left
    rw [if_pos (show (i : Int) < (b : Int) by omega)]
    obtain ⟨ws, hw, h3, h4⟩ := ins_inner (l := l) (a := a) (i := i) (ys := zs) (w := ((i : Int), zs)) rfl (hp.all hall) (by omega) (by omega) (by rw [big_eq]; omega) hs
    exact ⟨b + 1 - (i + 1), _, hw, by omega, i + 1, ws, rfl, rfl, by omega, .inl (by omega), hp.trans (h3.mono (Nat.le_refl _) (by omega)), h4⟩
  · right
    rw [if_neg (show ¬ (i : Int) < (b : Int) by omega)]
    exact ⟨_, rfl, hp, fun p q h3 h4 h5 => hs p q h3 h4 (by omega)⟩
/-- Two ranges change places. -/
theorem swapRange_of {a b n : Nat} {ys : List Int} (hab : a + n ≤ b) (hbl : b + n ≤ ys.length) (hb : ys.length ≤ big) :
    ∃ zs, G.slices_swapRangeCmpFunc_int_v0_delta_sorted_1 ys (a : Int) (b : Int) (n : Int) l = some zs ∧ zs.Perm ys ∧
      ∀ p, zs.getD p 0 = if a ≤ p ∧ p < a + n then ys.getD (p - a + b) 0 else if b ≤ p ∧ p < b + n then ys.getD (p - b + a) 0 else ys.getD p 0 := by
  rw [big_eq] at hb
  unfold G.slices_swapRangeCmpFunc_int_v0_delta_sorted_1
  refine Iter_total (fun k s => ∃ (i : Nat) (zs : List Int), s = ((i : Int), zs) ∧ k = n - i ∧ i ≤ n ∧ zs.Perm ys ∧ ∀ p, zs.getD p 0 = if a ≤ p ∧ p < a + i then ys.getD (p - a + b) 0 else if b ≤ p ∧ p < b + i then ys.getD (p - b + a) 0 else ys.getD p 0)
    (fun zs : List Int => zs.Perm ys ∧ ∀ p, zs.getD p 0 = if a ≤ p ∧ p < a + n then ys.getD (p - a + b) 0 else if b ≤ p ∧ p < b + n then ys.getD (p - b + a) 0 else ys.getD p 0) ?_ _ _
    ⟨0, ys, rfl, rfl, Nat.zero_le _, .refl _, fun p => by rw [if_neg (by omega), if_neg (by omega)]⟩
  rintro k s ⟨i, zs, rfl, rfl, hi, hp, hg⟩
  have hlen := hp.length_eq
  unfold G.slices_swapRangeCmpFunc_int_v0_delta_sorted_1_l1
  by_cases hin : i < n
  · left
    have e1 : IntKind.i64.wrap ((a : Int) + (i : Int)) = ((a + i : Nat) : Int) := by rw [w64 (by omega) (by omega)]; omega
    have e2 : IntKind.i64.wrap ((b : Int) + (i : Int)) = ((b + i : Nat) : Int) := by rw [w64 (by omega) (by omega)]; omega
    rw [if_pos (show (i : Int) < (n : Int) by omega), e1, e2, idx_getD (0 : Int) (show b + i < zs.length by omega), idx_getD (0 : Int) (show a + i < zs.length by omega)]
    obtain ⟨x, hx⟩ := idx_some_of (l := zs.set (a + i) (zs.getD (b + i) 0)) (i := ((b + i : Nat) : Int)) (k := b + i) rfl (by simp; omega)
    simp only [Option.bind_some, Int.toNat_natCast, hx, inc64 hin (by omega)]
    refine ⟨n - (i + 1), _, rfl, by omega, i + 1, sw zs (a + i) (b + i), rfl, rfl, by omega, (sw_perm (by omega) (by omega)).trans hp, fun p => ?_⟩
    rw [sw_get (by omega) (by omega), hg (a + i), hg (b + i), hg p]
    repeat' split
    all_goals first | rfl | omega | (congr 1; omega)
  · right
    rw [if_neg (show ¬ (i : Int) < (n : Int) by omega)]
    have : i = n := by omega
    subst this
    exact ⟨_, rfl, hp, hg⟩
/-- The list with [lo, m) and [m, hi) in each other's place. -/
def rot (f : Nat → Int) (lo m hi p : Nat) : Int := if p < lo ∨ hi ≤ p then f p else if p < lo + (hi - m) then f (p + (m - lo)) else f (p - (hi - m))
theorem rotate_of {a m b : Nat} {ys : List Int} (ham : a < m) (hmb : m < b) (hbl : b ≤ ys.length) (hb : ys.length ≤ big) :
    ∃ zs, G.slices_rotateCmpFunc_int_v0_delta_sorted_1 ys (a : Int) (m : Int) (b : Int) l = some zs ∧ zs.Perm ys ∧ ∀ p, zs.getD p 0 = rot (fun p => ys.getD p 0) a m b p := by
  have hb' := hb
  rw [big_eq] at hb'
  unfold G.slices_rotateCmpFunc_int_v0_delta_sorted_1
  have e1 : IntKind.i64.wrap ((m : Int) - (a : Int)) = ((m - a : Nat) : Int) := by rw [w64 (by omega) (by omega)]; omega
  have e2 : IntKind.i64.wrap ((b : Int) - (m : Int)) = ((b - m : Nat) : Int) := by rw [w64 (by omega) (by omega)]; omega
  rw [e1, e2]
  obtain ⟨r, hr, i, zs, rfl, hi1, hi2, hi3, hp, hg⟩ := Iter_total (f := G.slices_rotateCmpFunc_int_v0_delta_sorted_1_l1 (m : Int) l)
    (fun k s => ∃ (i j : Nat) (zs : List Int), s = ((i : Int), (j : Int), zs) ∧ k = i + j ∧ 0 < i ∧ 0 < j ∧ i ≤ m - a ∧ j ≤ b - m ∧ zs.Perm ys ∧ ∀ p, rot (fun p => ys.getD p 0) a m b p = rot (fun p => zs.getD p 0) (m - i) m (m + j) p)
    (fun r => ∃ (i : Nat) (zs : List Int), r = ((i : Int), zs) ∧ 0 < i ∧ i ≤ m - a ∧ i ≤ b - m ∧ zs.Perm ys ∧ ∀ p, rot (fun p => ys.getD p 0) a m b p = rot (fun p => zs.getD p 0) (m - i) m (m + i) p) (by
    rintro k s ⟨i, j, zs, rfl, rfl, h1, h2, h3, h4, hp, hg⟩
    have hlen := hp.length_eq
    have e3 : IntKind.i64.wrap ((m : Int) - (i : Int)) = ((m - i : Nat) : Int) := by rw [w64 (by omega) (by omega)]; omega
    unfold G.slices_rotateCmpFunc_int_v0_delta_sorted_1_l1
    by_cases hij : i = j
    · right
      subst hij
      rw [if_neg (by simp)]
      exact ⟨_, rfl, i, zs, rfl, h1, h3, h4, hp, hg⟩
    · left
      rw [if_pos (show ((i : Int), (j : Int), zs).1 ≠ ((i : Int), (j : Int), zs).2.1 by simp; omega)]
      by_cases hgt : i > j
      · rw [if_pos (show ((i : Int), (j : Int), zs).1 > ((i : Int), (j : Int), zs).2.1 by simp; omega)]
        obtain ⟨ws, hw, hq, hz⟩ := swapRange_of (l := l) (a := m - i) (b := m) (n := j) (ys := zs) (by omega) (by omega) (by rw [big_eq]; omega)
        have e4 : IntKind.i64.wrap ((i : Int) - (j : Int)) = ((i - j : Nat) : Int) := by rw [w64 (by omega) (by omega)]; omega
        simp only [e3, hw, Option.bind_some, e4]
        refine ⟨i - j + j, _, rfl, by omega, i - j, j, ws, rfl, rfl, by omega, h2, by omega, h4, hq.trans hp, fun p => ?_⟩
        rw [hg p]
        unfold rot
        simp only [hz]
        repeat' split
        all_goals first | rfl | omega | (congr 1; omega)
      · rw [if_neg (show ¬ ((i : Int), (j : Int), zs).1 > ((i : Int), (j : Int), zs).2.1 by simp; omega)]
        have e5 : IntKind.i64.wrap (IntKind.i64.wrap ((m : Int) + (j : Int)) - (i : Int)) = ((m + j - i : Nat) : Int) := by rw [w64 (x := (m : Int) + (j : Int)) (by omega) (by omega), w64 (by omega) (by omega)]; omega
        obtain ⟨ws, hw, hq, hz⟩ := swapRange_of (l := l) (a := m - i) (b := m + j - i) (n := i) (ys := zs) (by omega) (by omega) (by rw [big_eq]; omega)
        have e4 : IntKind.i64.wrap ((j : Int) - (i : Int)) = ((j - i : Nat) : Int) := by rw [w64 (by omega) (by omega)]; omega
        simp only [e3, e5, hw, Option.bind_some, e4]
        refine ⟨i + (j - i), _, rfl, by omega, i, j - i, ws, rfl, rfl, h1, by omega, h3, by omega, hq.trans hp, fun p => ?_⟩
        rw [hg p]
        unfold rot
        simp only [hz]
        repeat' split
        all_goals first | rfl | omega | (congr 1; omega)) _ _
    ⟨m - a, b - m, ys, rfl, rfl, by omega, by omega, Nat.le_refl _, Nat.le_refl _, .refl _, fun p => by rw [show m - (m - a) = a by omega, show m + (b - m) = b by omega]⟩
  rw [hr]
  have hlen := hp.length_eq
  have e3 : IntKind.i64.wrap ((m : Int) - (i : Int)) = ((m - i : Nat) : Int) := by rw [w64 (by omega) (by omega)]; omega
  simp only [Option.bind_some, e3]
  obtain ⟨ws, hw, hq, hz⟩ := swapRange_of (l := l) (a := m - i) (b := m) (n := i) (ys := zs) (by omega) (by omega) (by rw [big_eq]; omega)
  rw [hw]
  refine ⟨ws, rfl, hq.trans hp, fun p => ?_⟩
  rw [hz p, hg p]
  unfold rot
  repeat' split
  all_goals first | rfl | omega | (congr 1; omega)
end
end G
end Go.Proofs.Ytnbipipegmoigaa
