/- Sorting: merging in place, and the stable sort. -/
import Derived.Test.YtnbipipegmoigaaPSort
namespace Go.Proofs.Ytnbipipegmoigaa
open G
namespace G
/-- A search by halves. -/
theorem bsearch {f : Int × Int → Option ((Int × Int) ⊕ Int)} (T : Nat → Prop) (lo hi : Nat) (hle : lo ≤ hi)
    (hstep : ∀ i j : Nat, lo ≤ i → i < j → j ≤ hi → (T ((i + j) / 2) ∧ f ((i : Int), (j : Int)) = some (.inl ((((i + j) / 2 + 1 : Nat) : Int), (j : Int)))) ∨ (¬ T ((i + j) / 2) ∧ f ((i : Int), (j : Int)) = some (.inl ((i : Int), (((i + j) / 2 : Nat) : Int)))))
    (hend : ∀ i : Nat, f ((i : Int), (i : Int)) = some (.inr (i : Int))) (mono : ∀ p q, lo ≤ p → p ≤ q → q < hi → T q → T p) :
    ∃ s : Nat, Iter f ((lo : Int), (hi : Int)) = some (s : Int) ∧ lo ≤ s ∧ s ≤ hi ∧ (∀ p, lo ≤ p → p < s → T p) ∧ ∀ p, s ≤ p → p < hi → ¬ T p := by
  obtain ⟨r, hr, s, rfl, h⟩ := Iter_total (f := f)
    (fun k s => ∃ i j : Nat, s = ((i : Int), (j : Int)) ∧ k = j - i ∧ lo ≤ i ∧ i ≤ j ∧ j ≤ hi ∧ (∀ p, lo ≤ p → p < i → T p) ∧ ∀ p, j ≤ p → p < hi → ¬ T p)
    (fun r => ∃ s : Nat, r = (s : Int) ∧ lo ≤ s ∧ s ≤ hi ∧ (∀ p, lo ≤ p → p < s → T p) ∧ ∀ p, s ≤ p → p < hi → ¬ T p) (by
    rintro k s ⟨i, j, rfl, rfl, h1, h2, h3, h4, h5⟩
    by_cases hij : i < j
    · left
      rcases hstep i j h1 hij h3 with ⟨ht, hf⟩ | ⟨ht, hf⟩
      · exact ⟨j - ((i + j) / 2 + 1), _, hf, by omega, (i + j) / 2 + 1, j, rfl, rfl, by omega, by omega, h3, fun p hp1 hp2 => mono p _ hp1 (by omega) (by omega) ht, h5⟩
      · exact ⟨(i + j) / 2 - i, _, hf, by omega, i, (i + j) / 2, rfl, rfl, h1, by omega, by omega, h4, fun p hp1 hp2 ht' => ht (mono _ p (by omega) hp1 hp2 ht')⟩
    · right
      have : i = j := by omega
      subst this
      exact ⟨_, hend i, i, rfl, h1, h3, h4, h5⟩) _ _
    ⟨lo, hi, rfl, rfl, Nat.le_refl _, hle, Nat.le_refl _, fun p h1 h2 => by omega, fun p h1 h2 => by omega⟩
  exact ⟨s, hr, h⟩
section
variable {l : List G.Command}
theorem rot_key {ys zs : List Int} {lo m hi : Nat} (hz : ∀ p, zs.getD p 0 = rot (fun p => ys.getD p 0) lo m hi p) (p : Nat) :
    key l (zs.getD p 0) = if p < lo ∨ hi ≤ p then key l (ys.getD p 0) else if p < lo + (hi - m) then key l (ys.getD (p + (m - lo)) 0) else key l (ys.getD (p - (hi - m)) 0) := by
  rw [hz]; unfold rot; split
  · rfl
  · split <;> rfl
theorem rot_pm {ys zs : List Int} {lo m hi : Nat} (hp : zs.Perm ys) (hz : ∀ p, zs.getD p 0 = rot (fun p => ys.getD p 0) lo m hi p) : Pm ys zs lo hi := ⟨hp, fun p h => by rw [hz]; unfold rot; rw [if_pos h]⟩
theorem mid2 {i j : Nat} (h : i + j ≤ 9223372036854775807) : IntKind.i64.wrap (ishr .u64 (IntKind.u64.wrap (IntKind.i64.wrap ((i : Int) + (j : Int)))) 1) = (((i + j) / 2 : Nat) : Int) := mid_of (by omega) h
theorem sym_1 {ys : List Int} {a b : Nat} (hall : AllIx l ys) (hab : a + 1 < b) (hbl : b ≤ ys.length) (hb : ys.length ≤ big) (hs : Srt l ys (a + 1) b) :
    ∃ zs, (∀ fx, G.slices_symMergeCmpFunc_int_v0_delta_sorted_1_b fx ys (a : Int) ((a + 1 : Nat) : Int) (b : Int) l = some zs) ∧ Pm ys zs a b ∧ Srt l zs a b := by
  have hb' := hb
  rw [big_eq] at hb'
  obtain ⟨s, hs1, h1, h2, h3, h4⟩ := bsearch (f := G.slices_symMergeCmpFunc_int_v0_delta_sorted_1_l1 ys (a : Int) l) (fun p => key l (ys.getD p 0) < key l (ys.getD a 0)) (a + 1) b (by omega)
    (fun i j hi hij hj => by
      obtain ⟨c, hc, hcl⟩ := cmp_of (l := l) (hall.get (p := (i + j) / 2) (by omega)) (hall.get (p := a) (by omega))
      unfold G.slices_symMergeCmpFunc_int_v0_delta_sorted_1_l1
      rw [if_pos (show ((i : Int), (j : Int)).1 < ((i : Int), (j : Int)).2 by simp; omega)]
      simp only [mid2 (show i + j ≤ 9223372036854775807 by omega)]
      rw [idx_getD (0 : Int) (show (i + j) / 2 < ys.length by omega), idx_getD (0 : Int) (show a < ys.length by omega)]
      simp only [Option.bind_some, hc]
      by_cases hlt : c < 0
      · left
        rw [if_pos hlt, inc64 (n := 1125899906842625) (by omega) (by omega)]
        exact ⟨hcl.1 hlt, rfl⟩
      · right
        rw [if_neg hlt]
        exact ⟨fun h => hlt (hcl.2 h), rfl⟩)
    (fun i => by unfold G.slices_symMergeCmpFunc_int_v0_delta_sorted_1_l1; rw [if_neg (by simp)])
    (fun p q hp hpq hq ht => by
      by_cases e : p = q
      · subst e; exact ht
      · exact Int.lt_of_le_of_lt (hs p q hp (by omega) hq) ht)
  obtain ⟨r, hr, zs, rfl, hp, hz⟩ := Iter_total (f := G.slices_symMergeCmpFunc_int_v0_delta_sorted_1_l2 (s : Int))
    (fun k st => ∃ (i : Nat) (zs : List Int), st = ((i : Int), zs) ∧ k = s - 1 - i ∧ a ≤ i ∧ i ≤ s - 1 ∧ zs.Perm ys ∧ ∀ p, zs.getD p 0 = rot (fun p => ys.getD p 0) a (a + 1) (i + 1) p)
    (fun r => ∃ zs : List Int, r = .inr zs ∧ zs.Perm ys ∧ ∀ p, zs.getD p 0 = rot (fun p => ys.getD p 0) a (a + 1) s p) (by
      rintro k st ⟨i, zs, rfl, rfl, hi1, hi2, hp, hz⟩
      have hlen := hp.length_eq
      unfold G.slices_symMergeCmpFunc_int_v0_delta_sorted_1_l2
      have e1 : IntKind.i64.wrap ((s : Int) - 1) = ((s - 1 : Nat) : Int) := by rw [w64 (by omega) (by omega)]; omega
      rw [e1]
      by_cases hlt : i < s - 1
      · left
        have e2 : IntKind.i64.wrap ((i : Int) + 1) = ((i + 1 : Nat) : Int) := inc64 (n := 1125899906842625) (by omega) (by omega)
        rw [if_pos (show ((i : Int), zs).1 < ((s - 1 : Nat) : Int) by simp; omega)]
        obtain ⟨x, hx⟩ := idx_some_of (l := zs.set i (zs.getD (i + 1) 0)) (i := ((i + 1 : Nat) : Int)) (k := i + 1) rfl (by simp; omega)
        simp only [e2, idx_getD (0 : Int) (show i + 1 < zs.length by omega), idx_getD (0 : Int) (show i < zs.length by omega), Option.bind_some, Int.toNat_natCast, hx]
        refine ⟨s - 1 - (i + 1), _, rfl, by omega, i + 1, sw zs i (i + 1), rfl, rfl, by omega, by omega, (sw_perm (by omega) (by omega)).trans hp, fun p => ?_⟩
        rw [sw_get (by omega) (by omega), hz i, hz (i + 1), hz p]
        unfold rot
        repeat' split
        all_goals first | rfl | omega | (congr 1; omega)
      · right
        rw [if_neg (show ¬ ((i : Int), zs).1 < ((s - 1 : Nat) : Int) by simp; omega)]
        exact ⟨_, rfl, zs, rfl, hp, by rw [show s = i + 1 by omega]; exact hz⟩) _ _
    ⟨a, ys, rfl, rfl, Nat.le_refl _, by omega, .refl _, fun p => by unfold rot; (repeat' split); all_goals (first | rfl | omega | (congr 1; omega))⟩
  refine ⟨zs, fun fx => ?_, (rot_pm hp hz).mono (Nat.le_refl _) h2, fun p q h5 h6 h7 => ?_⟩
  · unfold G.slices_symMergeCmpFunc_int_v0_delta_sorted_1_b
    rw [if_pos (by rw [w64 (by omega) (by omega)]; omega), hs1]
    simp only [Option.bind_some, hr, joinK_inr]
  · rw [rot_key hz, rot_key hz]
    by_cases c1 : p < a + (s - (a + 1))
    · rw [if_neg (by omega), if_pos c1]
      by_cases c2 : q < a + (s - (a + 1))
      · rw [if_neg (by omega), if_pos c2]; exact hs _ _ (by omega) (by omega) (by omega)
      · by_cases c3 : s ≤ q
        · rw [if_pos (.inr c3)]; exact hs _ _ (by omega) (by omega) h7
        · rw [if_neg (by omega), if_neg c2]
          have := h3 (p + (a + 1 - a)) (by omega) (by omega)
          rw [show q - (s - (a + 1)) = a by omega]; exact Int.le_of_lt this
    · by_cases c3 : s ≤ p
      · rw [if_pos (.inr c3), if_pos (.inr (by omega))]; exact hs _ _ (by omega) h6 h7
      · rw [if_neg (by omega), if_neg c1, if_pos (.inr (by omega)), show p - (s - (a + 1)) = a by omega]
        have := h4 q (by omega) h7
        omega
theorem sym_2 {ys : List Int} {a m : Nat} (hall : AllIx l ys) (ham : a + 1 < m) (hbl : m + 1 ≤ ys.length) (hb : ys.length ≤ big) (hs : Srt l ys a m) :
    ∃ zs, (∀ fx, G.slices_symMergeCmpFunc_int_v0_delta_sorted_1_b fx ys (a : Int) (m : Int) ((m + 1 : Nat) : Int) l = some zs) ∧ Pm ys zs a (m + 1) ∧ Srt l zs a (m + 1) := by
  have hb' := hb
  rw [big_eq] at hb'
  obtain ⟨s, hs1, h1, h2, h3, h4⟩ := bsearch (f := G.slices_symMergeCmpFunc_int_v0_delta_sorted_1_l3 ys (m : Int) l) (fun p => ¬ key l (ys.getD m 0) < key l (ys.getD p 0)) a m (by omega)
    (fun i j hi hij hj => by
      obtain ⟨c, hc, hcl⟩ := cmp_of (l := l) (hall.get (p := m) (by omega)) (hall.get (p := (i + j) / 2) (by omega))
      unfold G.slices_symMergeCmpFunc_int_v0_delta_sorted_1_l3
      rw [if_pos (show ((i : Int), (j : Int)).1 < ((i : Int), (j : Int)).2 by simp; omega)]
      simp only [mid2 (show i + j ≤ 9223372036854775807 by omega)]
      rw [idx_getD (0 : Int) (show (i + j) / 2 < ys.length by omega), idx_getD (0 : Int) (show m < ys.length by omega)]
      simp only [Option.bind_some, hc]
      by_cases hlt : c < 0
      · right
        rw [if_neg (by simpa using hlt)]
        exact ⟨fun h => h (hcl.1 hlt), rfl⟩
      · left
        rw [if_pos (by simpa using hlt), inc64 (n := 1125899906842625) (by omega) (by omega)]
        exact ⟨fun h => hlt (hcl.2 h), rfl⟩)
    (fun i => by unfold G.slices_symMergeCmpFunc_int_v0_delta_sorted_1_l3; rw [if_neg (by simp)])
    (fun p q hp hpq hq ht => by
      by_cases e : p = q
      · subst e; exact ht
      · have := hs p q hp (by omega) hq
        omega)
  obtain ⟨r, hr, zs, rfl, hp, hz⟩ := Iter_total (f := G.slices_symMergeCmpFunc_int_v0_delta_sorted_1_l4 (s : Int))
    (fun k st => ∃ (i : Nat) (zs : List Int), st = ((i : Int), zs) ∧ k = i ∧ s ≤ i ∧ i ≤ m ∧ zs.Perm ys ∧ ∀ p, zs.getD p 0 = rot (fun p => ys.getD p 0) i m (m + 1) p)
    (fun r => ∃ zs : List Int, r = .inr zs ∧ zs.Perm ys ∧ ∀ p, zs.getD p 0 = rot (fun p => ys.getD p 0) s m (m + 1) p) (by
      rintro k st ⟨i, zs, rfl, rfl, hi1, hi2, hp, hz⟩
      have hlen := hp.length_eq
      unfold G.slices_symMergeCmpFunc_int_v0_delta_sorted_1_l4
      by_cases hlt : s < k
      · left
        have e2 : IntKind.i64.wrap ((k : Int) - 1) = ((k - 1 : Nat) : Int) := by rw [w64 (by omega) (by omega)]; omega
        rw [if_pos (show ((k : Int), zs).1 > (s : Int) by simp; omega)]
        obtain ⟨x, hx⟩ := idx_some_of (l := zs.set k (zs.getD (k - 1) 0)) (i := ((k - 1 : Nat) : Int)) (k := k - 1) rfl (by simp; omega)
        simp only [e2, idx_getD (0 : Int) (show k - 1 < zs.length by omega), idx_getD (0 : Int) (show k < zs.length by omega), Option.bind_some, Int.toNat_natCast, hx]
        refine ⟨k - 1, _, rfl, by omega, k - 1, sw zs k (k - 1), rfl, rfl, by omega, by omega, (sw_perm (by omega) (by omega)).trans hp, fun p => ?_⟩
        rw [sw_get (by omega) (by omega), hz k, hz (k - 1), hz p]
        unfold rot
        repeat' split
        all_goals first | rfl | omega | (congr 1; omega)
      · right
        rw [if_neg (show ¬ ((k : Int), zs).1 > (s : Int) by simp; omega)]
        exact ⟨_, rfl, zs, rfl, hp, by rw [show s = k by omega]; exact hz⟩) _ _
    ⟨m, ys, rfl, rfl, h2, Nat.le_refl _, .refl _, fun p => by unfold rot; (repeat' split); all_goals (first | rfl | omega | (congr 1; omega))⟩
  refine ⟨zs, fun fx => ?_, (rot_pm hp hz).mono h1 (Nat.le_refl _), fun p q h5 h6 h7 => ?_⟩
  · unfold G.slices_symMergeCmpFunc_int_v0_delta_sorted_1_b
    rw [if_neg (by rw [w64 (by omega) (by omega)]; omega)]
    simp only [Option.bind_some, joinK_inl]
    rw [if_pos (by rw [w64 (by omega) (by omega)]; omega), hs1]
    simp only [Option.bind_some, hr, joinK_inr]
  · rw [rot_key hz, rot_key hz]
    by_cases c1 : p < s
    · rw [if_pos (.inl c1)]
      by_cases c2 : q < s
      · rw [if_pos (.inl c2)]; exact hs _ _ h5 h6 (by omega)
      · rw [if_neg (by omega)]
        by_cases c3 : q < s + (m + 1 - m)
        · rw [if_pos c3, show q + (m - s) = m by omega]
          have := h3 p h5 c1
          omega
        · rw [if_neg c3]; exact hs _ _ h5 (by omega) (by omega)
    · rw [if_neg (by omega), if_neg (show ¬ (q < s ∨ m + 1 ≤ q) by omega), if_neg (show ¬ q < s + (m + 1 - m) by omega)]
      by_cases c3 : p < s + (m + 1 - m)
      · rw [if_pos c3, show p + (m - s) = m by omega]
        have := h4 (q - (m + 1 - m)) (by omega) (by omega)
        omega
      · rw [if_neg c3]; exact hs _ _ (by omega) (by omega) (by omega)
theorem sym_3 {ys : List Int} {a m b : Nat} (hall : AllIx l ys) (ham : a + 1 < m) (hmb : m + 1 < b) (hbl : b ≤ ys.length) (hb : ys.length ≤ big) (hs1 : Srt l ys a m) (hs2 : Srt l ys m b) :
    ∃ (ws : List Int) (s e c : Nat), (∀ fx, G.slices_symMergeCmpFunc_int_v0_delta_sorted_1_b fx ys (a : Int) (m : Int) (b : Int) l =
        (if a < s ∧ s < c then fx (ws, (a : Int), (s : Int), (c : Int), l) else some ws).bind fun v => if c < e ∧ e < b then fx (v, (c : Int), (e : Int), (b : Int), l) else some v) ∧
      a < c ∧ c < b ∧ a ≤ s ∧ s ≤ c ∧ c ≤ e ∧ e ≤ b ∧ Pm ys ws a b ∧ Srt l ws a s ∧ Srt l ws s c ∧ Srt l ws c e ∧ Srt l ws e b ∧ ∀ p q, a ≤ p → p < c → c ≤ q → q < b → key l (ws.getD p 0) ≤ key l (ws.getD q 0) := by
  have hb' := hb
  rw [big_eq] at hb'
  obtain ⟨c, hc⟩ : ∃ c, c = (a + b) / 2 := ⟨_, rfl⟩
  have eN : IntKind.i64.wrap ((c : Int) + (m : Int)) = ((c + m : Nat) : Int) := by rw [w64 (by omega) (by omega)]; omega
  obtain ⟨lo, hi, hlo, hv3⟩ : ∃ lo hi : Nat, ((m ≤ c ∧ lo = a ∧ hi = m) ∨ (c < m ∧ lo = c + m - b ∧ hi = c)) ∧
      (if (m : Int) > (c : Int) then some ((IntKind.i64.wrap (((c + m : Nat) : Int) - (b : Int))), (c : Int)) else some ((a : Int), (m : Int))) = some ((lo : Int), (hi : Int)) := by
    by_cases h : c < m
    · refine ⟨c + m - b, c, .inr ⟨h, rfl, rfl⟩, ?_⟩
      rw [if_pos (by omega), w64 (by omega) (by omega)]
      rw [show ((c + m : Nat) : Int) - (b : Int) = ((c + m - b : Nat) : Int) by omega]
    · exact ⟨a, m, .inl ⟨by omega, rfl, rfl⟩, by rw [if_neg (by omega)]⟩
  obtain ⟨s, hsr, h1, h2, h3, h4⟩ := bsearch (f := G.slices_symMergeCmpFunc_int_v0_delta_sorted_1_l5 ys (a : Int) (m : Int) (b : Int) l) (fun p => ¬ key l (ys.getD (c + m - 1 - p) 0) < key l (ys.getD p 0)) lo hi (by omega)
    (fun i j hi1 hij hj => by
      obtain ⟨d, hd⟩ : ∃ d, d = (i + j) / 2 := ⟨_, rfl⟩
      obtain ⟨v, hv, hvl⟩ := cmp_of (l := l) (hall.get (p := c + m - 1 - d) (by omega)) (hall.get (p := d) (by omega))
      unfold G.slices_symMergeCmpFunc_int_v0_delta_sorted_1_l5
      rw [if_pos (show ((i : Int), (j : Int)).1 < ((i : Int), (j : Int)).2 by simp; omega)]
      simp only [mid2 (show i + j ≤ 9223372036854775807 by omega), mid2 (show a + b ≤ 9223372036854775807 by omega), ← hc, ← hd, eN]
      have e1 : IntKind.i64.wrap (IntKind.i64.wrap (((c + m : Nat) : Int) - 1) - (d : Int)) = ((c + m - 1 - d : Nat) : Int) := by rw [w64 (x := ((c + m : Nat) : Int) - 1) (by omega) (by omega), w64 (by omega) (by omega)]; omega
      rw [e1, idx_getD (0 : Int) (show c + m - 1 - d < ys.length by omega), idx_getD (0 : Int) (show d < ys.length by omega)]
      simp only [Option.bind_some, hv]
      by_cases hlt : v < 0
      · right
        rw [if_neg (by simpa using hlt)]
        exact ⟨fun h => h (hvl.1 hlt), rfl⟩
      · left
        rw [if_pos (by simpa using hlt), inc64 (n := 1125899906842625) (by omega) (by omega)]
        exact ⟨fun h => hlt (hvl.2 h), rfl⟩)
    (fun i => by unfold G.slices_symMergeCmpFunc_int_v0_delta_sorted_1_l5; rw [if_neg (by simp)])
    (fun p q hp hpq hq ht => by
      by_cases e : p = q
      · subst e; exact ht
      · have k1 := hs1 p q (by omega) (by omega) (by omega)
        have k2 := hs2 (c + m - 1 - q) (c + m - 1 - p) (by omega) (by omega) (by omega)
        omega)
  obtain ⟨e, he⟩ : ∃ e, e = c + m - s := ⟨_, rfl⟩
  have eE : IntKind.i64.wrap (((c + m : Nat) : Int) - (s : Int)) = (e : Int) := by rw [w64 (by omega) (by omega)]; omega
  obtain ⟨ws, hw, hp, hz⟩ : ∃ ws : List Int, ((if (s : Int) < (m : Int) then some (decide ((m : Int) < (e : Int))) else some false).bind fun v5 =>
      if v5 = true then (G.slices_rotateCmpFunc_int_v0_delta_sorted_1 ys (s : Int) (m : Int) (e : Int) l).bind fun y3 => some y3 else some ys) = some ws ∧ ws.Perm ys ∧ ∀ p, ws.getD p 0 = rot (fun p => ys.getD p 0) s m e p := by
    by_cases hsm : s < m
    · rw [if_pos (by omega)]
      by_cases hme : m < e
      · obtain ⟨ws, h5, h6, h7⟩ := rotate_of (l := l) (a := s) (m := m) (b := e) (ys := ys) hsm hme (by omega) hb
        simp only [Option.bind_some, show ((m : Int) < (e : Int)) = True by simp; omega, decide_true, if_true, h5]
        exact ⟨ws, rfl, h6, h7⟩
      · simp only [Option.bind_some, show ((m : Int) < (e : Int)) = False by simp; omega, decide_false, Bool.false_eq_true, if_false]
        refine ⟨ys, rfl, .refl _, fun p => ?_⟩
        unfold rot
        repeat' split
        all_goals first | rfl | omega | (congr 1; omega)
    · rw [if_neg (by omega)]
      refine ⟨ys, rfl, .refl _, fun p => ?_⟩
      unfold rot
      repeat' split
      all_goals first | rfl | omega | (congr 1; omega)
  refine ⟨ws, s, e, c, fun fx => ?_, by omega, by omega, by omega, by omega, by omega, by omega, (rot_pm hp hz).mono (by omega) (by omega), ?_, ?_, ?_, ?_, ?_⟩
  · unfold G.slices_symMergeCmpFunc_int_v0_delta_sorted_1_b
    rw [if_neg (by rw [w64 (by omega) (by omega)]; omega)]
    simp only [Option.bind_some, joinK_inl]
    rw [if_neg (by rw [w64 (by omega) (by omega)]; omega)]
    simp only [Option.bind_some, joinK_inl, mid2 (show a + b ≤ 9223372036854775807 by omega), ← hc, eN, hv3, hsr, eE]
    rw [← Option.bind_assoc, hw]
    simp only [Option.bind_some]
    have k1 : (if (a : Int) < (s : Int) then some (decide ((s : Int) < (c : Int))) else some false) = some (decide (a < s ∧ s < c)) := by
      by_cases h5 : a < s
      · rw [if_pos (by omega)]; congr 1; simp only [decide_eq_decide]; omega
      · rw [if_neg (by omega)]; congr 1; simp; omega
    have k2 : (if (c : Int) < (e : Int) then some (decide ((e : Int) < (b : Int))) else some false) = some (decide (c < e ∧ e < b)) := by
      by_cases h5 : c < e
      · rw [if_pos (by omega)]; congr 1; simp only [decide_eq_decide]; omega
      · rw [if_neg (by omega)]; congr 1; simp; omega
    simp only [k1, k2, Option.bind_some, decide_eq_true_eq, bind_id]
  · exact fun p q h5 h6 h7 => by rw [rot_key hz, rot_key hz, if_pos (.inl (by omega)), if_pos (.inl h7)]; exact hs1 p q h5 h6 (by omega)
  · exact fun p q h5 h6 h7 => by
      rw [rot_key hz, rot_key hz, if_neg (by omega), if_neg (show ¬ (q < s ∨ e ≤ q) by omega), if_pos (by omega), if_pos (by omega)]; exact hs2 _ _ (by omega) (by omega) (by omega)
  · exact fun p q h5 h6 h7 => by
      rw [rot_key hz, rot_key hz, if_neg (by omega), if_neg (show ¬ (q < s ∨ e ≤ q) by omega), if_neg (by omega), if_neg (by omega)]; exact hs1 _ _ (by omega) (by omega) (by omega)
  · exact fun p q h5 h6 h7 => by rw [rot_key hz, rot_key hz, if_pos (.inr h5), if_pos (.inr (by omega))]; exact hs2 p q (by omega) h6 h7
  · intro p q h5 h6 h7 h8
    rw [rot_key hz, rot_key hz]
    by_cases c1 : p < s
    · rw [if_pos (.inl c1)]
      by_cases c2 : q < e
      · rw [if_neg (by omega), if_neg (by omega)]; exact hs1 _ _ h5 (by omega) (by omega)
      · rw [if_pos (.inr (by omega))]
        have k1 := h3 (s - 1) (by omega) (by omega)
        rw [show c + m - 1 - (s - 1) = e by omega] at k1
        have k2 : key l (ys.getD p 0) ≤ key l (ys.getD (s - 1) 0) := by
          by_cases ee : p = s - 1
          · rw [ee]; exact Int.le_refl _
          · exact hs1 _ _ h5 (by omega) (by omega)
        have k3 : key l (ys.getD e 0) ≤ key l (ys.getD q 0) := by
          by_cases ee : e = q
          · rw [ee]; exact Int.le_refl _
          · exact hs2 _ _ (by omega) (by omega) h8
        omega
    · rw [if_neg (by omega), if_pos (by omega)]
      by_cases c2 : q < e
      · rw [if_neg (by omega), if_neg (by omega)]
        have k1 := h4 s (Nat.le_refl _) (by omega)
        rw [show c + m - 1 - s = e - 1 by omega] at k1
        have k2 : key l (ys.getD (p + (m - s)) 0) ≤ key l (ys.getD (e - 1) 0) := by
          by_cases ee : p + (m - s) = e - 1
          · rw [ee]; exact Int.le_refl _
          · exact hs2 _ _ (by omega) (by omega) (by omega)
        have k3 : key l (ys.getD s 0) ≤ key l (ys.getD (q - (e - m)) 0) := by
          by_cases ee : s = q - (e - m)
          · rw [← ee]; exact Int.le_refl _
          · exact hs1 _ _ (by omega) (by omega) (by omega)
        omega
      · rw [if_pos (.inr (by omega))]; exact hs2 _ _ (by omega) (by omega) h8
theorem Srt.join {zs : List Int} {a c b : Nat} (h1 : Srt l zs a c) (h2 : Srt l zs c b) (h3 : ∀ p q, a ≤ p → p < c → c ≤ q → q < b → key l (zs.getD p 0) ≤ key l (zs.getD q 0)) : Srt l zs a b := fun p q h4 h5 h6 => by
  by_cases hq : q < c
  · exact h1 p q h4 h5 hq
  · by_cases hp : p < c
    · exact h3 p q h4 hp (by omega) h6
    · exact h2 p q (by omega) h5 h6
/-- What is so of every element of a range is so when its elements have changed places. -/
theorem Pm.any {xs zs : List Int} {lo hi : Nat} (h : Pm xs zs lo hi) (hl : hi ≤ xs.length) {p : Nat} (h1 : lo ≤ p) (h2 : p < hi) : ∃ q, lo ≤ q ∧ q < hi ∧ zs.getD p 0 = xs.getD q 0 := by
  have hlen := h.len
  have split : ∀ ws : List Int, ws.length = xs.length → ws = ws.take lo ++ ((ws.drop lo).take (hi - lo) ++ ws.drop hi) := fun ws hw => by
    have := List.take_append_drop (hi - lo) (ws.drop lo)
    rw [List.drop_drop, show lo + (hi - lo) = hi by omega] at this
    rw [this, List.take_append_drop]
  have e1 : zs.take lo = xs.take lo := List.ext_getElem? fun i => by
    simp only [List.getElem?_take]
    split
    · have := h.out i (.inl (by assumption))
      simp only [List.getD_eq_getElem?_getD] at this
      rw [List.getElem?_eq_getElem (by omega), List.getElem?_eq_getElem (by omega)] at this ⊢
      simpa using this
    · rfl
  have e2 : zs.drop hi = xs.drop hi := List.ext_getElem? fun i => by
    simp only [List.getElem?_drop]
    have := h.out (hi + i) (.inr (by omega))
    simp only [List.getD_eq_getElem?_getD] at this
    by_cases hi' : hi + i < xs.length
    · rw [List.getElem?_eq_getElem (by omega), List.getElem?_eq_getElem hi'] at this ⊢
      simpa using this
    · rw [List.getElem?_eq_none (by omega), List.getElem?_eq_none (by omega)]
  have hp := h.perm
  rw [split zs hlen, split xs rfl, e1, e2] at hp
  have hm := (List.perm_append_right_iff _).1 ((List.perm_append_left_iff _).1 hp)
  have hmem : zs.getD p 0 ∈ (zs.drop lo).take (hi - lo) := by
    have : zs.getD p 0 = zs[p] := by simp [show p < zs.length by omega]
    rw [this]
    refine List.mem_iff_getElem?.2 ⟨p - lo, ?_⟩
    rw [List.getElem?_take, if_pos (by omega), List.getElem?_drop, show lo + (p - lo) = p by omega, List.getElem?_eq_getElem (by omega)]
  obtain ⟨i, hi'⟩ := List.mem_iff_getElem?.1 (hm.mem_iff.1 hmem)
  rw [List.getElem?_take] at hi'
  split at hi'
  · rw [List.getElem?_drop] at hi'
    refine ⟨lo + i, by omega, by omega, ?_⟩
    rw [List.getD_eq_getElem?_getD (l := xs), hi']; rfl
  · cases hi'
theorem sym_of {ys : List Int} {a m b : Nat} (hall : AllIx l ys) (ham : a < m) (hmb : m < b) (hbl : b ≤ ys.length) (hb : ys.length ≤ big) (hs1 : Srt l ys a m) (hs2 : Srt l ys m b) :
    ∃ zs, G.slices_symMergeCmpFunc_int_v0_delta_sorted_1 ys (a : Int) (m : Int) (b : Int) l = some zs ∧ Pm ys zs a b ∧ Srt l zs a b := by
  unfold G.slices_symMergeCmpFunc_int_v0_delta_sorted_1
  obtain ⟨r, hr, a', b', ha', hb2, hp, hs⟩ := Fix_total (F := G.slices_symMergeCmpFunc_int_v0_delta_sorted_1_F)
    (fun k x => ∃ (ys : List Int) (a m b : Nat), x = (ys, (a : Int), (m : Int), (b : Int), l) ∧ k = b - a ∧ a < m ∧ m < b ∧ b ≤ ys.length ∧ ys.length ≤ big ∧ AllIx l ys ∧ Srt l ys a m ∧ Srt l ys m b)
    (fun x r => ∃ a b : Nat, x.2.1 = (a : Int) ∧ x.2.2.2.1 = (b : Int) ∧ Pm x.1 r a b ∧ Srt l r a b) (by
    rintro k x ⟨ys, a, m, b, rfl, rfl, ham, hmb, hbl, hb, hall, hs1, hs2⟩ f g hfg
    unfold G.slices_symMergeCmpFunc_int_v0_delta_sorted_1_F
    by_cases c1 : m = a + 1
    · subst c1
      obtain ⟨zs, h1, h2, h3⟩ := sym_1 hall hmb hbl hb hs2
      exact ⟨zs, h1 f, h1 g, a, b, rfl, rfl, h2, h3⟩
    · by_cases c2 : b = m + 1
      · subst c2
        obtain ⟨zs, h1, h2, h3⟩ := sym_2 hall (by omega) hbl hb hs1
        exact ⟨zs, h1 f, h1 g, a, m + 1, rfl, rfl, h2, h3⟩
      · obtain ⟨ws, s, e, c, h1, k1, k2, k3, k4, k5, k6, hp, t1, t2, t3, t4, hx⟩ := sym_3 hall (by omega) (by omega) hbl hb hs1 hs2
        have hlen := hp.len
        simp only [h1]
        obtain ⟨us, hf, hg, hpu, hsu⟩ : ∃ us, (if a < s ∧ s < c then f (ws, (a : Int), (s : Int), (c : Int), l) else some ws) = some us ∧ (if a < s ∧ s < c then g (ws, (a : Int), (s : Int), (c : Int), l) else some ws) = some us ∧ Pm ws us a c ∧ Srt l us a c := by
          by_cases h2 : a < s ∧ s < c
          · obtain ⟨r, hr1, hr2, a', b', q1, q2, q3, q4⟩ := hfg (c - a) (ws, (a : Int), (s : Int), (c : Int), l) (by omega) ⟨ws, a, s, c, rfl, rfl, h2.1, h2.2, by omega, by omega, hp.all hall, t1, t2⟩
            simp only at q1 q2 q3
            have e1 : a' = a := by omega
            have e2 : b' = c := by omega
            subst e1 e2
            exact ⟨r, by rw [if_pos h2]; exact hr1, by rw [if_pos h2]; exact hr2, q3, q4⟩
          · refine ⟨ws, by rw [if_neg h2], by rw [if_neg h2], Pm.refl _ _ _, ?_⟩
            by_cases h3 : s = a
            · rw [h3] at t2; exact t2
            · rw [show c = s by omega]; exact t1
        have hlu := hpu.len
        obtain ⟨vs, hf2, hg2, hpv, hsv⟩ : ∃ vs, (if c < e ∧ e < b then f (us, (c : Int), (e : Int), (b : Int), l) else some us) = some vs ∧ (if c < e ∧ e < b then g (us, (c : Int), (e : Int), (b : Int), l) else some us) = some vs ∧ Pm us vs c b ∧ Srt l vs c b := by
          by_cases h2 : c < e ∧ e < b
          · obtain ⟨r, hr1, hr2, a', b', q1, q2, q3, q4⟩ := hfg (b - c) (us, (c : Int), (e : Int), (b : Int), l) (by omega) ⟨us, c, e, b, rfl, rfl, h2.1, h2.2, by omega, by omega, hpu.all (hp.all hall), t3.of_out hpu (.inr (Nat.le_refl _)), t4.of_out hpu (.inr (by omega))⟩
            simp only at q1 q2 q3
            have e1 : a' = c := by omega
            have e2 : b' = b := by omega
            subst e1 e2
            exact ⟨r, by rw [if_pos h2]; exact hr1, by rw [if_pos h2]; exact hr2, q3, q4⟩
          · refine ⟨us, by rw [if_neg h2], by rw [if_neg h2], Pm.refl _ _ _, ?_⟩
            by_cases h3 : e = c
            · rw [h3] at t4; exact t4.of_out hpu (.inr (Nat.le_refl _))
            · rw [show b = e by omega]; exact t3.of_out hpu (.inr (Nat.le_refl _))
        refine ⟨vs, by rw [hf]; exact hf2, by rw [hg]; exact hg2, a, b, rfl, rfl, (hp.trans (hpu.mono (Nat.le_refl _) (by omega))).trans (hpv.mono (by omega) (Nat.le_refl _)), (hsu.of_out hpv (.inl (Nat.le_refl _))).join hsv fun p q h2 h3 h4 h5 => ?_⟩
        rw [hpv.out p (.inl h3)]
        obtain ⟨p', hp1, hp2, e1⟩ := hpu.any (by omega) h2 h3
        obtain ⟨q', hq1, hq2, e2⟩ := hpv.any (by omega) h4 h5
        rw [e1, e2, hpu.out q' (.inr hq1)]
        exact hx p' q' hp1 hp2 hq1 hq2) (k := b - a) (x := (ys, (a : Int), (m : Int), (b : Int), l)) ⟨ys, a, m, b, rfl, rfl, ham, hmb, hbl, hb, hall, hs1, hs2⟩
  simp only at ha' hb2 hp
  have e1 : a' = a := by omega
  have e2 : b' = b := by omega
  subst e1 e2
  exact ⟨r, hr, hp, hs⟩
end
end G
end Go.Proofs.Ytnbipipegmoigaa
