/- The stable sort: indices in the order of their targets. -/
import Derived.Test.YtnbipipegmoigaaPSort2
namespace Go.Proofs.Ytnbipipegmoigaa
open G
namespace G
section
variable {l : List G.Command}
/-- From lo on, blocks of s are sorted. -/
def Blk (l : List G.Command) (zs : List Int) (s lo n : Nat) : Prop := ∀ k, Srt l zs (lo + k * s) (min (lo + k * s + s) n)
theorem Blk.next {zs : List Int} {s lo n : Nat} (h : Blk l zs s lo n) (j : Nat) : Blk l zs s (lo + j * s) n := fun k => by
  have := h (j + k)
  rw [Nat.add_mul] at this
  rwa [show lo + j * s + k * s = lo + (j * s + k * s) by omega]
theorem Blk.of_out {xs ys : List Int} {s lo n a b : Nat} (h : Blk l xs s lo n) (hp : Pm xs ys a b) (hb : b ≤ lo) : Blk l ys s lo n := fun k => (h k).of_out hp (.inr (by omega))
theorem Blk.first {zs : List Int} {s lo n : Nat} (h : Blk l zs s lo n) : Srt l zs lo (min (lo + s) n) := by have := h 0; simpa using this
theorem Blk.second {zs : List Int} {s lo n : Nat} (h : Blk l zs s lo n) : Srt l zs (lo + s) (min (lo + s + s) n) := by have := h 1; simpa using this
/-- All blocks before hi, and those from hi on. -/
def Upto (l : List G.Command) (zs : List Int) (s hi : Nat) : Prop := ∀ k, k * s + s ≤ hi → Srt l zs (k * s) (k * s + s)
theorem Upto.of_out {xs ys : List Int} {s hi a b : Nat} (h : Upto l xs s hi) (hp : Pm xs ys a b) (ha : hi ≤ a) : Upto l ys s hi := fun k hk => (h k hk).of_out hp (.inl (by omega))
/-- One round over the blocks of s: blocks of 2 s. -/
theorem merge_round {n s : Nat} {ys : List Int} {w : Int × List Int} (hw : w.1 = (s : Int)) (hall : AllIx l ys) (hn : n = ys.length) (hb : ys.length ≤ big) (hs : 0 < s) (hsn : s < n) (hB : Blk l ys s 0 n) :
    ∃ (a : Nat) (zs : List Int), Iter (G.slices_stableCmpFunc_int_v0_delta_sorted_1_l3 (n : Int) l w) (0, IntKind.i64.wrap (2 * w.1), ys) = some ((a : Int), zs) ∧ Pm ys zs 0 n ∧ (∃ t, a = t * (2 * s)) ∧ a ≤ n ∧ n < a + 2 * s ∧ Upto l zs (2 * s) a ∧ Blk l zs s a n := by
  have hb' := hb
  rw [big_eq] at hb'
  have e2 : IntKind.i64.wrap (2 * w.1) = ((2 * s : Nat) : Int) := by rw [hw, w64 (by omega) (by omega)]; omega
  obtain ⟨r, hr, a, zs, rfl, h⟩ := Iter_total (f := G.slices_stableCmpFunc_int_v0_delta_sorted_1_l3 (n : Int) l w)
    (fun k st => ∃ (a : Nat) (zs : List Int), st = ((a : Int), ((a + 2 * s : Nat) : Int), zs) ∧ k = n - a ∧ Pm ys zs 0 n ∧ (∃ t, a = t * (2 * s)) ∧ a ≤ n ∧ Upto l zs (2 * s) a ∧ Blk l zs s a n)
    (fun r => ∃ (a : Nat) (zs : List Int), r = ((a : Int), zs) ∧ Pm ys zs 0 n ∧ (∃ t, a = t * (2 * s)) ∧ a ≤ n ∧ n < a + 2 * s ∧ Upto l zs (2 * s) a ∧ Blk l zs s a n) (by
      rintro k st ⟨a, zs, rfl, rfl, hp, ⟨t, ht⟩, ha, hu, hbk⟩
      have hlen := hp.len
      unfold G.slices_stableCmpFunc_int_v0_delta_sorted_1_l3
      by_cases hlt : a + 2 * s ≤ n
      · left
        rw [if_pos (show ((a : Int), ((a + 2 * s : Nat) : Int), zs).2.1 ≤ (n : Int) by simp; omega)]
        have e3 : IntKind.i64.wrap ((a : Int) + w.1) = ((a + s : Nat) : Int) := by rw [hw, w64 (by omega) (by omega)]; omega
        have e4 : IntKind.i64.wrap (((a + 2 * s : Nat) : Int) + IntKind.i64.wrap (2 * w.1)) = ((a + 2 * s + 2 * s : Nat) : Int) := by rw [e2, w64 (by omega) (by omega)]; omega
        have f1 := hbk.first
        have f2 := hbk.second
        rw [show min (a + s) n = a + s by omega] at f1
        rw [show min (a + s + s) n = a + 2 * s by omega] at f2
        obtain ⟨ws, h1, h2, h3⟩ := sym_of (l := l) (ys := zs) (a := a) (m := a + s) (b := a + 2 * s) (hp.all hall) (by omega) (by omega) (by omega) (by omega) f1 f2
        simp only [e3, h1, Option.bind_some, e4]
        refine ⟨n - (a + 2 * s), _, rfl, by omega, a + 2 * s, ws, rfl, rfl, hp.trans (h2.mono (Nat.zero_le _) hlt), ⟨t + 1, by rw [Nat.add_mul]; omega⟩, hlt, fun k hk => ?_, ?_⟩
        · by_cases hk2 : k * (2 * s) + 2 * s ≤ a
          · exact (hu.of_out h2 (Nat.le_refl _)) k hk2
          · have : k = t := by
              rcases Nat.lt_trichotomy k t with h | h | h
              · have h' := Nat.mul_le_mul_right (2 * s) (show k + 1 ≤ t from h)
                rw [Nat.add_mul] at h'
                omega
              · exact h
              · have h' := Nat.mul_le_mul_right (2 * s) (show t + 1 ≤ k from h)
                rw [Nat.add_mul] at h'
                omega
            subst this
            rw [← ht]; exact h3
        · have := (hbk.next 2).of_out h2 (by omega)
          exact this
      · right
        rw [if_neg (show ¬ ((a : Int), ((a + 2 * s : Nat) : Int), zs).2.1 ≤ (n : Int) by simp; omega)]
        exact ⟨_, rfl, a, zs, rfl, hp, ⟨t, ht⟩, ha, by omega, hu, hbk⟩) n (0, IntKind.i64.wrap (2 * w.1), ys)
    ⟨0, ys, by rw [e2]; simp, rfl, Pm.refl _ _ _, ⟨0, by simp⟩, Nat.zero_le _, fun k hk => by omega, hB⟩
  exact ⟨a, zs, hr, h⟩
theorem blk_of {zs : List Int} {s a n : Nat} (hs : 0 < s) (ht : ∃ t, a = t * s) (hu : Upto l zs s a) (hl : Srt l zs a (min (a + s) n)) (hn : n ≤ a + s) : Blk l zs s 0 n := by
  obtain ⟨t, rfl⟩ := ht
  intro k
  rw [Nat.zero_add]
  by_cases h1 : k < t
  · have : (k + 1) * s ≤ t * s := Nat.mul_le_mul_right s h1
    rw [Nat.add_mul] at this
    have h2 := hu k (by omega)
    exact fun p q h3 h4 h5 => h2 p q h3 h4 (by omega)
  · by_cases h2 : k = t
    · subst h2; exact hl
    · have : (t + 1) * s ≤ k * s := Nat.mul_le_mul_right s (by omega)
      rw [Nat.add_mul] at this
      exact fun p q h3 h4 h5 => by omega
theorem insert_round {n : Nat} {ys : List Int} (hall : AllIx l ys) (hn : n = ys.length) (hb : ys.length ≤ big) :
    ∃ (a : Nat) (zs : List Int), Iter (G.slices_stableCmpFunc_int_v0_delta_sorted_1_l1 (n : Int) l) (0, 20, ys) = some ((a : Int), zs) ∧ Pm ys zs 0 n ∧ (∃ t, a = t * 20) ∧ a ≤ n ∧ n < a + 20 ∧ Upto l zs 20 a := by
  have hb' := hb
  rw [big_eq] at hb'
  obtain ⟨r, hr, a, zs, rfl, h⟩ := Iter_total (f := G.slices_stableCmpFunc_int_v0_delta_sorted_1_l1 (n : Int) l)
    (fun k st => ∃ (a : Nat) (zs : List Int), st = ((a : Int), ((a + 20 : Nat) : Int), zs) ∧ k = n - a ∧ Pm ys zs 0 n ∧ (∃ t, a = t * 20) ∧ a ≤ n ∧ Upto l zs 20 a)
    (fun r => ∃ (a : Nat) (zs : List Int), r = ((a : Int), zs) ∧ Pm ys zs 0 n ∧ (∃ t, a = t * 20) ∧ a ≤ n ∧ n < a + 20 ∧ Upto l zs 20 a) (by
      rintro k st ⟨a, zs, rfl, rfl, hp, ⟨t, ht⟩, ha, hu⟩
      have hlen := hp.len
      unfold G.slices_stableCmpFunc_int_v0_delta_sorted_1_l1
      by_cases hlt : a + 20 ≤ n
      · left
        rw [if_pos (show ((a : Int), ((a + 20 : Nat) : Int), zs).2.1 ≤ (n : Int) by simp; omega)]
        have e4 : IntKind.i64.wrap (((a + 20 : Nat) : Int) + 20) = ((a + 20 + 20 : Nat) : Int) := by rw [w64 (by omega) (by omega)]; omega
        obtain ⟨ws, h1, h2, h3⟩ := insertion_of (l := l) (ys := zs) (a := a) (b := a + 20) (hp.all hall) (by omega) (by omega) (by omega)
        simp only [h1, Option.bind_some, e4]
        refine ⟨n - (a + 20), _, rfl, by omega, a + 20, ws, rfl, rfl, hp.trans (h2.mono (Nat.zero_le _) hlt), ⟨t + 1, by omega⟩, hlt, fun k hk => ?_⟩
        by_cases hk2 : k * 20 + 20 ≤ a
        · exact (hu.of_out h2 (Nat.le_refl _)) k hk2
        · have : k = t := by omega
          subst this
          rw [← ht]; exact h3
      · right
        rw [if_neg (show ¬ ((a : Int), ((a + 20 : Nat) : Int), zs).2.1 ≤ (n : Int) by simp; omega)]
        exact ⟨_, rfl, a, zs, rfl, hp, ⟨t, ht⟩, ha, by omega, hu⟩) n (0, 20, ys)
    ⟨0, ys, rfl, rfl, Pm.refl _ _ _, ⟨0, rfl⟩, Nat.zero_le _, fun k hk => by omega⟩
  exact ⟨a, zs, hr, h⟩
theorem stable_of {ys : List Int} (hall : AllIx l ys) (hb : ys.length ≤ big) : ∃ zs, G.slices_SortStableFunc_int_int_v0_delta_sorted_1 ys l = some zs ∧ zs.Perm ys ∧ Srt l zs 0 ys.length := by
  have hb' := hb
  rw [big_eq] at hb'
  obtain ⟨n, hn⟩ : ∃ n, n = ys.length := ⟨_, rfl⟩
  unfold G.slices_SortStableFunc_int_int_v0_delta_sorted_1 G.slices_stableCmpFunc_int_v0_delta_sorted_1
  rw [← hn]
  obtain ⟨a, zs, h1, hp, ht, ha1, ha2, hu⟩ := insert_round hall hn hb
  have hlen := hp.len
  obtain ⟨ws, h2, hp2, hs2⟩ := insertion_of (l := l) (ys := zs) (a := a) (b := n) (hp.all hall) ha1 (by omega) (by omega)
  have hB : Blk l ws 20 0 n := blk_of (by omega) ht (hu.of_out hp2 (Nat.le_refl _)) (by rw [show min (a + 20) n = n by omega]; exact hs2) (by omega)
  rw [h1]
  simp only [Option.bind_some, h2, bind_id]
  obtain ⟨r, hr, h3, h4⟩ := Iter_total (f := G.slices_stableCmpFunc_int_v0_delta_sorted_1_l2 (n : Int) l)
    (fun k st => ∃ (s : Nat) (zs : List Int), st = ((s : Int), zs) ∧ k = n + 20 - s ∧ 20 ≤ s ∧ s ≤ 2 * n + 20 ∧ Pm ys zs 0 n ∧ Blk l zs s 0 n)
    (fun zs => Pm ys zs 0 n ∧ Srt l zs 0 n) (by
      rintro k st ⟨s, zs, rfl, rfl, h5, h6, hp, hB⟩
      have hlen := hp.len
      unfold G.slices_stableCmpFunc_int_v0_delta_sorted_1_l2
      by_cases hlt : s < n
      · left
        rw [if_pos (show ((s : Int), zs).1 < (n : Int) by simp; omega)]
        obtain ⟨a, us, q1, q2, ⟨t, q3⟩, q4, q5, q6, q7⟩ := merge_round (l := l) (n := n) (s := s) (ys := zs) (w := ((s : Int), zs)) rfl (hp.all hall) (by omega) (by omega) (by omega) hlt hB
        have hl2 := q2.len
        have e1 : IntKind.i64.wrap ((a : Int) + (s : Int)) = ((a + s : Nat) : Int) := by rw [w64 (by omega) (by omega)]; omega
        have e2 : IntKind.i64.wrap ((s : Int) * 2) = ((2 * s : Nat) : Int) := by rw [w64 (by omega) (by omega)]; omega
        have f1 := q7.first
        have f2 := q7.second
        simp only [q1, Option.bind_some, e1, e2]
        by_cases hm : a + s < n
        · rw [if_pos (by omega)]
          rw [show min (a + s) n = a + s by omega] at f1
          rw [show min (a + s + s) n = n by omega] at f2
          obtain ⟨vs, g1, g2, g3⟩ := sym_of (l := l) (ys := us) (a := a) (m := a + s) (b := n) (q2.all (hp.all hall)) (by omega) hm (by omega) (by omega) f1 f2
          simp only [g1, Option.bind_some]
          exact ⟨n + 20 - 2 * s, _, rfl, by omega, 2 * s, vs, rfl, rfl, by omega, by omega, (hp.trans q2).trans (g2.mono (Nat.zero_le _) (Nat.le_refl _)), blk_of (by omega) ⟨t, q3⟩ (q6.of_out g2 (Nat.le_refl _)) (by rw [show min (a + 2 * s) n = n by omega]; exact g3) (by omega)⟩
        · rw [if_neg (by omega)]
          rw [show min (a + s) n = n by omega] at f1
          exact ⟨n + 20 - 2 * s, _, rfl, by omega, 2 * s, us, rfl, rfl, by omega, by omega, hp.trans q2, blk_of (by omega) ⟨t, q3⟩ q6 (by rw [show min (a + 2 * s) n = n by omega]; exact f1) (by omega)⟩
      · right
        rw [if_neg (show ¬ ((s : Int), zs).1 < (n : Int) by simp; omega)]
        have := hB.first
        rw [show min (0 + s) n = n by omega] at this
        exact ⟨_, rfl, hp, this⟩) n (20, ws)
    ⟨20, ws, rfl, by omega, by omega, by omega, hp.trans (hp2.mono (Nat.zero_le _) (Nat.le_refl _)), hB⟩
  exact ⟨r, hr, h3.perm, h4⟩
/-- The indices of a list. -/
def ixs (n : Nat) : List Int := (List.range n).map fun k : Nat => (k : Int)
theorem ixs_all (l : List G.Command) : AllIx l (ixs l.length) := fun x hx => by
  obtain ⟨k, hk, rfl⟩ := List.mem_map.1 hx
  have := List.mem_range.1 hk
  exact ⟨by omega, by omega⟩
theorem sorted_of (h : l.length ≤ 17592186044416) : ∃ ord, G.delta_sorted l = some (l, ord) ∧ ord.Perm (ixs l.length) ∧ Srt l ord 0 l.length := by
  unfold G.delta_sorted
  rw [chk_of (by omega)]
  have h1 : Iter (G.delta_sorted_l1 l) (0, List.replicate l.length 0) = some (ixs l.length) := by
    refine Iter_count l.length (fun k => ((k : Int), (ixs k) ++ List.replicate (l.length - k) 0)) _ (fun k hk => ?_) ?_ (by simp [ixs])
    · unfold G.delta_sorted_l1
      rw [if_pos (by simp; omega)]
      obtain ⟨x, hx⟩ := idx_some_of (l := ixs k ++ List.replicate (l.length - k) (0 : Int)) (i := (k : Int)) (k := k) rfl (by simp [ixs]; omega)
      simp only [hx, Option.bind_some, inc64 hk (by omega), Int.toNat_natCast]
      congr 3
      rw [show ixs (k + 1) = ixs k ++ [(k : Int)] by simp [ixs, List.range_succ], List.set_append_right _ _ (by simp [ixs])]
      rw [show l.length - k = (l.length - (k + 1)) + 1 by omega, List.replicate_succ]
      simp [ixs]
    · unfold G.delta_sorted_l1
      rw [if_neg (by simp)]
      simp
  rw [Int.toNat_natCast, h1]
  simp only [Option.bind_some]
  have hl : (ixs l.length).length = l.length := by simp [ixs]
  obtain ⟨zs, h2, h3, h4⟩ := stable_of (l := l) (ixs_all l) (by rw [hl, big_eq]; omega)
  have hz := h3.length_eq
  rw [h2]
  simp only [Option.bind_some]
  exact ⟨zs, rfl, h3, by rw [hl] at h4; exact h4⟩
end
end G
end Go.Proofs.Ytnbipipegmoigaa
