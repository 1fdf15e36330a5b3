/- The statements on deltas: the targets of a valid delta tile the new file; totals, sorting, breaking. -/
import Derived.Test.YtnbipipegmoigaaPW5
namespace Go.Proofs.Ytnbipipegmoigaa
open G
namespace G
/-- Commands in an order. -/
def inOrd (l : List G.Command) (ord : List Int) : List G.Command := ord.map fun x => cat l x.toNat
section
variable {l : List G.Command} {ord : List Int}
theorem inOrd_perm (h : Ord l ord) : (inOrd l ord).Perm l := by
  refine (h.perm.map _).trans ?_
  have : (ixs l.length).map (fun x => cat l x.toNat) = l := by
    refine List.ext_getElem (by simp [ixs]) fun i h1 h2 => ?_
    simp [ixs, h2]
  rw [this]
theorem inOrd_len (h : Ord l ord) : (inOrd l ord).length = l.length := (inOrd_perm h).length_eq
theorem inOrd_get (h : Ord l ord) {k : Nat} (hk : k < l.length) : cat (inOrd l ord) k = at' l ord k := by
  have hl := h.len
  rw [cat_getElem (by rw [inOrd_len h]; exact hk)]
  unfold inOrd at'
  rw [List.getElem_map]
  simp [show k < ord.length by omega]
end
section
variable {d : G.Delta} {ord : List Int}
/-- Where command k of the order begins. -/
def pos (d : G.Delta) (ord : List Int) (k : Nat) : Int := if k < d.commands.length then (at' d.commands ord k).to else d.newLen
theorem apart_of (hv : VD d) (ho : Ord d.commands ord) {p q : Nat} (hpq : p < q) (hq : q < d.commands.length) : tend (at' d.commands ord p) ≤ (at' d.commands ord q).to := by
  refine Int.not_lt.1 fun hlt => hv.apart ?_
  have hle := ho.le (Nat.le_of_lt hpq) hq
  have gp := hv.good _ (ho.mem (k := p) (by omega))
  have gq := hv.good _ (ho.mem hq)
  have h1 := ho.ix (k := p) (by omega)
  have h2 := ho.ix hq
  obtain ⟨a1, a2⟩ := h1
  obtain ⟨b1, b2⟩ := h2
  refine ⟨(ord.getD p 0).toNat, (ord.getD q 0).toNat, by omega, by omega, fun e => by have := ho.inj (by omega) hq e; omega, ?_⟩
  show ov (at' d.commands ord p) (at' d.commands ord q) = true
  unfold ov
  rw [decide_eq_true_eq]
  have := gq.len1
  refine ⟨?_, hlt⟩
  unfold tend; omega
theorem tiled (hv : VD d) (ho : Ord d.commands ord) : pos d ord 0 = 0 ∧ ∀ k, k < d.commands.length → pos d ord (k + 1) = tend (at' d.commands ord k) := by
  have hN := hv.rng
  unfold InR at hN
  constructor
  · unfold pos
    split
    · rename_i hn
      have g0 := hv.good _ (ho.mem hn)
      have := g0.to0; have := g0.len1; have := g0.fits
      refine Int.le_antisymm (Int.not_lt.1 fun hlt => ?_) (by omega)
      obtain ⟨c, hc, h1, h2⟩ := hv.full 0 (Int.le_refl _) (by unfold tend at *; omega)
      obtain ⟨k, hk, rfl⟩ := ho.any hc
      have := ho.le (Nat.zero_le k) hk
      omega
    · rename_i hn
      refine Int.le_antisymm (Int.not_lt.1 fun hlt => ?_) (by omega)
      obtain ⟨c, hc, _⟩ := hv.full 0 (Int.le_refl _) hlt
      obtain ⟨k, hk, _⟩ := ho.any hc
      omega
  · intro k hk
    have gk := hv.good _ (ho.mem hk)
    have := gk.to0; have := gk.len1; have := gk.fits
    have none : ¬ Cov d.commands (tend (at' d.commands ord k)) → d.newLen ≤ tend (at' d.commands ord k) := fun h => Int.not_lt.1 fun hlt => h (hv.full _ (by unfold tend; omega) hlt)
    have cov : Cov d.commands (tend (at' d.commands ord k)) → ∃ q, k < q ∧ q < d.commands.length ∧ (at' d.commands ord q).to ≤ tend (at' d.commands ord k) := fun ⟨c, hc, h1, h2⟩ => by
      obtain ⟨q, hq, rfl⟩ := ho.any hc
      refine ⟨q, Nat.lt_of_not_le fun hle => ?_, hq, h1⟩
      by_cases e : q = k
      · subst e; omega
      · have := apart_of hv ho (p := q) (q := k) (by omega) hk
        unfold tend at *; omega
    unfold pos
    split
    · rename_i hk1
      refine Int.le_antisymm ?_ (apart_of hv ho (Nat.lt_succ_self k) hk1)
      have g1 := hv.good _ (ho.mem hk1)
      have h3 := apart_of hv ho (Nat.lt_succ_self k) hk1
      have h4 := g1.fits; have h5 := g1.len1
      by_cases hc : Cov d.commands (tend (at' d.commands ord k))
      · obtain ⟨q, h6, h7, h8⟩ := cov hc
        exact Int.le_trans (ho.le h6 h7) h8
      · have := none hc
        unfold tend at h4; omega
    · rename_i hk1
      refine Int.le_antisymm ?_ gk.fits
      refine none fun hc => ?_
      obtain ⟨q, h6, h7, _⟩ := cov hc
      omega
/-- A sum over commands. -/
def tot (f : G.Command → Int) : List G.Command → Int
  | [] => 0
  | c :: l => f c + tot f l
theorem tot_append (f : G.Command → Int) : ∀ a b : List G.Command, tot f (a ++ b) = tot f a + tot f b
  | [], b => by simp [tot]
  | c :: a, b => by simp only [List.cons_append, tot, tot_append f a b]; omega
theorem tot_perm (f : G.Command → Int) {a b : List G.Command} (h : a.Perm b) : tot f a = tot f b := by
  induction h with
  | nil => rfl
  | cons x _ ih => simp only [tot, ih]
  | swap x y l => simp only [tot]; omega
  | trans _ _ h1 h2 => rw [h1, h2]
theorem tot_add (f g : G.Command → Int) : ∀ l : List G.Command, tot (fun c => f c + g c) l = tot f l + tot g l
  | [] => rfl
  | c :: l => by simp only [tot, tot_add f g l]; omega
theorem tot_nonneg (f : G.Command → Int) : ∀ l : List G.Command, (∀ c ∈ l, 0 ≤ f c) → 0 ≤ tot f l
  | [], _ => Int.le_refl _
  | c :: l, h => by have := h c (by simp); have := tot_nonneg f l (fun x hx => h x (by simp [hx])); simp only [tot]; omega
theorem tot_take (f : G.Command → Int) (l : List G.Command) (h : ∀ c ∈ l, 0 ≤ f c) (k : Nat) : 0 ≤ tot f (l.take k) ∧ tot f (l.take k) ≤ tot f l := by
  have h1 := tot_nonneg f (l.take k) fun c hc => h c (List.mem_of_mem_take hc)
  have h2 := tot_nonneg f (l.drop k) fun c hc => h c (List.mem_of_mem_drop hc)
  have h3 := tot_append f (l.take k) (l.drop k)
  rw [List.take_append_drop] at h3
  omega
theorem tot_succ (f : G.Command → Int) (l : List G.Command) {k : Nat} (hk : k < l.length) : tot f (l.take (k + 1)) = tot f (l.take k) + f l[k] := by
  rw [List.take_succ_eq_append_getElem hk, tot_append]; simp [tot]
theorem total_len (hv : VD d) (hn : d.commands.length ≤ 17592186044416) : tot tlen d.commands = d.newLen := by
  obtain ⟨ord, _, hp, hs⟩ := sorted_of hn
  have ho : Ord d.commands ord := ⟨hp, hs⟩
  obtain ⟨h0, h1⟩ := tiled hv ho
  have hl := inOrd_len ho
  rw [← tot_perm tlen (inOrd_perm ho)]
  have key : ∀ k, k ≤ d.commands.length → tot tlen ((inOrd d.commands ord).take k) = pos d ord k := by
    intro k
    induction k with
    | zero => intro _; rw [h0]; rfl
    | succ k ih =>
      intro hk
      have hp := ih (by omega)
      rw [tot_succ tlen _ (by omega), hp, h1 k hk, ← cat_getElem (by omega), inOrd_get ho hk]
      unfold pos tend
      rw [if_pos (show k < d.commands.length by omega)]
  have := key d.commands.length (Nat.le_refl _)
  rw [List.take_of_length_le (by omega)] at this
  rw [this]; unfold pos; rw [if_neg (by omega)]
theorem sorted2_of (ho : Ord d.commands ord) (hn : d.commands.length ≤ 1000000000000) : G.delta_sorted_2_delta_Sort ord d.commands d [] = some (d, inOrd d.commands ord) := by
  have hl := ho.len
  unfold G.delta_sorted_2_delta_Sort
  refine Iter_count (f := G.delta_sorted_2_delta_Sort_l1 ord d.commands) ord.length (fun k => ((k : Int), d, (inOrd d.commands ord).take k)) _ (fun k hk => ?step) ?fin rfl
  case step =>
    unfold G.delta_sorted_2_delta_Sort_l1 G.delta_Sort_b1
    have hix := ho.ix (k := k) (by omega)
    obtain ⟨h1, h2⟩ := hix
    rw [if_pos (by simp; omega)]
    simp only [idx_getD (0 : Int) hk, Option.bind_some]
    rw [idx_getD' (k := (ord.getD k 0).toNat) default (by omega) (by omega)]
    simp only [Option.bind_some, Target_of]
    rw [app_of (by have := inOrd_len ho; simp; omega)]
    simp only [Option.bind_some, inc64 hk (by omega)]
    rw [List.take_succ_eq_append_getElem (by rw [inOrd_len ho]; omega), ← cat_getElem, inOrd_get ho (by omega)]
    rfl
  case fin =>
    unfold G.delta_sorted_2_delta_Sort_l1
    rw [if_neg (by simp)]
    simp only
    rw [List.take_of_length_le (by rw [inOrd_len ho]; omega)]
theorem Sort_of (ho : Ord d.commands ord) (hs : G.delta_sorted d.commands = some (d.commands, ord)) (hd : ∀ c ∈ d.commands, c.data.length ≤ 140737488355328) (hn : d.commands.length ≤ 1000000000000) :
    G.delta_Sort d = some ⟨d.oldLen, d.newLen, d.oldHash, d.newHash, inOrd d.commands ord⟩ := by
  unfold G.delta_Sort
  rw [hs]
  simp only [Option.bind_some, sorted2_of ho hn]
  rw [With_of d _ (fun c hc => hd c ((inOrd_perm ho).mem_iff.1 hc)) (by rw [inOrd_len ho]; exact hn)]
  rfl
theorem Sortw_of (ho : Ord d.commands ord) (hs : G.delta_sorted d.commands = some (d.commands, ord)) (hd : ∀ c ∈ d.commands, c.data.length ≤ 140737488355328) (hn : d.commands.length ≤ 1000000000000) :
    G.delta_Sort_w d = some (d.oldLen, d.newLen, d.oldHash, d.newHash, inOrd d.commands ord) := by
  unfold G.delta_Sort_w
  rw [hs]
  simp only [Option.bind_some, sorted2_of ho hn]
  rw [Withw_of d _ (fun c hc => hd c ((inOrd_perm ho).mem_iff.1 hc)) (by rw [inOrd_len ho]; exact hn)]
  rfl
/-- The reference sorts. -/
theorem refSort_of (l : List G.Command) (hn : l.length ≤ 1000000000000) : ∃ S, G.graftref05_Sort l = some S ∧ S.Perm l ∧ S.Pairwise fun a b => a.to ≤ b.to := by
  unfold G.graftref05_Sort
  refine Iter_total (f := G.graftref05_Sort_l1 l) (fun m st => ∃ (k : Nat) (S : List G.Command), st = (S, (k : Int)) ∧ m = l.length - k ∧ k ≤ l.length ∧ S.Perm (l.take k) ∧ S.Pairwise fun a b => a.to ≤ b.to)
    (fun S => S.Perm l ∧ S.Pairwise fun a b => a.to ≤ b.to) ?_ l.length _ ⟨0, [], rfl, rfl, Nat.zero_le _, by simp, .nil⟩
  rintro m st ⟨k, S, rfl, rfl, hk, hp, hs⟩
  have hl := hp.length_eq
  rw [List.length_take, Nat.min_eq_left hk] at hl
  unfold G.graftref05_Sort_l1
  by_cases hlt : k < l.length
  · left
    rw [if_pos (show (S, (k : Int)).2 < (l.length : Int) by simp; omega)]
    obtain ⟨r, hr, j, rfl, hj1, hj2, hj3⟩ := Iter_total (f := G.graftref05_Sort_l2 l (S, (k : Int)))
      (fun m st => ∃ j : Nat, st = (j : Int) ∧ m = j ∧ j ≤ S.length ∧ ∀ i, j ≤ i → i < S.length → (cat l k).to < (cat S i).to)
      (fun r => ∃ j : Nat, r = (j : Int) ∧ j ≤ S.length ∧ (∀ i, j ≤ i → i < S.length → (cat l k).to < (cat S i).to) ∧ ∀ i, i < j → (cat S i).to ≤ (cat l k).to) (by
        rintro m st ⟨j, rfl, hmj, hj, hgt⟩
        unfold G.graftref05_Sort_l2
        by_cases h0 : j > 0
        · have e1 : IntKind.i64.wrap ((j : Int) - 1) = ((j - 1 : Nat) : Int) := by rw [w64 (by omega) (by omega)]; omega
          rw [if_pos (by omega), e1]
          simp only [idx_getD default (show j - 1 < S.length by omega), idx_getD default hlt, Option.bind_some, decide_eq_true_eq]
          by_cases hc : (cat S (j - 1)).to > (cat l k).to
          · left
            rw [if_pos hc]
            refine ⟨j - 1, _, rfl, by omega, j - 1, rfl, rfl, by omega, fun i h1 h2 => ?_⟩
            by_cases e : i = j - 1
            · subst e; exact hc
            · exact hgt i (by omega) h2
          · right
            rw [if_neg hc]
            refine ⟨_, rfl, j, rfl, hj, hgt, fun i hi => ?_⟩
            by_cases e : i = j - 1
            · subst e; omega
            · have := List.pairwise_iff_getElem.1 hs i (j - 1) (by omega) (by omega) (by omega)
              rw [← cat_getElem, ← cat_getElem] at this
              omega
        · right
          rw [if_neg (by omega)]
          simp only [Option.bind_some, Bool.false_eq_true, if_false]
          exact ⟨_, rfl, j, rfl, hj, hgt, fun i hi => by omega⟩) S.length (S.length : Int) ⟨S.length, rfl, rfl, Nat.le_refl _, fun i h1 h2 => by omega⟩
    have e0 : (S.length : Int) = ((S, (k : Int)).1.length : Int) := rfl
    rw [← e0, hr]
    simp only [Option.bind_some]
    rw [slcTo_of (by omega), slcFrom_of (by omega)]
    simp only [Option.bind_some, idx_getD default hlt, Int.toNat_natCast]
    rw [app_of (by simp; omega)]
    simp only [Option.bind_some]
    rw [app_of (by simp; omega)]
    simp only [Option.bind_some]
    rw [app_of (by simp; omega)]
    simp only [Option.bind_some, inc64 hlt (by omega), List.nil_append]
    refine ⟨l.length - (k + 1), _, rfl, by omega, k + 1, S.take j ++ [cat l k] ++ S.drop j, rfl, rfl, by omega, ?_, ?_⟩
    · rw [List.take_succ_eq_append_getElem hlt, ← cat_getElem]
      have h1 : (S.take j ++ [cat l k] ++ S.drop j).Perm (S ++ [cat l k]) := by
        have e : S ++ [cat l k] = S.take j ++ (S.drop j ++ [cat l k]) := by rw [← List.append_assoc, List.take_append_drop]
        rw [e, List.append_assoc]
        exact List.perm_append_comm.append_left _
      exact h1.trans (hp.append_right _)
    · rw [List.pairwise_append, List.pairwise_append]
      refine ⟨⟨hs.sublist (List.take_sublist _ _), by simp, fun a ha b hb => ?_⟩, hs.sublist (List.drop_sublist _ _), fun a ha b hb => ?_⟩
      · simp at hb; subst hb
        obtain ⟨i, hi, rfl⟩ := List.mem_take_iff_getElem.1 ha
        rw [← cat_getElem]; exact hj3 i (by omega)
      · obtain ⟨i, hi, rfl⟩ := List.mem_drop_iff_getElem.1 hb
        rw [← cat_getElem]
        have h1 := hj2 (j + i) (by omega) (by omega)
        rcases List.mem_append.1 ha with ha | ha
        · obtain ⟨q, hq, rfl⟩ := List.mem_take_iff_getElem.1 ha
          have h2 := hj3 q (by omega)
          rw [← cat_getElem]; omega
        · rw [List.mem_singleton] at ha; subst ha; exact Int.le_of_lt h1
  · right
    rw [if_neg (show ¬ (S, (k : Int)).2 < (l.length : Int) by simp; omega)]
    have : k = l.length := by omega
    subst this
    rw [List.take_length] at hp
    exact ⟨_, rfl, hp, hs⟩
theorem sorted_unique : ∀ (A B : List G.Command), A.Perm B → (A.Pairwise fun a b => a.to ≤ b.to) → (B.Pairwise fun a b => a.to ≤ b.to) → (∀ a ∈ A, ∀ b ∈ A, a.to = b.to → a = b) → A = B
  | [], B, hp, _, _, _ => (List.nil_perm.1 hp).symm
  | a :: A, [], hp, _, _, _ => absurd hp.length_eq (by simp)
  | a :: A, b :: B, hp, ha, hb, hu => by
    have h1 : a ∈ b :: B := hp.mem_iff.1 (by simp)
    have h2 : b ∈ a :: A := hp.mem_iff.2 (by simp)
    have k1 : a.to ≤ b.to := by
      rcases List.mem_cons.1 h2 with e | e
      · rw [e]; exact Int.le_refl _
      · exact (List.pairwise_cons.1 ha).1 b e
    have k2 : b.to ≤ a.to := by
      rcases List.mem_cons.1 h1 with e | e
      · rw [e]; exact Int.le_refl _
      · exact (List.pairwise_cons.1 hb).1 a e
    have e : a = b := hu a (by simp) b h2 (by omega)
    subst e
    rw [sorted_unique A B (List.Perm.cons_inv hp) (List.pairwise_cons.1 ha).2 (List.pairwise_cons.1 hb).2 fun x hx y hy => hu x (by simp [hx]) y (by simp [hy])]
theorem to_inj (hv : VD d) : ∀ a ∈ d.commands, ∀ b ∈ d.commands, a.to = b.to → a = b := fun a ha b hb e => by
  obtain ⟨i, hi, rfl⟩ := mem_cat ha
  obtain ⟨j, hj, rfl⟩ := mem_cat hb
  by_cases hij : i = j
  · rw [hij]
  · refine absurd ⟨i, j, hi, hj, hij, ?_⟩ hv.apart
    have := (hv.good _ ha).len1
    have := (hv.good _ hb).len1
    unfold ov tend
    rw [decide_eq_true_eq]; omega
theorem good_set {d : G.Delta} {c : G.Command} (h : Good d c) (L : List G.Command) : Good ⟨d.oldLen, d.newLen, d.oldHash, d.newHash, L⟩ c := ⟨h.to0, h.len1, h.fits, h.max, h.copy, h.lit⟩
theorem sorted_valid (hv : VD d) (ho : Ord d.commands ord) : VD ⟨d.oldLen, d.newLen, d.oldHash, d.newHash, inOrd d.commands ord⟩ := by
  have hp := inOrd_perm ho
  refine ⟨hv.rng, fun c hc => good_set (hv.good c (hp.mem_iff.1 hc)) _, ?_, fun o h1 h2 => ?_⟩
  · rintro ⟨i, j, hi, hj, hne, h⟩
    change i < (inOrd d.commands ord).length at hi
    change j < (inOrd d.commands ord).length at hj
    change ov (cat (inOrd d.commands ord) i) (cat (inOrd d.commands ord) j) = true at h
    rw [inOrd_len ho] at hi hj
    rw [inOrd_get ho hi, inOrd_get ho hj] at h
    unfold ov at h
    rw [decide_eq_true_eq] at h
    rcases Nat.lt_or_gt_of_ne hne with k | k
    · have := apart_of hv ho k hj; omega
    · have := apart_of hv ho k hi; omega
  · obtain ⟨c, hc, h3⟩ := hv.full o h1 h2
    exact ⟨c, hp.mem_iff.2 hc, h3⟩
end
end G
end Go.Proofs.Ytnbipipegmoigaa
