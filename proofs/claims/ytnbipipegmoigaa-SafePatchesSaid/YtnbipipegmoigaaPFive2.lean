/- The targets in their order: whether they meet, and where the first gap is. -/
import Derived.Test.YtnbipipegmoigaaPFive
import Derived.Test.YtnbipipegmoigaaPSort3
namespace Go.Proofs.Ytnbipipegmoigaa
open G
namespace G
abbrev cat (l : List G.Command) (i : Nat) : G.Command := l.getD i default
/-- Some target has the byte. -/
def Cov (l : List G.Command) (o : Int) : Prop := ∃ c ∈ l, c.to ≤ o ∧ o < tend c
/-- Two targets meet. -/
def Meets (l : List G.Command) : Prop := ∃ i j, i < l.length ∧ j < l.length ∧ i ≠ j ∧ ov (cat l i) (cat l j) = true
/-- The first byte that no target has. -/
structure IsEnd (l : List G.Command) (t : Int) : Prop where
  pos : 0 ≤ t
  cov : ∀ o, 0 ≤ o → o < t → Cov l o
  not : ¬ Cov l t
  cand : t = 0 ∨ ∃ c ∈ l, t = tend c
theorem IsEnd.unique {l : List G.Command} {t t' : Int} (h : IsEnd l t) (h' : IsEnd l t') : t = t' := by
  rcases Int.lt_trichotomy t t' with k | k | k
  · exact absurd (h'.cov t h.pos k) h.not
  · exact k
  · exact absurd (h.cov t' h'.pos k) h'.not
theorem cat_mem {l : List G.Command} {i : Nat} (h : i < l.length) : cat l i ∈ l := by
  have : cat l i = l[i] := by simp [cat, h]
  rw [this]; exact List.getElem_mem h
theorem cat_getElem {l : List G.Command} {i : Nat} (h : i < l.length) : cat l i = l[i] := by simp [cat, h]
theorem mem_cat {l : List G.Command} {c : G.Command} (h : c ∈ l) : ∃ i, i < l.length ∧ cat l i = c := by
  obtain ⟨i, hi, e⟩ := List.getElem_of_mem h
  exact ⟨i, hi, by rw [cat_getElem hi, e]⟩
/-- An order of the indices by their targets. -/
structure Ord (l : List G.Command) (ord : List Int) : Prop where
  perm : ord.Perm (ixs l.length)
  srt : Srt l ord 0 l.length
section
variable {l : List G.Command} {ord : List Int}
theorem Ord.len (h : Ord l ord) : ord.length = l.length := by rw [h.perm.length_eq]; simp [ixs]
/-- The command at place k of the order. -/
def at' (l : List G.Command) (ord : List Int) (k : Nat) : G.Command := cat l (ord.getD k 0).toNat
theorem Ord.ix (h : Ord l ord) {k : Nat} (hk : k < l.length) : Ix l (ord.getD k 0) := by
  have hl := h.len
  refine AllIx.get (l := l) (fun x hx => ?_) (by omega)
  exact ixs_all l x (h.perm.mem_iff.1 hx)
theorem Ord.le (h : Ord l ord) {p q : Nat} (hpq : p ≤ q) (hq : q < l.length) : (at' l ord p).to ≤ (at' l ord q).to := by
  by_cases e : p = q
  · subst e; exact Int.le_refl _
  · exact h.srt p q (Nat.zero_le _) (by omega) hq
theorem Ord.inj (h : Ord l ord) {p q : Nat} (hp : p < l.length) (hq : q < l.length) (e : (ord.getD p 0).toNat = (ord.getD q 0).toNat) : p = q := by
  have hl := h.len
  have hn : ord.Nodup := by
    rw [h.perm.nodup_iff]
    show List.Pairwise _ _
    unfold ixs
    rw [List.pairwise_map]
    exact List.Pairwise.imp (fun h k => h (by omega)) (List.nodup_range (n := l.length))
  have i1 := (h.ix hp).1
  have i2 := (h.ix hq).1
  have e' : ord.getD p 0 = ord.getD q 0 := by omega
  have e1 : ord.getD p 0 = ord[p] := by simp [show p < ord.length by omega]
  have e2 : ord.getD q 0 = ord[q] := by simp [show q < ord.length by omega]
  rw [e1, e2] at e'
  have hpw := List.pairwise_iff_getElem.1 (show List.Pairwise (· ≠ ·) ord from hn)
  rcases Nat.lt_trichotomy p q with k | k | k
  · exact absurd e' (hpw p q _ _ k)
  · exact k
  · exact absurd e'.symm (hpw q p _ _ k)
theorem Ord.surj (h : Ord l ord) {i : Nat} (hi : i < l.length) : ∃ k, k < l.length ∧ (ord.getD k 0).toNat = i := by
  have hl := h.len
  have hm : (i : Int) ∈ ord := h.perm.mem_iff.2 (List.mem_map.2 ⟨i, List.mem_range.2 hi, rfl⟩)
  obtain ⟨k, hk, e⟩ := List.getElem_of_mem hm
  exact ⟨k, by omega, by simp [hk, e]⟩
theorem Ord.mem (h : Ord l ord) {k : Nat} (hk : k < l.length) : at' l ord k ∈ l := by
  have := h.ix hk
  obtain ⟨h1, h2⟩ := this
  exact cat_mem (by omega)
theorem Ord.any (h : Ord l ord) {c : G.Command} (hc : c ∈ l) : ∃ k, k < l.length ∧ at' l ord k = c := by
  obtain ⟨i, hi, e⟩ := mem_cat hc
  obtain ⟨k, hk, e'⟩ := h.surj hi
  exact ⟨k, hk, by unfold at'; rw [e', e]⟩
/-- The targets of the first k in order lie behind each other, up to e. -/
structure Chain (l : List G.Command) (ord : List Int) (k : Nat) (e : Int) : Prop where
  zero : k = 0 → e = 0
  last : ∀ j, k = j + 1 → e = tend (at' l ord j)
  apart : ∀ p q, p < q → q < k → tend (at' l ord p) ≤ (at' l ord q).to
theorem Chain.le {k : Nat} {e : Int} (h : Chain l ord k e) (hg : ∀ c ∈ l, 0 ≤ c.to ∧ 1 ≤ tlen c) (ho : Ord l ord) (hk : k ≤ l.length) {p : Nat} (hp : p < k) : tend (at' l ord p) ≤ e := by
  obtain ⟨j, rfl⟩ : ∃ j, k = j + 1 := ⟨k - 1, by omega⟩
  rw [h.last j rfl]
  by_cases e' : p = j
  · subst e'; exact Int.le_refl _
  · have h1 := h.apart p j (by omega) (by omega)
    have h2 := hg _ (ho.mem (k := j) (by omega))
    unfold tend at *; omega
/-- What is known of the gap: none so far, or the first. -/
def Gap (l : List G.Command) (ord : List Int) (k : Nat) (e g : Int) : Prop :=
  0 ≤ e ∧ ((g = -1 ∧ ∀ o, 0 ≤ o → o < e → ∃ p, p < k ∧ (at' l ord p).to ≤ o ∧ o < tend (at' l ord p)) ∨
  (0 ≤ g ∧ g < e ∧ (∀ o, 0 ≤ o → o < g → ∃ p, p < k ∧ (at' l ord p).to ≤ o ∧ o < tend (at' l ord p)) ∧ (∀ p, p < k → ¬ ((at' l ord p).to ≤ g ∧ g < tend (at' l ord p))) ∧ (g = 0 ∨ ∃ p, p < k ∧ g = tend (at' l ord p))))
theorem tiles_of (hg : ∀ c ∈ l, 0 ≤ c.to ∧ 1 ≤ tlen c ∧ tend c ≤ 4611686018427387903) (hn : l.length ≤ 17592186044416) :
    (Meets l ∧ G.delta_tiles l = some (0, true)) ∨ (¬ Meets l ∧ ∃ t, G.delta_tiles l = some (t, false) ∧ IsEnd l t) := by
  obtain ⟨ord, hs, hp, hsr⟩ := sorted_of hn
  have ho : Ord l ord := ⟨hp, hsr⟩
  have hlen := ho.len
  unfold G.delta_tiles G.delta_sorted_2_delta_tiles
  rw [hs]
  simp only [Option.bind_some]
  obtain ⟨r, hr, hq⟩ := Iter_total (f := G.delta_sorted_2_delta_tiles_l1 ord l)
    (fun n st => ∃ (k : Nat) (e g : Int), st = ((k : Int), 0, false, e, g) ∧ n = l.length - k ∧ k ≤ l.length ∧ Chain l ord k e ∧ Gap l ord k e g)
    (fun r => (∃ e g, r = .inl (0, true, e, g) ∧ Meets l) ∨ ∃ e g, r = .inr (0, false, e, g) ∧ Chain l ord l.length e ∧ Gap l ord l.length e g) (by
      rintro n st ⟨k, e, g, rfl, rfl, hk, hc, hgap⟩
      unfold G.delta_sorted_2_delta_tiles_l1 G.delta_tiles_b1
      by_cases hlt : k < l.length
      · have hix := ho.ix hlt
        have hm := ho.mem hlt
        have hgo := hg _ hm
        rw [if_pos (show ((k : Int), (0 : Int), false, e, g).1 < ((ord.length : Nat) : Int) by simp; omega)]
        simp only [idx_getD (0 : Int) (show k < ord.length by omega), Option.bind_some]
        rw [idx_getD' (k := (ord.getD k 0).toNat) default (by have := hix.1; omega) (by have h8 := hix.1; have h9 := hix.2; omega)]
        simp only [Option.bind_some, Target_of]
        rw [show l.getD (ord.getD k 0).toNat default = at' l ord k from rfl]
        by_cases h1 : (at' l ord k).to < e
        · right
          rw [if_pos h1]
          refine ⟨_, rfl, .inl ⟨_, _, rfl, ?_⟩⟩
          have hk0 : k ≠ 0 := fun h => by have := hc.zero h; omega
          have hl := hc.last (k - 1) (by omega)
          have hle := ho.le (p := k - 1) (q := k) (by omega) hlt
          have hix' := ho.ix (k := k - 1) (by omega)
          refine ⟨(ord.getD (k - 1) 0).toNat, (ord.getD k 0).toNat, by have h8 := hix'.1; have h9 := hix'.2; omega, by have h8 := hix.1; have h9 := hix.2; omega, fun h => by have := ho.inj (by omega) hlt h; omega, ?_⟩
          show ov (at' l ord (k - 1)) (at' l ord k) = true
          unfold ov
          rw [decide_eq_true_eq]
          unfold tend at *
          omega
        · left
          rw [if_neg h1]
          have hnew : Chain l ord (k + 1) (tend (at' l ord k)) := ⟨fun h => by omega, fun j hj => by rw [show j = k by omega], fun p q hpq hqk => by
            by_cases hq : q = k
            · subst hq
              have := hc.le (fun c hc' => ⟨(hg c hc').1, (hg c hc').2.1⟩) ho (by omega) hpq
              omega
            · exact hc.apart p q hpq (by omega)⟩
          have e1 : G.extent_End ⟨(at' l ord k).to, tlen (at' l ord k)⟩ = some (tend (at' l ord k)) := by
            unfold G.extent_End
            simp only
            rw [w64 (by omega) (by unfold tend at hgo; omega)]; rfl
          have e2 : IntKind.i64.wrap ((k : Int) + 1) = ((k + 1 : Nat) : Int) := inc64 hlt (by omega)
          obtain ⟨h0, hgp⟩ := hgap
          have he : e < tend (at' l ord k) ∨ e = (at' l ord k).to ∧ e < tend (at' l ord k) := .inl (by unfold tend; omega)
          have he' : e < tend (at' l ord k) := by unfold tend; omega
          rcases hgp with ⟨rfl, hcov⟩ | ⟨hg0, hge, hcov, hnot, hcand⟩
          · by_cases h2 : (at' l ord k).to > e
            · simp only [h2, if_true, Option.bind_some, show ((-1 : Int) < 0) = True by simp, decide_true, e1, e2]
              refine ⟨l.length - (k + 1), _, rfl, by omega, k + 1, _, e, rfl, rfl, by omega, hnew, by omega, .inr ⟨h0, he', fun o h3 h4 => ?_, fun p hp' => ?_, ?_⟩⟩
              · obtain ⟨p, h5, h6⟩ := hcov o h3 h4
                exact ⟨p, by omega, h6⟩
              · by_cases hpk : p = k
                · subst hpk; omega
                · have := hc.le (fun c hc' => ⟨(hg c hc').1, (hg c hc').2.1⟩) ho (by omega) (p := p) (by omega)
                  omega
              · by_cases hk0 : k = 0
                · exact .inl (hc.zero hk0)
                · exact .inr ⟨k - 1, by omega, hc.last (k - 1) (by omega)⟩
            · simp only [h2, if_false, Option.bind_some, Bool.false_eq_true, e1, e2]
              refine ⟨l.length - (k + 1), _, rfl, by omega, k + 1, _, -1, rfl, rfl, by omega, hnew, by omega, .inl ⟨rfl, fun o h3 h4 => ?_⟩⟩
              by_cases h5 : o < e
              · obtain ⟨p, h6, h7⟩ := hcov o h3 h5
                exact ⟨p, by omega, h7⟩
              · exact ⟨k, by omega, by omega, h4⟩
          · have hng : ¬ g < 0 := by omega
            have hres : (if (at' l ord k).to > e then some (decide (g < 0)) else some false) = some false := by
              split
              · rw [decide_eq_false hng]
              · rfl
            simp only [hres, Option.bind_some, Bool.false_eq_true, if_false, e1, e2]
            refine ⟨l.length - (k + 1), _, rfl, by omega, k + 1, _, g, rfl, rfl, by omega, hnew, by omega, .inr ⟨hg0, by omega, fun o h3 h4 => ?_, fun p hp' => ?_, ?_⟩⟩
            · obtain ⟨p, h5, h6⟩ := hcov o h3 h4
              exact ⟨p, by omega, h6⟩
            · by_cases hpk : p = k
              · subst hpk; omega
              · exact hnot p (by omega)
            · rcases hcand with h | ⟨p, h5, h6⟩
              · exact .inl h
              · exact .inr ⟨p, by omega, h6⟩
      · right
        rw [if_neg (show ¬ ((k : Int), (0 : Int), false, e, g).1 < ((ord.length : Nat) : Int) by simp; omega)]
        have : k = l.length := by omega
        subst this
        exact ⟨_, rfl, .inr ⟨e, g, rfl, hc, hgap⟩⟩) l.length (0, 0, false, 0, -1)
    ⟨0, 0, -1, rfl, rfl, Nat.zero_le _, ⟨fun _ => rfl, fun j hj => by omega, fun p q h1 h2 => by omega⟩, Int.le_refl _, .inl ⟨rfl, fun o h1 h2 => by omega⟩⟩
  rcases hq with ⟨_, _, rfl, hm⟩ | ⟨e, g, rfl, hc, h0, hgap⟩
  · left
    rw [hr]
    exact ⟨hm, rfl⟩
  · right
    rw [hr]
    simp only [Option.bind_some, joinK_inl]
    have hgl : ∀ c ∈ l, 0 ≤ c.to ∧ 1 ≤ tlen c := fun c hc' => ⟨(hg c hc').1, (hg c hc').2.1⟩
    refine ⟨fun ⟨i, j, hi, hj, hne, hov⟩ => ?_, ?_⟩
    · obtain ⟨p, hp1, hp2⟩ := ho.surj hi
      obtain ⟨q, hq1, hq2⟩ := ho.surj hj
      have hpq : p ≠ q := fun h => hne (by rw [← hp2, ← hq2, h])
      have k1 : cat l i = at' l ord p := by unfold at'; rw [hp2]
      have k2 : cat l j = at' l ord q := by unfold at'; rw [hq2]
      rw [k1, k2] at hov
      unfold ov at hov
      rw [decide_eq_true_eq] at hov
      rcases Nat.lt_or_gt_of_ne hpq with h | h
      · have := hc.apart p q h hq1; omega
      · have := hc.apart q p h hp1; omega
    · rcases hgap with ⟨rfl, hcov⟩ | ⟨hg0, hge, hcov, hnot, hcand⟩
      · rw [if_neg (by omega)]
        refine ⟨e, rfl, h0, fun o h1 h2 => ?_, fun ⟨c, hcl, h1, h2⟩ => ?_, ?_⟩
        · obtain ⟨p, h3, h4⟩ := hcov o h1 h2
          exact ⟨_, ho.mem h3, h4⟩
        · obtain ⟨k, hk, rfl⟩ := ho.any hcl
          have := hc.le hgl ho (Nat.le_refl _) hk
          omega
        · by_cases hk0 : l.length = 0
          · exact .inl (hc.zero hk0)
          · exact .inr ⟨_, ho.mem (k := l.length - 1) (by omega), hc.last (l.length - 1) (by omega)⟩
      · rw [if_pos (by omega)]
        refine ⟨g, rfl, hg0, fun o h1 h2 => ?_, fun ⟨c, hcl, h1, h2⟩ => ?_, ?_⟩
        · obtain ⟨p, h3, h4⟩ := hcov o h1 h2
          exact ⟨_, ho.mem h3, h4⟩
        · obtain ⟨k, hk, rfl⟩ := ho.any hcl
          exact hnot k hk ⟨h1, h2⟩
        · rcases hcand with h | ⟨p, h3, h4⟩
          · exact .inl h
          · exact .inr ⟨_, ho.mem h3, h4⟩
end
end G
end Go.Proofs.Ytnbipipegmoigaa
