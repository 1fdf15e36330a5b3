/- The reference compares byte by byte. No program in sight. -/
import Derived.Test.YtnbipipegmoigaaPT6
namespace Go.Proofs.Ytnbipipegmoigaa
open G
namespace G
/-- Where a byte comes from, as the reference tells it. -/
def org : Org → G.graftref09_Origin
  | .inl k => ⟨true, k, 0⟩
  | .inr b => ⟨false, 0, b⟩
theorem org_eq {e f : Org} : ((org e).copied = (org f).copied ∧ (org e).from_ = (org f).from_ ∧ ((org e).value.toNat : Int) = ((org f).value.toNat : Int)) ↔ e = f := by
  cases e with
  | inl x =>
    cases f with
    | inl y => simp [org]
    | inr y => simp [org]
  | inr x =>
    cases f with
    | inl y => simp [org]
    | inr y =>
      simp only [org, true_and, Sum.inr.injEq]
      exact ⟨fun h => UInt8.toNat_inj.1 (by omega), fun h => by rw [h]⟩
theorem til_len : ∀ {l : List G.Command} {a b : Int}, (∀ c ∈ l, Nice c) → Til a l b → ((expL l).length : Int) = b - a
  | [], a, b, _, h => by have h : a = b := h; subst h; show ((0 : Nat) : Int) = _; omega
  | x :: l, a, b, hn, ⟨h1, h2⟩ => by
    have ih := til_len (fun c hc => hn c (List.mem_cons_of_mem x hc)) h2
    have hx := exp_len (hn x (by simp))
    show ((exp x ++ expL l).length : Int) = _
    rw [List.length_append]
    have : tend x = x.to + tlen x := rfl
    omega
theorem til_at : ∀ {l : List G.Command} {a b o : Int} {c : G.Command}, (∀ c ∈ l, Nice c) → Til a l b → c ∈ l → c.to ≤ o → o < tend c → (expL l)[(o - a).toNat]? = (exp c)[(o - c.to).toNat]?
  | x :: l, a, b, o, c, hn, ⟨h1, h2⟩, hc, h3, h4 => by
    have hx := exp_len (hn x (by simp))
    have te : tend x = x.to + tlen x := rfl
    have hn' := fun c hc => hn c (List.mem_cons_of_mem x hc)
    show (exp x ++ expL l)[(o - a).toNat]? = _
    rcases List.mem_cons.1 hc with rfl | hc
    · rw [List.getElem?_append_left (by omega), h1]
    · have h5 := ((til_in hn' h2).2 c hc).1
      have h6 := (hn x (by simp)).len1
      rw [List.getElem?_append_right (by omega), ← til_at hn' h2 hc h3 h4]
      congr 1; omega
theorem exp_at {c : G.Command} {o : Int} (h : Nice c) (h1 : c.to ≤ o) (h2 : o < tend c) : (exp c)[(o - c.to).toNat]? = some (if c.kind = 1 then .inl (c.from_ + (o - c.to)) else .inr (c.data.getD (o - c.to).toNat 0)) := by
  unfold tend at h2
  by_cases hk : c.kind = 1
  · rw [tlen_copy hk] at h2
    rw [exp_copy hk, if_pos hk, List.getElem?_map, List.getElem?_range (by omega)]
    simp only [Option.map_some]
    congr 2; omega
  · rw [tlen_lit hk] at h2
    rw [exp_lit hk, if_neg hk, List.getElem?_map, List.getElem?_eq_getElem (by omega)]
    simp only [Option.map_some, List.getD_eq_getElem?_getD]
    rw [List.getElem?_eq_getElem (by omega)]; rfl
theorem refOf_of {d : G.Delta} {S : List G.Command} (h : Sm d S) {o : Int} (h0 : 0 ≤ o) (h1 : o < d.newLen) : ∃ e, (expL S)[o.toNat]? = some e ∧ G.graftref09_Of d o = some (org e) := by
  obtain ⟨r, hr, hr1, hr2⟩ := Find5_full h.vd.good (by have := h.len; omega) o
  have hr0 : 0 ≤ r := Int.not_lt.1 fun hlt => hr1.1 hlt (h.vd.full o h0 h1)
  obtain ⟨k, hk, rfl, h2, h3⟩ := hr2 hr0
  unfold G.graftref09_Of
  rw [hr]
  simp only [Option.bind_some, idx_of hk]
  have hm : d.commands[k] ∈ S := h.perm.mem_iff.2 (List.getElem_mem hk)
  have hf := h.fit _ hm
  generalize d.commands[k] = c at *
  have hat := til_at h.nice h.til hm h2 h3
  rw [Int.sub_zero, exp_at hf.nice h2 h3] at hat
  refine ⟨_, hat, ?_⟩
  have f1 := hf.fits; have f2 := hf.to0; have hR := h.rng
  have te : tend c = c.to + tlen c := rfl
  by_cases hkd : c.kind = 1
  · have hs := hf.src hkd
    rw [tlen_copy hkd] at te
    rw [if_pos hkd, if_pos hkd, w64 (x := c.from_ + o) (by omega) (by omega), w64 (by omega) (by omega)]
    show some _ = some (org (.inl _))
    unfold org
    congr 2; omega
  · rw [tlen_lit hkd] at te
    rw [if_neg hkd, if_neg hkd, w64 (by omega) (by omega), idx_getD' (k := (o - c.to).toNat) (0 : UInt8) (by omega) (by omega)]
    rfl
theorem refEquivalent_of {a b : G.Delta} {A B : List G.Command} (ha : Sm a A) (hb : Sm b B) : G.graftref09_Equivalent a b = some (decide (Same9 a b A B)) := by
  unfold G.graftref09_Equivalent
  by_cases h1 : a.oldLen = b.oldLen
  · by_cases h2 : a.newLen = b.newLen
    · rw [if_neg (by simpa using h1)]
      simp only [Option.bind_some]
      rw [if_neg (by simp [h2])]
      have lA := til_len ha.nice ha.til
      have lB := til_len hb.nice hb.til
      have hR := ha.rng
      obtain ⟨r, hr, rfl⟩ := Iter_total (f := G.graftref09_Equivalent_l1 a b)
        (fun m s => ∃ k : Nat, s = (k : Int) ∧ m = (expL A).length - k ∧ k ≤ (expL A).length ∧ ∀ i, i < k → (expL A)[i]? = (expL B)[i]?)
        (fun r => r = decide (expL A = expL B)) (by
          rintro m s ⟨k, rfl, rfl, hk, hall⟩
          unfold G.graftref09_Equivalent_l1
          by_cases hlt : k < (expL A).length
          · rw [if_pos (by omega)]
            obtain ⟨e, he1, he2⟩ := refOf_of ha (o := (k : Int)) (by omega) (by omega)
            obtain ⟨f, hf1, hf2⟩ := refOf_of hb (o := (k : Int)) (by omega) (by omega)
            rw [Int.toNat_natCast] at he1 hf1
            simp only [he2, hf2, Option.bind_some]
            by_cases hef : e = f
            · left
              rw [if_neg (by rw [decide_eq_true (org_eq.2 hef)]; simp), inc64 hlt (by omega)]
              refine ⟨(expL A).length - (k + 1), _, rfl, by omega, k + 1, rfl, rfl, by omega, fun i hi => ?_⟩
              by_cases hik : i = k
              · rw [hik, he1, hf1, hef]
              · exact hall i (by omega)
            · right
              rw [if_pos (decide_eq_false (fun h => hef (org_eq.1 h)))]
              refine ⟨false, rfl, ?_⟩
              symm; rw [decide_eq_false_iff_not]
              intro h; rw [h] at he1; rw [he1] at hf1; exact hef (Option.some.inj hf1)
          · right
            rw [if_neg (by omega)]
            refine ⟨true, rfl, ?_⟩
            symm; rw [decide_eq_true_eq]
            refine List.ext_getElem? fun i => ?_
            by_cases hi : i < k
            · exact hall i hi
            · rw [List.getElem?_eq_none (by omega), List.getElem?_eq_none (by omega)]) _ 0 ⟨0, rfl, rfl, Nat.zero_le _, fun i hi => by omega⟩
      rw [hr]
      congr 1; rw [decide_eq_decide]; unfold Same9; simp [h1, h2]
    · rw [if_neg (by simpa using h1)]
      simp only [Option.bind_some]
      rw [if_pos (by simpa using h2)]
      congr 1; symm; rw [decide_eq_false_iff_not]; exact fun h => h2 h.2.1
  · rw [if_pos (by simpa using h1)]
    simp only [Option.bind_some, if_true]
    congr 1; symm; rw [decide_eq_false_iff_not]; exact fun h => h1 h.1
end G
end Go.Proofs.Ytnbipipegmoigaa
