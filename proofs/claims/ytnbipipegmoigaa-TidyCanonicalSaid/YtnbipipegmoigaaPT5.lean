/- Small valid deltas: in order, merged. No program in sight. -/
import Derived.Test.YtnbipipegmoigaaPT3
import Derived.Test.YtnbipipegmoigaaPT4
namespace Go.Proofs.Ytnbipipegmoigaa
open G
namespace G
section
variable {d : G.Delta} {ord : List Int}
theorem til_of (hv : VD d) (ho : Ord d.commands ord) : Til 0 (inOrd d.commands ord) d.newLen := by
  obtain ⟨h0, h1⟩ := tiled hv ho
  have hl := inOrd_len ho
  have key : ∀ m k, k + m = d.commands.length → Til (pos d ord k) ((inOrd d.commands ord).drop k) d.newLen := by
    intro m
    induction m with
    | zero =>
      intro k hk
      rw [List.drop_of_length_le (by omega)]
      show pos d ord k = d.newLen
      unfold pos; rw [if_neg (by omega)]
    | succ m ih =>
      intro k hk
      have hk' : k < (inOrd d.commands ord).length := by omega
      rw [drop_cons hk', ← cat_getElem hk', inOrd_get ho (by omega)]
      refine ⟨?_, ?_⟩
      · unfold pos; rw [if_pos (by omega)]
      · rw [← h1 k (by omega)]; exact ih (k + 1) (by omega)
  have := key d.commands.length 0 (by omega)
  rw [h0] at this; simpa using this
end
theorem til_in : ∀ {l : List G.Command} {a b : Int}, (∀ c ∈ l, Nice c) → Til a l b → a ≤ b ∧ ∀ c ∈ l, a ≤ c.to ∧ tend c ≤ b
  | [], a, b, _, h => ⟨Int.le_of_eq h, fun c hc => by cases hc⟩
  | x :: l, a, b, hn, ⟨h1, h2⟩ => by
    obtain ⟨h3, h4⟩ := til_in (fun c hc => hn c (by simp [hc])) h2
    have hx := (hn x (by simp)).len1
    have ht : tend x = x.to + tlen x := rfl
    refine ⟨by omega, fun c hc => ?_⟩
    rcases List.mem_cons.1 hc with rfl | hc
    · exact ⟨by omega, h3⟩
    · have := h4 c hc; exact ⟨by omega, this.2⟩
theorem til_srt : ∀ {l : List G.Command} {a b : Int}, (∀ c ∈ l, Nice c) → Til a l b → l.Pairwise fun x y => tend x ≤ y.to
  | [], _, _, _, _ => .nil
  | x :: l, a, b, hn, ⟨h1, h2⟩ => by
    have hn' := fun c hc => hn c (List.mem_cons_of_mem x hc)
    exact .cons (fun y hy => ((til_in hn' h2).2 y hy).1) (til_srt hn' h2)
theorem til_cov : ∀ {l : List G.Command} {a b o : Int}, Til a l b → a ≤ o → o < b → ∃ c ∈ l, c.to ≤ o ∧ o < tend c
  | [], a, b, o, h, h1, h2 => by have h : a = b := h; omega
  | x :: l, a, b, o, ⟨h1, h2⟩, h3, h4 => by
    by_cases ho : o < tend x
    · exact ⟨x, by simp, by omega, ho⟩
    · obtain ⟨c, hc, h⟩ := til_cov h2 (Int.not_lt.1 ho) h4
      exact ⟨c, by simp [hc], h⟩
theorem glue_fit {N M : Int} {c : G.Command} {L : List G.Command} (hc : Fit N M c) (hL : ∀ x ∈ L, Fit N M x) : ∀ x ∈ glue c L, Fit N M x := by
  intro x hx
  cases L with
  | nil => simp [glue] at hx; subst hx; exact hc
  | cons y L =>
    change x ∈ (if can c y then joi c y :: L else c :: y :: L) at hx
    by_cases h : can c y
    · rw [if_pos h] at hx
      rcases List.mem_cons.1 hx with rfl | hx
      · exact Fit.joi h hc (hL y (by simp))
      · exact hL x (by simp [hx])
    · rw [if_neg h] at hx
      rcases List.mem_cons.1 hx with rfl | hx
      · exact hc
      · exact hL x hx
theorem can_fit {N M : Int} : ∀ {l : List G.Command}, (∀ x ∈ l, Fit N M x) → ∀ x ∈ can_ l, Fit N M x
  | [], _, x, hx => by cases hx
  | c :: l, h, x, hx => glue_fit (h c (by simp)) (can_fit fun y hy => h y (by simp [hy])) x hx
/-- A small valid delta, and its commands in order. -/
structure Sm (d : G.Delta) (S : List G.Command) : Prop where
  vd : VD d
  len : d.commands.length ≤ 40
  new : d.newLen ≤ 1000
  perm : S.Perm d.commands
  til : Til 0 S d.newLen
section
variable {d : G.Delta} {S : List G.Command}
theorem Sm.fit (h : Sm d S) : ∀ c ∈ S, Fit d.newLen d.oldLen c := fun c hc => (h.vd.good c (h.perm.mem_iff.1 hc)).fit
theorem Sm.nice (h : Sm d S) : ∀ c ∈ S, Nice c := fun c hc => (h.fit c hc).nice
theorem Sm.rng (h : Sm d S) : d.newLen ≤ 1000000 ∧ d.oldLen ≤ 4611686018427387903 := ⟨by have := h.new; omega, h.vd.rng.2.1⟩
theorem Sm.slen (h : Sm d S) : S.length ≤ 40 := by rw [h.perm.length_eq]; exact h.len
theorem Sm.data (h : Sm d S) : ∀ c ∈ d.commands, c.data.length ≤ 140737488355328 := fun c hc => by
  have := (h.vd.good c hc).fit.data h.rng.1; omega
theorem Sm.pw (h : Sm d S) : S.Pairwise fun a b => a.to ≤ b.to := by
  refine (List.pairwise_iff_getElem).2 fun i j hi hj hij => ?_
  have h1 := List.pairwise_iff_getElem.1 (til_srt h.nice h.til) i j hi hj hij
  have h2 := (h.nice _ (List.getElem_mem hi)).len1
  unfold tend at h1; omega
theorem Sm.inj (h : Sm d S) : ∀ a ∈ S, ∀ b ∈ S, a.to = b.to → a = b := fun a ha b hb e => to_inj h.vd a (h.perm.mem_iff.1 ha) b (h.perm.mem_iff.1 hb) e
theorem Sm.ord (h : Sm d S) : ∃ ord, Ord d.commands ord ∧ G.delta_sorted d.commands = some (d.commands, ord) ∧ inOrd d.commands ord = S := by
  obtain ⟨ord, hs, hp, hsr⟩ := sorted_of (l := d.commands) (by have := h.len; omega)
  have ho : Ord d.commands ord := ⟨hp, hsr⟩
  refine ⟨ord, ho, hs, ?_⟩
  refine (sorted_unique S _ (h.perm.trans (inOrd_perm ho).symm) h.pw ?_ h.inj).symm
  have ht := til_of h.vd ho
  have hn : ∀ c ∈ inOrd d.commands ord, Nice c := fun c hc => (h.vd.good c ((inOrd_perm ho).mem_iff.1 hc)).nice
  refine (List.pairwise_iff_getElem).2 fun i j hi hj hij => ?_
  have h1 := List.pairwise_iff_getElem.1 (til_srt hn ht) i j hi hj hij
  have h2 := (hn _ (List.getElem_mem hi)).len1
  unfold tend at h1; omega
theorem Sm.sort (h : Sm d S) : G.delta_Sort d = some ⟨d.oldLen, d.newLen, d.oldHash, d.newHash, S⟩ := by
  obtain ⟨ord, ho, hs, rfl⟩ := h.ord
  exact Sort_of ho hs h.data (by have := h.len; omega)
theorem Sm.sortw (h : Sm d S) : G.delta_Sort_w d = some (d.oldLen, d.newLen, d.oldHash, d.newHash, S) := by
  obtain ⟨ord, ho, hs, rfl⟩ := h.ord
  exact Sortw_of ho hs h.data (by have := h.len; omega)
theorem Sm.ref (h : Sm d S) : G.graftref05_Sort d.commands = some S := by
  obtain ⟨A, h1, h2, h3⟩ := refSort_of d.commands (by have := h.len; omega)
  rw [h1, sorted_unique S A (h.perm.trans h2.symm) h.pw h3 h.inj]
theorem Sm.can (h : Sm d S) : Sm ⟨d.oldLen, d.newLen, d.oldHash, d.newHash, can_ S⟩ (can_ S) := by
  obtain ⟨h1, h2, h3, h4⟩ := can_laws h.nice h.til
  have hf := can_fit h.fit
  have h5 := h.vd.rng
  refine ⟨⟨h5, fun c hc => ?_, ?_, fun o ho1 ho2 => til_cov h3 ho1 ho2⟩, by have := h.slen; show (can_ S).length ≤ 40; omega, h.new, .refl _, h3⟩
  · have k := hf c hc
    have k2 := ((til_in h2 h3).2 c hc).2
    refine ⟨k.to0, k.nice.len1, k2, by have := h.new; omega, fun hk => ?_, k.nice.lit⟩
    have k3 := k.src hk
    have k4 := k.nice.len1
    rw [tlen_copy hk] at k4
    exact ⟨k3.1, by omega, k3.2, by have := h.rng.2; omega, k.nice.copy hk⟩
  · rintro ⟨i, j, hi, hj, hne, hov⟩
    change i < (can_ S).length at hi
    change j < (can_ S).length at hj
    change ov (cat (can_ S) i) (cat (can_ S) j) = true at hov
    rw [cat_getElem hi, cat_getElem hj] at hov
    unfold ov at hov
    rw [decide_eq_true_eq] at hov
    rcases Nat.lt_or_gt_of_ne hne with k | k
    · have := List.pairwise_iff_getElem.1 (til_srt h2 h3) i j hi hj k; omega
    · have := List.pairwise_iff_getElem.1 (til_srt h2 h3) j i hj hi k; omega
theorem Sm.tidy (h : Sm d S) : G.tidy_Tidy d = some ⟨d.oldLen, d.newLen, d.oldHash, d.newHash, can_ S⟩ := by
  unfold G.tidy_Tidy
  rw [h.sort]
  simp only [Option.bind_some]
  rw [Merge_of h.fit h.rng.1 h.rng.2 (by have := h.slen; omega)]
  simp only [Option.bind_some]
  rw [With_of d _ h.can.data (by have := h.can.len; omega)]
  rfl
theorem Sm.rtidy (h : Sm d S) : G.graftref09_Tidy d = some ⟨d.oldLen, d.newLen, d.oldHash, d.newHash, can_ S⟩ := by
  unfold G.graftref09_Tidy G.graftref05_With
  rw [h.ref]
  simp only [Option.bind_some]
  rw [refMerge_of h.fit h.rng.1 h.rng.2 (by have := h.slen; omega)]
  rfl
theorem Small_of (d : G.Delta) (hn : d.commands.length ≤ 9223372036854775807) : ∃ b, G.graftref09_Small d = some b ∧ (b = true → ∃ S, Sm d S) := by
  unfold G.graftref09_Small
  rw [Few5_of d hn]
  simp only [Option.bind_some]
  by_cases hf : few5 d = true
  · rw [if_pos hf]
    obtain ⟨h1, h2⟩ := few5_iff.1 hf
    by_cases hk : d.newLen ≤ 1000
    · rw [if_pos hk]
      obtain ⟨b, _, h3, h4⟩ := Valid5_of (d := d) (by omega)
      rw [h3]
      refine ⟨b, rfl, fun hb => ?_⟩
      obtain ⟨ord, hs, hp, hsr⟩ := sorted_of (l := d.commands) (by omega)
      have ho : Ord d.commands ord := ⟨hp, hsr⟩
      have hv := h4.1 hb
      exact ⟨inOrd d.commands ord, hv, h2, hk, inOrd_perm ho, til_of hv ho⟩
    · rw [if_neg hk]; exact ⟨false, rfl, fun h => by cases h⟩
  · rw [if_neg hf]; exact ⟨false, rfl, fun h => by cases h⟩
end
end G
end Go.Proofs.Ytnbipipegmoigaa
