/- Small valid deltas: in order, merged. No program in sight. -/
import Derived.Test.YtnbipipegmoigaaPT3
import Derived.Test.YtnbipipegmoigaaPT4
namespace Go.Proofs.Ytnbipipegmoigaa
open G
namespace G
section
variable {d : G.Delta} {ord : List Int}
theorem til_of (hv : VD d) (ho : Ord d.commands ord) : Til 0 (inOrd d.commands ord) d.newLen := by
  obtain ⟨h0, h1⟩ := tiled hv ho
  have hl := inOrd_len ho
  have key : ∀ m k, k + m = d.commands.length → Til (pos d ord k) ((inOrd d.commands ord).drop k) d.newLen := by
    intro m
    induction m with
    | zero =>
      intro k hk
      rw [List.drop_of_length_le (by omega)]
      show pos d ord k = d.newLen
      unfold pos; rw [if_neg (by omega)]
    | succ m ih =>
      intro k hk
      have hk' : k < (inOrd d.commands ord).length := by omega
      rw [drop_cons hk', ← cat_getElem hk', inOrd_get ho (by omega)]
      refine ⟨?_, ?_⟩
      · unfold pos; rw [if_pos (by omega)]
      · rw [← h1 k (by omega)]; exact ih (k + 1) (by omega)
  have := key d.commands.length 0 (by omega)
  rw [h0] at this; simpa using this
end
theorem til_in : ∀ {l : List G.Command} {a b : Int}, (∀ c ∈ l, Nice c) → Til a l b → a ≤ b ∧ ∀ c ∈ l, a ≤ c.to ∧ tend c ≤ b
  | [], a, b, _, h => ⟨Int.le_of_eq h, fun c hc => by cases hc⟩
  | x :: l, a, b, hn, ⟨h1, h2⟩ => by
    obtain ⟨h3, h4⟩ := til_in (fun c hc => hn c (by simp [hc])) h2
    have hx := (hn x (by simp)).len1
    have ht : tend x = x.to + tlen x := rfl
    refine ⟨by omega, fun c hc => ?_⟩
    rcases List.mem_cons.1 hc with rfl | hc
    · exact ⟨by omega, h3⟩
    · have := h4 c hc; exact ⟨by omega, this.2⟩
theorem til_srt : ∀ {l : List G.Command} {a b : Int}, (∀ c ∈ l, Nice c) → Til a l b → l.Pairwise fun x y => tend x ≤ y.to
  | [], _, _, _, _ => .nil
  | x :: l, a, b, hn, ⟨h1, h2⟩ => by
    have hn' := fun c hc => hn c (List.mem_cons_of_mem x hc)
    exact .cons (fun y hy => ((til_in hn' h2).2 y hy).1) (til_srt hn' h2)
theorem til_cov : ∀ {l : List G.Command} {a b o : Int}, Til a l b → a ≤ o → o < b → ∃ c ∈ l, c.to ≤ o ∧ o < tend c
  | [], a, b, o, h, h1, h2 => by have h : a = b := h; omega
  | x :: l, a, b, o, ⟨h1, h2⟩, h3, h4 => by
    by_cases ho : o < tend x
    · exact ⟨x, by simp, by omega, ho⟩
    · obtain ⟨c, hc, h⟩ := til_cov h2 (Int.not_lt.1 ho) h4
      exact ⟨c, by simp [hc], h⟩
theorem glue_fit {N M : Int} {c : G.Command} {L : List G.Command} (hc : Fit N M c) (hL : ∀ x ∈ L, Fit N M x) : ∀ x ∈ glue c L, Fit N M x := by
  intro x hx
  cases L with
  | nil => simp [glue] at hx; subst hx; exact hc
  | cons y L =>
    change x ∈ (if can c y then joi c y :: L else c :: y :: L) at hx
    by_cases h : can c y
    · rw [if_pos h] at hx
      rcases List.mem_cons.1 hx with rfl | hx
      · exact Fit.joi h hc (hL y (by simp))
      · exact hL x (by simp [hx])
    · rw [if_neg h] at hx
      rcases List.mem_cons.1 hx with rfl | hx
      · exact hc
      · exact hL x hx
theorem can_fit {N M : Int} : ∀ {l : List G.Command}, (∀ x ∈ l, Fit N M x) → ∀ x ∈ can_ l, Fit N M x
  | [], _, x, hx => by cases hx
  | c :: l, h, x, hx => glue_fit (h c (by simp)) (can_fit fun y hy => h y (by simp [hy])) x hx
/-- A small valid delta, and its commands in order. -/
structure Sm (d : G.Delta) (S : List G.Command) : Prop where
  vd : VD d
  len : d.commands.length ≤ 40
  new : d.newLen ≤ 3000
  perm : S.Perm d.commands
  til : Til 0 S d.newLen
section
variable {d : G.Delta} {S : List G.Command}
theorem Sm.fit (h : Sm d S) : ∀ c ∈ S, Fit d.newLen d.oldLen c := fun c hc => (h.vd.good c (h.perm.mem_iff.1 hc)).fit
theorem Sm.nice (h : Sm d S) : ∀ c ∈ S, Nice c := fun c hc => (h.fit c hc).nice
theorem Sm.rng (h : Sm d S) : d.newLen ≤ 1000000 ∧ d.oldLen ≤ 4611686018427387903 := ⟨by have := h.new; omega, h.vd.rng.2.1⟩
theorem Sm.slen (h : Sm d S) : S.length ≤ 40 := by rw [h.perm.length_eq]; exact h.len
theorem Sm.data (h : Sm d S) : ∀ c ∈ d.commands, c.data.length ≤ 140737488355328 := fun c hc => by
  have := (h.vd.good c hc).fit.data h.rng.1; omega
theorem Sm.pw (h : Sm d S) : S.Pairwise fun a b => a.to ≤ b.to := by
  refine (List.pairwise_iff_getElem).2 fun i j hi hj hij => ?_
  have h1 := List.pairwise_iff_getElem.1 (til_srt h.nice h.til) i j hi hj hij
  have h2 := (h.nice _ (List.getElem_mem hi)).len1
  unfold tend at h1; omega
theorem Sm.inj (h : Sm d S) : ∀ a ∈ S, ∀ b ∈ S, a.to = b.to → a = b := fun a ha b hb e => to_inj h.vd a (h.perm.mem_iff.1 ha) b (h.perm.mem_iff.1 hb) e
theorem Sm.ord (h : Sm d S) : ∃ ord, Ord d.commands ord ∧ G.delta_sorted d.commands = some (d.commands, ord) ∧ inOrd d.commands ord = S := by
  obtain ⟨ord, hs, hp, hsr⟩ := sorted_of (l := d.commands) (by have := h.len; omega)
  have ho : Ord d.commands ord := ⟨hp, hsr⟩
  refine ⟨ord, ho, hs, ?_⟩
  refine (sorted_unique S _ (h.perm.trans (inOrd_perm ho).symm) h.pw ?_ h.inj).symm
  have ht := til_of h.vd ho
  have hn : ∀ c ∈ inOrd d.commands ord, Nice c := fun c hc => (h.vd.good c ((inOrd_perm ho).mem_iff.1 hc)).nice
  refine (List.pairwise_iff_getElem).2 fun i j hi hj hij => ?_
  have h1 := List.pairwise_iff_getElem.1 (til_srt hn ht) i j hi hj hij
  have h2 := (hn _ (List.getElem_mem hi)).len1
  unfold tend at h1; omega
theorem Sm.sort (h : Sm d S) : G.delta_Sort d = some ⟨d.oldLen, d.newLen, d.oldHash, d.newHash, S⟩ := by
  obtain ⟨ord, ho, hs, rfl⟩ := h.ord
  exact Sort_of ho hs h.data (by have := h.len; omega)
theorem Sm.sortw (h : Sm d S) : G.delta_Sort_w d = some (d.oldLen, d.newLen, d.oldHash, d.newHash, S) := by
  obtain ⟨ord, ho, hs, rfl⟩ := h.ord
  exact Sortw_of ho hs h.data (by have := h.len; omega)
theorem Sm.ref (h : Sm d S) : G.graftref05_Sort d.commands = some S := by
  obtain ⟨A, h1, h2, h3⟩ := refSort_of d.commands (by have := h.len; omega)
  rw [h1, sorted_unique S A (h.perm.trans h2.symm) h.pw h3 h.inj]
theorem Sm.can (h : Sm d S) : Sm ⟨d.oldLen, d.newLen, d.oldHash, d.newHash, can_ S⟩ (can_ S) := by
  obtain ⟨h1, h2, h3, h4⟩ := can_laws h.nice h.til
  have hf := can_fit h.fit
  have h5 := h.vd.rng
  refine ⟨⟨h5, fun c hc => ?_, ?_, fun o ho1 ho2 => til_cov h3 ho1 ho2⟩, by have := h.slen; show (can_ S).length ≤ 40; omega, h.new, .refl _, h3⟩
  · have k := hf c hc
    have k2 := ((til_in h2 h3).2 c hc).2
    refine ⟨k.to0, k.nice.len1, k2, by have := h.new; omega, fun hk => ?_, k.nice.lit⟩
    have k3 := k.src hk
    have k4 := k.nice.len1
    rw [tlen_copy hk] at k4
    exact ⟨k3.1, by omega, k3.2, by have := h.rng.2; omega, k.nice.copy hk⟩
  · rintro ⟨i, j, hi, hj, hne, hov⟩
    change i < (can_ S).length at hi
    change j < (can_ S).length at hj
    change ov (cat (can_ S) i) (cat (can_ S) j) = true at hov
    rw [cat_getElem hi, cat_getElem hj] at hov
    unfold ov at hov
    rw [decide_eq_true_eq] at hov
    rcases Nat.lt_or_gt_of_ne hne with k | k
    · have := List.pairwise_iff_getElem.1 (til_srt h2 h3) i j hi hj k; omega
    · have := List.pairwise_iff_getElem.1 (til_srt h2 h3) j i hj hi k; omega
theorem Sm.tidy (h : Sm d S) : G.tidy_Tidy d = some ⟨d.oldLen, d.newLen, d.oldHash, d.newHash, can_ S⟩ := by
  unfold G.tidy_Tidy
  rw [h.sort]
  simp only [Option.bind_some]
  rw [Merge_of h.fit h.rng.1 h.rng.2 (by have := h.slen; omega)]
  simp only [Option.bind_some]
  rw [With_of d _ h.can.data (by have := h.can.len; omega)]
  rfl
theorem Sm.rtidy (h : Sm d S) : G.graftref09_Tidy d = some ⟨d.oldLen, d.newLen, d.oldHash, d.newHash, can_ S⟩ := by
  unfold G.graftref09_Tidy G.graftref05_With
  rw [h.ref]
  simp only [Option.bind_some]
  rw [refMerge_of h.fit h.rng.1 h.rng.2 (by have := h.slen; omega)]
  rfl
theorem Sm_of (hv : VD d) (h1 : d.commands.length ≤ 40) (h2 : d.newLen ≤ 3000) : ∃ S, Sm d S := by
  obtain ⟨ord, hs, hp, hsr⟩ := sorted_of (l := d.commands) (by omega)
  have ho : Ord d.commands ord := ⟨hp, hsr⟩
  exact ⟨inOrd d.commands ord, hv, h1, h2, inOrd_perm ho, til_of hv ho⟩
theorem Small_of (d : G.Delta) (hn : d.commands.length ≤ 9223372036854775807) : ∃ b, G.graftref09_Small d = some b ∧ (b = true → ∃ S, Sm d S) := by
  unfold G.graftref09_Small
  rw [Few5_of d hn]
  simp only [Option.bind_some]
  by_cases hf : few5 d = true
  · rw [if_pos hf]
    obtain ⟨h1, h2⟩ := few5_iff.1 hf
    by_cases hk : d.newLen ≤ 1000
    · rw [if_pos hk]
      obtain ⟨b, _, h3, h4⟩ := Valid5_of (d := d) (by omega)
      rw [h3]
      exact ⟨b, rfl, fun hb => Sm_of (h4.1 hb) h2 (by omega)⟩
    · rw [if_neg hk]; exact ⟨false, rfl, fun h => by cases h⟩
  · rw [if_neg hf]; exact ⟨false, rfl, fun h => by cases h⟩
end
end G
/-! Comparing two deltas part by part, and byte by byte. No program in sight. -/
namespace G
section
variable {N M : Int} {x : G.Command} {X : List G.Command} {q n : Int}
/-- What is left behind the first n bytes. -/
def rst (x : G.Command) (X : List G.Command) (n : Int) : List G.Command := if n < tlen x then part x (x.to + n) (tlen x - n) :: X else X
theorem rst_ok (hf : ∀ c ∈ x :: X, Fit N M c) (ht : Til q (x :: X) N) (h1 : 1 ≤ n) (h2 : n ≤ tlen x) :
    (∀ c ∈ rst x X n, Fit N M c) ∧ Til (q + n) (rst x X n) N ∧ expL (x :: X) = exp (part x x.to n) ++ expL (rst x X n) := by
  have fx := hf x (by simp)
  have hl := exp_len fx.nice
  obtain ⟨t1, t2⟩ := ht
  have te : tend x = x.to + tlen x := rfl
  have ep := exp_part fx.nice (Int.le_refl _) h1 (show x.to + n ≤ tend x by omega)
  rw [show (x.to - x.to).toNat = 0 by omega, List.drop_zero] at ep
  show _ ∧ _ ∧ exp x ++ expL X = _
  unfold rst
  rw [ep]
  by_cases hn : n < tlen x
  · simp only [if_pos hn]
    have pt := part_tlen fx.nice (o := x.to + n) (n := tlen x - n) (by omega) (by omega) (by omega)
    refine ⟨fun c hc => ?_, ⟨by rw [part_to]; omega, ?_⟩, ?_⟩
    · rcases List.mem_cons.1 hc with rfl | hc
      · exact part_fit fx (by omega) (by omega) (by omega)
      · exact hf c (by simp [hc])
    · have : tend (part x (x.to + n) (tlen x - n)) = tend x := by
        show (part x (x.to + n) (tlen x - n)).to + tlen _ = _
        rw [part_to, pt]; omega
      rw [this]; exact t2
    · show _ = _ ++ (exp (part x (x.to + n) (tlen x - n)) ++ expL X)
      rw [exp_part fx.nice (by omega) (by omega) (by omega), show (x.to + n - x.to).toNat = n.toNat by omega, List.take_of_length_le (l := (exp x).drop n.toNat) (by rw [List.length_drop]; omega), ← List.append_assoc, List.take_append_drop]
  · simp only [if_neg hn]
    refine ⟨fun c hc => hf c (by simp [hc]), ?_, ?_⟩
    · rw [show q + n = tend x by omega]; exact t2
    · rw [List.take_of_length_le (by omega)]
theorem head_rst {l : List G.Command} (h : Fit N M x) (hN : N ≤ 1000000) (hM : M ≤ 4611686018427387903) (h1 : 1 ≤ n) (h2 : n ≤ tlen x) : G.tidy_head n (x :: l) = some (part x x.to n, rst x l n) := head_of h hN hM h1 h2
end
theorem eqv_loop {N M : Int} (hN : N ≤ 1000000) (hM : M ≤ 4611686018427387903) {A B : List G.Command} {p : Int} (fA : ∀ c ∈ A, Fit N M c) (fB : ∀ c ∈ B, Fit N M c) (tA : Til p A N) (tB : Til p B N) :
    Iter G.tidy_Equivalent_l1 (A, B) = some (decide (expL A = expL B)) := by
  obtain ⟨r, hr, rfl⟩ := Iter_total (f := G.tidy_Equivalent_l1)
    (fun k st => ∃ (X Y : List G.Command) (q : Int), st = (X, Y) ∧ k = (N - q).toNat ∧ (∀ c ∈ X, Fit N M c) ∧ (∀ c ∈ Y, Fit N M c) ∧ Til q X N ∧ Til q Y N ∧ (expL A = expL B ↔ expL X = expL Y))
    (fun r => r = decide (expL A = expL B)) (by
      rintro k st ⟨X, Y, q, rfl, rfl, fX, fY, tX, tY, hiff⟩
      unfold G.tidy_Equivalent_l1
      cases X with
      | nil =>
        cases Y with
        | nil => exact .inr ⟨true, by simp, (decide_eq_true (hiff.2 rfl)).symm⟩
        | cons y Y =>
          exfalso
          have h1 := til_in (fun c hc => (fY c hc).nice) tY
          have h2 := (h1.2 y (by simp)).2; have h3 := (fY y (by simp)).nice.len1
          have h4 : q = N := tX
          have h5 := tY.1
          unfold tend at h2; omega
      | cons x X =>
        cases Y with
        | nil =>
          exfalso
          have h1 := til_in (fun c hc => (fX c hc).nice) tX
          have h2 := (h1.2 x (by simp)).2; have h3 := (fX x (by simp)).nice.len1
          have h4 : q = N := tY
          have h5 := tX.1
          unfold tend at h2; omega
        | cons y Y =>
          have fx := fX x (by simp); have fy := fY y (by simp)
          have lx := fx.nice.len1; have ly := fy.nice.len1
          obtain ⟨n, hn⟩ : ∃ n, n = imin (tlen x) (tlen y) := ⟨_, rfl⟩
          have hn3 : 1 ≤ n ∧ n ≤ tlen x ∧ n ≤ tlen y := by rw [hn]; unfold imin; split <;> omega
          obtain ⟨hn0, hn1, hn2⟩ := hn3
          have e1 : (if (((x :: X, y :: Y) : List G.Command × List G.Command).1.length : Int) > 0 then some (decide ((((x :: X, y :: Y) : List G.Command × List G.Command).2.length : Int) > 0)) else some false) = some true := by
            rw [if_pos (by simp)]; congr 1; rw [decide_eq_true_eq]; simp
          rw [e1]
          simp only [Option.bind_some, if_true]
          rw [show idx (x :: X) 0 = some x from idx_of' (k := 0) rfl (by simp), show idx (y :: Y) 0 = some y from idx_of' (k := 0) rfl (by simp)]
          simp only [Option.bind_some, Target_of, ← hn, head_rst fx hN hM hn0 hn1, head_rst fy hN hM hn0 hn2]
          unfold G.tidy_first
          simp only [Option.bind_some]
          obtain ⟨rX, sX, eX⟩ := rst_ok fX tX hn0 hn1
          obtain ⟨rY, sY, eY⟩ := rst_ok fY tY hn0 hn2
          have pX := part_fit fx (Int.le_refl _) hn0 (show x.to + n ≤ tend x by unfold tend; omega)
          have pY := part_fit fy (Int.le_refl _) hn0 (show y.to + n ≤ tend y by unfold tend; omega)
          have lX := part_tlen fx.nice (Int.le_refl _) hn0 (show x.to + n ≤ tend x by unfold tend; omega)
          have lY := part_tlen fy.nice (Int.le_refl _) hn0 (show y.to + n ≤ tend y by unfold tend; omega)
          rw [eX, eY] at hiff
          generalize part x x.to n = P at *
          generalize part y y.to n = Q at *
          have hee := exp_eq pX.nice pY.nice (lX.trans lY.symm)
          have hlen : (exp P).length = (exp Q).length := by have h1 := exp_len pX.nice; have h2 := exp_len pY.nice; omega
          have hdt := EqualB_of P.data Q.data (by have := pX.data hN; omega)
          have hk : ((P.kind == 1) = (Q.kind == 1)) ↔ (P.kind = 1 ↔ Q.kind = 1) := by
            rw [Bool.eq_iff_iff, beq_iff_eq, beq_iff_eq]
          by_cases he : exp P = exp Q
          · obtain ⟨k1, k2, k3⟩ := hee.1 he
            left
            rw [if_neg (by rw [decide_eq_true ⟨hk.2 k1, k2, trivial⟩]; simp), hdt, decide_eq_true k3]
            simp only [Option.bind_some]
            rw [if_neg (by simp)]
            have hq := til_in (fun c hc => (rX c hc).nice) sX
            refine ⟨(N - (q + n)).toNat, _, rfl, by omega, _, _, q + n, rfl, rfl, rX, rY, sX, sY, hiff.trans ?_⟩
            rw [he]; exact ⟨fun h => List.append_cancel_left h, fun h => by rw [h]⟩
          · right
            refine ⟨false, ?_, ?_⟩
            · by_cases hd : ((P.kind == 1) = (Q.kind == 1) ∧ P.from_ = Q.from_ ∧ True)
              · rw [if_neg (by rw [decide_eq_true hd]; simp), hdt, decide_eq_false (fun k3 => he (hee.2 ⟨hk.1 hd.1, hd.2.1, k3⟩))]
                rfl
              · rw [if_pos (decide_eq_false hd)]
            · symm; rw [decide_eq_false_iff_not]
              exact fun h => he (List.append_inj_left (hiff.1 h) hlen)) _ _ ⟨A, B, p, rfl, rfl, fA, fB, tA, tB, Iff.rfl⟩
  exact hr
/-- Two small deltas write the same. -/
def Same9 (a b : G.Delta) (A B : List G.Command) : Prop := a.oldLen = b.oldLen ∧ a.newLen = b.newLen ∧ expL A = expL B
instance (a b : G.Delta) (A B : List G.Command) : Decidable (Same9 a b A B) := by unfold Same9; infer_instance
theorem Equivalent_of {a b : G.Delta} {A B : List G.Command} (ha : Sm a A) (hb : Sm b B) : G.tidy_Equivalent a b = some (decide (Same9 a b A B)) := by
  unfold G.tidy_Equivalent
  by_cases h1 : a.oldLen = b.oldLen
  · by_cases h2 : a.newLen = b.newLen
    · rw [if_neg (by simpa using h1)]
      simp only [Option.bind_some]
      rw [if_neg (by simp [h2]), ha.sortw, hb.sortw]
      simp only [Option.bind_some]
      rw [eqv_loop ha.rng.1 ha.rng.2 ha.fit (by rw [h1, h2]; exact hb.fit) ha.til (by rw [h2]; exact hb.til)]
      congr 1; rw [decide_eq_decide]; unfold Same9; simp [h1, h2]
    · rw [if_neg (by simpa using h1)]
      simp only [Option.bind_some]
      rw [if_pos (by simpa using h2)]
      congr 1; symm; rw [decide_eq_false_iff_not]; exact fun h => h2 h.2.1
  · rw [if_pos (by simpa using h1)]
    simp only [Option.bind_some, if_true]
    congr 1; symm; rw [decide_eq_false_iff_not]; exact fun h => h1 h.1
end G
/-! The reference compares byte by byte. No program in sight. -/
namespace G
/-- Where a byte comes from, as the reference tells it. -/
def org : Org → G.graftref09_Origin
  | .inl k => ⟨true, k, 0⟩
  | .inr b => ⟨false, 0, b⟩
theorem org_eq {e f : Org} : ((org e).copied = (org f).copied ∧ (org e).from_ = (org f).from_ ∧ ((org e).value.toNat : Int) = ((org f).value.toNat : Int)) ↔ e = f := by
  cases e with
  | inl x =>
    cases f with
    | inl y => simp [org]
    | inr y => simp [org]
  | inr x =>
    cases f with
    | inl y => simp [org]
    | inr y =>
      simp only [org, true_and, Sum.inr.injEq]
      exact ⟨fun h => UInt8.toNat_inj.1 (by omega), fun h => by rw [h]⟩
theorem til_len : ∀ {l : List G.Command} {a b : Int}, (∀ c ∈ l, Nice c) → Til a l b → ((expL l).length : Int) = b - a
  | [], a, b, _, h => by have h : a = b := h; subst h; show ((0 : Nat) : Int) = _; omega
  | x :: l, a, b, hn, ⟨h1, h2⟩ => by
    have ih := til_len (fun c hc => hn c (List.mem_cons_of_mem x hc)) h2
    have hx := exp_len (hn x (by simp))
    show ((exp x ++ expL l).length : Int) = _
    rw [List.length_append]
    have : tend x = x.to + tlen x := rfl
    omega
theorem til_at : ∀ {l : List G.Command} {a b o : Int} {c : G.Command}, (∀ c ∈ l, Nice c) → Til a l b → c ∈ l → c.to ≤ o → o < tend c → (expL l)[(o - a).toNat]? = (exp c)[(o - c.to).toNat]?
  | x :: l, a, b, o, c, hn, ⟨h1, h2⟩, hc, h3, h4 => by
    have hx := exp_len (hn x (by simp))
    have te : tend x = x.to + tlen x := rfl
    have hn' := fun c hc => hn c (List.mem_cons_of_mem x hc)
    show (exp x ++ expL l)[(o - a).toNat]? = _
    rcases List.mem_cons.1 hc with rfl | hc
    · rw [List.getElem?_append_left (by omega), h1]
    · have h5 := ((til_in hn' h2).2 c hc).1
      have h6 := (hn x (by simp)).len1
      rw [List.getElem?_append_right (by omega), ← til_at hn' h2 hc h3 h4]
      congr 1; omega
theorem exp_at {c : G.Command} {o : Int} (h : Nice c) (h1 : c.to ≤ o) (h2 : o < tend c) : (exp c)[(o - c.to).toNat]? = some (if c.kind = 1 then .inl (c.from_ + (o - c.to)) else .inr (c.data.getD (o - c.to).toNat 0)) := by
  unfold tend at h2
  by_cases hk : c.kind = 1
  · rw [tlen_copy hk] at h2
    rw [exp_copy hk, if_pos hk, List.getElem?_map, List.getElem?_range (by omega)]
    simp only [Option.map_some]
    congr 2; omega
  · rw [tlen_lit hk] at h2
    rw [exp_lit hk, if_neg hk, List.getElem?_map, List.getElem?_eq_getElem (by omega)]
    simp only [Option.map_some, List.getD_eq_getElem?_getD]
    rw [List.getElem?_eq_getElem (by omega)]; rfl
theorem refOf_of {d : G.Delta} {S : List G.Command} (h : Sm d S) {o : Int} (h0 : 0 ≤ o) (h1 : o < d.newLen) : ∃ e, (expL S)[o.toNat]? = some e ∧ G.graftref09_Of d o = some (org e) := by
  obtain ⟨r, hr, hr1, hr2⟩ := Find5_full h.vd.good (by have := h.len; omega) o
  have hr0 : 0 ≤ r := Int.not_lt.1 fun hlt => hr1.1 hlt (h.vd.full o h0 h1)
  obtain ⟨k, hk, rfl, h2, h3⟩ := hr2 hr0
  unfold G.graftref09_Of
  rw [hr]
  simp only [Option.bind_some, idx_of hk]
  have hm : d.commands[k] ∈ S := h.perm.mem_iff.2 (List.getElem_mem hk)
  have hf := h.fit _ hm
  generalize d.commands[k] = c at *
  have hat := til_at h.nice h.til hm h2 h3
  rw [Int.sub_zero, exp_at hf.nice h2 h3] at hat
  refine ⟨_, hat, ?_⟩
  have f1 := hf.fits; have f2 := hf.to0; have hR := h.rng
  have te : tend c = c.to + tlen c := rfl
  by_cases hkd : c.kind = 1
  · have hs := hf.src hkd
    rw [tlen_copy hkd] at te
    rw [if_pos hkd, if_pos hkd, w64 (x := c.from_ + o) (by omega) (by omega), w64 (by omega) (by omega)]
    show some _ = some (org (.inl _))
    unfold org
    congr 2; omega
  · rw [tlen_lit hkd] at te
    rw [if_neg hkd, if_neg hkd, w64 (by omega) (by omega), idx_getD' (k := (o - c.to).toNat) (0 : UInt8) (by omega) (by omega)]
    rfl
theorem refEquivalent_of {a b : G.Delta} {A B : List G.Command} (ha : Sm a A) (hb : Sm b B) : G.graftref09_Equivalent a b = some (decide (Same9 a b A B)) := by
  unfold G.graftref09_Equivalent
  by_cases h1 : a.oldLen = b.oldLen
  · by_cases h2 : a.newLen = b.newLen
    · rw [if_neg (by simpa using h1)]
      simp only [Option.bind_some]
      rw [if_neg (by simp [h2])]
      have lA := til_len ha.nice ha.til
      have lB := til_len hb.nice hb.til
      have hR := ha.rng
      obtain ⟨r, hr, rfl⟩ := Iter_total (f := G.graftref09_Equivalent_l1 a b)
        (fun m s => ∃ k : Nat, s = (k : Int) ∧ m = (expL A).length - k ∧ k ≤ (expL A).length ∧ ∀ i, i < k → (expL A)[i]? = (expL B)[i]?)
        (fun r => r = decide (expL A = expL B)) (by
          rintro m s ⟨k, rfl, rfl, hk, hall⟩
          unfold G.graftref09_Equivalent_l1
          by_cases hlt : k < (expL A).length
          · rw [if_pos (by omega)]
            obtain ⟨e, he1, he2⟩ := refOf_of ha (o := (k : Int)) (by omega) (by omega)
            obtain ⟨f, hf1, hf2⟩ := refOf_of hb (o := (k : Int)) (by omega) (by omega)
            rw [Int.toNat_natCast] at he1 hf1
            simp only [he2, hf2, Option.bind_some]
            by_cases hef : e = f
            · left
              rw [if_neg (by rw [decide_eq_true (org_eq.2 hef)]; simp), inc64 hlt (by omega)]
              refine ⟨(expL A).length - (k + 1), _, rfl, by omega, k + 1, rfl, rfl, by omega, fun i hi => ?_⟩
              by_cases hik : i = k
              · rw [hik, he1, hf1, hef]
              · exact hall i (by omega)
            · right
              rw [if_pos (decide_eq_false (fun h => hef (org_eq.1 h)))]
              refine ⟨false, rfl, ?_⟩
              symm; rw [decide_eq_false_iff_not]
              intro h; rw [h] at he1; rw [he1] at hf1; exact hef (Option.some.inj hf1)
          · right
            rw [if_neg (by omega)]
            refine ⟨true, rfl, ?_⟩
            symm; rw [decide_eq_true_eq]
            refine List.ext_getElem? fun i => ?_
            by_cases hi : i < k
            · exact hall i hi
            · rw [List.getElem?_eq_none (by omega), List.getElem?_eq_none (by omega)]) _ 0 ⟨0, rfl, rfl, Nat.zero_le _, fun i hi => by omega⟩
      rw [hr]
      congr 1; rw [decide_eq_decide]; unfold Same9; simp [h1, h2]
    · rw [if_neg (by simpa using h1)]
      simp only [Option.bind_some]
      rw [if_pos (by simpa using h2)]
      congr 1; symm; rw [decide_eq_false_iff_not]; exact fun h => h2 h.2.1
  · rw [if_pos (by simpa using h1)]
    simp only [Option.bind_some, if_true]
    congr 1; symm; rw [decide_eq_false_iff_not]; exact fun h => h1 h.1
end G
end Go.Proofs.Ytnbipipegmoigaa
