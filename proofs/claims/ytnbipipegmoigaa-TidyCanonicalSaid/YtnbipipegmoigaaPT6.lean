/- Comparing two deltas part by part, and byte by byte. No program in sight. -/
import Derived.Test.YtnbipipegmoigaaPT5
namespace Go.Proofs.Ytnbipipegmoigaa
open G
namespace G
section
variable {N M : Int} {x : G.Command} {X : List G.Command} {q n : Int}
/-- What is left behind the first n bytes. -/
def rst (x : G.Command) (X : List G.Command) (n : Int) : List G.Command := if n < tlen x then part x (x.to + n) (tlen x - n) :: X else X
theorem rst_ok (hf : ∀ c ∈ x :: X, Fit N M c) (ht : Til q (x :: X) N) (h1 : 1 ≤ n) (h2 : n ≤ tlen x) :
    (∀ c ∈ rst x X n, Fit N M c) ∧ Til (q + n) (rst x X n) N ∧ expL (x :: X) = exp (part x x.to n) ++ expL (rst x X n) := by
  have fx := hf x (by simp)
  have hl := exp_len fx.nice
  obtain ⟨t1, t2⟩ := ht
  have te : tend x = x.to + tlen x := rfl
  have ep := exp_part fx.nice (Int.le_refl _) h1 (show x.to + n ≤ tend x by omega)
  rw [show (x.to - x.to).toNat = 0 by omega, List.drop_zero] at ep
  show _ ∧ _ ∧ exp x ++ expL X = _
  unfold rst
  rw [ep]
  by_cases hn : n < tlen x
  · simp only [if_pos hn]
    have pt := part_tlen fx.nice (o := x.to + n) (n := tlen x - n) (by omega) (by omega) (by omega)
    refine ⟨fun c hc => ?_, ⟨by rw [part_to]; omega, ?_⟩, ?_⟩
    · rcases List.mem_cons.1 hc with rfl | hc
      · exact part_fit fx (by omega) (by omega) (by omega)
      · exact hf c (by simp [hc])
    · have : tend (part x (x.to + n) (tlen x - n)) = tend x := by
        show (part x (x.to + n) (tlen x - n)).to + tlen _ = _
        rw [part_to, pt]; omega
      rw [this]; exact t2
    · show _ = _ ++ (exp (part x (x.to + n) (tlen x - n)) ++ expL X)
      rw [exp_part fx.nice (by omega) (by omega) (by omega), show (x.to + n - x.to).toNat = n.toNat by omega, List.take_of_length_le (l := (exp x).drop n.toNat) (by rw [List.length_drop]; omega), ← List.append_assoc, List.take_append_drop]
  · simp only [if_neg hn]
    refine ⟨fun c hc => hf c (by simp [hc]), ?_, ?_⟩
    · rw [show q + n = tend x by omega]; exact t2
    · rw [List.take_of_length_le (by omega)]
theorem head_rst {l : List G.Command} (h : Fit N M x) (hN : N ≤ 1000000) (hM : M ≤ 4611686018427387903) (h1 : 1 ≤ n) (h2 : n ≤ tlen x) : G.tidy_head n (x :: l) = some (part x x.to n, rst x l n) := head_of h hN hM h1 h2
end
theorem eqv_loop {N M : Int} (hN : N ≤ 1000000) (hM : M ≤ 4611686018427387903) {A B : List G.Command} {p : Int} (fA : ∀ c ∈ A, Fit N M c) (fB : ∀ c ∈ B, Fit N M c) (tA : Til p A N) (tB : Til p B N) :
    Iter G.tidy_Equivalent_l1 (A, B) = some (decide (expL A = expL B)) := by
  obtain ⟨r, hr, rfl⟩ := Iter_total (f := G.tidy_Equivalent_l1)
    (fun k st => ∃ (X Y : List G.Command) (q : Int), st = (X, Y) ∧ k = (N - q).toNat ∧ (∀ c ∈ X, Fit N M c) ∧ (∀ c ∈ Y, Fit N M c) ∧ Til q X N ∧ Til q Y N ∧ (expL A = expL B ↔ expL X = expL Y))
    (fun r => r = decide (expL A = expL B)) (by
      rintro k st ⟨X, Y, q, rfl, rfl, fX, fY, tX, tY, hiff⟩
      unfold G.tidy_Equivalent_l1
      cases X with
      | nil =>
        cases Y with
        | nil => exact .inr ⟨true, by simp, (decide_eq_true (hiff.2 rfl)).symm⟩
        | cons y Y =>
          exfalso
          have h1 := til_in (fun c hc => (fY c hc).nice) tY
          have h2 := (h1.2 y (by simp)).2; have h3 := (fY y (by simp)).nice.len1
          have h4 : q = N := tX
          have h5 := tY.1
          unfold tend at h2; omega
      | cons x X =>
        cases Y with
        | nil =>
          exfalso
          have h1 := til_in (fun c hc => (fX c hc).nice) tX
          have h2 := (h1.2 x (by simp)).2; have h3 := (fX x (by simp)).nice.len1
          have h4 : q = N := tY
          have h5 := tX.1
          unfold tend at h2; omega
        | cons y Y =>
          have fx := fX x (by simp); have fy := fY y (by simp)
          have lx := fx.nice.len1; have ly := fy.nice.len1
          obtain ⟨n, hn⟩ : ∃ n, n = imin (tlen x) (tlen y) := ⟨_, rfl⟩
          have hn3 : 1 ≤ n ∧ n ≤ tlen x ∧ n ≤ tlen y := by rw [hn]; unfold imin; split <;> omega
          obtain ⟨hn0, hn1, hn2⟩ := hn3
          have e1 : (if (((x :: X, y :: Y) : List G.Command × List G.Command).1.length : Int) > 0 then some (decide ((((x :: X, y :: Y) : List G.Command × List G.Command).2.length : Int) > 0)) else some false) = some true := by
            rw [if_pos (by simp)]; congr 1; rw [decide_eq_true_eq]; simp
          rw [e1]
          simp only [Option.bind_some, if_true]
          rw [show idx (x :: X) 0 = some x from idx_of' (k := 0) rfl (by simp), show idx (y :: Y) 0 = some y from idx_of' (k := 0) rfl (by simp)]
          simp only [Option.bind_some, Target_of, ← hn, head_rst fx hN hM hn0 hn1, head_rst fy hN hM hn0 hn2]
          unfold G.tidy_first
          simp only [Option.bind_some]
          obtain ⟨rX, sX, eX⟩ := rst_ok fX tX hn0 hn1
          obtain ⟨rY, sY, eY⟩ := rst_ok fY tY hn0 hn2
          have pX := part_fit fx (Int.le_refl _) hn0 (show x.to + n ≤ tend x by unfold tend; omega)
          have pY := part_fit fy (Int.le_refl _) hn0 (show y.to + n ≤ tend y by unfold tend; omega)
          have lX := part_tlen fx.nice (Int.le_refl _) hn0 (show x.to + n ≤ tend x by unfold tend; omega)
          have lY := part_tlen fy.nice (Int.le_refl _) hn0 (show y.to + n ≤ tend y by unfold tend; omega)
          rw [eX, eY] at hiff
          generalize part x x.to n = P at *
          generalize part y y.to n = Q at *
          have hee := exp_eq pX.nice pY.nice (lX.trans lY.symm)
          have hlen : (exp P).length = (exp Q).length := by have h1 := exp_len pX.nice; have h2 := exp_len pY.nice; omega
          have hdt := EqualB_of P.data Q.data (by have := pX.data hN; omega)
          have hk : ((P.kind == 1) = (Q.kind == 1)) ↔ (P.kind = 1 ↔ Q.kind = 1) := by
            rw [Bool.eq_iff_iff, beq_iff_eq, beq_iff_eq]
          by_cases he : exp P = exp Q
          · obtain ⟨k1, k2, k3⟩ := hee.1 he
            left
            rw [if_neg (by rw [decide_eq_true ⟨hk.2 k1, k2, trivial⟩]; simp), hdt, decide_eq_true k3]
            simp only [Option.bind_some]
            rw [if_neg (by simp)]
            have hq := til_in (fun c hc => (rX c hc).nice) sX
            refine ⟨(N - (q + n)).toNat, _, rfl, by omega, _, _, q + n, rfl, rfl, rX, rY, sX, sY, hiff.trans ?_⟩
            rw [he]; exact ⟨fun h => List.append_cancel_left h, fun h => by rw [h]⟩
          · right
            refine ⟨false, ?_, ?_⟩
            · by_cases hd : ((P.kind == 1) = (Q.kind == 1) ∧ P.from_ = Q.from_ ∧ True)
              · rw [if_neg (by rw [decide_eq_true hd]; simp), hdt, decide_eq_false (fun k3 => he (hee.2 ⟨hk.1 hd.1, hd.2.1, k3⟩))]
                rfl
              · rw [if_pos (decide_eq_false hd)]
            · symm; rw [decide_eq_false_iff_not]
              exact fun h => he (List.append_inj_left (hiff.1 h) hlen)) _ _ ⟨A, B, p, rfl, rfl, fA, fB, tA, tB, Iff.rfl⟩
  exact hr
/-- Two small deltas write the same. -/
def Same9 (a b : G.Delta) (A B : List G.Command) : Prop := a.oldLen = b.oldLen ∧ a.newLen = b.newLen ∧ expL A = expL B
instance (a b : G.Delta) (A B : List G.Command) : Decidable (Same9 a b A B) := by unfold Same9; infer_instance
theorem Equivalent_of {a b : G.Delta} {A B : List G.Command} (ha : Sm a A) (hb : Sm b B) : G.tidy_Equivalent a b = some (decide (Same9 a b A B)) := by
  unfold G.tidy_Equivalent
  by_cases h1 : a.oldLen = b.oldLen
  · by_cases h2 : a.newLen = b.newLen
    · rw [if_neg (by simpa using h1)]
      simp only [Option.bind_some]
      rw [if_neg (by simp [h2]), ha.sortw, hb.sortw]
      simp only [Option.bind_some]
      rw [eqv_loop ha.rng.1 ha.rng.2 ha.fit (by rw [h1, h2]; exact hb.fit) ha.til (by rw [h2]; exact hb.til)]
      congr 1; rw [decide_eq_decide]; unfold Same9; simp [h1, h2]
    · rw [if_neg (by simpa using h1)]
      simp only [Option.bind_some]
      rw [if_pos (by simpa using h2)]
      congr 1; symm; rw [decide_eq_false_iff_not]; exact fun h => h2 h.2.1
  · rw [if_pos (by simpa using h1)]
    simp only [Option.bind_some, if_true]
    congr 1; symm; rw [decide_eq_false_iff_not]; exact fun h => h1 h.1
end G
end Go.Proofs.Ytnbipipegmoigaa
