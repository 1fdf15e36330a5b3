/- What a command reads after it was written: the extents of safe.Dirty are those of the reference. No program in sight. -/
import Derived.Test.YtnbipipegmoigaaPD1
import Derived.Test.YtnbipipegmoigaaPS2
namespace Go.Proofs.Ytnbipipegmoigaa
open G
namespace G
/-- One more extent, joined with the last one if it begins where that one ends; the last one first. -/
def push : List G.Extent → G.Extent → List G.Extent
  | [], e => [e]
  | x :: xs, e => if xend x = e.off then ⟨x.off, x.len + e.len⟩ :: xs else e :: x :: xs
theorem push_yes {x e : G.Extent} {xs : List G.Extent} (h : xend x = e.off) : push (x :: xs) e = ⟨x.off, x.len + e.len⟩ :: xs := if_pos h
theorem push_no {x e : G.Extent} {xs : List G.Extent} (h : ¬ xend x = e.off) : push (x :: xs) e = e :: x :: xs := if_neg h
theorem push_len (r : List G.Extent) (e : G.Extent) : (push r e).length ≤ r.length + 1 := by
  cases r with
  | nil => exact Nat.le_refl _
  | cons x xs =>
    by_cases h : xend x = e.off
    · rw [push_yes h]; simp
    · rw [push_no h]; simp
theorem push_push (r : List G.Extent) (o m n : Int) : push (push r ⟨o, m⟩) ⟨o + m, n⟩ = push r ⟨o, m + n⟩ := by
  cases r with
  | nil => exact push_yes rfl
  | cons x xs =>
    by_cases h : xend x = o
    · rw [push_yes (e := ⟨o, m⟩) h, push_yes (e := ⟨o, m + n⟩) h, push_yes (by unfold xend at h ⊢; simp only; omega)]
      simp only; rw [Int.add_assoc]
    · rw [push_no (e := ⟨o, m⟩) h, push_no (e := ⟨o, m + n⟩) h, push_yes rfl]
def sg (o : Int) : G.Extent := ⟨o, 1⟩
/-- The numbers from o on, m of them. -/
def rng (o : Int) (m : Nat) : List Int := (List.range m).map fun (j : Nat) => o + (j : Int)
theorem rng_succ (o : Int) (m : Nat) : rng o (m + 1) = rng o m ++ [o + (m : Int)] := by unfold rng; rw [List.range_succ, List.map_append]; rfl
theorem rng_mem {o x : Int} {m : Nat} : x ∈ rng o m ↔ o ≤ x ∧ x < o + (m : Int) := by
  unfold rng
  rw [List.mem_map]
  constructor
  · rintro ⟨j, hj, rfl⟩
    have := List.mem_range.1 hj; omega
  · rintro ⟨h1, h2⟩
    exact ⟨(x - o).toNat, List.mem_range.2 (by omega), by rw [Int.toNat_of_nonneg (by omega)]; omega⟩
theorem rng_lt (o : Int) : ∀ m : Nat, (rng o m).Pairwise (· < ·)
  | 0 => by unfold rng; exact List.Pairwise.nil
  | m + 1 => by
    rw [rng_succ, List.pairwise_append]
    refine ⟨rng_lt o m, List.pairwise_singleton _ _, fun x hx z hz => ?_⟩
    have := (rng_mem.1 hx).2
    rw [List.mem_singleton] at hz; omega
def byt (e : G.Extent) : List Int := rng e.off e.len.toNat
theorem push_byt (r : List G.Extent) {e : G.Extent} (h : 1 ≤ e.len) : ((byt e).map sg).foldl push r = push r e := by
  obtain ⟨o, m⟩ := e
  simp only at h
  unfold byt
  simp only
  have key : ∀ n : Nat, ((rng o (n + 1)).map sg).foldl push r = push r ⟨o, (n : Int) + 1⟩ := by
    intro n
    induction n with
    | zero => simp [rng, sg]
    | succ n ih =>
      rw [rng_succ, List.map_append, List.foldl_append, ih]
      show push (push r ⟨o, (n : Int) + 1⟩) ⟨o + ((n + 1 : Nat) : Int), 1⟩ = _
      rw [show ((n + 1 : Nat) : Int) = (n : Int) + 1 by omega, push_push]
  have := key (m.toNat - 1)
  rw [show m.toNat - 1 + 1 = m.toNat by omega, show ((m.toNat - 1 : Nat) : Int) + 1 = m by omega] at this
  exact this
theorem push_byts : ∀ (P : List G.Extent) (r : List G.Extent), (∀ e ∈ P, 1 ≤ e.len) → ((P.flatMap byt).map sg).foldl push r = P.foldl push r
  | [], r, _ => rfl
  | e :: P, r, h => by
    rw [List.flatMap_cons, List.map_append, List.foldl_append, push_byt r (h e (List.mem_cons_self ..)), List.foldl_cons]
    exact push_byts P _ fun x hx => h x (List.mem_cons_of_mem _ hx)
theorem push_all_len : ∀ (P : List G.Extent) (r : List G.Extent), (P.foldl push r).length ≤ r.length + P.length
  | [], r => Nat.le_refl _
  | e :: P, r => by
    have h1 := push_len r e
    have h2 := push_all_len P (push r e)
    rw [List.foldl_cons, List.length_cons]; omega
theorem lt_unique : ∀ A B : List Int, A.Pairwise (· < ·) → B.Pairwise (· < ·) → (∀ x, x ∈ A ↔ x ∈ B) → A = B
  | [], [], _, _, _ => rfl
  | [], b :: B, _, _, h => by have := (h b).2 (List.mem_cons_self ..); cases this
  | a :: A, [], _, _, h => by have := (h a).1 (List.mem_cons_self ..); cases this
  | a :: A, b :: B, hA, hB, h => by
    rw [List.pairwise_cons] at hA hB
    have hab : a = b := by
      have h1 := (h a).1 (List.mem_cons_self ..)
      have h2 := (h b).2 (List.mem_cons_self ..)
      rcases List.mem_cons.1 h1 with e | h1
      · exact e
      rcases List.mem_cons.1 h2 with e | h2
      · exact e.symm
      have := hB.1 a h1; have := hA.1 b h2; omega
    subst hab
    rw [lt_unique A B hA.2 hB.2 fun x => ⟨fun hx => by
      rcases List.mem_cons.1 ((h x).1 (List.mem_cons_of_mem _ hx)) with e | k
      · have := hA.1 x hx; omega
      · exact k, fun hx => by
      rcases List.mem_cons.1 ((h x).2 (List.mem_cons_of_mem _ hx)) with e | k
      · have := hB.1 x hx; omega
      · exact k⟩]
/-- All extents small, so that nothing overflows. -/
def Sml (r : List G.Extent) : Prop := r.length ≤ 1000 ∧ ∀ e ∈ r, 0 ≤ e.off ∧ 0 ≤ e.len ∧ e.off + e.len ≤ 4611686018427387903
theorem push_ex {r : List G.Extent} {e : G.Extent} (hr : ∀ x ∈ r, 0 ≤ x.off ∧ 0 ≤ x.len ∧ x.off + x.len ≤ 4611686018427387903) (he : 0 ≤ e.off ∧ 0 ≤ e.len ∧ e.off + e.len ≤ 4611686018427387903) : ∀ x ∈ push r e, 0 ≤ x.off ∧ 0 ≤ x.len ∧ x.off + x.len ≤ 4611686018427387903 := by
  cases r with
  | nil =>
    intro x (hx : x ∈ [e])
    rw [List.mem_singleton] at hx; subst hx; exact he
  | cons y ys =>
    intro x hx
    have hy := hr y (List.mem_cons_self ..)
    by_cases h : xend y = e.off
    · rw [push_yes h] at hx
      unfold xend at h
      rcases List.mem_cons.1 hx with rfl | hx
      · simp only; omega
      · exact hr x (List.mem_cons_of_mem _ hx)
    · rw [push_no h] at hx
      rcases List.mem_cons.1 hx with rfl | hx
      · exact he
      · exact hr x hx
theorem foldl_ex : ∀ (P r : List G.Extent), (∀ x ∈ r, 0 ≤ x.off ∧ 0 ≤ x.len ∧ x.off + x.len ≤ 4611686018427387903) → (∀ x ∈ P, 0 ≤ x.off ∧ 0 ≤ x.len ∧ x.off + x.len ≤ 4611686018427387903) → ∀ x ∈ P.foldl push r, 0 ≤ x.off ∧ 0 ≤ x.len ∧ x.off + x.len ≤ 4611686018427387903
  | [], _, hr, _ => hr
  | e :: P, r, hr, hP => by
    rw [List.foldl_cons]
    exact foldl_ex P _ (push_ex hr (hP e (List.mem_cons_self ..))) fun x hx => hP x (List.mem_cons_of_mem _ hx)
theorem idx_last {x : G.Extent} {xs : List G.Extent} : idx (x :: xs).reverse (((x :: xs).reverse.length : Int) - 1) = some x := by
  rw [idx_of' (k := xs.length) (by simp) (by simp)]
  simp
theorem set_last {x v : G.Extent} {xs : List G.Extent} : (x :: xs).reverse.set ((((x :: xs).reverse.length : Int) - 1).toNat) v = (v :: xs).reverse := by
  have : (((x :: xs).reverse.length : Int) - 1).toNat = xs.reverse.length := by simp
  rw [this, List.reverse_cons, List.reverse_cons, List.set_append_right _ _ (Nat.le_refl _), Nat.sub_self]
  rfl
section
variable {l : List G.Command}
/-- The bytes of extent ⟨o, n⟩ that one of the first i commands writes. -/
def wb (l : List G.Command) (i : Nat) (o : Int) (n : Nat) : List Int := (rng o n).filter fun x => wrt l i x
theorem wb_succ (i : Nat) (o : Int) (n : Nat) : wb l i o (n + 1) = wb l i o n ++ (if wrt l i (o + (n : Int)) = true then [o + (n : Int)] else []) := by
  unfold wb
  rw [rng_succ, List.filter_append]
  congr 1
  by_cases h : wrt l i (o + (n : Int)) = true
  · rw [if_pos h]; simp [h]
  · rw [if_neg h]; simp [h]
theorem wb_ex {i : Nat} {o : Int} {n : Nat} (h0 : 0 ≤ o) (h1 : o + (n : Int) ≤ 4611686018427387903) : ∀ x ∈ (wb l i o n).map sg, 0 ≤ x.off ∧ 0 ≤ x.len ∧ x.off + x.len ≤ 4611686018427387903 := by
  intro x hx
  obtain ⟨z, hz, rfl⟩ := List.mem_map.1 hx
  have := rng_mem.1 (List.mem_filter.1 hz).1
  simp only [sg]; omega
/-- The extents that the reference gives. -/
def dirt (l : List G.Command) (i : Nat) (o : Int) (n : Nat) : List G.Extent := (((wb l i o n).map sg).foldl push []).reverse
theorem dirt_len (i : Nat) (o : Int) (n : Nat) : (dirt l i o n).length ≤ n := by
  unfold dirt
  have h1 := push_all_len ((wb l i o n).map sg) []
  have h2 : (wb l i o n).length ≤ (rng o n).length := List.length_filter_le _ _
  have h3 : (rng o n).length = n := by simp [rng]
  rw [List.length_reverse]
  rw [List.length_map, List.length_nil] at h1
  omega
theorem refDirty_of (h : Rt l) {i : Nat} (hi : i < l.length) (hk : l[i].kind = 1) (hs : tlen l[i] ≤ 300) : G.graftref16_Dirty l (i : Int) = some (dirt l i l[i].from_ l[i].len.toNat) := by
  have hn := h.len
  have hg := h.good _ (List.getElem_mem hi)
  obtain ⟨k1, k2, k3, k4, _⟩ := hg.copy hk
  rw [show tlen l[i] = l[i].len by unfold tlen; rw [if_pos hk]] at hs
  unfold G.graftref16_Dirty
  rw [if_neg (by omega), if_neg (by omega), idx_of hi]
  simp only [Option.bind_some]
  rw [if_neg (by simp [hk])]
  refine Iter_count (f := G.graftref16_Dirty_l1 l (i : Int)) l[i].len.toNat (fun k => (l[i].from_ + (k : Int), dirt l i l[i].from_ k)) _ (fun k hk => ?_) ?_ (by simp [dirt, wb, rng])
  · unfold G.graftref16_Dirty_l1
    rw [idx_of hi]
    simp only [Option.bind_some]
    rw [w64 (x := l[i].from_ + l[i].len) (by omega) (by omega), if_pos (by omega), written_of h (by omega), w64 (x := l[i].from_ + (k : Int) + 1) (by omega) (by omega)]
    simp only [Option.bind_some]
    have hsu : l[i].from_ + ((k + 1 : Nat) : Int) = l[i].from_ + (k : Int) + 1 := by omega
    rw [hsu]
    by_cases hw : wrt l i (l[i].from_ + (k : Int)) = false
    · rw [if_pos hw]
      congr 3
      unfold dirt
      rw [wb_succ, if_neg (by simp [hw]), List.append_nil]
    · have hw' : wrt l i (l[i].from_ + (k : Int)) = true := by simpa using hw
      rw [if_neg hw]
      have hl := dirt_len (l := l) i l[i].from_ k
      have hd : dirt l i l[i].from_ (k + 1) = (push (((wb l i l[i].from_ k).map sg).foldl push []) (sg (l[i].from_ + (k : Int)))).reverse := by
        unfold dirt
        rw [wb_succ, if_pos hw', List.map_append, List.foldl_append]; rfl
      rw [hd]
      have hex := foldl_ex _ [] (fun x hx => by cases hx) (wb_ex (l := l) (i := i) (o := l[i].from_) (n := k) k1 (by omega))
      unfold dirt at hl ⊢
      rw [List.length_reverse] at hl
      generalize ((wb l i l[i].from_ k).map sg).foldl push [] = r at hl hex
      cases r with
      | nil =>
        rw [if_neg (show ¬ (IntKind.i64.wrap ((([] : List G.Extent).reverse.length : Int) - 1) ≥ 0) by decide)]
        simp only [Option.bind_some]
        rw [if_neg (by decide), app_of (by simp)]
        rfl
      | cons x xs =>
        have hx := hex x (List.mem_cons_self ..)
        have hlen : ((x :: xs).reverse.length : Int) = (xs.length : Int) + 1 := by simp
        simp only [List.length_cons] at hl
        have wl : IntKind.i64.wrap (((x :: xs).reverse.length : Int) - 1) = ((x :: xs).reverse.length : Int) - 1 := w64 (by omega) (by omega)
        have w2 : IntKind.i64.wrap (x.off + x.len) = x.off + x.len := w64 (by omega) (by omega)
        have w3 : IntKind.i64.wrap (x.len + 1) = x.len + 1 := w64 (by omega) (by omega)
        simp only [wl, idx_last, Option.bind_some, w2, w3]
        rw [if_pos (by omega)]
        simp only [Option.bind_some, beq_iff_eq]
        by_cases hc : x.off + x.len = l[i].from_ + (k : Int)
        · rw [if_pos hc, push_yes (e := sg (l[i].from_ + (k : Int))) hc, set_last]; rfl
        · rw [if_neg hc, push_no (e := sg (l[i].from_ + (k : Int))) hc, app_of (by simp; omega)]
          simp only [Option.bind_some]
          rw [List.reverse_cons (a := sg (l[i].from_ + (k : Int)))]; rfl
  · unfold G.graftref16_Dirty_l1
    rw [idx_of hi]
    simp only [Option.bind_some]
    rw [w64 (x := l[i].from_ + l[i].len) (by omega) (by omega), if_neg (by omega)]
/-! The program's. -/
theorem steps_of (h : Rt l) {i : Nat} (hi : i < l.length) : G.safe_steps_1_safe_Dirty l (i : Int) [] = some ((i : Int), (l.take i).map tgt) := by
  have hn := h.len
  unfold G.safe_steps_1_safe_Dirty
  refine Iter_count (f := G.safe_steps_1_safe_Dirty_l1 l) l.length (fun k => ((l.take k).map tgt, (k : Int), (i : Int), if i < k then (l.take i).map tgt else [])) _ (fun k hk => ?_) ?_ (by simp)
  · unfold G.safe_steps_1_safe_Dirty_l1 G.safe_Dirty_b1x
    rw [if_pos (by simp only; omega)]
    simp only [idx_of hk, Option.bind_some, Target_of]
    have e : (if (k : Int) = (i : Int) then some ((l.take k).map tgt) else some (if i < k then (l.take i).map tgt else [])) = some (if i < k + 1 then (l.take i).map tgt else []) := by
      by_cases e : k = i
      · subst e; rw [if_pos rfl, if_pos (by omega)]
      · rw [if_neg (by omega)]
        by_cases h2 : i < k
        · rw [if_pos h2, if_pos (by omega)]
        · rw [if_neg h2, if_neg (by omega)]
    rw [e]
    simp only [Option.bind_some]
    rw [app_of (by simp; omega), inc64 hk (by omega), List.take_succ_eq_append_getElem hk, List.map_append]
    rfl
  · unfold G.safe_steps_1_safe_Dirty_l1
    rw [if_neg (by simp)]
    simp only
    rw [if_pos hi]
theorem tgt_ex {c : G.Command} (h : Good dM c) : Ex (tgt c) := ⟨h.to0, h.len1, h.max⟩
theorem tgt_apart (h : Rt l) (i : Nat) : ∀ p q (hp : p < ((l.take i).map tgt).length) (hq : q < ((l.take i).map tgt).length), p ≠ q → xov ((l.take i).map tgt)[p] ((l.take i).map tgt)[q] = false := by
  have key : ∀ p q (hp : p < l.length) (hq : q < l.length), p < q → xov (tgt l[q]) (tgt l[p]) = false := fun p q hp hq hpq => by
    have h1 := h.apart q hq
    unfold ovi at h1
    rw [List.any_eq_false] at h1
    have h2 := h1 l[p] (List.mem_iff_getElem.2 ⟨p, by simp; omega, by simp⟩)
    rw [cat_getElem hq] at h2
    show ov l[q] l[p] = false
    simpa using h2
  intro p q hp hq hne
  simp only [List.length_map, List.length_take] at hp hq
  simp only [List.getElem_map, List.getElem_take]
  rcases Nat.lt_or_ge p q with hpq | hpq
  · rw [xov_comm]; exact key p q (by omega) (by omega) hpq
  · exact key q p (by omega) (by omega) (by omega)
theorem xpart_byt {a s : G.Extent} (h : xov a s = true) {x : Int} : x ∈ byt (xpart s a) ↔ (a.off ≤ x ∧ x < xend a) ∧ s.off ≤ x ∧ x < xend s := by
  have h := of_decide_eq_true h
  unfold byt
  rw [rng_mem]
  unfold xpart
  simp only
  unfold imax imin
  split <;> split <;> omega
theorem part_ex {a s : G.Extent} (ha : Ex a) (hs : Ex s) (h : xov a s = true) : Ex (xpart s a) ∧ s.off ≤ (xpart s a).off ∧ a.off ≤ (xpart s a).off ∧ xend (xpart s a) ≤ xend a := by
  have h := of_decide_eq_true h
  obtain ⟨a1, a2, a3⟩ := ha
  obtain ⟨s1, s2, s3⟩ := hs
  unfold xpart Ex
  unfold xend at *
  simp only
  unfold imax imin
  split <;> split <;> omega
theorem Dirty1_of (h : Rt l) {i : Nat} (hi : i < l.length) (hk : l[i].kind = 1) (hs : tlen l[i] ≤ 300) : G.safe_Dirty l (i : Int) = some (dirt l i l[i].from_ l[i].len.toNat) := by
  have hn := h.len
  have hg := h.good _ (List.getElem_mem hi)
  obtain ⟨k1, k2, k3, k4, _⟩ := hg.copy hk
  have k5 := hg.len1
  rw [show tlen l[i] = l[i].len by unfold tlen; rw [if_pos hk]] at hs k5
  have hsx : Ex (⟨l[i].from_, l[i].len⟩ : G.Extent) := ⟨k1, k5, k4⟩
  unfold G.safe_Dirty
  rw [if_neg (by omega), decide_eq_false (by omega)]
  simp only [Option.bind_some]
  rw [if_neg (by decide), idx_of hi]
  simp only [Option.bind_some, src5, if_pos hk]
  rw [if_neg (by decide), show G.safe_steps l = some l from rfl]
  simp only [Option.bind_some]
  rw [steps_of h hi]
  simp only [Option.bind_some]
  obtain ⟨y, ey, hy⟩ := New_of (B := (l.take i).map tgt) (fun e he => by
    obtain ⟨c, hc, rfl⟩ := List.mem_map.1 he
    exact tgt_ex (h.good c (List.mem_of_mem_take hc))) (by simp; omega) (tgt_apart h i)
  rw [ey]
  simp only [Option.bind_some]
  have hyl : y.length < 50 := by rw [hy.len]; simp; omega
  obtain ⟨M, eM, hM1, hM2, hM3⟩ := Meet_of hy hyl hsx
  rw [eM]
  simp only [Option.bind_some]
  have hpos : ∀ e ∈ M, ∃ k, ∃ hk : k < ((l.take i).map tgt).length, e = ⟨((l.take i).map tgt)[k], (k : Int)⟩ := fun e he => ents_mem (hy.perm.mem_iff.1 ((hM3 e).1 he).1)
  have hMex : ∀ e ∈ M, Ex e.extent := fun e he => hy.ex e ((hM3 e).1 he).1
  have hMov : ∀ e ∈ M, xov e.extent ⟨l[i].from_, l[i].len⟩ = true := fun e he => ((hM3 e).1 he).2
  have hpx : ∀ x ∈ M.map (fun e => xpart ⟨l[i].from_, l[i].len⟩ e.extent), 0 ≤ x.off ∧ 0 ≤ x.len ∧ x.off + x.len ≤ 4611686018427387903 := fun x hx => by
    obtain ⟨e, he, rfl⟩ := List.mem_map.1 hx
    obtain ⟨q1, q2, q3⟩ := (part_ex (hMex e he) hsx (hMov e he)).1
    exact ⟨q1, by omega, q3⟩
  have hfin : ((M.map fun e => xpart ⟨l[i].from_, l[i].len⟩ e.extent).foldl push []).reverse = dirt l i l[i].from_ l[i].len.toNat := by
    unfold dirt
    rw [← push_byts _ _ fun e he => by
      obtain ⟨z, hz, rfl⟩ := List.mem_map.1 he
      exact ((part_ex (hMex z hz) hsx (hMov z hz)).1).2.1]
    congr 3
    refine lt_unique _ _ ?_ ?_ fun x => ?_
    · rw [List.flatMap_map, List.pairwise_flatMap]
      refine ⟨fun e _ => rng_lt _ _, hM2.imp_of_mem fun {a b} ha hb hab => ?_⟩
      intro x hx z hz
      have h1 := ((xpart_byt (hMov a ha)).1 hx).1.2
      have h2 := ((xpart_byt (hMov b hb)).1 hz).1.1
      omega
    · exact (rng_lt _ _).sublist List.filter_sublist
    · rw [List.mem_flatMap]
      unfold wb
      rw [List.mem_filter, rng_mem]
      constructor
      · rintro ⟨p, hp, hx⟩
        obtain ⟨e, he, rfl⟩ := List.mem_map.1 hp
        obtain ⟨q1, q2⟩ := (xpart_byt (hMov e he)).1 hx
        obtain ⟨k, hk, rfl⟩ := hpos e he
        unfold xend at q2
        simp only at q2
        refine ⟨by omega, ?_⟩
        unfold wrt
        rw [List.any_eq_true]
        simp only [List.length_map] at hk
        refine ⟨(l.take i)[k], List.getElem_mem hk, decide_eq_true ?_⟩
        simp only [List.getElem_map] at q1
        exact q1
      · rintro ⟨q1, q2⟩
        unfold wrt at q2
        rw [List.any_eq_true] at q2
        obtain ⟨c, hc, hcx⟩ := q2
        have hcx := of_decide_eq_true hcx
        obtain ⟨k, hk, rfl⟩ := List.mem_iff_getElem.1 hc
        have hk' : k < ((l.take i).map tgt).length := by rwa [List.length_map]
        have hm := hy.perm.mem_iff.2 (mem_ents hk')
        have hov : xov ((l.take i).map tgt)[k] ⟨l[i].from_, l[i].len⟩ = true := by
          simp only [List.getElem_map]
          unfold xov xend
          refine decide_eq_true ?_
          show ((l.take i)[k]).to < l[i].from_ + l[i].len ∧ l[i].from_ < tend (l.take i)[k]
          omega
        refine ⟨_, List.mem_map.2 ⟨_, (hM3 _).2 ⟨hm, hov⟩, rfl⟩, (xpart_byt hov).2 ⟨?_, by unfold xend; simp only; omega⟩⟩
        simp only [List.getElem_map]
        exact hcx
  rw [← hfin]
  show Iter (G.safe_Dirty_l2 (⟨l[i].from_, l[i].len⟩, true) ((i : Int), (l.take i).map tgt) (M.map (·.position))) ((0 : Int), []) = _
  refine Iter_count (s := ((0 : Int), ([] : List G.Extent))) M.length (fun k => ((k : Int), (((M.take k).map fun e => xpart ⟨l[i].from_, l[i].len⟩ e.extent).foldl push []).reverse)) _ (fun k hk => ?_) ?_ (by simp)
  · unfold G.safe_Dirty_l2
    have hme := List.getElem_mem hk
    obtain ⟨p, hp, ep⟩ := hpos _ hme
    have hx1 := hMex _ hme
    have hx2 := hMov _ hme
    have hpe := part_ex hx1 hsx hx2
    rw [if_pos (by simp; omega), idx_of (show k < (M.map (·.position)).length by simpa using hk)]
    simp only [Option.bind_some, List.getElem_map]
    have hidx : idx ((l.take i).map tgt) M[k].position = some M[k].extent := by rw [ep]; exact idx_of hp
    rw [hidx]
    simp only [Option.bind_some]
    rw [OverlapX hsx hx1, if_pos (by rw [xov_comm]; exact hx2)]
    simp only [Option.bind_some]
    rw [inc64 hk (by omega), List.take_succ_eq_append_getElem hk, List.map_append, List.foldl_append]
    simp only [List.map_cons, List.map_nil, List.foldl_cons, List.foldl_nil]
    have hex := foldl_ex ((M.take k).map fun e => xpart ⟨l[i].from_, l[i].len⟩ e.extent) [] (fun x hx => by cases hx) (fun x hx => by
      obtain ⟨e, he, rfl⟩ := List.mem_map.1 hx
      exact hpx _ (List.mem_map.2 ⟨e, List.mem_of_mem_take he, rfl⟩))
    have hl := push_all_len ((M.take k).map fun e => xpart ⟨l[i].from_, l[i].len⟩ e.extent) []
    simp only [List.length_map, List.length_take, List.length_nil] at hl
    generalize ((M.take k).map fun e => xpart ⟨l[i].from_, l[i].len⟩ e.extent).foldl push [] = r at hl hex
    generalize xpart ⟨l[i].from_, l[i].len⟩ M[k].extent = pt at hpe
    obtain ⟨p1, p2, p3⟩ := hpe.1
    cases r with
    | nil =>
      rw [if_neg (show ¬ ((([] : List G.Extent).reverse.length : Int) > 0) by decide)]
      simp only [Option.bind_some]
      rw [if_neg (by decide), app_of (by simp)]
      rfl
    | cons x xs =>
      have hx := hex x (List.mem_cons_self ..)
      have hlen : ((x :: xs).reverse.length : Int) = (xs.length : Int) + 1 := by simp
      simp only [List.length_cons] at hl
      have wl : IntKind.i64.wrap (((x :: xs).reverse.length : Int) - 1) = ((x :: xs).reverse.length : Int) - 1 := w64 (by omega) (by omega)
      have w2 : IntKind.i64.wrap (x.off + x.len) = x.off + x.len := w64 (by omega) (by omega)
      have w3 : IntKind.i64.wrap (x.len + pt.len) = x.len + pt.len := w64 (by omega) (by omega)
      unfold G.extent_End
      simp only [wl, idx_last, Option.bind_some, w2, w3]
      rw [if_pos (by omega)]
      simp only [Option.bind_some, beq_iff_eq]
      by_cases hc : x.off + x.len = pt.off
      · rw [if_pos hc, push_yes hc, set_last]
      · rw [if_neg hc, push_no hc, app_of (by simp; omega)]
        simp only [Option.bind_some]
        rw [List.reverse_cons (a := pt)]
  · unfold G.safe_Dirty_l2
    rw [if_neg (by simp)]
    simp only [List.take_length]
end
end G
end Go.Proofs.Ytnbipipegmoigaa
