/- Part of what the laws need: plain words, the walker and its laws, the program's functions. -/
import Derived.Test.YthnhjibbkleneaaZPPV
namespace Go.Proofs.Ythnhjibbkleneaa
open G
namespace G
def cpl : List UInt8 → List UInt8 → Nat
  | a :: l, b :: m => if a = b then cpl l m + 1 else 0
  | _, _ => 0
theorem cpl_le : ∀ a b : List UInt8, cpl a b ≤ a.length ∧ cpl a b ≤ b.length
  | [], b => by cases b <;> simp [cpl]
  | a :: l, [] => by simp [cpl]
  | a :: l, b :: m => by
    have := cpl_le l m
    unfold cpl; split <;> simp only [List.length_cons] <;> omega
theorem cpl_lt : ∀ {a b : List UInt8} {i : Nat} (_ : i < cpl a b), ∃ (h1 : i < a.length) (h2 : i < b.length), a[i] = b[i]
  | [], b, i, h => by cases b <;> simp [cpl] at h
  | a :: l, [], i, h => by simp [cpl] at h
  | a :: l, b :: m, i, h => by
    unfold cpl at h
    split at h
    · rename_i e
      match i with
      | 0 => exact ⟨by simp, by simp, e⟩
      | i + 1 =>
        obtain ⟨h1, h2, h3⟩ := cpl_lt (a := l) (b := m) (i := i) (by omega)
        exact ⟨by simp; omega, by simp; omega, by simpa using h3⟩
    · omega
theorem cpl_end : ∀ {a b : List UInt8} (h1 : cpl a b < a.length) (h2 : cpl a b < b.length), a[cpl a b] ≠ b[cpl a b]
  | [], b, h1, _ => by simp at h1
  | a :: l, [], _, h2 => by simp at h2
  | a :: l, b :: m, h1, h2 => by
    by_cases e : a = b
    · have ec : cpl (a :: l) (b :: m) = cpl l m + 1 := by rw [cpl, if_pos e]
      simp only [ec, List.length_cons] at h1 h2
      simp only [ec, List.getElem_cons_succ]
      exact cpl_end (a := l) (b := m) (by omega) (by omega)
    · have ec : cpl (a :: l) (b :: m) = 0 := by rw [cpl, if_neg e]
      simp only [ec, List.getElem_cons_zero]; exact e
theorem cpl_take : ∀ {a b : List UInt8} {n : Nat}, n ≤ cpl a b → a.take n = b.take n
  | [], b, n, h => by have : n = 0 := by cases b <;> simp [cpl] at h <;> exact h
                      subst this; simp
  | a :: l, [], n, h => by have : n = 0 := by simp [cpl] at h; exact h
                           subst this; simp
  | a :: l, b :: m, n, h => by
    unfold cpl at h
    split at h
    · rename_i e
      match n with
      | 0 => simp
      | n + 1 => rw [List.take_succ_cons, List.take_succ_cons, e, cpl_take (a := l) (b := m) (by omega)]
    · have : n = 0 := by omega
      subst this; simp
theorem pre_cpl : ∀ {b a : List UInt8} {k : Nat}, k ≤ b.length → (b.take k).isPrefixOf a = decide (k ≤ cpl a b)
  | b, a, 0, _ => by simp
  | [], a, k + 1, h => by simp at h
  | b :: m, [], k + 1, _ => by simp [cpl]
  | b :: m, a :: l, k + 1, h => by
    rw [List.take_succ_cons]
    have ih := pre_cpl (b := m) (a := l) (k := k) (by simpa using h)
    show ((b == a) && (m.take k).isPrefixOf l) = _
    rw [ih]
    rw [cpl]
    by_cases e : a = b
    · subst e; simp
    · rw [if_neg e, show (b == a) = false by simpa using fun h => e h.symm]; simp
theorem equal_of {a b : List UInt8} (ha : a.length ≤ 1000000) : G.graftref08_equal a b = some (cpl a b : Int) := by
  obtain ⟨l1, l2⟩ := cpl_le a b
  unfold G.graftref08_equal
  refine Iter_count (cpl a b) (fun k => (k : Int)) _ (fun k hk => ?_) ?_ rfl
  · obtain ⟨h1, h2, h3⟩ := cpl_lt hk
    unfold G.graftref08_equal_l1
    rw [if_pos (by omega), if_pos (by omega), idx_of h1, idx_of h2]
    simp only [Option.bind_some, h3, beq_self_eq_true, if_true]
    rw [inc64 hk (by omega)]
  · unfold G.graftref08_equal_l1
    by_cases h1 : cpl a b < a.length
    · by_cases h2 : cpl a b < b.length
      · rw [if_pos (by omega), if_pos (by omega), idx_of h1, idx_of h2]
        have := cpl_end h1 h2
        have hne : (a[cpl a b].toNat : Int) ≠ (b[cpl a b].toNat : Int) := fun h => this (UInt8.toNat_inj.1 (by omega))
        simp only [Option.bind_some]
        rw [if_neg (by simpa using hne)]
      · rw [if_pos (by omega), if_neg (by omega)]; rfl
    · rw [if_neg (by omega)]; rfl
def Mat (old b : List UInt8) (r : Int × Int) : Prop := r = (-1, 0) ∨ ∃ q n : Nat, r = ((q : Int), (n : Int)) ∧ 1 ≤ n ∧ n ≤ b.length ∧ q + n ≤ old.length ∧ (old.drop q).take n = b.take n
theorem match_of {old b : List UInt8} {blk : Int} (ho : old.length ≤ 10000) (hb : b.length ≤ 10000) : ∃ r, Mat old b r ∧ G.patch_matcher_1 b blk old = some r ∧ G.graftref08_match old b blk = some r := by
  unfold G.patch_matcher_1 G.graftref08_match
  by_cases h1 : blk < 1
  · rw [if_pos h1]; exact ⟨_, .inl rfl, rfl, rfl⟩
  rw [if_neg h1]
  by_cases h2 : blk > (b.length : Int)
  · rw [decide_eq_true h2]; exact ⟨_, .inl rfl, rfl, rfl⟩
  rw [decide_eq_false h2]
  obtain ⟨B, rfl⟩ : ∃ B : Nat, blk = (B : Int) := ⟨blk.toNat, by omega⟩
  simp only [Option.bind_some, Bool.false_eq_true, if_false]
  rw [slcTo_of (by omega)]
  simp only [Option.bind_some, Int.toNat_natCast]
  have hB : B ≤ b.length := by omega
  have hi : G.bytes_Index old (b.take B) = some (Go.Lib.index old (b.take B)) := by unfold G.bytes_Index bytesIndex; rw [if_pos (by omega)]
  rw [hi]
  simp only [Option.bind_some]
  have hocc : ∀ j, Go.Lib.occAt old (b.take B) j = decide (B ≤ cpl (old.drop j) b) := fun j => pre_cpl hB
  have hsc := Iter_scan (f := G.graftref08_match_l1 old b (B : Int)) (List.range (old.length + 1 - B)) (fun q => decide (B ≤ cpl (old.drop q) b)) (fun k => (k : Int)) (fun k => ((k : Int), (cpl (old.drop k) b : Int))) ((-1 : Int), (0 : Int))
    (fun k hk hbad => by
      simp only [List.length_range] at hk
      simp only [List.getElem_range, decide_eq_false_iff_not] at hbad
      unfold G.graftref08_match_l1
      rw [w64 (by omega) (by omega), if_pos (by omega), slcFrom_of (by omega)]
      simp only [Option.bind_some, Int.toNat_natCast]
      rw [equal_of (by rw [List.length_drop]; omega)]
      simp only [Option.bind_some]
      rw [if_neg (by omega), inc64 (n := 1000000) (by omega) (by omega)])
    (fun k hk hbad => by
      simp only [List.length_range] at hk
      simp only [List.getElem_range, decide_eq_true_eq] at hbad
      unfold G.graftref08_match_l1
      rw [w64 (by omega) (by omega), if_pos (by omega), slcFrom_of (by omega)]
      simp only [Option.bind_some, Int.toNat_natCast]
      rw [equal_of (by rw [List.length_drop]; omega)]
      simp only [Option.bind_some]
      rw [if_pos (by omega)])
    (by
      unfold G.graftref08_match_l1
      simp only [List.length_range]
      rw [w64 (by omega) (by omega), if_neg (by omega)])
    (s := (0 : Int)) rfl
  rcases hsc with ⟨hall, hit⟩ | ⟨k, hk, hbad, hbef, hit⟩
  · have hn : Go.Lib.index old (b.take B) = -1 := by
      refine Go.Lib.index_none fun j hj => ?_
      rw [hocc, decide_eq_false_iff_not]
      intro hc
      have := (cpl_le (old.drop j) b).1
      rw [List.length_drop] at this
      have := hall j (List.mem_range.2 (by omega))
      simp only [decide_eq_false_iff_not] at this
      exact this hc
    rw [hn, hit, if_pos (by decide)]
    exact ⟨_, .inl rfl, rfl, rfl⟩
  · simp only [List.length_range] at hk
    simp only [List.getElem_range, decide_eq_true_eq] at hbad
    obtain ⟨c1, c2⟩ := cpl_le (old.drop k) b
    rw [List.length_drop] at c1
    have hn : Go.Lib.index old (b.take B) = (k : Int) := by
      refine Go.Lib.index_first (by omega) (by rw [hocc, decide_eq_true hbad]) fun j hj => ?_
      have := hbef j hj
      simp only [List.getElem_range] at this
      rw [hocc, this]
    rw [hn, hit, if_neg (by omega)]
    have hl : Iter (G.patch_matcher_1_l1 b old (k : Int)) (B : Int) = some (cpl (old.drop k) b : Int) := by
      refine Iter_count (cpl (old.drop k) b - B) (fun j => ((B + j : Nat) : Int)) _ (fun j hj => ?_) ?_ rfl
      · obtain ⟨g1, g2, g3⟩ := cpl_lt (a := old.drop k) (b := b) (i := B + j) (by omega)
        rw [List.length_drop] at g1
        rw [List.getElem_drop] at g3
        unfold G.patch_matcher_1_l1
        rw [w64 (by omega) (by omega), if_pos (by omega), if_pos (by omega), idx_of g2, idx_of' (k := k + (B + j)) (by omega) (by omega)]
        simp only [Option.bind_some, g3, beq_self_eq_true, if_true]
        rw [inc64 (n := 1000000) (by omega) (by omega)]; rfl
      · rw [show B + (cpl (old.drop k) b - B) = cpl (old.drop k) b by omega]
        unfold G.patch_matcher_1_l1
        rw [w64 (by omega) (by omega)]
        by_cases g2 : cpl (old.drop k) b < b.length
        · by_cases g1 : cpl (old.drop k) b < (old.drop k).length
          · have hne := cpl_end g1 g2
            rw [List.length_drop] at g1
            rw [List.getElem_drop] at hne
            rw [if_pos (by omega), if_pos (by omega), idx_of g2, idx_of' (k := k + cpl (old.drop k) b) (by omega) (by omega)]
            have hne : (b[cpl (old.drop k) b].toNat : Int) ≠ (old[k + cpl (old.drop k) b].toNat : Int) := fun h => hne (UInt8.toNat_inj.1 (by omega))
            simp only [Option.bind_some]
            rw [if_neg (by simpa using hne)]
          · rw [List.length_drop] at g1
            rw [if_pos (by omega), if_neg (by omega)]; rfl
        · rw [if_neg (by omega)]; rfl
    rw [hl]
    exact ⟨_, .inr ⟨k, cpl (old.drop k) b, rfl, by omega, c2, by omega, cpl_take (Nat.le_refl _)⟩, rfl, rfl⟩
section
variable {old new : List UInt8} {blk : Int}
structure Mk (old new : List UInt8) (l : List G.Command) (fr : Nat) : Prop where
  til : Til 0 l (fr : Int)
  good : ∀ c ∈ l, Good ⟨(old.length : Int), (new.length : Int), fun _ => 0, fun _ => 0, []⟩ c ∧ byts old c = (new.drop c.to.toNat).take (tlen c).toNat
  len : l.length ≤ fr
  cop : ∀ c, l.getLast? = some c → c.kind ≠ 2
  le : fr ≤ new.length
theorem til_app : ∀ {l : List G.Command} {a b e : Int} {c : G.Command}, Til a l b → c.to = b → tend c = e → Til a (l ++ [c]) e
  | [], a, b, e, c, h, h1, h2 => by
    have h : a = b := h
    exact ⟨by rw [h1, h], h2⟩
  | x :: l, a, b, e, c, ⟨h, h'⟩, h1, h2 => ⟨h, til_app h' h1 h2⟩
theorem fl_good {l : List G.Command} {fr p : Nat} (h : Mk old new l fr) (hp : p ≤ new.length) (hfp : fr ≤ p) (hn : new.length ≤ 10000) :
    Til 0 (fl new l fr p) (p : Int) ∧ (∀ c ∈ fl new l fr p, Good ⟨(old.length : Int), (new.length : Int), fun _ => 0, fun _ => 0, []⟩ c ∧ byts old c = (new.drop c.to.toNat).take (tlen c).toNat) ∧ (fl new l fr p).length ≤ p := by
  unfold fl
  by_cases hlt : fr < p
  · rw [if_pos hlt]
    have hd : ((new.take p).drop fr).length = p - fr := by rw [List.length_drop, List.length_take]; omega
    have ht : tlen ⟨2, (fr : Int), 0, 0, (new.take p).drop fr⟩ = ((p - fr : Nat) : Int) := by unfold tlen; rw [if_neg (by simp), hd]
    have hte : tend ⟨2, (fr : Int), 0, 0, (new.take p).drop fr⟩ = (p : Int) := by show (fr : Int) + tlen _ = _; rw [ht]; omega
    refine ⟨til_app h.til rfl hte, fun c hc => ?_, by have := h.len; simp; omega⟩
    rcases List.mem_append.1 hc with hc | hc
    · exact h.good c hc
    · rw [List.mem_singleton] at hc
      subst hc
      refine ⟨⟨by simp only; omega, by rw [ht]; omega, by rw [hte]; simp only; omega, by rw [hte]; omega, (fun k => by cases k), fun _ => ⟨rfl, rfl, rfl⟩⟩, ?_⟩
      rw [byts_lit (by simp), ht]
      simp only [Int.toNat_natCast]
      rw [List.drop_take]
  · rw [if_neg hlt]
    obtain rfl : fr = p := by omega
    exact ⟨h.til, h.good, h.len⟩
theorem cm_hit {p : Nat} {L : List G.Command} {q n : Nat} (hp : p < new.length) (hn : new.length ≤ 10000) (hl : L.length ≤ 10000) (hpn : p + n ≤ new.length) (hm : G.graftref08_match old (new.drop p) blk = some ((q : Int), (n : Int))) :
    G.graftref08_Commands_l1 old new blk ((p : Int), L) = some (.inl (((p + n : Nat) : Int), L ++ [⟨1, (p : Int), (q : Int), (n : Int), []⟩])) := by
  unfold G.graftref08_Commands_l1
  rw [if_pos (by simp only; omega), slcFrom_of (by simp only; omega)]
  simp only [Option.bind_some, Int.toNat_natCast, hm]
  rw [if_pos (by omega), app_of (by simp; omega)]
  simp only [Option.bind_some]
  rw [wr (k := p + n) (by omega) (by omega)]
theorem take_one {p : Nat} (hp : p < new.length) (fr : Nat) (hf : fr ≤ p) : (new.take (p + 1)).drop fr = (new.take p).drop fr ++ [new[p]] := by
  rw [List.take_succ_eq_append_getElem hp, List.drop_append_of_le_length (by rw [List.length_take]; omega)]
theorem cm_miss {p fr : Nat} {l : List G.Command} (h : Mk old new l fr) (hfp : fr ≤ p) (hp : p < new.length) (hn : new.length ≤ 10000) (hm : G.graftref08_match old (new.drop p) blk = some (-1, 0)) :
    G.graftref08_Commands_l1 old new blk ((p : Int), fl new l fr p) = some (.inl (((p + 1 : Nat) : Int), fl new l fr (p + 1))) := by
  have hlen := h.len
  unfold G.graftref08_Commands_l1
  rw [if_pos (by simp only; omega), slcFrom_of (by simp only; omega)]
  simp only [Option.bind_some, Int.toNat_natCast, hm]
  rw [if_neg (by decide)]
  by_cases hlt : fr < p
  · have e : fl new l fr p = l ++ [⟨2, (fr : Int), 0, 0, (new.take p).drop fr⟩] := by unfold fl; rw [if_pos hlt]
    have e2 : fl new l fr (p + 1) = l ++ [⟨2, (fr : Int), 0, 0, (new.take (p + 1)).drop fr⟩] := by unfold fl; rw [if_pos (by omega)]
    rw [e, e2]
    have hL : IntKind.i64.wrap (((l ++ [(⟨2, (fr : Int), 0, 0, (new.take p).drop fr⟩ : G.Command)]).length : Int) - 1) = (l.length : Int) := by
      rw [List.length_append]; simp only [List.length_cons, List.length_nil]; rw [w64 (by omega) (by omega)]; omega
    have hx : idx (l ++ [(⟨2, (fr : Int), 0, 0, (new.take p).drop fr⟩ : G.Command)]) (l.length : Int) = some ⟨2, (fr : Int), 0, 0, (new.take p).drop fr⟩ := by
      rw [idx_of (by simp)]; simp
    have hd : ((new.take p).drop fr).length ≤ 10000 := by rw [List.length_drop, List.length_take]; omega
    rw [hL, if_pos (by omega), hx]
    simp only [Option.bind_some, beq_self_eq_true, if_true]
    rw [app_of (by simp only [List.length_nil]; omega)]
    simp only [Option.bind_some, List.nil_append]
    rw [idx_of hp]
    simp only [Option.bind_some]
    rw [app_of (by simp only [List.length_cons, List.length_nil]; omega)]
    simp only [Option.bind_some]
    rw [inc64 hp (by omega), Int.toNat_natCast, take_one hp fr hfp, List.set_append_right _ _ (Nat.le_refl _)]
    simp
  · obtain rfl : fr = p := by omega
    have e : fl new l fr fr = l := by unfold fl; rw [if_neg (by omega)]
    have e2 : fl new l fr (fr + 1) = l ++ [⟨2, (fr : Int), 0, 0, (new.take (fr + 1)).drop fr⟩] := by unfold fl; rw [if_pos (by omega)]
    rw [e, e2]
    have hv : (if IntKind.i64.wrap ((l.length : Int) - 1) ≥ 0 then (idx l (IntKind.i64.wrap ((l.length : Int) - 1))).bind fun x6 => some (x6.kind == (2 : Int)) else some false) = some false := by
      rw [w64 (by omega) (by omega)]
      by_cases h0 : 0 < l.length
      · rw [if_pos (by omega), idx_of' (k := l.length - 1) (by omega) (by omega)]
        have := h.cop l[l.length - 1] (by rw [List.getLast?_eq_getElem?, List.getElem?_eq_getElem (by omega)])
        simp only [Option.bind_some]
        rw [show (l[l.length - 1].kind == (2 : Int)) = false by simpa using this]
      · rw [if_neg (by omega)]
    rw [hv]
    simp only [Option.bind_some, Bool.false_eq_true, if_false]
    rw [idx_of hp]
    simp only [Option.bind_some]
    rw [app_of (by simp only [List.length_cons, List.length_nil]; omega)]
    simp only [Option.bind_some]
    rw [inc64 hp (by omega), take_one hp fr (Nat.le_refl _), List.drop_of_length_le (by rw [List.length_take]; omega)]
    rfl
theorem both (ho : old.length ≤ 10000) (hn : new.length ≤ 10000) : ∀ (k p fr : Nat) (l : List G.Command), new.length - p ≤ k → fr ≤ p → p ≤ new.length → Mk old new l fr →
    ∃ l' fr', Iter (G.patch_Make_l1 new (blk, old)) (mkS p l fr) = some (mkS new.length l' fr') ∧ Iter (G.graftref08_Commands_l1 old new blk) ((p : Int), fl new l fr p) = some (fl new l' fr' new.length) ∧ Mk old new l' fr' := by
  intro k
  induction k with
  | zero =>
    intro p fr l hk hfp hp h
    obtain rfl : p = new.length := by omega
    refine ⟨l, fr, Iter_inr (mk_end (by omega)), Iter_inr ?_, h⟩
    unfold G.graftref08_Commands_l1
    rw [if_neg (by simp)]
  | succ k ih =>
    intro p fr l hk hfp hp h
    by_cases hlt : p < new.length
    · obtain ⟨r, hr, h1, h2⟩ := match_of (old := old) (b := new.drop p) (blk := blk) ho (by rw [List.length_drop]; omega)
      rcases hr with rfl | ⟨q, n, rfl, n1, n2, n3, n4⟩
      · rw [Iter_inl (mk_miss hlt hn h1 (by decide)), Iter_inl (cm_miss h hfp hlt hn h2)]
        exact ih (p + 1) fr l (by omega) (by omega) (by omega) h
      · rw [List.length_drop] at n2
        obtain ⟨g1, g2, g3⟩ := fl_good h hp hfp hn
        rw [Iter_inl (mk_hit hlt hn (by have := h.len; have := h.le; omega) (by omega) h1), Iter_inl (cm_hit hlt hn (by omega) (by omega) h2)]
        have htl : tlen ⟨1, (p : Int), (q : Int), (n : Int), []⟩ = (n : Int) := rfl
        have hM : Mk old new (fl new l fr p ++ [⟨1, (p : Int), (q : Int), (n : Int), []⟩]) (p + n) := by
          refine ⟨til_app g1 rfl (by show (p : Int) + tlen _ = _; rw [htl]; omega), fun c hc => ?_, by rw [List.length_append]; simp only [List.length_cons, List.length_nil]; omega, fun c hc => ?_, by omega⟩
          · rcases List.mem_append.1 hc with hc | hc
            · exact g2 c hc
            · rw [List.mem_singleton] at hc
              subst hc
              have hte : tend ⟨1, (p : Int), (q : Int), (n : Int), []⟩ = (p : Int) + (n : Int) := rfl
              refine ⟨⟨by simp only; omega, by rw [htl]; omega, by rw [hte]; simp only; omega, by rw [hte]; omega, fun _ => ⟨by simp only; omega, by simp only; omega, by simp only; omega, by simp only; omega, rfl⟩, fun k => absurd rfl k⟩, ?_⟩
              rw [byts_copy rfl (by simp only; omega) (by simp only; omega) (by simp only; omega), htl]
              simp only [Int.toNat_natCast]
              rw [show ((q : Int) + (n : Int)).toNat = q + n by omega, List.drop_take, show q + n - q = n by omega, n4]
          · rw [List.getLast?_concat] at hc
            obtain rfl := Option.some.inj hc
            simp
        have := ih (p + n) (p + n) _ (by omega) (Nat.le_refl _) (by omega) hM
        have e : fl new (fl new l fr p ++ [⟨1, (p : Int), (q : Int), (n : Int), []⟩]) (p + n) (p + n) = fl new l fr p ++ [⟨1, (p : Int), (q : Int), (n : Int), []⟩] := by
          show (if p + n < p + n then _ else _) = _
          rw [if_neg (by omega)]
        rw [e] at this
        exact this
    · exact ih p fr l (by omega) hfp hp h
theorem Make_ex (ho : old.length ≤ 1000) (hn : new.length ≤ 1000) : ∃ L, G.patch_Make old new blk = some ⟨(old.length : Int), (new.length : Int), shaD old, shaD new, L⟩ ∧ G.graftref08_Commands old new blk = some L ∧
    Til 0 L (new.length : Int) ∧ (∀ c ∈ L, Good ⟨(old.length : Int), (new.length : Int), fun _ => 0, fun _ => 0, []⟩ c ∧ byts old c = (new.drop c.to.toNat).take (tlen c).toNat) ∧ L.length ≤ new.length := by
  obtain ⟨l, fr, h1, h2, h3⟩ := both (old := old) (new := new) (blk := blk) (by omega) (by omega) new.length 0 0 [] (by omega) (Nat.le_refl _) (Nat.zero_le _) ⟨rfl, by simp, by simp, by simp, Nat.zero_le _⟩
  obtain ⟨g1, g2, g3⟩ := fl_good h3 (Nat.le_refl _) h3.le (by omega)
  refine ⟨_, Make_of (by omega) (by omega) h1 (Nat.le_refl _) (by have := h3.len; have := h3.le; omega) rfl (fun c hc => ?_), h2, g1, g2, g3⟩
  have gc := (g2 c hc).1
  by_cases hk : c.kind = 1
  · rw [(gc.copy hk).2.2.2.2]; simp
  · have := gc.fits
    have h0 := gc.to0
    unfold tend at this
    rw [tlen_lit hk] at this
    simp only at this
    omega
theorem file_new : ∀ {L : List G.Command} {a b : Nat}, Til (a : Int) L (b : Int) → b ≤ new.length → (∀ c ∈ L, Good ⟨(old.length : Int), (new.length : Int), fun _ => 0, fun _ => 0, []⟩ c ∧ byts old c = (new.drop c.to.toNat).take (tlen c).toNat) → a ≤ b ∧ file old L = (new.take b).drop a
  | [], a, b, h, hb, _ => by
    have h : (a : Int) = b := h
    obtain rfl : a = b := by omega
    exact ⟨Nat.le_refl _, by rw [List.drop_of_length_le (by rw [List.length_take]; omega)]; rfl⟩
  | c :: L, a, b, ⟨h1, h2⟩, hb, hg => by
    obtain ⟨gc, ge⟩ := hg c List.mem_cons_self
    have l1 := gc.len1
    have te : tend c = c.to + tlen c := rfl
    obtain ⟨n, hn⟩ : ∃ n : Nat, tlen c = (n : Int) := ⟨(tlen c).toNat, by omega⟩
    rw [show tend c = ((a + n : Nat) : Int) by omega] at h2
    obtain ⟨k1, k2⟩ := file_new h2 hb fun x hx => hg x (List.mem_cons_of_mem _ hx)
    refine ⟨by omega, ?_⟩
    show (exp c ++ expL L).map (rd old) = _
    rw [List.map_append]
    show byts old c ++ file old L = _
    rw [ge, k2, hn, h1, Int.toNat_natCast, Int.toNat_natCast, List.drop_take, List.drop_take]
    have e := List.take_append_drop n ((new.drop a).take (b - a))
    rw [List.take_take, Nat.min_eq_left (by omega), List.drop_take, List.drop_drop] at e
    rw [← e, show b - (a + n) = b - a - n by omega]
end
end G
theorem G.graftlaw08_PatchMakes_true (a0 a1 : List UInt8) (a2 : Int) (_h0 : Len a0) (_h1 : Len a1) (_h2 : I64 a2) : G.graftlaw08_PatchMakes a0 a1 a2 = some true := by
  unfold G.graftlaw08_PatchMakes
  rw [alive8]
  by_cases h1 : (a0.length : Int) > 200
  · rw [if_pos h1]; rfl
  rw [if_neg h1]
  by_cases h2 : (a1.length : Int) > 200
  · rw [decide_eq_true h2]; rfl
  rw [decide_eq_false h2]
  obtain ⟨L, e1, e2, _, _, hl⟩ := Make_ex (old := a0) (new := a1) (blk := a2) (by omega) (by omega)
  rw [e1, e2]
  unfold G.graftref08_Describe
  rw [Table_keys]
  simp only [Option.bind_some, Bool.false_eq_true, if_false, if_true]
  rw [With02_keys (by omega), With02_keys (by omega)]
  simp only [Option.bind_some]
  rw [Same5_eq _ _ (by simp only; omega), sm_self]
  rfl
theorem G.graftlaw08_PatchLeads_true (a0 a1 : List UInt8) (a2 : Int) (_h0 : Len a0) (_h1 : Len a1) (_h2 : I64 a2) : G.graftlaw08_PatchLeads a0 a1 a2 = some true := by
  unfold G.graftlaw08_PatchLeads
  rw [alive8]
  by_cases h1 : (a0.length : Int) > 200
  · rw [if_pos h1]; rfl
  rw [if_neg h1]
  by_cases h2 : (a1.length : Int) > 200
  · rw [decide_eq_true h2]; rfl
  rw [decide_eq_false h2]
  obtain ⟨L, e1, _, ht, hg, hl⟩ := Make_ex (old := a0) (new := a1) (blk := a2) (by omega) (by omega)
  rw [e1]
  have hv : VD ⟨(a0.length : Int), (a1.length : Int), shaD a0, shaD a1, L⟩ := vd_til (by unfold InR; simp only; omega) (fun c hc => ⟨(hg c hc).1.to0, (hg c hc).1.len1, (hg c hc).1.fits, (hg c hc).1.max, (hg c hc).1.copy, (hg c hc).1.lit⟩) ht
  have hS : Sm ⟨(a0.length : Int), (a1.length : Int), shaD a0, shaD a1, L⟩ L := ⟨hv, by simp only; omega, by simp only; omega, List.Perm.refl _, ht⟩
  have hf : file a0 L = a1 := by
    have := (file_new (old := a0) (new := a1) (a := 0) (b := a1.length) ht (Nat.le_refl _) hg).2
    simpa using this
  simp only [Option.bind_some, Bool.false_eq_true, if_false, if_true]
  obtain ⟨b, e3, _, e4⟩ := Valid5_of (d := ⟨(a0.length : Int), (a1.length : Int), shaD a0, shaD a1, L⟩) (by simp only; omega)
  rw [e3, e4.2 hv, Verify_ok hS rfl (by omega) (hash_self _) (by rw [hf]; exact hash_self _), Apply_of hS rfl (by omega), hf]
  simp only [Option.bind_some, if_true]
  rw [EqualB_of _ _ (by omega), decide_eq_true rfl]
  rfl
end Go.Proofs.Ythnhjibbkleneaa
