/- Commands that follow each other: what they write, and their canonical form. No program in sight. -/
import Derived.Test.YtnbipipegmoigaaPFive3
namespace Go.Proofs.Ytnbipipegmoigaa
open G
namespace G
/-- Where a byte comes from: a place of the old file, or itself. -/
abbrev Org := Int ⊕ UInt8
def exp (c : G.Command) : List Org := if c.kind = 1 then (List.range c.len.toNat).map (fun k : Nat => .inl (c.from_ + (k : Int))) else c.data.map .inr
def expL (l : List G.Command) : List Org := l.flatMap exp
structure Nice (c : G.Command) : Prop where
  len1 : 1 ≤ tlen c
  copy : c.kind = 1 → c.data = []
  lit : c.kind ≠ 1 → c.kind = 2 ∧ c.from_ = 0 ∧ c.len = 0
theorem Good.nice {d : G.Delta} {c : G.Command} (h : Good d c) : Nice c := ⟨h.len1, fun hk => (h.copy hk).2.2.2.2, h.lit⟩
theorem tlen_copy {c : G.Command} (h : c.kind = 1) : tlen c = c.len := by unfold tlen; rw [if_pos h]
theorem tlen_lit {c : G.Command} (h : c.kind ≠ 1) : tlen c = (c.data.length : Int) := by unfold tlen; rw [if_neg h]
theorem exp_copy {c : G.Command} (h : c.kind = 1) : exp c = (List.range c.len.toNat).map (fun k : Nat => .inl (c.from_ + (k : Int))) := by unfold exp; rw [if_pos h]
theorem exp_lit {c : G.Command} (h : c.kind ≠ 1) : exp c = c.data.map .inr := by unfold exp; rw [if_neg h]
theorem exp_len {c : G.Command} (h : Nice c) : ((exp c).length : Int) = tlen c := by
  by_cases hk : c.kind = 1
  · have := h.len1; rw [tlen_copy hk] at this ⊢; rw [exp_copy hk]; simp; omega
  · rw [tlen_lit hk, exp_lit hk]; simp
def can (a b : G.Command) : Prop := a.kind = b.kind ∧ tend a = b.to ∧ (a.kind = 1 → a.from_ + a.len = b.from_)
instance (a b : G.Command) : Decidable (can a b) := by unfold can; infer_instance
def joi (a b : G.Command) : G.Command := if a.kind = 1 then ⟨1, a.to, a.from_, a.len + b.len, []⟩ else ⟨2, a.to, 0, 0, a.data ++ b.data⟩
section
variable {a b d : G.Command}
theorem joi_kind (ha : Nice a) : (joi a b).kind = a.kind := by
  unfold joi; split
  · rename_i h; exact h.symm
  · rename_i h; exact (ha.lit h).1.symm
theorem joi_to : (joi a b).to = a.to := by unfold joi; split <;> rfl
theorem joi_from (ha : Nice a) : (joi a b).from_ = a.from_ := by
  unfold joi; split
  · rfl
  · rename_i h; exact (ha.lit h).2.1.symm
theorem joi_tlen (h : can a b) (ha : Nice a) : tlen (joi a b) = tlen a + tlen b := by
  by_cases hk : a.kind = 1
  · rw [tlen_copy ((joi_kind ha).trans hk), tlen_copy hk, tlen_copy (h.1.symm.trans hk)]; unfold joi; rw [if_pos hk]
  · rw [tlen_lit (by rw [joi_kind ha]; exact hk), tlen_lit hk, tlen_lit (by rw [← h.1]; exact hk)]; unfold joi; rw [if_neg hk]; simp
theorem joi_tend (h : can a b) (ha : Nice a) : tend (joi a b) = tend b := by
  have := joi_tlen h ha; have := h.2.1; unfold tend at *; rw [joi_to]; omega
theorem joi_nice (h : can a b) (ha : Nice a) (hb : Nice b) : Nice (joi a b) := by
  refine ⟨by rw [joi_tlen h ha]; have := ha.len1; have := hb.len1; omega, fun hk => ?_, fun hk => ?_⟩
  · rw [joi_kind ha] at hk; unfold joi; rw [if_pos hk]
  · rw [joi_kind ha] at hk; unfold joi; rw [if_neg hk]; exact ⟨rfl, rfl, rfl⟩
theorem can_joi (h : can a b) (ha : Nice a) : can (joi a b) d ↔ can b d := by
  unfold can
  rw [joi_kind ha, joi_tend h ha, joi_from ha, h.1]
  refine and_congr_right fun _ => and_congr_right fun _ => ?_
  constructor
  · intro k hk
    have := k hk
    have h3 := h.2.2 (h.1.trans hk)
    rw [← this]
    unfold joi; rw [if_pos (h.1.trans hk)]
    show b.from_ + b.len = a.from_ + (a.len + b.len)
    omega
  · intro k hk
    have := k hk
    have h3 := h.2.2 (h.1.trans hk)
    unfold joi; rw [if_pos (h.1.trans hk)]
    show a.from_ + (a.len + b.len) = _
    omega
theorem can_joi_left (hb : Nice b) : can a (joi b d) ↔ can a b := by unfold can; rw [joi_kind hb, joi_to, joi_from hb]
theorem joi_1 (h : a.kind = 1) : joi a b = ⟨1, a.to, a.from_, a.len + b.len, []⟩ := by unfold joi; rw [if_pos h]
theorem joi_2 (h : a.kind ≠ 1) : joi a b = ⟨2, a.to, 0, 0, a.data ++ b.data⟩ := by unfold joi; rw [if_neg h]
theorem joi_assoc (h : can a b) (k : can b d) (ha : Nice a) (hb : Nice b) : joi (joi a b) d = joi a (joi b d) := by
  by_cases hk : a.kind = 1
  · have hkb := h.1.symm.trans hk
    have e : (joi a b).kind = 1 := (joi_kind ha).trans hk
    rw [joi_1 e, joi_1 hk, joi_1 hk, joi_1 hkb]
    congr 1; simp only; omega
  · have hkb : b.kind ≠ 1 := by rw [← h.1]; exact hk
    have e : (joi a b).kind ≠ 1 := by rw [joi_kind ha]; exact hk
    rw [joi_2 e, joi_2 hk, joi_2 hk, joi_2 hkb]
    simp only [List.append_assoc]
theorem exp_joi (h : can a b) (ha : Nice a) (hb : Nice b) : exp (joi a b) = exp a ++ exp b := by
  by_cases hk : a.kind = 1
  · have hkb := h.1.symm.trans hk
    have l1 := ha.len1; have l2 := hb.len1
    rw [tlen_copy hk] at l1; rw [tlen_copy hkb] at l2
    rw [exp_copy ((joi_kind ha).trans hk), exp_copy hk, exp_copy hkb, joi_from ha]
    have e : (joi a b).len.toNat = a.len.toNat + b.len.toNat := by unfold joi; rw [if_pos hk]; show (a.len + b.len).toNat = _; omega
    rw [e, List.range_add, List.map_append, List.map_map]
    congr 1
    apply List.map_congr_left
    intro k _
    have := h.2.2 hk
    simp only [Function.comp_apply]
    congr 1
    omega
  · have hkb : b.kind ≠ 1 := by rw [← h.1]; exact hk
    rw [exp_lit (by rw [joi_kind ha]; exact hk), exp_lit hk, exp_lit hkb]
    unfold joi; rw [if_neg hk]; simp
end
def glue (c : G.Command) : List G.Command → List G.Command
  | [] => [c]
  | d :: L => if can c d then joi c d :: L else c :: d :: L
/-- The canonical form. -/
def can_ : List G.Command → List G.Command
  | [] => []
  | c :: l => glue c (can_ l)
section
variable {x y : G.Command} {l L : List G.Command}
theorem glue_glue (h : can x y) (hx : Nice x) (hy : Nice y) : glue x (glue y L) = glue (joi x y) L := by
  cases L with
  | nil => show (if can x y then _ else _) = _; rw [if_pos h]; rfl
  | cons d L =>
    show glue x (if can y d then _ else _) = if can (joi x y) d then _ else _
    by_cases k : can y d
    · rw [if_pos k, if_pos ((can_joi h hx).2 k)]
      show (if can x (joi y d) then _ else _) = _
      rw [if_pos ((can_joi_left hy).2 h), joi_assoc h k hx hy]
    · rw [if_neg k, if_neg (fun e => k ((can_joi h hx).1 e))]
      show (if can x y then _ else _) = _
      rw [if_pos h]
theorem can_step (h : can x y) (hx : Nice x) (hy : Nice y) : can_ (x :: y :: l) = can_ (joi x y :: l) := glue_glue h hx hy
theorem can_head (hx : Nice x) : ∃ x' L, can_ (x :: l) = x' :: L ∧ x'.kind = x.kind ∧ x'.to = x.to ∧ x'.from_ = x.from_ := by
  show ∃ x' L, glue x (can_ l) = _ ∧ _
  cases can_ l with
  | nil => exact ⟨x, [], rfl, rfl, rfl, rfl⟩
  | cons d L =>
    show ∃ x' L', (if can x d then _ else _) = _ ∧ _
    by_cases k : can x d
    · rw [if_pos k]; exact ⟨_, _, rfl, joi_kind hx, joi_to, joi_from hx⟩
    · rw [if_neg k]; exact ⟨_, _, rfl, rfl, rfl, rfl⟩
theorem can_stop (h : ¬ can x y) (hy : Nice y) : can_ (x :: y :: l) = x :: can_ (y :: l) := by
  obtain ⟨y', L, e, h1, h2, h3⟩ := can_head (l := l) hy
  show glue x (can_ (y :: l)) = _
  rw [e]
  show (if can x y' then _ else _) = _
  rw [if_neg]
  unfold can at h ⊢; rw [h1, h2, h3]; exact h
/-- Targets that follow each other from a to b. -/
def Til (a : Int) : List G.Command → Int → Prop
  | [], b => a = b
  | c :: l, b => c.to = a ∧ Til (tend c) l b
theorem can_laws : ∀ {l : List G.Command} {a b : Int}, (∀ c ∈ l, Nice c) → Til a l b → expL (can_ l) = expL l ∧ (∀ c ∈ can_ l, Nice c) ∧ Til a (can_ l) b ∧ (can_ l).length ≤ l.length
  | [], _, _, _, h => ⟨rfl, by simp [can_], h, Nat.le_refl _⟩
  | c :: l, a, b, hn, ht => by
    obtain ⟨h1, h2⟩ := ht
    obtain ⟨i1, i2, i3, i4⟩ := can_laws (l := l) (fun x hx => hn x (by simp [hx])) h2
    have hc := hn c (by simp)
    show expL (glue c (can_ l)) = _ ∧ (∀ x ∈ glue c (can_ l), Nice x) ∧ Til a (glue c (can_ l)) b ∧ (glue c (can_ l)).length ≤ l.length + 1
    cases e : can_ l with
    | nil =>
      rw [e] at i1 i2 i3 i4
      refine ⟨?_, by simpa [glue] using hc, ⟨h1, i3⟩, by simp [glue]⟩
      show expL [c] = exp c ++ expL l
      rw [← i1]; rfl
    | cons d L =>
      rw [e] at i1 i2 i3 i4
      have hd := i2 d (by simp)
      show expL (if can c d then _ else _) = _ ∧ (∀ x ∈ (if can c d then _ else _), Nice x) ∧ Til a (if can c d then _ else _) b ∧ List.length (if can c d then _ else _) ≤ l.length + 1
      by_cases k : can c d
      · rw [if_pos k]
        refine ⟨?_, fun x hx => ?_, ⟨joi_to.trans h1, ?_⟩, by simp at i4 ⊢; omega⟩
        · show exp (joi c d) ++ expL L = exp c ++ expL l
          rw [← i1, exp_joi k hc hd]; simp [expL]
        · rcases List.mem_cons.1 hx with rfl | hx
          · exact joi_nice k hc hd
          · exact i2 x (by simp [hx])
        · rw [joi_tend k hc]; exact i3.2
      · rw [if_neg k]
        refine ⟨?_, fun x hx => ?_, ⟨h1, i3⟩, by simp at i4 ⊢; omega⟩
        · show exp c ++ expL (d :: L) = exp c ++ expL l
          rw [i1]
        · rcases List.mem_cons.1 hx with rfl | hx
          · exact hc
          · exact i2 x hx
/-- Each byte alone. -/
def one (a : Int) : Org → G.Command
  | .inl k => ⟨1, a, k, 1, []⟩
  | .inr b => ⟨2, a, 0, 0, [b]⟩
def ones (a : Int) : List Org → List G.Command
  | [] => []
  | x :: l => one a x :: ones (a + 1) l
theorem ones_append : ∀ (e f : List Org) (a : Int), ones a (e ++ f) = ones a e ++ ones (a + e.length) f
  | [], f, a => by simp [ones]
  | x :: e, f, a => by
    show one a x :: ones (a + 1) (e ++ f) = one a x :: (ones (a + 1) e ++ _)
    rw [ones_append e f (a + 1)]; congr 3; simp; omega
theorem one_nice (a : Int) (x : Org) : Nice (one a x) := by
  cases x
  · exact ⟨by simp [one, tlen], fun _ => rfl, fun h => absurd rfl h⟩
  · exact ⟨by simp [one, tlen], fun h => by simp [one] at h, fun _ => ⟨rfl, rfl, rfl⟩⟩
theorem ones_copy : ∀ (n : Nat) (a f : Int), can_ (ones a ((List.range (n + 1)).map fun k : Nat => .inl (f + (k : Int))) ++ l) = can_ (⟨1, a, f, ((n + 1 : Nat) : Int), []⟩ :: l)
  | 0, a, f => by simp [ones, one]
  | n + 1, a, f => by
    have hr : (List.range (n + 1 + 1)).map (fun k : Nat => (Sum.inl (f + (k : Int)) : Org)) = .inl f :: (List.range (n + 1)).map fun k : Nat => .inl ((f + 1) + (k : Int)) := by
      rw [List.range_succ_eq_map, List.map_cons, List.map_map]
      congr 1
      · simp
      · apply List.map_congr_left; intro k _; simp only [Function.comp_apply]; congr 1; omega
    rw [hr]
    show glue (one a (.inl f)) (can_ (ones (a + 1) _ ++ l)) = _
    rw [ones_copy n (a + 1) (f + 1)]
    have hc : can (one a (.inl f)) ⟨1, a + 1, f + 1, ((n + 1 : Nat) : Int), []⟩ := ⟨rfl, by simp [tend, tlen, one], fun _ => rfl⟩
    have := can_step (l := l) hc (one_nice _ _) ⟨by simp [tlen]; omega, fun _ => rfl, fun h => absurd rfl h⟩
    rw [show glue (one a (.inl f)) (can_ (⟨1, a + 1, f + 1, ((n + 1 : Nat) : Int), []⟩ :: l)) = can_ (one a (.inl f) :: ⟨1, a + 1, f + 1, ((n + 1 : Nat) : Int), []⟩ :: l) from rfl, this]
    congr 2
    unfold joi one
    simp only [if_true]
    congr 1; omega
theorem ones_lit : ∀ (b : UInt8) (d : List UInt8) (a : Int), can_ (ones a ((b :: d).map .inr) ++ l) = can_ (⟨2, a, 0, 0, b :: d⟩ :: l)
  | b, [], a => by simp [ones, one]
  | b, b' :: d, a => by
    show glue (one a (.inr b)) (can_ (ones (a + 1) ((b' :: d).map .inr) ++ l)) = _
    rw [ones_lit b' d (a + 1)]
    have hc : can (one a (.inr b)) ⟨2, a + 1, 0, 0, b' :: d⟩ := ⟨rfl, by simp [tend, tlen, one], fun h => by simp [one] at h⟩
    have := can_step (l := l) hc (one_nice _ _) ⟨by simp [tlen]; omega, fun h => by simp at h, fun _ => ⟨rfl, rfl, rfl⟩⟩
    rw [show glue (one a (.inr b)) (can_ (⟨2, a + 1, 0, 0, b' :: d⟩ :: l)) = can_ (one a (.inr b) :: ⟨2, a + 1, 0, 0, b' :: d⟩ :: l) from rfl, this]
    rfl
theorem ones_exp {c : G.Command} (h : Nice c) : can_ (ones c.to (exp c) ++ l) = can_ (c :: l) := by
  by_cases hk : c.kind = 1
  · have h1 := h.len1; rw [tlen_copy hk] at h1
    rw [exp_copy hk]
    obtain ⟨n, hn⟩ : ∃ n, c.len.toNat = n + 1 := ⟨c.len.toNat - 1, by omega⟩
    rw [hn, ones_copy]
    congr 1; congr 1
    have := h.copy hk
    obtain ⟨k, t, f, le, dt⟩ := c
    simp only at hk this hn h1
    subst hk this
    congr 1; omega
  · have h1 := h.len1; rw [tlen_lit hk] at h1
    rw [exp_lit hk]
    obtain ⟨e1, e2, e3⟩ := h.lit hk
    obtain ⟨k, t, f, le, dt⟩ := c
    simp only at e1 e2 e3 h1
    subst e1 e2 e3
    cases dt with
    | nil => simp at h1
    | cons b d => exact ones_lit b d t
/-- The canonical form depends on the bytes alone. -/
theorem can_exp : ∀ {l : List G.Command} {a b : Int}, (∀ c ∈ l, Nice c) → Til a l b → can_ l = can_ (ones a (expL l))
  | [], _, _, _, _ => rfl
  | c :: l, a, b, hn, ⟨h1, h2⟩ => by
    have hc := hn c (by simp)
    have ih := can_exp (l := l) (fun x hx => hn x (by simp [hx])) h2
    show _ = can_ (ones a (exp c ++ expL l))
    rw [ones_append, exp_len hc, ← h1, show c.to + tlen c = tend c from rfl, ones_exp hc]
    show glue c (can_ l) = glue c (can_ _)
    rw [← ih]
theorem can_eq {l' : List G.Command} {a b b' : Int} (hn : ∀ c ∈ l, Nice c) (ht : Til a l b) (hn' : ∀ c ∈ l', Nice c) (ht' : Til a l' b') : can_ l = can_ l' ↔ expL l = expL l' := by
  constructor
  · intro h; rw [← (can_laws hn ht).1, h, (can_laws hn' ht').1]
  · intro h; rw [can_exp hn ht, h, ← can_exp hn' ht']
theorem can_idem {a b : Int} (hn : ∀ c ∈ l, Nice c) (ht : Til a l b) : can_ (can_ l) = can_ l := by
  obtain ⟨h1, h2, h3, _⟩ := can_laws hn ht
  exact (can_eq h2 h3 hn ht).2 h1
end
end G
end Go.Proofs.Ytnbipipegmoigaa
