/- The sort of slices.SortFunc, for lists of less than 50, is right. No program in sight. -/
import Derived.Test.YtnbipipegmoigaaPQ2
namespace Go.Proofs.Ytnbipipegmoigaa
open G
namespace QI
variable {l : List T} {a b A B : Int}
/-- What is outside of [a, b) is in its place. -/
def PR (A B a b : Int) (l : List T) : Prop := ∀ p q, A ≤ p → p < q → q < B → (p < a ∨ b ≤ q) → key (cz l p) ≤ key (cz l q)
theorem PR.keep {l l' : List T} (hA : 0 ≤ A) (hAa : A ≤ a) (hbB : b ≤ B) (h : PR A B a b l) (s : Sws a b l l') : PR A B a b l' := by
  intro p q h1 h2 h3 h4
  by_cases hp : p < a
  · rw [s.out (k := p) (by omega) (.inl hp)]
    by_cases hq : a ≤ q ∧ q < b
    · exact s.all (fun x => key (cz l p) ≤ key x) (fun k k0 k1 k2 => h p k h1 (by omega) (by omega) (.inl hp)) q (by omega) hq.1 hq.2
    · rw [s.out (k := q) (by omega) (by omega)]; exact h p q h1 h2 h3 h4
  · have hq : b ≤ q := h4.resolve_left hp
    rw [s.out (k := q) (by omega) (.inr hq)]
    by_cases hp2 : p < b
    · exact s.all (fun x => key x ≤ key (cz l q)) (fun k k0 k1 k2 => h k q (by omega) (by omega) h3 (.inr hq)) p (by omega) (by omega) hp2
    · rw [s.out (k := p) (by omega) (by omega)]; exact h p q h1 h2 h3 h4
theorem PR.fin {l : List T} (h : PR A B a b l) (s : Srt l a b) : Srt l A B := fun p q h1 h2 h3 => by
  by_cases h4 : p < a ∨ b ≤ q
  · exact h p q h1 h2 h3 h4
  · exact s p q (by omega) h2 (by omega)
/-- The cell before A is not greater than those of [A, B). -/
def Pre (A B : Int) (l : List T) : Prop := 0 < A → ∀ k, A ≤ k → k < B → key (cz l (A - 1)) ≤ key (cz l k)
theorem Pre.keep {l l' : List T} (h : Pre A B l) (s : Sws A B l l') : Pre A B l' := fun h0 k h1 h2 => by
  rw [s.out (k := A - 1) (by omega) (by omega)]
  exact s.all (fun x => key (cz l (A - 1)) ≤ key x) (fun k k0 k1 k2 => h h0 k k1 k2) k (by omega) h1 h2
theorem Pre.sub {l : List T} (h : Pre A B l) (hA : 0 ≤ A) (hAa : A ≤ a) (hbB : b ≤ B) (hp : PR A B a b l) : Pre a b l := fun h0 k h1 h2 => by
  by_cases e : a = A
  · subst e; exact h h0 k h1 (by omega)
  · exact hp (a - 1) k (by omega) (by omega) (by omega) (by omega)
abbrev St := Int × Int × Int × Bool × Bool × (List T)
abbrev Ar := (List T) × Int × Int × Int
structure Inv (A B : Int) (l : List T) (s : St) : Prop where
  a0 : A ≤ s.1
  ab : s.1 ≤ s.2.1
  bB : s.2.1 ≤ B
  sw : Sws A B l s.2.2.2.2.2
  pr : PR A B s.1 s.2.1 s.2.2.2.2.2
structure Arg (y : Ar) : Prop where
  a0 : 0 ≤ y.2.1
  ab : y.2.1 ≤ y.2.2.1
  bl : y.2.2.1 ≤ (y.1.length : Int)
  n : y.1.length < 50
  pre : Pre y.2.1 y.2.2.1 y.1
def Res (y : Ar) (r : List T) : Prop := Sws y.2.1 y.2.2.1 y.1 r ∧ Srt r y.2.1 y.2.2.1
theorem round (hA : 0 ≤ A) (hB : B ≤ (l.length : Int)) (hn : l.length < 50) (hp : Pre A B l) (ρ : Ar → List T) (hρ : ∀ y, Arg y → y.2.2.1 - y.2.1 < B - A → Res y (ρ y)) {s : St} (h : Inv A B l s) :
    (∃ s', (∀ fx : Ar → Option (List T), (∀ y, Arg y → y.2.2.1 - y.2.1 < B - A → fx y = some (ρ y)) → G.slices_pdqsortCmpFunc_index_entry_v0_index_New_1_l1 fx s = some (.inl s')) ∧ Inv A B l s' ∧ s'.2.1 - s'.1 < s.2.1 - s.1) ∨
    (∃ r, (∀ fx : Ar → Option (List T), G.slices_pdqsortCmpFunc_index_entry_v0_index_New_1_l1 fx s = some (.inr r)) ∧ Sws A B l r ∧ Srt r A B) := by
  obtain ⟨a, b, lim, wb, wp, L⟩ := s
  obtain ⟨h1, h2, h3, h4, h5⟩ := h
  simp only at h1 h2 h3 h4 h5
  have hl := h4.len
  have w1 : IntKind.i64.wrap (b - a) = b - a := w64 (by omega) (by omega)
  by_cases hs : b - a ≤ 12
  · obtain ⟨l', e, q1, q2⟩ := ins_of (l := L) (a := a) (b := b) (by omega) h2 (by omega) (by omega)
    refine .inr ⟨l', fun fx => ?_, h4.trans (q1.mono h1 h3), (h5.keep hA h1 h3 q1).fin q2⟩
    unfold G.slices_pdqsortCmpFunc_index_entry_v0_index_New_1_l1
    simp only [w1, if_pos hs, e, Option.bind_some]
  by_cases hm : lim = 0
  · obtain ⟨l', e, q1, q2⟩ := heap_of (l := L) (a := a) (b := b) (by omega) (by omega) (by omega) (by omega)
    refine .inr ⟨l', fun fx => ?_, h4.trans (q1.mono h1 h3), (h5.keep hA h1 h3 q1).fin q2⟩
    unfold G.slices_pdqsortCmpFunc_index_entry_v0_index_New_1_l1
    simp only [w1, if_neg hs, if_pos hm, e, Option.bind_some]
  obtain ⟨lim', L1, e4, s1⟩ : ∃ lim' L1, (if wb = false then (G.slices_breakPatternsCmpFunc_index_entry_v0_index_New_1 L a b).bind fun y5 => some ((IntKind.i64.wrap (lim - (1 : Int))), y5) else some (lim, L)) = some (lim', L1) ∧ Sws a b L L1 := by
    by_cases h : wb = false
    · obtain ⟨l', e, q⟩ := brk_of (l := L) (a := a) (b := b) (by omega) (by omega) (by omega) (by omega)
      rw [if_pos h, e]
      exact ⟨_, _, rfl, q⟩
    · rw [if_neg h]
      exact ⟨_, _, rfl, .refl⟩
  have hl1 := s1.len
  obtain ⟨p, hint, e6, p1, p2⟩ := piv_of (l := L1) (a := a) (b := b) (by omega) (by omega) (by omega) (by omega)
  obtain ⟨p', hint', L2, e7, p1', p2', s2⟩ : ∃ p' hint' L2, (if hint = (2 : Int) then (G.slices_reverseRangeCmpFunc_index_entry_v0_index_New_1 L1 a b).bind fun y8 => some ((IntKind.i64.wrap ((IntKind.i64.wrap (b - (1 : Int))) - (IntKind.i64.wrap (p - a)))), (1 : Int), y8) else some (p, hint, L1)) = some (p', hint', L2) ∧ a ≤ p' ∧ p' < b ∧ Sws a b L1 L2 := by
    by_cases h : hint = 2
    · obtain ⟨l', e, q⟩ := rev_of (l := L1) (a := a) (b := b) (by omega) (by omega) (by omega) (by omega)
      have w2 : IntKind.i64.wrap (b - 1) = b - 1 := w64 (by omega) (by omega)
      have w3 : IntKind.i64.wrap (p - a) = p - a := w64 (by omega) (by omega)
      have w4 : IntKind.i64.wrap (b - 1 - (p - a)) = b - 1 - (p - a) := w64 (by omega) (by omega)
      rw [if_pos h, e, w2, w3, w4]
      exact ⟨_, _, _, rfl, by omega, by omega, q⟩
    · rw [if_neg h]
      exact ⟨_, _, _, rfl, p1, p2, .refl⟩
  have hl2 := s2.len
  have S2 := s1.trans s2
  have hpr2 := h5.keep hA h1 h3 S2
  obtain ⟨b9, e9⟩ : ∃ b9, (if wb = true then if wp = true then some (hint' == (1 : Int)) else some false else some false) = some b9 := by
    split
    · split
      · exact ⟨_, rfl⟩
      · exact ⟨_, rfl⟩
    · exact ⟨_, rfl⟩
  have hv : ((if b9 = true then (G.slices_partialInsertionSortCmpFunc_index_entry_v0_index_New_1 L2 a b).bind fun y12 => if y12.1 = true then some (.inr (.inr y12.2)) else some (.inl y12.2) else some (.inl L2)) : Option ((List T) ⊕ (St ⊕ (List T)))) = some (.inl L2) ∨
      (((if b9 = true then (G.slices_partialInsertionSortCmpFunc_index_entry_v0_index_New_1 L2 a b).bind fun y12 => if y12.1 = true then some (.inr (.inr y12.2)) else some (.inl y12.2) else some (.inl L2)) : Option ((List T) ⊕ (St ⊕ (List T)))) = some (.inr (.inr L2)) ∧ Srt L2 a b) := by
    by_cases h : b9 = true
    · obtain ⟨r, e, hr⟩ := pis_of (l := L2) (a := a) (b := b) (by omega) (by omega) (by omega) (by omega)
      rw [if_pos h, e]
      simp only [Option.bind_some]
      by_cases hr2 : r = true
      · rw [if_pos hr2]; exact .inr ⟨rfl, hr hr2⟩
      · rw [if_neg hr2]; exact .inl rfl
    · rw [if_neg h]; exact .inl rfl
  rcases hv with e10 | ⟨e10, hsrt⟩
  · obtain ⟨b13, e13, h13⟩ : ∃ b13, (if a > (0 : Int) then (idx L2 (IntKind.i64.wrap (a - (1 : Int)))).bind fun x14 => (idx L2 p').bind fun x15 => (G.index_New_1 x14 x15).bind fun y16 => some (!(decide (y16 < (0 : Int)))) else some false) = some b13 ∧ (b13 = true → 0 < a ∧ ¬ key (cz L2 (a - 1)) < key (cz L2 p')) := by
      by_cases h : a > 0
      · rw [if_pos h, w64 (by omega) (by omega), idc (by omega) (by omega), idc (by omega) (by omega)]
        simp only [Option.bind_some, cmp_of, cm_lt]
        exact ⟨_, rfl, fun hb => ⟨h, by simpa using hb⟩⟩
      · rw [if_neg h]
        exact ⟨_, rfl, fun h => by cases h⟩
    have hpre2 : Pre a b L2 := (hp.keep (h4.trans (S2.mono h1 h3))).sub hA h1 h3 hpr2
    by_cases hb13 : b13 = true
    · obtain ⟨k0, k1⟩ := h13 hb13
      obtain ⟨m, L3, e14, s3, m1, m2, m3⟩ := pEq_of (l := L2) (a := a) (b := b) (p := p') (by omega) p1' p2' (by omega) (by omega)
      have hpr3 := hpr2.keep hA h1 h3 s3
      have hmin := s3.all (fun x => key (cz L2 p') ≤ key x) (fun k j0 j1 j2 => by have := hpre2 k0 k j1 j2; omega)
      refine .inl ⟨(m, b, lim', wb, wp, L3), fun fx _ => ?_, ⟨by simp only; omega, m2, h3, h4.trans ((S2.trans s3).mono h1 h3), fun u v u1 u2 u3 u4 => ?_⟩, by simp only; omega⟩
      · unfold G.slices_pdqsortCmpFunc_index_entry_v0_index_New_1_l1
        simp only [w1, if_neg hs, if_neg hm, e4, e6, e7, e9, Option.bind_some, joinK]
        rw [e10]
        simp only [Option.bind_some]
        rw [e13]
        simp only [Option.bind_some]
        rw [if_pos hb13, e14]
        rfl
      · simp only at u4 ⊢
        by_cases u5 : u < a ∨ b ≤ v
        · exact hpr3 u v u1 u2 u3 u5
        · have q1 := m3 u (by omega) (by omega)
          have q2 := hmin v (by omega) (by omega) (by omega)
          omega
    · obtain ⟨m, fl, L3, e14, s3, m1, m2, m3⟩ := part_of (l := L2) (a := a) (b := b) (p := p') (by omega) p1' p2' (by omega) (by omega)
      have hpr3 := hpr2.keep hA h1 h3 s3
      have hpre3 := hpre2.keep s3
      have hl3 := s3.len
      have S3 := h4.trans ((S2.trans s3).mono h1 h3)
      by_cases hside : IntKind.i64.wrap (m - a) < IntKind.i64.wrap (b - m)
      · have hy : Arg (L3, a, m, lim') := ⟨by simp only; omega, m1, by simp only; omega, by simp only; omega, fun j0 k j1 j2 => hpre3 j0 k j1 (by simp only at j2; omega)⟩
        obtain ⟨s4, srt4⟩ := hρ _ hy (by simp only; omega)
        simp only at s4 srt4
        generalize hr : ρ (L3, a, m, lim') = L4 at s4 srt4
        refine .inl ⟨(m + 1, b, lim', decide (IntKind.i64.wrap (m - a) ≥ IntKind.i64.wrap (Int.tdiv (b - a) 8)), fl, L4), fun fx hfx => ?_, ⟨by simp only; omega, by simp only; omega, h3, S3.trans (s4.mono (by omega) (by omega)), fun u v u1 u2 u3 u4 => ?_⟩, by simp only; omega⟩
        · unfold G.slices_pdqsortCmpFunc_index_entry_v0_index_New_1_l1
          simp only [w1, if_neg hs, if_neg hm, e4, e6, e7, e9, Option.bind_some, joinK]
          rw [e10]
          simp only [Option.bind_some]
          rw [e13]
          simp only [Option.bind_some]
          rw [if_neg hb13, e14]
          simp only [Option.bind_some]
          rw [if_pos hside, hfx _ hy (by simp only; omega), hr, w64 (x := m + 1) (by omega) (by omega)]
          rfl
        · simp only at u4 ⊢
          by_cases u5 : u < a ∨ b ≤ v
          · exact (hpr3.keep hA h1 h3 (s4.mono (Int.le_refl _) (by omega))) u v u1 u2 u3 u5
          · have hum := s4.all (fun x => key x ≤ key (cz L3 m)) (fun k j0 j1 j2 => m3.lo k j1 j2)
            have hem : cz L4 m = cz L3 m := s4.out (by omega) (by omega)
            by_cases u6 : v < m
            · exact srt4 u v (by omega) u2 u6
            · by_cases u7 : v = m
              · subst u7; rw [hem]; exact hum u (by omega) (by omega) (by omega)
              · rw [s4.out (k := v) (by omega) (by omega)]
                have q1 := m3.hi v (by omega) (by omega)
                by_cases u8 : u = m
                · subst u8; rw [hem]; exact q1
                · have := hum u (by omega) (by omega) (by omega); omega
      · have hy : Arg (L3, m + 1, b, lim') := ⟨by simp only; omega, by simp only; omega, by simp only; omega, by simp only; omega, fun j0 k j1 j2 => by
          simp only at j1 j2 ⊢
          rw [show m + 1 - 1 = m by omega]; exact m3.hi k (by omega) j2⟩
        obtain ⟨s4, srt4⟩ := hρ _ hy (by simp only; omega)
        simp only at s4 srt4
        generalize hr : ρ (L3, m + 1, b, lim') = L4 at s4 srt4
        refine .inl ⟨(a, m, lim', decide (IntKind.i64.wrap (b - m) ≥ IntKind.i64.wrap (Int.tdiv (b - a) 8)), fl, L4), fun fx hfx => ?_, ⟨h1, m1, by simp only; omega, S3.trans (s4.mono (by omega) (by omega)), fun u v u1 u2 u3 u4 => ?_⟩, by simp only; omega⟩
        · unfold G.slices_pdqsortCmpFunc_index_entry_v0_index_New_1_l1
          simp only [w1, if_neg hs, if_neg hm, e4, e6, e7, e9, Option.bind_some, joinK]
          rw [e10]
          simp only [Option.bind_some]
          rw [e13]
          simp only [Option.bind_some]
          rw [if_neg hb13, e14]
          simp only [Option.bind_some]
          rw [if_neg hside, w64 (x := m + 1) (by omega) (by omega), hfx _ hy (by simp only; omega), hr]
          rfl
        · simp only at u4 ⊢
          by_cases u5 : u < a ∨ b ≤ v
          · exact (hpr3.keep hA h1 h3 (s4.mono (by omega) (Int.le_refl _))) u v u1 u2 u3 u5
          · have hum := s4.all (fun x => key (cz L3 m) ≤ key x) (fun k j0 j1 j2 => m3.hi k (by omega) j2)
            have hem : cz L4 m = cz L3 m := s4.out (by omega) (by omega)
            have hvm : m ≤ v := by omega
            by_cases u6 : m < u
            · exact srt4 u v (by omega) u2 (by omega)
            · by_cases u7 : u = m
              · subst u7; rw [hem]; exact hum v (by omega) (by omega) (by omega)
              · rw [s4.out (k := u) (by omega) (by omega)]
                have q1 := m3.lo u (by omega) (by omega)
                by_cases u8 : v = m
                · subst u8; rw [hem]; exact q1
                · have := hum v (by omega) (by omega) (by omega); omega
  · refine .inr ⟨L2, fun fx => ?_, h4.trans (S2.mono h1 h3), hpr2.fin hsrt⟩
    unfold G.slices_pdqsortCmpFunc_index_entry_v0_index_New_1_l1
    simp only [w1, if_neg hs, if_neg hm, e4, e6, e7, e9, Option.bind_some, joinK]
    rw [e10]
    rfl
theorem loop (hA : 0 ≤ A) (hB : B ≤ (l.length : Int)) (hn : l.length < 50) (hp : Pre A B l) (ρ : Ar → List T) (hρ : ∀ y, Arg y → y.2.2.1 - y.2.1 < B - A → Res y (ρ y)) : ∀ (n : Nat) (s : St), s.2.1 - s.1 ≤ n → Inv A B l s →
    ∃ r, (∀ fx : Ar → Option (List T), (∀ y, Arg y → y.2.2.1 - y.2.1 < B - A → fx y = some (ρ y)) → Iter (G.slices_pdqsortCmpFunc_index_entry_v0_index_New_1_l1 fx) s = some r) ∧ Sws A B l r ∧ Srt r A B := by
  intro n
  induction n with
  | zero =>
    intro s hs h
    rcases round hA hB hn hp ρ hρ h with ⟨s', e, h', hlt⟩ | ⟨r, e, h1, h2⟩
    · have := h'.ab; omega
    · exact ⟨r, fun fx _ => Iter_inr (e fx), h1, h2⟩
  | succ n ih =>
    intro s hs h
    rcases round hA hB hn hp ρ hρ h with ⟨s', e, h', hlt⟩ | ⟨r, e, h1, h2⟩
    · obtain ⟨r, e2, h1, h2⟩ := ih s' (by omega) h'
      exact ⟨r, fun fx hfx => by rw [Iter_inl (e fx hfx)]; exact e2 fx hfx, h1, h2⟩
    · exact ⟨r, fun fx _ => Iter_inr (e fx), h1, h2⟩
theorem pdq_of {y : Ar} (h : Arg y) : ∃ r, G.slices_pdqsortCmpFunc_index_entry_v0_index_New_1 y.1 y.2.1 y.2.2.1 y.2.2.2 = some r ∧ Res y r := by
  unfold G.slices_pdqsortCmpFunc_index_entry_v0_index_New_1
  refine Fix_total (F := G.slices_pdqsortCmpFunc_index_entry_v0_index_New_1_F) (fun k y => Arg y ∧ k = (y.2.2.1 - y.2.1).toNat) Res (fun k y hy f g hfg => ?_) (k := (y.2.2.1 - y.2.1).toNat) ⟨h, rfl⟩
  obtain ⟨hy, rfl⟩ := hy
  have q0 := hy.a0; have q1 := hy.ab
  have hag : ∀ z : Ar, Arg z → z.2.2.1 - z.2.1 < y.2.2.1 - y.2.1 → f z = some ((f z).getD []) ∧ g z = some ((f z).getD []) ∧ Res z ((f z).getD []) := fun z hz hlt => by
    have := hz.ab
    obtain ⟨r, e1, e2, e3⟩ := hfg (z.2.2.1 - z.2.1).toNat z (by omega) ⟨hz, rfl⟩
    rw [e1, e2]; exact ⟨rfl, rfl, e3⟩
  obtain ⟨r, e, s1, s2⟩ := loop (l := y.1) (A := y.2.1) (B := y.2.2.1) hy.a0 hy.bl hy.n hy.pre (fun z => (f z).getD []) (fun z hz hlt => (hag z hz hlt).2.2) (y.2.2.1 - y.2.1).toNat (y.2.1, y.2.2.1, y.2.2.2, true, true, y.1) (by simp only; omega) ⟨Int.le_refl _, hy.ab, Int.le_refl _, .refl, fun p q h1 h2 h3 h4 => by simp only at h4; omega⟩
  exact ⟨r, e f fun z hz hlt => (hag z hz hlt).1, e g fun z hz hlt => (hag z hz hlt).2.1, s1, s2⟩
noncomputable def blOk (n : Nat) : Bool := match G.math_bits_Len (IntKind.u64.wrap (n : Int)) with | some _ => true | none => false
theorem bl_all : ((List.range 50).all fun n => blOk n) = true := by kernel_rfl
theorem bl_of {n : Nat} (h : n < 50) : ∃ m, G.math_bits_Len (IntKind.u64.wrap (n : Int)) = some m := by
  have h := List.all_eq_true.1 bl_all n (List.mem_range.2 h)
  unfold blOk at h
  split at h
  · rename_i m e; exact ⟨m, e⟩
  · cases h
/-- The sorted list. -/
theorem Sort_of (l : List T) (hn : l.length < 50) : ∃ r, G.slices_SortFunc_index_entry_index_entry_v0_index_New_1_w l = some r ∧ r.Perm l ∧ r.Pairwise fun x y => key x ≤ key y := by
  unfold G.slices_SortFunc_index_entry_index_entry_v0_index_New_1_w
  obtain ⟨m, e⟩ := bl_of hn
  rw [e]
  simp only [Option.bind_some]
  obtain ⟨r, e2, h1, h2⟩ := pdq_of (y := (l, 0, (l.length : Int), m)) ⟨Int.le_refl _, by simp only; omega, Int.le_refl _, hn, fun h => absurd h (by simp)⟩
  have e2 : G.slices_pdqsortCmpFunc_index_entry_v0_index_New_1 l 0 (l.length : Int) m = some r := e2
  have h1 : Sws 0 (l.length : Int) l r := h1
  have h2 : Srt r 0 (l.length : Int) := h2
  rw [e2]
  refine ⟨r, rfl, h1.perm, List.pairwise_iff_getElem.2 fun i j hi hj hij => ?_⟩
  have hl := h1.len
  have := h2 (i : Int) (j : Int) (by omega) (by omega) (by omega)
  rwa [cz_get hi, cz_get hj] at this
end QI
end Go.Proofs.Ytnbipipegmoigaa
