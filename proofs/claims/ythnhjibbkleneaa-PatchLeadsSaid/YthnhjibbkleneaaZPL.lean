/- Part of what the laws need: plain words, the walker and its laws, the program's functions. -/
import Derived.Test.YthnhjibbkleneaaZPBase
import Derived.Test.YthnhjibbkleneaaZEG
namespace Go.Proofs.Ythnhjibbkleneaa
open G
namespace G
def tlen (c : G.Command) : Int := if c.kind = 1 then c.len else (c.data.length : Int)
def tend (c : G.Command) : Int := c.to + tlen c
theorem Target_of (c : G.Command) : G.command_Target c = some ⟨c.to, tlen c⟩ := by unfold G.command_Target G.command_of tlen; split <;> rfl
theorem Len4_of (c : G.Command) : G.graftref04_Len c = some (tlen c) := by unfold G.graftref04_Len tlen; split <;> rfl
theorem Target4_of (c : G.Command) : G.graftref04_Target c = some ⟨c.to, tlen c⟩ := by unfold G.graftref04_Target; rw [Len4_of]; rfl
def vld (o n : Int) : Bool := decide (0 ≤ o ∧ 0 ≤ n ∧ o + n ≤ 4611686018427387903)
theorem vld_iff {o n : Int} : vld o n = true ↔ 0 ≤ o ∧ 0 ≤ n ∧ o + n ≤ 4611686018427387903 := by unfold vld; simp
theorem Valid_of (e : G.Extent) : G.extent_Valid e = some (vld e.off e.len) := by
  have hm : imin e.off e.len ≥ 0 ↔ 0 ≤ e.off ∧ 0 ≤ e.len := by unfold imin; split <;> omega
  unfold G.extent_Valid vld
  by_cases h : 0 ≤ e.off ∧ 0 ≤ e.len
  · rw [if_pos (hm.2 h)]
    split
    · rw [w64 (by omega) (by omega)]; congr 1; rw [decide_eq_decide]; omega
    · congr 1; symm; rw [decide_eq_false_iff_not]; omega
  · rw [if_neg (fun k => h (hm.1 k))]
    congr 1; symm; rw [decide_eq_false_iff_not]
    omega
theorem Valid1_of (e : G.Extent) : G.graftref01_Valid e = some (vld e.off e.len) := by
  unfold G.graftref01_Valid vld G.graftref01_Max
  simp only [Option.bind_some]
  split
  · split
    · split
      · rw [w64 (by omega) (by omega)]; congr 1; rw [decide_eq_decide]; omega
      · congr 1; symm; rw [decide_eq_false_iff_not]; omega
    · congr 1; symm; rw [decide_eq_false_iff_not]; omega
  · congr 1; symm; rw [decide_eq_false_iff_not]; omega
def chk4 (c : G.Command) : Int :=
  if c.kind ≠ 1 ∧ c.kind ≠ 2 then 11 else if tlen c = 0 then 7 else if vld c.to (tlen c) = false then 2 else
    if c.kind = 1 then (if c.data.length = 0 ∧ vld c.from_ c.len = true then 0 else 2) else if c.from_ = 0 ∧ c.len = 0 then 0 else 2
theorem Check_of (c : G.Command) : G.command_Check c = some (chk4 c) := by
  have e1 : G.command_of c = some ⟨⟨c.to, tlen c⟩⟩ := by unfold G.command_of tlen; split <;> rfl
  unfold G.command_Check chk4
  simp only [e1, Valid_of, Option.bind_some]
  by_cases k1 : c.kind = 1
  · by_cases t0 : tlen c = 0
    · simp [k1, t0]
    · cases hv : vld c.to (tlen c)
      · simp [k1, t0, hv]
      · by_cases d0 : c.data.length = 0
        · cases hw : vld c.from_ c.len <;> simp [k1, t0, hv, d0, hw]
        · have : ¬ (c.data.length : Int) = 0 := by omega
          simp [k1, t0, hv, d0, this]
  · by_cases k2 : c.kind = 2
    · by_cases t0 : tlen c = 0
      · simp [k2, t0]
      · cases hv : vld c.to (tlen c)
        · simp [k2, t0, hv]
        · by_cases f0 : c.from_ = 0
          · by_cases l0 : c.len = 0 <;> simp [k2, t0, hv, f0, l0]
          · simp [k2, t0, hv, f0]
    · simp [k1, k2]
theorem Check4_of (c : G.Command) : G.graftref04_Check c = some (chk4 c) := by
  unfold G.graftref04_Check chk4 G.graftref04_Source
  simp only [Target4_of, Len4_of, Valid1_of, Option.bind_some]
  by_cases k1 : c.kind = 1
  · by_cases t0 : tlen c = 0
    · simp [k1, t0]
    · cases hv : vld c.to (tlen c)
      · simp [k1, t0, hv]
      · by_cases d0 : c.data.length = 0
        · have : ¬ (c.data.length : Int) > 0 := by omega
          cases hw : vld c.from_ c.len <;> simp [k1, t0, hv, d0, hw]
        · have : 0 < c.data.length := by omega
          simp [k1, t0, hv, d0, this]
  · by_cases k2 : c.kind = 2
    · by_cases t0 : tlen c = 0
      · simp [k2, t0]
      · cases hv : vld c.to (tlen c)
        · simp [k2, t0, hv]
        · by_cases f0 : c.from_ = 0
          · by_cases l0 : c.len = 0 <;> simp [k2, t0, hv, f0, l0]
          · simp [k2, t0, hv, f0]
    · simp [k1, k2]
theorem chk4_zero {c : G.Command} (h : chk4 c = 0) : 0 ≤ c.to ∧ 1 ≤ tlen c ∧ tend c ≤ 4611686018427387903 ∧ (c.kind = 1 → 0 ≤ c.from_ ∧ 0 ≤ c.len ∧ c.from_ + c.len ≤ 4611686018427387903 ∧ c.data = []) ∧ (c.kind ≠ 1 → c.kind = 2 ∧ c.from_ = 0 ∧ c.len = 0) := by
  unfold chk4 at h
  split at h
  · omega
  · rename_i hk
    split at h
    · omega
    · rename_i ht
      split at h
      · omega
      · rename_i hv
        have hv' := vld_iff.1 (by simpa using hv)
        refine ⟨hv'.1, by omega, hv'.2.2, fun k1 => ?_, fun k1 => ?_⟩
        · rw [if_pos k1] at h
          split at h
          · rename_i hd
            have := vld_iff.1 hd.2
            exact ⟨this.1, this.2.1, this.2.2, List.eq_nil_of_length_eq_zero hd.1⟩
          · omega
        · rw [if_neg k1] at h
          split at h
          · rename_i hd
            exact ⟨by omega, hd.1, hd.2⟩
          · omega
def sng (d : G.Delta) (c : G.Command) : Int := if chk4 c ≠ 0 then chk4 c else if c.kind = 1 ∧ c.from_ + c.len > d.oldLen then 5 else if tend c > d.newLen then 6 else 0
theorem single_of (d : G.Delta) (c : G.Command) : G.delta_single d c = some (sng d c) := by
  unfold G.delta_single sng G.command_Source G.extent_End
  simp only [Check_of, Target_of, Option.bind_some]
  by_cases h : chk4 c = 0
  · have hz := chk4_zero h
    simp only [h, ne_eq, not_true_eq_false, if_false]
    have e1 : IntKind.i64.wrap (c.to + tlen c) = tend c := w64 (by unfold tend at hz; omega) (by unfold tend at hz; omega)
    by_cases k1 : c.kind = 1
    · have h2 := hz.2.2.2.1 k1
      have e2 : IntKind.i64.wrap (c.from_ + c.len) = c.from_ + c.len := w64 (by omega) (by omega)
      by_cases h3 : c.from_ + c.len > d.oldLen <;> by_cases h4 : tend c > d.newLen <;> simp [k1, h3, h4, e1, e2]
    · by_cases h4 : tend c > d.newLen <;> simp [k1, h4, e1]
  · simp only [h, ne_eq, not_false_eq_true, if_true]
theorem single5_of (d : G.Delta) (c : G.Command) : G.graftref05_single d c = some (sng d c) := by
  unfold G.graftref05_single sng
  simp only [Check4_of, Len4_of, Option.bind_some]
  by_cases h : chk4 c = 0
  · have hz := chk4_zero h
    simp only [h, ne_eq, not_true_eq_false, if_false]
    have e1 : IntKind.i64.wrap (c.to + tlen c) = tend c := w64 (by unfold tend at hz; omega) (by unfold tend at hz; omega)
    by_cases k1 : c.kind = 1
    · have h2 := hz.2.2.2.1 k1
      have e2 : IntKind.i64.wrap (c.from_ + c.len) = c.from_ + c.len := w64 (by omega) (by omega)
      by_cases h3 : c.from_ + c.len > d.oldLen <;> by_cases h4 : tend c > d.newLen <;> simp [k1, h3, h4, e1, e2]
    · by_cases h4 : tend c > d.newLen <;> simp [k1, h4, e1]
  · simp only [h, ne_eq, not_false_eq_true, if_true]
structure Good (d : G.Delta) (c : G.Command) : Prop where
  to0 : 0 ≤ c.to
  len1 : 1 ≤ tlen c
  fits : tend c ≤ d.newLen
  max : tend c ≤ 4611686018427387903
  copy : c.kind = 1 → 0 ≤ c.from_ ∧ 0 ≤ c.len ∧ c.from_ + c.len ≤ d.oldLen ∧ c.from_ + c.len ≤ 4611686018427387903 ∧ c.data = []
  lit : c.kind ≠ 1 → c.kind = 2 ∧ c.from_ = 0 ∧ c.len = 0
theorem sng_zero {d : G.Delta} {c : G.Command} : sng d c = 0 ↔ Good d c := by
  constructor
  · intro h
    unfold sng at h
    split at h
    · rename_i h1; exact absurd h h1
    · rename_i h1
      have hz := chk4_zero (by simpa using h1)
      split at h
      · omega
      · rename_i h2
        split at h
        · omega
        · rename_i h3
          exact ⟨hz.1, hz.2.1, by omega, hz.2.2.1, fun k => by have := hz.2.2.2.1 k; exact ⟨this.1, this.2.1, by have := fun q => h2 ⟨k, q⟩; omega, this.2.2.1, this.2.2.2⟩, hz.2.2.2.2⟩
  · intro h
    have hc : chk4 c = 0 := by
      unfold chk4
      have hk : ¬ (c.kind ≠ 1 ∧ c.kind ≠ 2) := fun k => k.2 (h.lit k.1).1
      have := h.to0; have := h.len1; have := h.max
      rw [if_neg hk, if_neg (by omega), if_neg (by rw [vld_iff.2 ⟨h.to0, by omega, h.max⟩]; simp)]
      by_cases k1 : c.kind = 1
      · have hq := h.copy k1
        rw [if_pos k1, if_pos ⟨by rw [hq.2.2.2.2]; rfl, vld_iff.2 ⟨hq.1, hq.2.1, hq.2.2.2.1⟩⟩]
      · have hq := h.lit k1
        rw [if_neg k1, if_pos ⟨hq.2.1, hq.2.2⟩]
    unfold sng
    rw [if_neg (by simpa using hc), if_neg (fun k => by have := (h.copy k.1).2.2.1; omega), if_neg (by have := h.fits; omega)]
theorem sng_ne {d : G.Delta} {c : G.Command} : sng d c ≠ 0 ↔ ¬ Good d c := not_congr sng_zero
def ov (a b : G.Command) : Bool := decide (a.to < tend b ∧ b.to < tend a)
theorem ov_comm (a b : G.Command) : ov a b = ov b a := by unfold ov; rw [decide_eq_decide]; omega
theorem Overlap_of {d : G.Delta} {a b : G.Command} (ha : Good d a) (hb : Good d b) : ∃ e, G.extent_Overlap ⟨a.to, tlen a⟩ ⟨b.to, tlen b⟩ = some (e, ov a b) := by
  have := ha.to0; have := hb.to0; have := ha.max; have := hb.max; have := ha.len1; have := hb.len1
  unfold G.extent_Overlap G.extent_End G.extent_between
  simp only [Option.bind_some]
  unfold tend at *
  rw [w64 (x := a.to + tlen a) (by omega) (by omega), w64 (x := b.to + tlen b) (by omega) (by omega)]
  have hx : imin (a.to + tlen a) (b.to + tlen b) - imax a.to b.to ≤ 4611686018427387903 ∧ -4611686018427387903 ≤ imin (a.to + tlen a) (b.to + tlen b) - imax a.to b.to ∧ (imin (a.to + tlen a) (b.to + tlen b) - imax a.to b.to < 1 ↔ ¬ (a.to < b.to + tlen b ∧ b.to < a.to + tlen a)) := by
    unfold imin imax; split <;> split <;> omega
  rw [w64 (by omega) (by omega)]
  unfold ov tend
  split
  · rename_i h
    exact ⟨_, by rw [decide_eq_false (hx.2.2.1 h)]; rfl⟩
  · rename_i h
    exact ⟨_, by rw [decide_eq_true (Classical.not_not.1 (fun k => h (hx.2.2.2 k)))]; rfl⟩
theorem Overlap1_of {d : G.Delta} {a b : G.Command} (ha : Good d a) (hb : Good d b) : ∃ e, G.graftref01_Overlap ⟨a.to, tlen a⟩ ⟨b.to, tlen b⟩ = some e ∧ decide (e.len > 0) = ov a b := by
  have := ha.to0; have := hb.to0; have := ha.max; have := hb.max; have := ha.len1; have := hb.len1
  unfold G.graftref01_Overlap
  simp only
  unfold tend at *
  rw [w64 (x := a.to + tlen a) (by omega) (by omega), w64 (x := b.to + tlen b) (by omega) (by omega)]
  have hx : imin (a.to + tlen a) (b.to + tlen b) - imax a.to b.to ≤ 4611686018427387903 ∧ -4611686018427387903 ≤ imin (a.to + tlen a) (b.to + tlen b) - imax a.to b.to ∧ (imax a.to b.to ≥ imin (a.to + tlen a) (b.to + tlen b) ↔ ¬ (a.to < b.to + tlen b ∧ b.to < a.to + tlen a)) := by
    unfold imin imax; split <;> split <;> omega
  unfold ov tend
  split
  · rename_i h
    exact ⟨_, rfl, by rw [decide_eq_false (hx.2.2.1 h)]; rfl⟩
  · rename_i h
    refine ⟨_, rfl, ?_⟩
    rw [w64 (by omega) (by omega), decide_eq_decide]
    constructor
    · intro _; exact Classical.not_not.1 (fun k => h (hx.2.2.2 k))
    · intro _; show imin (a.to + tlen a) (b.to + tlen b) - imax a.to b.to > 0; omega
abbrev cat (l : List G.Command) (i : Nat) : G.Command := l.getD i default
theorem cat_getElem {l : List G.Command} {i : Nat} (h : i < l.length) : cat l i = l[i] := by simp [cat, h]
def ovi (l : List G.Command) (i : Nat) : Bool := (l.take i).any fun c => ov (cat l i) c
end G
end Go.Proofs.Ythnhjibbkleneaa
namespace Go.Proofs.Ythnhjibbkleneaa
open G
namespace G
def Ix (l : List G.Command) (x : Int) : Prop := 0 ≤ x ∧ x < l.length
def key (l : List G.Command) (x : Int) : Int := (l.getD x.toNat default).to
theorem cmp_of {l : List G.Command} {x y : Int} (hx : Ix l x) (hy : Ix l y) : ∃ c, G.delta_sorted_1 x y l = some c ∧ (c < 0 ↔ key l x < key l y) := by
  unfold G.delta_sorted_1 G.cmp_Compare_int G.cmp_isNaN_int key
  obtain ⟨h1, h2⟩ := hx
  obtain ⟨h3, h4⟩ := hy
  rw [idx_getD' (k := x.toNat) default (by omega) (by omega), idx_getD' (k := y.toNat) default (by omega) (by omega)]
  simp only [Option.bind_some, bne_self_eq_false, Bool.false_eq_true, if_false]
  generalize (l.getD x.toNat default).to = p
  generalize (l.getD y.toNat default).to = q
  split
  · exact ⟨_, rfl, by omega⟩
  · split
    · exact ⟨_, rfl, by omega⟩
    · exact ⟨_, rfl, by omega⟩
def sw (ys : List Int) (i j : Nat) : List Int := (ys.set i (ys.getD j 0)).set j (ys.getD i 0)
theorem getD_set (ys : List Int) (i p : Nat) (v : Int) : (ys.set i v).getD p 0 = if p = i ∧ i < ys.length then v else ys.getD p 0 := by
  simp only [List.getD_eq_getElem?_getD, List.getElem?_set]
  by_cases h : i = p
  · subst h
    by_cases h2 : i < ys.length <;> simp [h2]
  · rw [if_neg h, if_neg (fun k => h k.1.symm)]
theorem sw_get {ys : List Int} {i j : Nat} (hi : i < ys.length) (hj : j < ys.length) (p : Nat) : (sw ys i j).getD p 0 = if p = j then ys.getD i 0 else if p = i then ys.getD j 0 else ys.getD p 0 := by
  unfold sw
  rw [getD_set, getD_set]
  simp only [List.length_set]
  by_cases h1 : p = j
  · rw [if_pos ⟨h1, hj⟩, if_pos h1]
  · rw [if_neg (fun k => h1 k.1), if_neg h1]
    by_cases h2 : p = i
    · rw [if_pos ⟨h2, hi⟩, if_pos h2]
    · rw [if_neg (fun k => h2 k.1), if_neg h2]
theorem sw_perm {ys : List Int} {i j : Nat} (hi : i < ys.length) (hj : j < ys.length) : (sw ys i j).Perm ys := by
  unfold sw
  have e1 : ys.getD j 0 = ys[j] := by simp [hj]
  have e2 : ys.getD i 0 = ys[i] := by simp [hi]
  rw [e1, e2]
  exact List.set_set_perm hi hj
structure Pm (xs ys : List Int) (lo hi : Nat) : Prop where
  perm : ys.Perm xs
  out : ∀ p, p < lo ∨ hi ≤ p → ys.getD p 0 = xs.getD p 0
theorem Pm.refl (xs : List Int) (lo hi : Nat) : Pm xs xs lo hi := ⟨.refl _, fun _ _ => rfl⟩
theorem Pm.trans {xs ys zs : List Int} {lo hi : Nat} (h : Pm xs ys lo hi) (k : Pm ys zs lo hi) : Pm xs zs lo hi := ⟨k.perm.trans h.perm, fun p hp => (k.out p hp).trans (h.out p hp)⟩
theorem Pm.mono {xs ys : List Int} {lo hi lo' hi' : Nat} (h : Pm xs ys lo hi) (h1 : lo' ≤ lo) (h2 : hi ≤ hi') : Pm xs ys lo' hi' := ⟨h.perm, fun p hp => h.out p (by omega)⟩
theorem Pm.len {xs ys : List Int} {lo hi : Nat} (h : Pm xs ys lo hi) : ys.length = xs.length := h.perm.length_eq
theorem Pm.sw {xs ys : List Int} {lo hi i j : Nat} (h : Pm xs ys lo hi) (hi1 : lo ≤ i ∧ i < hi) (hj1 : lo ≤ j ∧ j < hi) (hl : hi ≤ xs.length) : Pm xs (sw ys i j) lo hi := by
  have hlen := h.len
  refine ⟨(sw_perm (by omega) (by omega)).trans h.perm, fun p hp => ?_⟩
  rw [sw_get (by omega) (by omega), if_neg (by omega), if_neg (by omega)]
  exact h.out p hp
def AllIx (l : List G.Command) (ys : List Int) : Prop := ∀ x ∈ ys, Ix l x
theorem Pm.all {l : List G.Command} {xs ys : List Int} {lo hi : Nat} (h : Pm xs ys lo hi) (ha : AllIx l xs) : AllIx l ys := fun x hx => ha x (h.perm.mem_iff.1 hx)
theorem AllIx.get {l : List G.Command} {ys : List Int} (h : AllIx l ys) {p : Nat} (hp : p < ys.length) : Ix l (ys.getD p 0) := by
  have : ys.getD p 0 = ys[p] := by simp [hp]
  rw [this]; exact h _ (List.getElem_mem hp)
def Srt (l : List G.Command) (ys : List Int) (lo hi : Nat) : Prop := ∀ p q, lo ≤ p → p < q → q < hi → key l (ys.getD p 0) ≤ key l (ys.getD q 0)
theorem Srt.of_out {l : List G.Command} {xs ys : List Int} {lo hi a b : Nat} (h : Srt l xs lo hi) (hp : Pm xs ys a b) (hd : hi ≤ a ∨ b ≤ lo) : Srt l ys lo hi := fun p q h1 h2 h3 => by
  rw [hp.out p (by omega), hp.out q (by omega)]; exact h p q h1 h2 h3
def big : Nat := 1125899906842624
theorem big_eq : big = 1125899906842624 := rfl
section
variable {l : List G.Command}
theorem ins_inner {a i : Nat} {ys : List Int} {w : Int × List Int} (hw : w.1 = (i : Int)) (hall : AllIx l ys) (hi : i < ys.length) (ha : a ≤ i) (hb : ys.length ≤ big) (hs : Srt l ys a i) :
    ∃ zs, Iter (G.slices_insertionSortCmpFunc_int_v0_delta_sorted_1_l2 (a : Int) l w) ((i : Int), ys) = some (.inl (((i + 1 : Nat) : Int), zs)) ∧ Pm ys zs a (i + 1) ∧ Srt l zs a (i + 1) := by
  rw [big_eq] at hb
  obtain ⟨r, hr, zs, rfl, h1, h2⟩ := Iter_total (f := G.slices_insertionSortCmpFunc_int_v0_delta_sorted_1_l2 (a : Int) l w)
    (fun k s => ∃ (j : Nat) (zs : List Int), s = ((j : Int), zs) ∧ k = j ∧ a ≤ j ∧ j ≤ i ∧ Pm ys zs a (i + 1) ∧ ∀ p q, a ≤ p → p < q → q ≤ i → q ≠ j → key l (zs.getD p 0) ≤ key l (zs.getD q 0))
    (fun r => ∃ zs, r = .inl (((i + 1 : Nat) : Int), zs) ∧ Pm ys zs a (i + 1) ∧ Srt l zs a (i + 1)) (by
    rintro k s ⟨j, zs, rfl, hkj, hj1, hj2, hp, ho⟩
    have hlen := hp.len
    have hal := hp.all hall
    unfold G.slices_insertionSortCmpFunc_int_v0_delta_sorted_1_l2
    have done : (∀ p, a ≤ p → p < j → key l (zs.getD p 0) ≤ key l (zs.getD j 0)) → Srt l zs a (i + 1) := fun hd p q h1 h2 h3 => by
      by_cases hq : q = j
      · subst hq; exact hd p h1 h2
      · exact ho p q h1 h2 (by omega) hq
    by_cases hja : j > a
    · have hj' : IntKind.i64.wrap ((j : Int) - 1) = ((j - 1 : Nat) : Int) := by rw [w64 (by omega) (by omega)]; omega
      obtain ⟨c, hc, hcl⟩ := cmp_of (l := l) (hal.get (p := j) (by omega)) (hal.get (p := j - 1) (by omega))
      rw [if_pos (show (j : Int) > (a : Int) by omega), hj', idx_getD (0 : Int) (show j < zs.length by omega), idx_getD (0 : Int) (show j - 1 < zs.length by omega)]
      simp only [Option.bind_some, hc]
      by_cases hlt : c < 0
      · left
        rw [if_pos (by simpa using hlt)]
        obtain ⟨x, hx⟩ := idx_some_of (l := zs.set j (zs.getD (j - 1) 0)) (i := ((j - 1 : Nat) : Int)) (k := j - 1) rfl (by simp; omega)
        simp only [Int.toNat_natCast, hx, Option.bind_some]
        refine ⟨j - 1, _, rfl, by omega, j - 1, sw zs j (j - 1), rfl, rfl, by omega, by omega, hp.sw (by omega) (by omega) (by omega), fun p q h1 h2 h3 h4 => ?_⟩
        rw [sw_get (by omega) (by omega), sw_get (by omega) (by omega)]
        have hk := hcl.1 hlt
        by_cases e1 : p = j - 1
        · rw [if_pos e1]
          by_cases e2 : q = j
          · rw [if_neg (by omega), if_pos e2]; omega
          · rw [if_neg h4, if_neg e2]
            exact ho j q (by omega) (by omega) h3 e2
        · rw [if_neg e1]
          by_cases e3 : p = j
          · rw [if_pos e3, if_neg h4, if_neg (by omega)]
            exact ho (j - 1) q (by omega) (by omega) h3 (by omega)
          · rw [if_neg e3, if_neg h4]
            by_cases e2 : q = j
            · rw [if_pos e2]; exact ho p (j - 1) h1 (by omega) (by omega) (by omega)
            · rw [if_neg e2]; exact ho p q h1 h2 h3 e2
      · right
        rw [if_neg (by simpa using hlt)]
        refine ⟨_, rfl, zs, by rw [hw, inc64 (n := 1125899906842625) (by omega) (by omega)], hp, done fun p h1 h2 => ?_⟩
        have hk : key l (zs.getD (j - 1) 0) ≤ key l (zs.getD j 0) := by
          have := fun h => hlt (hcl.2 h)
          omega
        by_cases e : p = j - 1
        · rw [e]; exact hk
        · exact Int.le_trans (ho p (j - 1) h1 (by omega) (by omega) (by omega)) hk
    · right
      rw [if_neg (show ¬ (j : Int) > (a : Int) by omega)]
      simp only [Option.bind_some, Bool.false_eq_true, if_false]
      exact ⟨_, rfl, zs, by rw [hw, inc64 (n := 1125899906842625) (by omega) (by omega)], hp, done fun p h1 h2 => by omega⟩) i ((i : Int), ys) ⟨i, ys, rfl, rfl, ha, Nat.le_refl _, Pm.refl _ _ _, fun p q h1 h2 h3 h4 => hs p q h1 h2 (by omega)⟩
  exact ⟨zs, hr, h1, h2⟩
theorem insertion_of {a b : Nat} {ys : List Int} (hall : AllIx l ys) (hab : a ≤ b) (hbl : b ≤ ys.length) (hb : ys.length ≤ big) :
    ∃ zs, G.slices_insertionSortCmpFunc_int_v0_delta_sorted_1 ys (a : Int) (b : Int) l = some zs ∧ Pm ys zs a b ∧ Srt l zs a b := by
  have hb' := hb
  rw [big_eq] at hb'
  unfold G.slices_insertionSortCmpFunc_int_v0_delta_sorted_1
  rw [inc64 (k := a) (n := 1125899906842625) (by omega) (by omega)]
  refine Iter_total (fun k s => ∃ (i : Nat) (zs : List Int), s = ((i : Int), zs) ∧ k = b + 1 - i ∧ a + 1 ≤ i ∧ (i ≤ b ∨ i = a + 1) ∧ Pm ys zs a b ∧ Srt l zs a i)
    (fun zs => Pm ys zs a b ∧ Srt l zs a b) ?_ _ _ ⟨a + 1, ys, rfl, rfl, Nat.le_refl _, .inr rfl, Pm.refl _ _ _, fun p q h1 h2 h3 => by omega⟩
  rintro k s ⟨i, zs, rfl, rfl, h1, h2, hp, hs⟩
  have hlen := hp.len
  unfold G.slices_insertionSortCmpFunc_int_v0_delta_sorted_1_l1
  by_cases hib : i < b
  · left
    rw [if_pos (show (i : Int) < (b : Int) by omega)]
    obtain ⟨ws, hw, h3, h4⟩ := ins_inner (l := l) (a := a) (i := i) (ys := zs) (w := ((i : Int), zs)) rfl (hp.all hall) (by omega) (by omega) (by rw [big_eq]; omega) hs
    exact ⟨b + 1 - (i + 1), _, hw, by omega, i + 1, ws, rfl, rfl, by omega, .inl (by omega), hp.trans (h3.mono (Nat.le_refl _) (by omega)), h4⟩
  · right
    rw [if_neg (show ¬ (i : Int) < (b : Int) by omega)]
    exact ⟨_, rfl, hp, fun p q h3 h4 h5 => hs p q h3 h4 (by omega)⟩
theorem swapRange_of {a b n : Nat} {ys : List Int} (hab : a + n ≤ b) (hbl : b + n ≤ ys.length) (hb : ys.length ≤ big) :
    ∃ zs, G.slices_swapRangeCmpFunc_int_v0_delta_sorted_1 ys (a : Int) (b : Int) (n : Int) l = some zs ∧ zs.Perm ys ∧
      ∀ p, zs.getD p 0 = if a ≤ p ∧ p < a + n then ys.getD (p - a + b) 0 else if b ≤ p ∧ p < b + n then ys.getD (p - b + a) 0 else ys.getD p 0 := by
  rw [big_eq] at hb
  unfold G.slices_swapRangeCmpFunc_int_v0_delta_sorted_1
  refine Iter_total (fun k s => ∃ (i : Nat) (zs : List Int), s = ((i : Int), zs) ∧ k = n - i ∧ i ≤ n ∧ zs.Perm ys ∧ ∀ p, zs.getD p 0 = if a ≤ p ∧ p < a + i then ys.getD (p - a + b) 0 else if b ≤ p ∧ p < b + i then ys.getD (p - b + a) 0 else ys.getD p 0)
    (fun zs : List Int => zs.Perm ys ∧ ∀ p, zs.getD p 0 = if a ≤ p ∧ p < a + n then ys.getD (p - a + b) 0 else if b ≤ p ∧ p < b + n then ys.getD (p - b + a) 0 else ys.getD p 0) ?_ _ _
    ⟨0, ys, rfl, rfl, Nat.zero_le _, .refl _, fun p => by rw [if_neg (by omega), if_neg (by omega)]⟩
  rintro k s ⟨i, zs, rfl, rfl, hi, hp, hg⟩
  have hlen := hp.length_eq
  unfold G.slices_swapRangeCmpFunc_int_v0_delta_sorted_1_l1
  by_cases hin : i < n
  · left
    have e1 : IntKind.i64.wrap ((a : Int) + (i : Int)) = ((a + i : Nat) : Int) := by rw [w64 (by omega) (by omega)]; omega
    have e2 : IntKind.i64.wrap ((b : Int) + (i : Int)) = ((b + i : Nat) : Int) := by rw [w64 (by omega) (by omega)]; omega
    rw [if_pos (show (i : Int) < (n : Int) by omega), e1, e2, idx_getD (0 : Int) (show b + i < zs.length by omega), idx_getD (0 : Int) (show a + i < zs.length by omega)]
    obtain ⟨x, hx⟩ := idx_some_of (l := zs.set (a + i) (zs.getD (b + i) 0)) (i := ((b + i : Nat) : Int)) (k := b + i) rfl (by simp; omega)
    simp only [Option.bind_some, Int.toNat_natCast, hx, inc64 hin (by omega)]
    refine ⟨n - (i + 1), _, rfl, by omega, i + 1, sw zs (a + i) (b + i), rfl, rfl, by omega, (sw_perm (by omega) (by omega)).trans hp, fun p => ?_⟩
    rw [sw_get (by omega) (by omega), hg (a + i), hg (b + i), hg p]
    repeat' split
    all_goals first | rfl | omega | (congr 1; omega)
  · right
    rw [if_neg (show ¬ (i : Int) < (n : Int) by omega)]
    have : i = n := by omega
    subst this
    exact ⟨_, rfl, hp, hg⟩
def rot (f : Nat → Int) (lo m hi p : Nat) : Int := if p < lo ∨ hi ≤ p then f p else if p < lo + (hi - m) then f (p + (m - lo)) else f (p - (hi - m))
theorem rotate_of {a m b : Nat} {ys : List Int} (ham : a < m) (hmb : m < b) (hbl : b ≤ ys.length) (hb : ys.length ≤ big) :
    ∃ zs, G.slices_rotateCmpFunc_int_v0_delta_sorted_1 ys (a : Int) (m : Int) (b : Int) l = some zs ∧ zs.Perm ys ∧ ∀ p, zs.getD p 0 = rot (fun p => ys.getD p 0) a m b p := by
  have hb' := hb
  rw [big_eq] at hb'
  unfold G.slices_rotateCmpFunc_int_v0_delta_sorted_1
  have e1 : IntKind.i64.wrap ((m : Int) - (a : Int)) = ((m - a : Nat) : Int) := by rw [w64 (by omega) (by omega)]; omega
  have e2 : IntKind.i64.wrap ((b : Int) - (m : Int)) = ((b - m : Nat) : Int) := by rw [w64 (by omega) (by omega)]; omega
  rw [e1, e2]
  obtain ⟨r, hr, i, zs, rfl, hi1, hi2, hi3, hp, hg⟩ := Iter_total (f := G.slices_rotateCmpFunc_int_v0_delta_sorted_1_l1 (m : Int) l)
    (fun k s => ∃ (i j : Nat) (zs : List Int), s = ((i : Int), (j : Int), zs) ∧ k = i + j ∧ 0 < i ∧ 0 < j ∧ i ≤ m - a ∧ j ≤ b - m ∧ zs.Perm ys ∧ ∀ p, rot (fun p => ys.getD p 0) a m b p = rot (fun p => zs.getD p 0) (m - i) m (m + j) p)
    (fun r => ∃ (i : Nat) (zs : List Int), r = ((i : Int), zs) ∧ 0 < i ∧ i ≤ m - a ∧ i ≤ b - m ∧ zs.Perm ys ∧ ∀ p, rot (fun p => ys.getD p 0) a m b p = rot (fun p => zs.getD p 0) (m - i) m (m + i) p) (by
    rintro k s ⟨i, j, zs, rfl, rfl, h1, h2, h3, h4, hp, hg⟩
    have hlen := hp.length_eq
    have e3 : IntKind.i64.wrap ((m : Int) - (i : Int)) = ((m - i : Nat) : Int) := by rw [w64 (by omega) (by omega)]; omega
    unfold G.slices_rotateCmpFunc_int_v0_delta_sorted_1_l1
    by_cases hij : i = j
    · right
      subst hij
      rw [if_neg (by simp)]
      exact ⟨_, rfl, i, zs, rfl, h1, h3, h4, hp, hg⟩
    · left
      rw [if_pos (show ((i : Int), (j : Int), zs).1 ≠ ((i : Int), (j : Int), zs).2.1 by simp; omega)]
      by_cases hgt : i > j
      · rw [if_pos (show ((i : Int), (j : Int), zs).1 > ((i : Int), (j : Int), zs).2.1 by simp; omega)]
        obtain ⟨ws, hw, hq, hz⟩ := swapRange_of (l := l) (a := m - i) (b := m) (n := j) (ys := zs) (by omega) (by omega) (by rw [big_eq]; omega)
        have e4 : IntKind.i64.wrap ((i : Int) - (j : Int)) = ((i - j : Nat) : Int) := by rw [w64 (by omega) (by omega)]; omega
        simp only [e3, hw, Option.bind_some, e4]
        refine ⟨i - j + j, _, rfl, by omega, i - j, j, ws, rfl, rfl, by omega, h2, by omega, h4, hq.trans hp, fun p => ?_⟩
        rw [hg p]
        unfold rot
        simp only [hz]
        repeat' split
        all_goals first | rfl | omega | (congr 1; omega)
      · rw [if_neg (show ¬ ((i : Int), (j : Int), zs).1 > ((i : Int), (j : Int), zs).2.1 by simp; omega)]
        have e5 : IntKind.i64.wrap (IntKind.i64.wrap ((m : Int) + (j : Int)) - (i : Int)) = ((m + j - i : Nat) : Int) := by rw [w64 (x := (m : Int) + (j : Int)) (by omega) (by omega), w64 (by omega) (by omega)]; omega
        obtain ⟨ws, hw, hq, hz⟩ := swapRange_of (l := l) (a := m - i) (b := m + j - i) (n := i) (ys := zs) (by omega) (by omega) (by rw [big_eq]; omega)
        have e4 : IntKind.i64.wrap ((j : Int) - (i : Int)) = ((j - i : Nat) : Int) := by rw [w64 (by omega) (by omega)]; omega
        simp only [e3, e5, hw, Option.bind_some, e4]
        refine ⟨i + (j - i), _, rfl, by omega, i, j - i, ws, rfl, rfl, h1, by omega, h3, by omega, hq.trans hp, fun p => ?_⟩
        rw [hg p]
        unfold rot
        simp only [hz]
        repeat' split
        all_goals first | rfl | omega | (congr 1; omega)) _ _
    ⟨m - a, b - m, ys, rfl, rfl, by omega, by omega, Nat.le_refl _, Nat.le_refl _, .refl _, fun p => by rw [show m - (m - a) = a by omega, show m + (b - m) = b by omega]⟩
  rw [hr]
  have hlen := hp.length_eq
  have e3 : IntKind.i64.wrap ((m : Int) - (i : Int)) = ((m - i : Nat) : Int) := by rw [w64 (by omega) (by omega)]; omega
  simp only [Option.bind_some, e3]
  obtain ⟨ws, hw, hq, hz⟩ := swapRange_of (l := l) (a := m - i) (b := m) (n := i) (ys := zs) (by omega) (by omega) (by rw [big_eq]; omega)
  rw [hw]
  refine ⟨ws, rfl, hq.trans hp, fun p => ?_⟩
  rw [hz p, hg p]
  unfold rot
  repeat' split
  all_goals first | rfl | omega | (congr 1; omega)
end
end G
end Go.Proofs.Ythnhjibbkleneaa
namespace Go.Proofs.Ythnhjibbkleneaa
open G
namespace G
theorem bsearch {f : Int × Int → Option ((Int × Int) ⊕ Int)} (T : Nat → Prop) (lo hi : Nat) (hle : lo ≤ hi)
    (hstep : ∀ i j : Nat, lo ≤ i → i < j → j ≤ hi → (T ((i + j) / 2) ∧ f ((i : Int), (j : Int)) = some (.inl ((((i + j) / 2 + 1 : Nat) : Int), (j : Int)))) ∨ (¬ T ((i + j) / 2) ∧ f ((i : Int), (j : Int)) = some (.inl ((i : Int), (((i + j) / 2 : Nat) : Int)))))
    (hend : ∀ i : Nat, f ((i : Int), (i : Int)) = some (.inr (i : Int))) (mono : ∀ p q, lo ≤ p → p ≤ q → q < hi → T q → T p) :
    ∃ s : Nat, Iter f ((lo : Int), (hi : Int)) = some (s : Int) ∧ lo ≤ s ∧ s ≤ hi ∧ (∀ p, lo ≤ p → p < s → T p) ∧ ∀ p, s ≤ p → p < hi → ¬ T p := by
  obtain ⟨r, hr, s, rfl, h⟩ := Iter_total (f := f)
    (fun k s => ∃ i j : Nat, s = ((i : Int), (j : Int)) ∧ k = j - i ∧ lo ≤ i ∧ i ≤ j ∧ j ≤ hi ∧ (∀ p, lo ≤ p → p < i → T p) ∧ ∀ p, j ≤ p → p < hi → ¬ T p)
    (fun r => ∃ s : Nat, r = (s : Int) ∧ lo ≤ s ∧ s ≤ hi ∧ (∀ p, lo ≤ p → p < s → T p) ∧ ∀ p, s ≤ p → p < hi → ¬ T p) (by
    rintro k s ⟨i, j, rfl, rfl, h1, h2, h3, h4, h5⟩
    by_cases hij : i < j
    · left
      rcases hstep i j h1 hij h3 with ⟨ht, hf⟩ | ⟨ht, hf⟩
      · exact ⟨j - ((i + j) / 2 + 1), _, hf, by omega, (i + j) / 2 + 1, j, rfl, rfl, by omega, by omega, h3, fun p hp1 hp2 => mono p _ hp1 (by omega) (by omega) ht, h5⟩
      · exact ⟨(i + j) / 2 - i, _, hf, by omega, i, (i + j) / 2, rfl, rfl, h1, by omega, by omega, h4, fun p hp1 hp2 ht' => ht (mono _ p (by omega) hp1 hp2 ht')⟩
    · right
      have : i = j := by omega
      subst this
      exact ⟨_, hend i, i, rfl, h1, h3, h4, h5⟩) _ _
    ⟨lo, hi, rfl, rfl, Nat.le_refl _, hle, Nat.le_refl _, fun p h1 h2 => by omega, fun p h1 h2 => by omega⟩
  exact ⟨s, hr, h⟩
section
variable {l : List G.Command}
theorem rot_key {ys zs : List Int} {lo m hi : Nat} (hz : ∀ p, zs.getD p 0 = rot (fun p => ys.getD p 0) lo m hi p) (p : Nat) :
    key l (zs.getD p 0) = if p < lo ∨ hi ≤ p then key l (ys.getD p 0) else if p < lo + (hi - m) then key l (ys.getD (p + (m - lo)) 0) else key l (ys.getD (p - (hi - m)) 0) := by
  rw [hz]; unfold rot; split
  · rfl
  · split <;> rfl
theorem rot_pm {ys zs : List Int} {lo m hi : Nat} (hp : zs.Perm ys) (hz : ∀ p, zs.getD p 0 = rot (fun p => ys.getD p 0) lo m hi p) : Pm ys zs lo hi := ⟨hp, fun p h => by rw [hz]; unfold rot; rw [if_pos h]⟩
theorem mid2 {i j : Nat} (h : i + j ≤ 9223372036854775807) : IntKind.i64.wrap (ishr .u64 (IntKind.u64.wrap (IntKind.i64.wrap ((i : Int) + (j : Int)))) 1) = (((i + j) / 2 : Nat) : Int) := mid_of (by omega) h
theorem sym_1 {ys : List Int} {a b : Nat} (hall : AllIx l ys) (hab : a + 1 < b) (hbl : b ≤ ys.length) (hb : ys.length ≤ big) (hs : Srt l ys (a + 1) b) :
    ∃ zs, (∀ fx, G.slices_symMergeCmpFunc_int_v0_delta_sorted_1_b fx ys (a : Int) ((a + 1 : Nat) : Int) (b : Int) l = some zs) ∧ Pm ys zs a b ∧ Srt l zs a b := by
  have hb' := hb
  rw [big_eq] at hb'
  obtain ⟨s, hs1, h1, h2, h3, h4⟩ := bsearch (f := G.slices_symMergeCmpFunc_int_v0_delta_sorted_1_l1 ys (a : Int) l) (fun p => key l (ys.getD p 0) < key l (ys.getD a 0)) (a + 1) b (by omega)
    (fun i j hi hij hj => by
      obtain ⟨c, hc, hcl⟩ := cmp_of (l := l) (hall.get (p := (i + j) / 2) (by omega)) (hall.get (p := a) (by omega))
      unfold G.slices_symMergeCmpFunc_int_v0_delta_sorted_1_l1
      rw [if_pos (show ((i : Int), (j : Int)).1 < ((i : Int), (j : Int)).2 by simp; omega)]
      simp only [mid2 (show i + j ≤ 9223372036854775807 by omega)]
      rw [idx_getD (0 : Int) (show (i + j) / 2 < ys.length by omega), idx_getD (0 : Int) (show a < ys.length by omega)]
      simp only [Option.bind_some, hc]
      by_cases hlt : c < 0
      · left
        rw [if_pos hlt, inc64 (n := 1125899906842625) (by omega) (by omega)]
        exact ⟨hcl.1 hlt, rfl⟩
      · right
        rw [if_neg hlt]
        exact ⟨fun h => hlt (hcl.2 h), rfl⟩)
    (fun i => by unfold G.slices_symMergeCmpFunc_int_v0_delta_sorted_1_l1; rw [if_neg (by simp)])
    (fun p q hp hpq hq ht => by
      by_cases e : p = q
      · subst e; exact ht
      · exact Int.lt_of_le_of_lt (hs p q hp (by omega) hq) ht)
  obtain ⟨r, hr, zs, rfl, hp, hz⟩ := Iter_total (f := G.slices_symMergeCmpFunc_int_v0_delta_sorted_1_l2 (s : Int))
    (fun k st => ∃ (i : Nat) (zs : List Int), st = ((i : Int), zs) ∧ k = s - 1 - i ∧ a ≤ i ∧ i ≤ s - 1 ∧ zs.Perm ys ∧ ∀ p, zs.getD p 0 = rot (fun p => ys.getD p 0) a (a + 1) (i + 1) p)
    (fun r => ∃ zs : List Int, r = .inr zs ∧ zs.Perm ys ∧ ∀ p, zs.getD p 0 = rot (fun p => ys.getD p 0) a (a + 1) s p) (by
      rintro k st ⟨i, zs, rfl, rfl, hi1, hi2, hp, hz⟩
      have hlen := hp.length_eq
      unfold G.slices_symMergeCmpFunc_int_v0_delta_sorted_1_l2
      have e1 : IntKind.i64.wrap ((s : Int) - 1) = ((s - 1 : Nat) : Int) := by rw [w64 (by omega) (by omega)]; omega
      rw [e1]
      by_cases hlt : i < s - 1
      · left
        have e2 : IntKind.i64.wrap ((i : Int) + 1) = ((i + 1 : Nat) : Int) := inc64 (n := 1125899906842625) (by omega) (by omega)
        rw [if_pos (show ((i : Int), zs).1 < ((s - 1 : Nat) : Int) by simp; omega)]
        obtain ⟨x, hx⟩ := idx_some_of (l := zs.set i (zs.getD (i + 1) 0)) (i := ((i + 1 : Nat) : Int)) (k := i + 1) rfl (by simp; omega)
        simp only [e2, idx_getD (0 : Int) (show i + 1 < zs.length by omega), idx_getD (0 : Int) (show i < zs.length by omega), Option.bind_some, Int.toNat_natCast, hx]
        refine ⟨s - 1 - (i + 1), _, rfl, by omega, i + 1, sw zs i (i + 1), rfl, rfl, by omega, by omega, (sw_perm (by omega) (by omega)).trans hp, fun p => ?_⟩
        rw [sw_get (by omega) (by omega), hz i, hz (i + 1), hz p]
        unfold rot
        repeat' split
        all_goals first | rfl | omega | (congr 1; omega)
      · right
        rw [if_neg (show ¬ ((i : Int), zs).1 < ((s - 1 : Nat) : Int) by simp; omega)]
        exact ⟨_, rfl, zs, rfl, hp, by rw [show s = i + 1 by omega]; exact hz⟩) _ _
    ⟨a, ys, rfl, rfl, Nat.le_refl _, by omega, .refl _, fun p => by unfold rot; (repeat' split); all_goals (first | rfl | omega | (congr 1; omega))⟩
  refine ⟨zs, fun fx => ?_, (rot_pm hp hz).mono (Nat.le_refl _) h2, fun p q h5 h6 h7 => ?_⟩
  · unfold G.slices_symMergeCmpFunc_int_v0_delta_sorted_1_b
    rw [if_pos (by rw [w64 (by omega) (by omega)]; omega), hs1]
    simp only [Option.bind_some, hr, joinK_inr]
  · rw [rot_key hz, rot_key hz]
    by_cases c1 : p < a + (s - (a + 1))
    · rw [if_neg (by omega), if_pos c1]
      by_cases c2 : q < a + (s - (a + 1))
      · rw [if_neg (by omega), if_pos c2]; exact hs _ _ (by omega) (by omega) (by omega)
      · by_cases c3 : s ≤ q
        · rw [if_pos (.inr c3)]; exact hs _ _ (by omega) (by omega) h7
        · rw [if_neg (by omega), if_neg c2]
          have := h3 (p + (a + 1 - a)) (by omega) (by omega)
          rw [show q - (s - (a + 1)) = a by omega]; exact Int.le_of_lt this
    · by_cases c3 : s ≤ p
      · rw [if_pos (.inr c3), if_pos (.inr (by omega))]; exact hs _ _ (by omega) h6 h7
      · rw [if_neg (by omega), if_neg c1, if_pos (.inr (by omega)), show p - (s - (a + 1)) = a by omega]
        have := h4 q (by omega) h7
        omega
theorem sym_2 {ys : List Int} {a m : Nat} (hall : AllIx l ys) (ham : a + 1 < m) (hbl : m + 1 ≤ ys.length) (hb : ys.length ≤ big) (hs : Srt l ys a m) :
    ∃ zs, (∀ fx, G.slices_symMergeCmpFunc_int_v0_delta_sorted_1_b fx ys (a : Int) (m : Int) ((m + 1 : Nat) : Int) l = some zs) ∧ Pm ys zs a (m + 1) ∧ Srt l zs a (m + 1) := by
  have hb' := hb
  rw [big_eq] at hb'
  obtain ⟨s, hs1, h1, h2, h3, h4⟩ := bsearch (f := G.slices_symMergeCmpFunc_int_v0_delta_sorted_1_l3 ys (m : Int) l) (fun p => ¬ key l (ys.getD m 0) < key l (ys.getD p 0)) a m (by omega)
    (fun i j hi hij hj => by
      obtain ⟨c, hc, hcl⟩ := cmp_of (l := l) (hall.get (p := m) (by omega)) (hall.get (p := (i + j) / 2) (by omega))
      unfold G.slices_symMergeCmpFunc_int_v0_delta_sorted_1_l3
      rw [if_pos (show ((i : Int), (j : Int)).1 < ((i : Int), (j : Int)).2 by simp; omega)]
      simp only [mid2 (show i + j ≤ 9223372036854775807 by omega)]
      rw [idx_getD (0 : Int) (show (i + j) / 2 < ys.length by omega), idx_getD (0 : Int) (show m < ys.length by omega)]
      simp only [Option.bind_some, hc]
      by_cases hlt : c < 0
      · right
        rw [if_neg (by simpa using hlt)]
        exact ⟨fun h => h (hcl.1 hlt), rfl⟩
      · left
        rw [if_pos (by simpa using hlt), inc64 (n := 1125899906842625) (by omega) (by omega)]
        exact ⟨fun h => hlt (hcl.2 h), rfl⟩)
    (fun i => by unfold G.slices_symMergeCmpFunc_int_v0_delta_sorted_1_l3; rw [if_neg (by simp)])
    (fun p q hp hpq hq ht => by
      by_cases e : p = q
      · subst e; exact ht
      · have := hs p q hp (by omega) hq
        omega)
  obtain ⟨r, hr, zs, rfl, hp, hz⟩ := Iter_total (f := G.slices_symMergeCmpFunc_int_v0_delta_sorted_1_l4 (s : Int))
    (fun k st => ∃ (i : Nat) (zs : List Int), st = ((i : Int), zs) ∧ k = i ∧ s ≤ i ∧ i ≤ m ∧ zs.Perm ys ∧ ∀ p, zs.getD p 0 = rot (fun p => ys.getD p 0) i m (m + 1) p)
    (fun r => ∃ zs : List Int, r = .inr zs ∧ zs.Perm ys ∧ ∀ p, zs.getD p 0 = rot (fun p => ys.getD p 0) s m (m + 1) p) (by
      rintro k st ⟨i, zs, rfl, rfl, hi1, hi2, hp, hz⟩
      have hlen := hp.length_eq
      unfold G.slices_symMergeCmpFunc_int_v0_delta_sorted_1_l4
      by_cases hlt : s < k
      · left
        have e2 : IntKind.i64.wrap ((k : Int) - 1) = ((k - 1 : Nat) : Int) := by rw [w64 (by omega) (by omega)]; omega
        rw [if_pos (show ((k : Int), zs).1 > (s : Int) by simp; omega)]
        obtain ⟨x, hx⟩ := idx_some_of (l := zs.set k (zs.getD (k - 1) 0)) (i := ((k - 1 : Nat) : Int)) (k := k - 1) rfl (by simp; omega)
        simp only [e2, idx_getD (0 : Int) (show k - 1 < zs.length by omega), idx_getD (0 : Int) (show k < zs.length by omega), Option.bind_some, Int.toNat_natCast, hx]
        refine ⟨k - 1, _, rfl, by omega, k - 1, sw zs k (k - 1), rfl, rfl, by omega, by omega, (sw_perm (by omega) (by omega)).trans hp, fun p => ?_⟩
        rw [sw_get (by omega) (by omega), hz k, hz (k - 1), hz p]
        unfold rot
        repeat' split
        all_goals first | rfl | omega | (congr 1; omega)
      · right
        rw [if_neg (show ¬ ((k : Int), zs).1 > (s : Int) by simp; omega)]
        exact ⟨_, rfl, zs, rfl, hp, by rw [show s = k by omega]; exact hz⟩) _ _
    ⟨m, ys, rfl, rfl, h2, Nat.le_refl _, .refl _, fun p => by unfold rot; (repeat' split); all_goals (first | rfl | omega | (congr 1; omega))⟩
  refine ⟨zs, fun fx => ?_, (rot_pm hp hz).mono h1 (Nat.le_refl _), fun p q h5 h6 h7 => ?_⟩
  · unfold G.slices_symMergeCmpFunc_int_v0_delta_sorted_1_b
    rw [if_neg (by rw [w64 (by omega) (by omega)]; omega)]
    simp only [Option.bind_some, joinK_inl]
    rw [if_pos (by rw [w64 (by omega) (by omega)]; omega), hs1]
    simp only [Option.bind_some, hr, joinK_inr]
  · rw [rot_key hz, rot_key hz]
    by_cases c1 : p < s
    · rw [if_pos (.inl c1)]
      by_cases c2 : q < s
      · rw [if_pos (.inl c2)]; exact hs _ _ h5 h6 (by omega)
      · rw [if_neg (by omega)]
        by_cases c3 : q < s + (m + 1 - m)
        · rw [if_pos c3, show q + (m - s) = m by omega]
          have := h3 p h5 c1
          omega
        · rw [if_neg c3]; exact hs _ _ h5 (by omega) (by omega)
    · rw [if_neg (by omega), if_neg (show ¬ (q < s ∨ m + 1 ≤ q) by omega), if_neg (show ¬ q < s + (m + 1 - m) by omega)]
      by_cases c3 : p < s + (m + 1 - m)
      · rw [if_pos c3, show p + (m - s) = m by omega]
        have := h4 (q - (m + 1 - m)) (by omega) (by omega)
        omega
      · rw [if_neg c3]; exact hs _ _ (by omega) (by omega) (by omega)
theorem sym_3 {ys : List Int} {a m b : Nat} (hall : AllIx l ys) (ham : a + 1 < m) (hmb : m + 1 < b) (hbl : b ≤ ys.length) (hb : ys.length ≤ big) (hs1 : Srt l ys a m) (hs2 : Srt l ys m b) :
    ∃ (ws : List Int) (s e c : Nat), (∀ fx, G.slices_symMergeCmpFunc_int_v0_delta_sorted_1_b fx ys (a : Int) (m : Int) (b : Int) l =
        (if a < s ∧ s < c then fx (ws, (a : Int), (s : Int), (c : Int), l) else some ws).bind fun v => if c < e ∧ e < b then fx (v, (c : Int), (e : Int), (b : Int), l) else some v) ∧
      a < c ∧ c < b ∧ a ≤ s ∧ s ≤ c ∧ c ≤ e ∧ e ≤ b ∧ Pm ys ws a b ∧ Srt l ws a s ∧ Srt l ws s c ∧ Srt l ws c e ∧ Srt l ws e b ∧ ∀ p q, a ≤ p → p < c → c ≤ q → q < b → key l (ws.getD p 0) ≤ key l (ws.getD q 0) := by
  have hb' := hb
  rw [big_eq] at hb'
  obtain ⟨c, hc⟩ : ∃ c, c = (a + b) / 2 := ⟨_, rfl⟩
  have eN : IntKind.i64.wrap ((c : Int) + (m : Int)) = ((c + m : Nat) : Int) := by rw [w64 (by omega) (by omega)]; omega
  obtain ⟨lo, hi, hlo, hv3⟩ : ∃ lo hi : Nat, ((m ≤ c ∧ lo = a ∧ hi = m) ∨ (c < m ∧ lo = c + m - b ∧ hi = c)) ∧
      (if (m : Int) > (c : Int) then some ((IntKind.i64.wrap (((c + m : Nat) : Int) - (b : Int))), (c : Int)) else some ((a : Int), (m : Int))) = some ((lo : Int), (hi : Int)) := by
    by_cases h : c < m
    · refine ⟨c + m - b, c, .inr ⟨h, rfl, rfl⟩, ?_⟩
      rw [if_pos (by omega), w64 (by omega) (by omega)]
      rw [show ((c + m : Nat) : Int) - (b : Int) = ((c + m - b : Nat) : Int) by omega]
    · exact ⟨a, m, .inl ⟨by omega, rfl, rfl⟩, by rw [if_neg (by omega)]⟩
  obtain ⟨s, hsr, h1, h2, h3, h4⟩ := bsearch (f := G.slices_symMergeCmpFunc_int_v0_delta_sorted_1_l5 ys (a : Int) (m : Int) (b : Int) l) (fun p => ¬ key l (ys.getD (c + m - 1 - p) 0) < key l (ys.getD p 0)) lo hi (by omega)
    (fun i j hi1 hij hj => by
      obtain ⟨d, hd⟩ : ∃ d, d = (i + j) / 2 := ⟨_, rfl⟩
      obtain ⟨v, hv, hvl⟩ := cmp_of (l := l) (hall.get (p := c + m - 1 - d) (by omega)) (hall.get (p := d) (by omega))
      unfold G.slices_symMergeCmpFunc_int_v0_delta_sorted_1_l5
      rw [if_pos (show ((i : Int), (j : Int)).1 < ((i : Int), (j : Int)).2 by simp; omega)]
      simp only [mid2 (show i + j ≤ 9223372036854775807 by omega), mid2 (show a + b ≤ 9223372036854775807 by omega), ← hc, ← hd, eN]
      have e1 : IntKind.i64.wrap (IntKind.i64.wrap (((c + m : Nat) : Int) - 1) - (d : Int)) = ((c + m - 1 - d : Nat) : Int) := by rw [w64 (x := ((c + m : Nat) : Int) - 1) (by omega) (by omega), w64 (by omega) (by omega)]; omega
      rw [e1, idx_getD (0 : Int) (show c + m - 1 - d < ys.length by omega), idx_getD (0 : Int) (show d < ys.length by omega)]
      simp only [Option.bind_some, hv]
      by_cases hlt : v < 0
      · right
        rw [if_neg (by simpa using hlt)]
        exact ⟨fun h => h (hvl.1 hlt), rfl⟩
      · left
        rw [if_pos (by simpa using hlt), inc64 (n := 1125899906842625) (by omega) (by omega)]
        exact ⟨fun h => hlt (hvl.2 h), rfl⟩)
    (fun i => by unfold G.slices_symMergeCmpFunc_int_v0_delta_sorted_1_l5; rw [if_neg (by simp)])
    (fun p q hp hpq hq ht => by
      by_cases e : p = q
      · subst e; exact ht
      · have k1 := hs1 p q (by omega) (by omega) (by omega)
        have k2 := hs2 (c + m - 1 - q) (c + m - 1 - p) (by omega) (by omega) (by omega)
        omega)
  obtain ⟨e, he⟩ : ∃ e, e = c + m - s := ⟨_, rfl⟩
  have eE : IntKind.i64.wrap (((c + m : Nat) : Int) - (s : Int)) = (e : Int) := by rw [w64 (by omega) (by omega)]; omega
  obtain ⟨ws, hw, hp, hz⟩ : ∃ ws : List Int, ((if (s : Int) < (m : Int) then some (decide ((m : Int) < (e : Int))) else some false).bind fun v5 =>
      if v5 = true then (G.slices_rotateCmpFunc_int_v0_delta_sorted_1 ys (s : Int) (m : Int) (e : Int) l).bind fun y3 => some y3 else some ys) = some ws ∧ ws.Perm ys ∧ ∀ p, ws.getD p 0 = rot (fun p => ys.getD p 0) s m e p := by
    by_cases hsm : s < m
    · rw [if_pos (by omega)]
      by_cases hme : m < e
      · obtain ⟨ws, h5, h6, h7⟩ := rotate_of (l := l) (a := s) (m := m) (b := e) (ys := ys) hsm hme (by omega) hb
        simp only [Option.bind_some, show ((m : Int) < (e : Int)) = True by simp; omega, decide_true, if_true, h5]
        exact ⟨ws, rfl, h6, h7⟩
      · simp only [Option.bind_some, show ((m : Int) < (e : Int)) = False by simp; omega, decide_false, Bool.false_eq_true, if_false]
        refine ⟨ys, rfl, .refl _, fun p => ?_⟩
        unfold rot
        repeat' split
        all_goals first | rfl | omega | (congr 1; omega)
    · rw [if_neg (by omega)]
      refine ⟨ys, rfl, .refl _, fun p => ?_⟩
      unfold rot
      repeat' split
      all_goals first | rfl | omega | (congr 1; omega)
  refine ⟨ws, s, e, c, fun fx => ?_, by omega, by omega, by omega, by omega, by omega, by omega, (rot_pm hp hz).mono (by omega) (by omega), ?_, ?_, ?_, ?_, ?_⟩
  · unfold G.slices_symMergeCmpFunc_int_v0_delta_sorted_1_b
    rw [if_neg (by rw [w64 (by omega) (by omega)]; omega)]
    simp only [Option.bind_some, joinK_inl]
    rw [if_neg (by rw [w64 (by omega) (by omega)]; omega)]
    simp only [Option.bind_some, joinK_inl, mid2 (show a + b ≤ 9223372036854775807 by omega), ← hc, eN, hv3, hsr, eE]
    rw [← Option.bind_assoc, hw]
    simp only [Option.bind_some]
    have k1 : (if (a : Int) < (s : Int) then some (decide ((s : Int) < (c : Int))) else some false) = some (decide (a < s ∧ s < c)) := by
      by_cases h5 : a < s
      · rw [if_pos (by omega)]; congr 1; simp only [decide_eq_decide]; omega
      · rw [if_neg (by omega)]; congr 1; simp; omega
    have k2 : (if (c : Int) < (e : Int) then some (decide ((e : Int) < (b : Int))) else some false) = some (decide (c < e ∧ e < b)) := by
      by_cases h5 : c < e
      · rw [if_pos (by omega)]; congr 1; simp only [decide_eq_decide]; omega
      · rw [if_neg (by omega)]; congr 1; simp; omega
    simp only [k1, k2, Option.bind_some, decide_eq_true_eq, bind_id]
  · exact fun p q h5 h6 h7 => by rw [rot_key hz, rot_key hz, if_pos (.inl (by omega)), if_pos (.inl h7)]; exact hs1 p q h5 h6 (by omega)
  · exact fun p q h5 h6 h7 => by
      rw [rot_key hz, rot_key hz, if_neg (by omega), if_neg (show ¬ (q < s ∨ e ≤ q) by omega), if_pos (by omega), if_pos (by omega)]; exact hs2 _ _ (by omega) (by omega) (by omega)
  · exact fun p q h5 h6 h7 => by
      rw [rot_key hz, rot_key hz, if_neg (by omega), if_neg (show ¬ (q < s ∨ e ≤ q) by omega), if_neg (by omega), if_neg (by omega)]; exact hs1 _ _ (by omega) (by omega) (by omega)
  · exact fun p q h5 h6 h7 => by rw [rot_key hz, rot_key hz, if_pos (.inr h5), if_pos (.inr (by omega))]; exact hs2 p q (by omega) h6 h7
  · intro p q h5 h6 h7 h8
    rw [rot_key hz, rot_key hz]
    by_cases c1 : p < s
    · rw [if_pos (.inl c1)]
      by_cases c2 : q < e
      · rw [if_neg (by omega), if_neg (by omega)]; exact hs1 _ _ h5 (by omega) (by omega)
      · rw [if_pos (.inr (by omega))]
        have k1 := h3 (s - 1) (by omega) (by omega)
        rw [show c + m - 1 - (s - 1) = e by omega] at k1
        have k2 : key l (ys.getD p 0) ≤ key l (ys.getD (s - 1) 0) := by
          by_cases ee : p = s - 1
          · rw [ee]; exact Int.le_refl _
          · exact hs1 _ _ h5 (by omega) (by omega)
        have k3 : key l (ys.getD e 0) ≤ key l (ys.getD q 0) := by
          by_cases ee : e = q
          · rw [ee]; exact Int.le_refl _
          · exact hs2 _ _ (by omega) (by omega) h8
        omega
    · rw [if_neg (by omega), if_pos (by omega)]
      by_cases c2 : q < e
      · rw [if_neg (by omega), if_neg (by omega)]
        have k1 := h4 s (Nat.le_refl _) (by omega)
        rw [show c + m - 1 - s = e - 1 by omega] at k1
        have k2 : key l (ys.getD (p + (m - s)) 0) ≤ key l (ys.getD (e - 1) 0) := by
          by_cases ee : p + (m - s) = e - 1
          · rw [ee]; exact Int.le_refl _
          · exact hs2 _ _ (by omega) (by omega) (by omega)
        have k3 : key l (ys.getD s 0) ≤ key l (ys.getD (q - (e - m)) 0) := by
          by_cases ee : s = q - (e - m)
          · rw [← ee]; exact Int.le_refl _
          · exact hs1 _ _ (by omega) (by omega) (by omega)
        omega
      · rw [if_pos (.inr (by omega))]; exact hs2 _ _ (by omega) (by omega) h8
theorem Srt.join {zs : List Int} {a c b : Nat} (h1 : Srt l zs a c) (h2 : Srt l zs c b) (h3 : ∀ p q, a ≤ p → p < c → c ≤ q → q < b → key l (zs.getD p 0) ≤ key l (zs.getD q 0)) : Srt l zs a b := fun p q h4 h5 h6 => by
  by_cases hq : q < c
  · exact h1 p q h4 h5 hq
  · by_cases hp : p < c
    · exact h3 p q h4 hp (by omega) h6
    · exact h2 p q (by omega) h5 h6
theorem Pm.any {xs zs : List Int} {lo hi : Nat} (h : Pm xs zs lo hi) (hl : hi ≤ xs.length) {p : Nat} (h1 : lo ≤ p) (h2 : p < hi) : ∃ q, lo ≤ q ∧ q < hi ∧ zs.getD p 0 = xs.getD q 0 := by
  have hlen := h.len
  have split : ∀ ws : List Int, ws.length = xs.length → ws = ws.take lo ++ ((ws.drop lo).take (hi - lo) ++ ws.drop hi) := fun ws hw => by
    have := List.take_append_drop (hi - lo) (ws.drop lo)
    rw [List.drop_drop, show lo + (hi - lo) = hi by omega] at this
    rw [this, List.take_append_drop]
  have e1 : zs.take lo = xs.take lo := List.ext_getElem? fun i => by
    simp only [List.getElem?_take]
    split
    · have := h.out i (.inl (by assumption))
      simp only [List.getD_eq_getElem?_getD] at this
      rw [List.getElem?_eq_getElem (by omega), List.getElem?_eq_getElem (by omega)] at this ⊢
      simpa using this
    · rfl
  have e2 : zs.drop hi = xs.drop hi := List.ext_getElem? fun i => by
    simp only [List.getElem?_drop]
    have := h.out (hi + i) (.inr (by omega))
    simp only [List.getD_eq_getElem?_getD] at this
    by_cases hi' : hi + i < xs.length
    · rw [List.getElem?_eq_getElem (by omega), List.getElem?_eq_getElem hi'] at this ⊢
      simpa using this
    · rw [List.getElem?_eq_none (by omega), List.getElem?_eq_none (by omega)]
  have hp := h.perm
  rw [split zs hlen, split xs rfl, e1, e2] at hp
  have hm := (List.perm_append_right_iff _).1 ((List.perm_append_left_iff _).1 hp)
  have hmem : zs.getD p 0 ∈ (zs.drop lo).take (hi - lo) := by
    have : zs.getD p 0 = zs[p] := by simp [show p < zs.length by omega]
    rw [this]
    refine List.mem_iff_getElem?.2 ⟨p - lo, ?_⟩
    rw [List.getElem?_take, if_pos (by omega), List.getElem?_drop, show lo + (p - lo) = p by omega, List.getElem?_eq_getElem (by omega)]
  obtain ⟨i, hi'⟩ := List.mem_iff_getElem?.1 (hm.mem_iff.1 hmem)
  rw [List.getElem?_take] at hi'
  split at hi'
  · rw [List.getElem?_drop] at hi'
    refine ⟨lo + i, by omega, by omega, ?_⟩
    rw [List.getD_eq_getElem?_getD (l := xs), hi']; rfl
  · cases hi'
theorem sym_of {ys : List Int} {a m b : Nat} (hall : AllIx l ys) (ham : a < m) (hmb : m < b) (hbl : b ≤ ys.length) (hb : ys.length ≤ big) (hs1 : Srt l ys a m) (hs2 : Srt l ys m b) :
    ∃ zs, G.slices_symMergeCmpFunc_int_v0_delta_sorted_1 ys (a : Int) (m : Int) (b : Int) l = some zs ∧ Pm ys zs a b ∧ Srt l zs a b := by
  unfold G.slices_symMergeCmpFunc_int_v0_delta_sorted_1
  obtain ⟨r, hr, a', b', ha', hb2, hp, hs⟩ := Fix_total (F := G.slices_symMergeCmpFunc_int_v0_delta_sorted_1_F)
    (fun k x => ∃ (ys : List Int) (a m b : Nat), x = (ys, (a : Int), (m : Int), (b : Int), l) ∧ k = b - a ∧ a < m ∧ m < b ∧ b ≤ ys.length ∧ ys.length ≤ big ∧ AllIx l ys ∧ Srt l ys a m ∧ Srt l ys m b)
    (fun x r => ∃ a b : Nat, x.2.1 = (a : Int) ∧ x.2.2.2.1 = (b : Int) ∧ Pm x.1 r a b ∧ Srt l r a b) (by
    rintro k x ⟨ys, a, m, b, rfl, rfl, ham, hmb, hbl, hb, hall, hs1, hs2⟩ f g hfg
    unfold G.slices_symMergeCmpFunc_int_v0_delta_sorted_1_F
    by_cases c1 : m = a + 1
    · subst c1
      obtain ⟨zs, h1, h2, h3⟩ := sym_1 hall hmb hbl hb hs2
      exact ⟨zs, h1 f, h1 g, a, b, rfl, rfl, h2, h3⟩
    · by_cases c2 : b = m + 1
      · subst c2
        obtain ⟨zs, h1, h2, h3⟩ := sym_2 hall (by omega) hbl hb hs1
        exact ⟨zs, h1 f, h1 g, a, m + 1, rfl, rfl, h2, h3⟩
      · obtain ⟨ws, s, e, c, h1, k1, k2, k3, k4, k5, k6, hp, t1, t2, t3, t4, hx⟩ := sym_3 hall (by omega) (by omega) hbl hb hs1 hs2
        have hlen := hp.len
        simp only [h1]
        obtain ⟨us, hf, hg, hpu, hsu⟩ : ∃ us, (if a < s ∧ s < c then f (ws, (a : Int), (s : Int), (c : Int), l) else some ws) = some us ∧ (if a < s ∧ s < c then g (ws, (a : Int), (s : Int), (c : Int), l) else some ws) = some us ∧ Pm ws us a c ∧ Srt l us a c := by
          by_cases h2 : a < s ∧ s < c
          · obtain ⟨r, hr1, hr2, a', b', q1, q2, q3, q4⟩ := hfg (c - a) (ws, (a : Int), (s : Int), (c : Int), l) (by omega) ⟨ws, a, s, c, rfl, rfl, h2.1, h2.2, by omega, by omega, hp.all hall, t1, t2⟩
            simp only at q1 q2 q3
            have e1 : a' = a := by omega
            have e2 : b' = c := by omega
            subst e1 e2
            exact ⟨r, by rw [if_pos h2]; exact hr1, by rw [if_pos h2]; exact hr2, q3, q4⟩
          · refine ⟨ws, by rw [if_neg h2], by rw [if_neg h2], Pm.refl _ _ _, ?_⟩
            by_cases h3 : s = a
            · rw [h3] at t2; exact t2
            · rw [show c = s by omega]; exact t1
        have hlu := hpu.len
        obtain ⟨vs, hf2, hg2, hpv, hsv⟩ : ∃ vs, (if c < e ∧ e < b then f (us, (c : Int), (e : Int), (b : Int), l) else some us) = some vs ∧ (if c < e ∧ e < b then g (us, (c : Int), (e : Int), (b : Int), l) else some us) = some vs ∧ Pm us vs c b ∧ Srt l vs c b := by
          by_cases h2 : c < e ∧ e < b
          · obtain ⟨r, hr1, hr2, a', b', q1, q2, q3, q4⟩ := hfg (b - c) (us, (c : Int), (e : Int), (b : Int), l) (by omega) ⟨us, c, e, b, rfl, rfl, h2.1, h2.2, by omega, by omega, hpu.all (hp.all hall), t3.of_out hpu (.inr (Nat.le_refl _)), t4.of_out hpu (.inr (by omega))⟩
            simp only at q1 q2 q3
            have e1 : a' = c := by omega
            have e2 : b' = b := by omega
            subst e1 e2
            exact ⟨r, by rw [if_pos h2]; exact hr1, by rw [if_pos h2]; exact hr2, q3, q4⟩
          · refine ⟨us, by rw [if_neg h2], by rw [if_neg h2], Pm.refl _ _ _, ?_⟩
            by_cases h3 : e = c
            · rw [h3] at t4; exact t4.of_out hpu (.inr (Nat.le_refl _))
            · rw [show b = e by omega]; exact t3.of_out hpu (.inr (Nat.le_refl _))
        refine ⟨vs, by rw [hf]; exact hf2, by rw [hg]; exact hg2, a, b, rfl, rfl, (hp.trans (hpu.mono (Nat.le_refl _) (by omega))).trans (hpv.mono (by omega) (Nat.le_refl _)), (hsu.of_out hpv (.inl (Nat.le_refl _))).join hsv fun p q h2 h3 h4 h5 => ?_⟩
        rw [hpv.out p (.inl h3)]
        obtain ⟨p', hp1, hp2, e1⟩ := hpu.any (by omega) h2 h3
        obtain ⟨q', hq1, hq2, e2⟩ := hpv.any (by omega) h4 h5
        rw [e1, e2, hpu.out q' (.inr hq1)]
        exact hx p' q' hp1 hp2 hq1 hq2) (k := b - a) (x := (ys, (a : Int), (m : Int), (b : Int), l)) ⟨ys, a, m, b, rfl, rfl, ham, hmb, hbl, hb, hall, hs1, hs2⟩
  simp only at ha' hb2 hp
  have e1 : a' = a := by omega
  have e2 : b' = b := by omega
  subst e1 e2
  exact ⟨r, hr, hp, hs⟩
end
end G
end Go.Proofs.Ythnhjibbkleneaa
namespace Go.Proofs.Ythnhjibbkleneaa
open G
namespace G
section
variable {l : List G.Command}
def Blk (l : List G.Command) (zs : List Int) (s lo n : Nat) : Prop := ∀ k, Srt l zs (lo + k * s) (min (lo + k * s + s) n)
theorem Blk.next {zs : List Int} {s lo n : Nat} (h : Blk l zs s lo n) (j : Nat) : Blk l zs s (lo + j * s) n := fun k => by
  have := h (j + k)
  rw [Nat.add_mul] at this
  rwa [show lo + j * s + k * s = lo + (j * s + k * s) by omega]
theorem Blk.of_out {xs ys : List Int} {s lo n a b : Nat} (h : Blk l xs s lo n) (hp : Pm xs ys a b) (hb : b ≤ lo) : Blk l ys s lo n := fun k => (h k).of_out hp (.inr (by omega))
theorem Blk.first {zs : List Int} {s lo n : Nat} (h : Blk l zs s lo n) : Srt l zs lo (min (lo + s) n) := by have := h 0; simpa using this
theorem Blk.second {zs : List Int} {s lo n : Nat} (h : Blk l zs s lo n) : Srt l zs (lo + s) (min (lo + s + s) n) := by have := h 1; simpa using this
def Upto (l : List G.Command) (zs : List Int) (s hi : Nat) : Prop := ∀ k, k * s + s ≤ hi → Srt l zs (k * s) (k * s + s)
theorem Upto.of_out {xs ys : List Int} {s hi a b : Nat} (h : Upto l xs s hi) (hp : Pm xs ys a b) (ha : hi ≤ a) : Upto l ys s hi := fun k hk => (h k hk).of_out hp (.inl (by omega))
theorem merge_round {n s : Nat} {ys : List Int} {w : Int × List Int} (hw : w.1 = (s : Int)) (hall : AllIx l ys) (hn : n = ys.length) (hb : ys.length ≤ big) (hs : 0 < s) (hsn : s < n) (hB : Blk l ys s 0 n) :
    ∃ (a : Nat) (zs : List Int), Iter (G.slices_stableCmpFunc_int_v0_delta_sorted_1_l3 (n : Int) l w) (0, IntKind.i64.wrap (2 * w.1), ys) = some ((a : Int), zs) ∧ Pm ys zs 0 n ∧ (∃ t, a = t * (2 * s)) ∧ a ≤ n ∧ n < a + 2 * s ∧ Upto l zs (2 * s) a ∧ Blk l zs s a n := by
  have hb' := hb
  rw [big_eq] at hb'
  have e2 : IntKind.i64.wrap (2 * w.1) = ((2 * s : Nat) : Int) := by rw [hw, w64 (by omega) (by omega)]; omega
  obtain ⟨r, hr, a, zs, rfl, h⟩ := Iter_total (f := G.slices_stableCmpFunc_int_v0_delta_sorted_1_l3 (n : Int) l w)
    (fun k st => ∃ (a : Nat) (zs : List Int), st = ((a : Int), ((a + 2 * s : Nat) : Int), zs) ∧ k = n - a ∧ Pm ys zs 0 n ∧ (∃ t, a = t * (2 * s)) ∧ a ≤ n ∧ Upto l zs (2 * s) a ∧ Blk l zs s a n)
    (fun r => ∃ (a : Nat) (zs : List Int), r = ((a : Int), zs) ∧ Pm ys zs 0 n ∧ (∃ t, a = t * (2 * s)) ∧ a ≤ n ∧ n < a + 2 * s ∧ Upto l zs (2 * s) a ∧ Blk l zs s a n) (by
      rintro k st ⟨a, zs, rfl, rfl, hp, ⟨t, ht⟩, ha, hu, hbk⟩
      have hlen := hp.len
      unfold G.slices_stableCmpFunc_int_v0_delta_sorted_1_l3
      by_cases hlt : a + 2 * s ≤ n
      · left
        rw [if_pos (show ((a : Int), ((a + 2 * s : Nat) : Int), zs).2.1 ≤ (n : Int) by simp; omega)]
        have e3 : IntKind.i64.wrap ((a : Int) + w.1) = ((a + s : Nat) : Int) := by rw [hw, w64 (by omega) (by omega)]; omega
        have e4 : IntKind.i64.wrap (((a + 2 * s : Nat) : Int) + IntKind.i64.wrap (2 * w.1)) = ((a + 2 * s + 2 * s : Nat) : Int) := by rw [e2, w64 (by omega) (by omega)]; omega
        have f1 := hbk.first
        have f2 := hbk.second
        rw [show min (a + s) n = a + s by omega] at f1
        rw [show min (a + s + s) n = a + 2 * s by omega] at f2
        obtain ⟨ws, h1, h2, h3⟩ := sym_of (l := l) (ys := zs) (a := a) (m := a + s) (b := a + 2 * s) (hp.all hall) (by omega) (by omega) (by omega) (by omega) f1 f2
        simp only [e3, h1, Option.bind_some, e4]
        refine ⟨n - (a + 2 * s), _, rfl, by omega, a + 2 * s, ws, rfl, rfl, hp.trans (h2.mono (Nat.zero_le _) hlt), ⟨t + 1, by rw [Nat.add_mul]; omega⟩, hlt, fun k hk => ?_, ?_⟩
        · by_cases hk2 : k * (2 * s) + 2 * s ≤ a
          · exact (hu.of_out h2 (Nat.le_refl _)) k hk2
          · have : k = t := by
              rcases Nat.lt_trichotomy k t with h | h | h
              · have h' := Nat.mul_le_mul_right (2 * s) (show k + 1 ≤ t from h)
                rw [Nat.add_mul] at h'
                omega
              · exact h
              · have h' := Nat.mul_le_mul_right (2 * s) (show t + 1 ≤ k from h)
                rw [Nat.add_mul] at h'
                omega
            subst this
            rw [← ht]; exact h3
        · have := (hbk.next 2).of_out h2 (by omega)
          exact this
      · right
        rw [if_neg (show ¬ ((a : Int), ((a + 2 * s : Nat) : Int), zs).2.1 ≤ (n : Int) by simp; omega)]
        exact ⟨_, rfl, a, zs, rfl, hp, ⟨t, ht⟩, ha, by omega, hu, hbk⟩) n (0, IntKind.i64.wrap (2 * w.1), ys)
    ⟨0, ys, by rw [e2]; simp, rfl, Pm.refl _ _ _, ⟨0, by simp⟩, Nat.zero_le _, fun k hk => by omega, hB⟩
  exact ⟨a, zs, hr, h⟩
theorem blk_of {zs : List Int} {s a n : Nat} (hs : 0 < s) (ht : ∃ t, a = t * s) (hu : Upto l zs s a) (hl : Srt l zs a (min (a + s) n)) (hn : n ≤ a + s) : Blk l zs s 0 n := by
  obtain ⟨t, rfl⟩ := ht
  intro k
  rw [Nat.zero_add]
  by_cases h1 : k < t
  · have : (k + 1) * s ≤ t * s := Nat.mul_le_mul_right s h1
    rw [Nat.add_mul] at this
    have h2 := hu k (by omega)
    exact fun p q h3 h4 h5 => h2 p q h3 h4 (by omega)
  · by_cases h2 : k = t
    · subst h2; exact hl
    · have : (t + 1) * s ≤ k * s := Nat.mul_le_mul_right s (by omega)
      rw [Nat.add_mul] at this
      exact fun p q h3 h4 h5 => by omega
theorem insert_round {n : Nat} {ys : List Int} (hall : AllIx l ys) (hn : n = ys.length) (hb : ys.length ≤ big) :
    ∃ (a : Nat) (zs : List Int), Iter (G.slices_stableCmpFunc_int_v0_delta_sorted_1_l1 (n : Int) l) (0, 20, ys) = some ((a : Int), zs) ∧ Pm ys zs 0 n ∧ (∃ t, a = t * 20) ∧ a ≤ n ∧ n < a + 20 ∧ Upto l zs 20 a := by
  have hb' := hb
  rw [big_eq] at hb'
  obtain ⟨r, hr, a, zs, rfl, h⟩ := Iter_total (f := G.slices_stableCmpFunc_int_v0_delta_sorted_1_l1 (n : Int) l)
    (fun k st => ∃ (a : Nat) (zs : List Int), st = ((a : Int), ((a + 20 : Nat) : Int), zs) ∧ k = n - a ∧ Pm ys zs 0 n ∧ (∃ t, a = t * 20) ∧ a ≤ n ∧ Upto l zs 20 a)
    (fun r => ∃ (a : Nat) (zs : List Int), r = ((a : Int), zs) ∧ Pm ys zs 0 n ∧ (∃ t, a = t * 20) ∧ a ≤ n ∧ n < a + 20 ∧ Upto l zs 20 a) (by
      rintro k st ⟨a, zs, rfl, rfl, hp, ⟨t, ht⟩, ha, hu⟩
      have hlen := hp.len
      unfold G.slices_stableCmpFunc_int_v0_delta_sorted_1_l1
      by_cases hlt : a + 20 ≤ n
      · left
        rw [if_pos (show ((a : Int), ((a + 20 : Nat) : Int), zs).2.1 ≤ (n : Int) by simp; omega)]
        have e4 : IntKind.i64.wrap (((a + 20 : Nat) : Int) + 20) = ((a + 20 + 20 : Nat) : Int) := by rw [w64 (by omega) (by omega)]; omega
        obtain ⟨ws, h1, h2, h3⟩ := insertion_of (l := l) (ys := zs) (a := a) (b := a + 20) (hp.all hall) (by omega) (by omega) (by omega)
        simp only [h1, Option.bind_some, e4]
        refine ⟨n - (a + 20), _, rfl, by omega, a + 20, ws, rfl, rfl, hp.trans (h2.mono (Nat.zero_le _) hlt), ⟨t + 1, by omega⟩, hlt, fun k hk => ?_⟩
        by_cases hk2 : k * 20 + 20 ≤ a
        · exact (hu.of_out h2 (Nat.le_refl _)) k hk2
        · have : k = t := by omega
          subst this
          rw [← ht]; exact h3
      · right
        rw [if_neg (show ¬ ((a : Int), ((a + 20 : Nat) : Int), zs).2.1 ≤ (n : Int) by simp; omega)]
        exact ⟨_, rfl, a, zs, rfl, hp, ⟨t, ht⟩, ha, by omega, hu⟩) n (0, 20, ys)
    ⟨0, ys, rfl, rfl, Pm.refl _ _ _, ⟨0, rfl⟩, Nat.zero_le _, fun k hk => by omega⟩
  exact ⟨a, zs, hr, h⟩
theorem stable_of {ys : List Int} (hall : AllIx l ys) (hb : ys.length ≤ big) : ∃ zs, G.slices_SortStableFunc_int_int_v0_delta_sorted_1 ys l = some zs ∧ zs.Perm ys ∧ Srt l zs 0 ys.length := by
  have hb' := hb
  rw [big_eq] at hb'
  obtain ⟨n, hn⟩ : ∃ n, n = ys.length := ⟨_, rfl⟩
  unfold G.slices_SortStableFunc_int_int_v0_delta_sorted_1 G.slices_stableCmpFunc_int_v0_delta_sorted_1
  rw [← hn]
  obtain ⟨a, zs, h1, hp, ht, ha1, ha2, hu⟩ := insert_round hall hn hb
  have hlen := hp.len
  obtain ⟨ws, h2, hp2, hs2⟩ := insertion_of (l := l) (ys := zs) (a := a) (b := n) (hp.all hall) ha1 (by omega) (by omega)
  have hB : Blk l ws 20 0 n := blk_of (by omega) ht (hu.of_out hp2 (Nat.le_refl _)) (by rw [show min (a + 20) n = n by omega]; exact hs2) (by omega)
  rw [h1]
  simp only [Option.bind_some, h2, bind_id]
  obtain ⟨r, hr, h3, h4⟩ := Iter_total (f := G.slices_stableCmpFunc_int_v0_delta_sorted_1_l2 (n : Int) l)
    (fun k st => ∃ (s : Nat) (zs : List Int), st = ((s : Int), zs) ∧ k = n + 20 - s ∧ 20 ≤ s ∧ s ≤ 2 * n + 20 ∧ Pm ys zs 0 n ∧ Blk l zs s 0 n)
    (fun zs => Pm ys zs 0 n ∧ Srt l zs 0 n) (by
      rintro k st ⟨s, zs, rfl, rfl, h5, h6, hp, hB⟩
      have hlen := hp.len
      unfold G.slices_stableCmpFunc_int_v0_delta_sorted_1_l2
      by_cases hlt : s < n
      · left
        rw [if_pos (show ((s : Int), zs).1 < (n : Int) by simp; omega)]
        obtain ⟨a, us, q1, q2, ⟨t, q3⟩, q4, q5, q6, q7⟩ := merge_round (l := l) (n := n) (s := s) (ys := zs) (w := ((s : Int), zs)) rfl (hp.all hall) (by omega) (by omega) (by omega) hlt hB
        have hl2 := q2.len
        have e1 : IntKind.i64.wrap ((a : Int) + (s : Int)) = ((a + s : Nat) : Int) := by rw [w64 (by omega) (by omega)]; omega
        have e2 : IntKind.i64.wrap ((s : Int) * 2) = ((2 * s : Nat) : Int) := by rw [w64 (by omega) (by omega)]; omega
        have f1 := q7.first
        have f2 := q7.second
        simp only [q1, Option.bind_some, e1, e2]
        by_cases hm : a + s < n
        · rw [if_pos (by omega)]
          rw [show min (a + s) n = a + s by omega] at f1
          rw [show min (a + s + s) n = n by omega] at f2
          obtain ⟨vs, g1, g2, g3⟩ := sym_of (l := l) (ys := us) (a := a) (m := a + s) (b := n) (q2.all (hp.all hall)) (by omega) hm (by omega) (by omega) f1 f2
          simp only [g1, Option.bind_some]
          exact ⟨n + 20 - 2 * s, _, rfl, by omega, 2 * s, vs, rfl, rfl, by omega, by omega, (hp.trans q2).trans (g2.mono (Nat.zero_le _) (Nat.le_refl _)), blk_of (by omega) ⟨t, q3⟩ (q6.of_out g2 (Nat.le_refl _)) (by rw [show min (a + 2 * s) n = n by omega]; exact g3) (by omega)⟩
        · rw [if_neg (by omega)]
          rw [show min (a + s) n = n by omega] at f1
          exact ⟨n + 20 - 2 * s, _, rfl, by omega, 2 * s, us, rfl, rfl, by omega, by omega, hp.trans q2, blk_of (by omega) ⟨t, q3⟩ q6 (by rw [show min (a + 2 * s) n = n by omega]; exact f1) (by omega)⟩
      · right
        rw [if_neg (show ¬ ((s : Int), zs).1 < (n : Int) by simp; omega)]
        have := hB.first
        rw [show min (0 + s) n = n by omega] at this
        exact ⟨_, rfl, hp, this⟩) n (20, ws)
    ⟨20, ws, rfl, by omega, by omega, by omega, hp.trans (hp2.mono (Nat.zero_le _) (Nat.le_refl _)), hB⟩
  exact ⟨r, hr, h3.perm, h4⟩
def ixs (n : Nat) : List Int := (List.range n).map fun k : Nat => (k : Int)
theorem ixs_all (l : List G.Command) : AllIx l (ixs l.length) := fun x hx => by
  obtain ⟨k, hk, rfl⟩ := List.mem_map.1 hx
  have := List.mem_range.1 hk
  exact ⟨by omega, by omega⟩
theorem sorted_of (h : l.length ≤ 17592186044416) : ∃ ord, G.delta_sorted l = some (l, ord) ∧ ord.Perm (ixs l.length) ∧ Srt l ord 0 l.length := by
  unfold G.delta_sorted
  rw [chk_of (by omega)]
  have h1 : Iter (G.delta_sorted_l1 l) (0, List.replicate l.length 0) = some (ixs l.length) := by
    refine Iter_count l.length (fun k => ((k : Int), (ixs k) ++ List.replicate (l.length - k) 0)) _ (fun k hk => ?_) ?_ (by simp [ixs])
    · unfold G.delta_sorted_l1
      rw [if_pos (by simp; omega)]
      obtain ⟨x, hx⟩ := idx_some_of (l := ixs k ++ List.replicate (l.length - k) (0 : Int)) (i := (k : Int)) (k := k) rfl (by simp [ixs]; omega)
      simp only [hx, Option.bind_some, inc64 hk (by omega), Int.toNat_natCast]
      congr 3
      rw [show ixs (k + 1) = ixs k ++ [(k : Int)] by simp [ixs, List.range_succ], List.set_append_right _ _ (by simp [ixs])]
      rw [show l.length - k = (l.length - (k + 1)) + 1 by omega, List.replicate_succ]
      simp [ixs]
    · unfold G.delta_sorted_l1
      rw [if_neg (by simp)]
      simp
  rw [Int.toNat_natCast, h1]
  simp only [Option.bind_some]
  have hl : (ixs l.length).length = l.length := by simp [ixs]
  obtain ⟨zs, h2, h3, h4⟩ := stable_of (l := l) (ixs_all l) (by rw [hl, big_eq]; omega)
  have hz := h3.length_eq
  rw [h2]
  simp only [Option.bind_some]
  exact ⟨zs, rfl, h3, by rw [hl] at h4; exact h4⟩
end
end G
end Go.Proofs.Ythnhjibbkleneaa
namespace Go.Proofs.Ythnhjibbkleneaa
open G
namespace G
def Cov (l : List G.Command) (o : Int) : Prop := ∃ c ∈ l, c.to ≤ o ∧ o < tend c
def Meets (l : List G.Command) : Prop := ∃ i j, i < l.length ∧ j < l.length ∧ i ≠ j ∧ ov (cat l i) (cat l j) = true
structure IsEnd (l : List G.Command) (t : Int) : Prop where
  pos : 0 ≤ t
  cov : ∀ o, 0 ≤ o → o < t → Cov l o
  not : ¬ Cov l t
  cand : t = 0 ∨ ∃ c ∈ l, t = tend c
theorem cat_mem {l : List G.Command} {i : Nat} (h : i < l.length) : cat l i ∈ l := by
  have : cat l i = l[i] := by simp [cat, h]
  rw [this]; exact List.getElem_mem h
theorem mem_cat {l : List G.Command} {c : G.Command} (h : c ∈ l) : ∃ i, i < l.length ∧ cat l i = c := by
  obtain ⟨i, hi, e⟩ := List.getElem_of_mem h
  exact ⟨i, hi, by rw [cat_getElem hi, e]⟩
structure Ord (l : List G.Command) (ord : List Int) : Prop where
  perm : ord.Perm (ixs l.length)
  srt : Srt l ord 0 l.length
section
variable {l : List G.Command} {ord : List Int}
theorem Ord.len (h : Ord l ord) : ord.length = l.length := by rw [h.perm.length_eq]; simp [ixs]
def at' (l : List G.Command) (ord : List Int) (k : Nat) : G.Command := cat l (ord.getD k 0).toNat
theorem Ord.ix (h : Ord l ord) {k : Nat} (hk : k < l.length) : Ix l (ord.getD k 0) := by
  have hl := h.len
  refine AllIx.get (l := l) (fun x hx => ?_) (by omega)
  exact ixs_all l x (h.perm.mem_iff.1 hx)
theorem Ord.le (h : Ord l ord) {p q : Nat} (hpq : p ≤ q) (hq : q < l.length) : (at' l ord p).to ≤ (at' l ord q).to := by
  by_cases e : p = q
  · subst e; exact Int.le_refl _
  · exact h.srt p q (Nat.zero_le _) (by omega) hq
theorem Ord.inj (h : Ord l ord) {p q : Nat} (hp : p < l.length) (hq : q < l.length) (e : (ord.getD p 0).toNat = (ord.getD q 0).toNat) : p = q := by
  have hl := h.len
  have hn : ord.Nodup := by
    rw [h.perm.nodup_iff]
    show List.Pairwise _ _
    unfold ixs
    rw [List.pairwise_map]
    exact List.Pairwise.imp (fun h k => h (by omega)) (List.nodup_range (n := l.length))
  have i1 := (h.ix hp).1
  have i2 := (h.ix hq).1
  have e' : ord.getD p 0 = ord.getD q 0 := by omega
  have e1 : ord.getD p 0 = ord[p] := by simp [show p < ord.length by omega]
  have e2 : ord.getD q 0 = ord[q] := by simp [show q < ord.length by omega]
  rw [e1, e2] at e'
  have hpw := List.pairwise_iff_getElem.1 (show List.Pairwise (· ≠ ·) ord from hn)
  rcases Nat.lt_trichotomy p q with k | k | k
  · exact absurd e' (hpw p q _ _ k)
  · exact k
  · exact absurd e'.symm (hpw q p _ _ k)
theorem Ord.surj (h : Ord l ord) {i : Nat} (hi : i < l.length) : ∃ k, k < l.length ∧ (ord.getD k 0).toNat = i := by
  have hl := h.len
  have hm : (i : Int) ∈ ord := h.perm.mem_iff.2 (List.mem_map.2 ⟨i, List.mem_range.2 hi, rfl⟩)
  obtain ⟨k, hk, e⟩ := List.getElem_of_mem hm
  exact ⟨k, by omega, by simp [hk, e]⟩
theorem Ord.mem (h : Ord l ord) {k : Nat} (hk : k < l.length) : at' l ord k ∈ l := by
  have := h.ix hk
  obtain ⟨h1, h2⟩ := this
  exact cat_mem (by omega)
theorem Ord.any (h : Ord l ord) {c : G.Command} (hc : c ∈ l) : ∃ k, k < l.length ∧ at' l ord k = c := by
  obtain ⟨i, hi, e⟩ := mem_cat hc
  obtain ⟨k, hk, e'⟩ := h.surj hi
  exact ⟨k, hk, by unfold at'; rw [e', e]⟩
structure Chain (l : List G.Command) (ord : List Int) (k : Nat) (e : Int) : Prop where
  zero : k = 0 → e = 0
  last : ∀ j, k = j + 1 → e = tend (at' l ord j)
  apart : ∀ p q, p < q → q < k → tend (at' l ord p) ≤ (at' l ord q).to
theorem Chain.le {k : Nat} {e : Int} (h : Chain l ord k e) (hg : ∀ c ∈ l, 0 ≤ c.to ∧ 1 ≤ tlen c) (ho : Ord l ord) (hk : k ≤ l.length) {p : Nat} (hp : p < k) : tend (at' l ord p) ≤ e := by
  obtain ⟨j, rfl⟩ : ∃ j, k = j + 1 := ⟨k - 1, by omega⟩
  rw [h.last j rfl]
  by_cases e' : p = j
  · subst e'; exact Int.le_refl _
  · have h1 := h.apart p j (by omega) (by omega)
    have h2 := hg _ (ho.mem (k := j) (by omega))
    unfold tend at *; omega
def Gap (l : List G.Command) (ord : List Int) (k : Nat) (e g : Int) : Prop :=
  0 ≤ e ∧ ((g = -1 ∧ ∀ o, 0 ≤ o → o < e → ∃ p, p < k ∧ (at' l ord p).to ≤ o ∧ o < tend (at' l ord p)) ∨
  (0 ≤ g ∧ g < e ∧ (∀ o, 0 ≤ o → o < g → ∃ p, p < k ∧ (at' l ord p).to ≤ o ∧ o < tend (at' l ord p)) ∧ (∀ p, p < k → ¬ ((at' l ord p).to ≤ g ∧ g < tend (at' l ord p))) ∧ (g = 0 ∨ ∃ p, p < k ∧ g = tend (at' l ord p))))
theorem tiles_of (hg : ∀ c ∈ l, 0 ≤ c.to ∧ 1 ≤ tlen c ∧ tend c ≤ 4611686018427387903) (hn : l.length ≤ 17592186044416) :
    (Meets l ∧ G.delta_tiles l = some (0, true)) ∨ (¬ Meets l ∧ ∃ t, G.delta_tiles l = some (t, false) ∧ IsEnd l t) := by
  obtain ⟨ord, hs, hp, hsr⟩ := sorted_of hn
  have ho : Ord l ord := ⟨hp, hsr⟩
  have hlen := ho.len
  unfold G.delta_tiles G.delta_sorted_2_delta_tiles
  rw [hs]
  simp only [Option.bind_some]
  obtain ⟨r, hr, hq⟩ := Iter_total (f := G.delta_sorted_2_delta_tiles_l1 ord l)
    (fun n st => ∃ (k : Nat) (e g : Int), st = ((k : Int), 0, false, e, g) ∧ n = l.length - k ∧ k ≤ l.length ∧ Chain l ord k e ∧ Gap l ord k e g)
    (fun r => (∃ e g, r = .inl (0, true, e, g) ∧ Meets l) ∨ ∃ e g, r = .inr (0, false, e, g) ∧ Chain l ord l.length e ∧ Gap l ord l.length e g) (by
      rintro n st ⟨k, e, g, rfl, rfl, hk, hc, hgap⟩
      unfold G.delta_sorted_2_delta_tiles_l1 G.delta_tiles_b1
      by_cases hlt : k < l.length
      · have hix := ho.ix hlt
        have hm := ho.mem hlt
        have hgo := hg _ hm
        rw [if_pos (show ((k : Int), (0 : Int), false, e, g).1 < ((ord.length : Nat) : Int) by simp; omega)]
        simp only [idx_getD (0 : Int) (show k < ord.length by omega), Option.bind_some]
        rw [idx_getD' (k := (ord.getD k 0).toNat) default (by have := hix.1; omega) (by have h8 := hix.1; have h9 := hix.2; omega)]
        simp only [Option.bind_some, Target_of]
        rw [show l.getD (ord.getD k 0).toNat default = at' l ord k from rfl]
        by_cases h1 : (at' l ord k).to < e
        · right
          rw [if_pos h1]
          refine ⟨_, rfl, .inl ⟨_, _, rfl, ?_⟩⟩
          have hk0 : k ≠ 0 := fun h => by have := hc.zero h; omega
          have hl := hc.last (k - 1) (by omega)
          have hle := ho.le (p := k - 1) (q := k) (by omega) hlt
          have hix' := ho.ix (k := k - 1) (by omega)
          refine ⟨(ord.getD (k - 1) 0).toNat, (ord.getD k 0).toNat, by have h8 := hix'.1; have h9 := hix'.2; omega, by have h8 := hix.1; have h9 := hix.2; omega, fun h => by have := ho.inj (by omega) hlt h; omega, ?_⟩
          show ov (at' l ord (k - 1)) (at' l ord k) = true
          unfold ov
          rw [decide_eq_true_eq]
          unfold tend at *
          omega
        · left
          rw [if_neg h1]
          have hnew : Chain l ord (k + 1) (tend (at' l ord k)) := ⟨fun h => by omega, fun j hj => by rw [show j = k by omega], fun p q hpq hqk => by
            by_cases hq : q = k
            · subst hq
              have := hc.le (fun c hc' => ⟨(hg c hc').1, (hg c hc').2.1⟩) ho (by omega) hpq
              omega
            · exact hc.apart p q hpq (by omega)⟩
          have e1 : G.extent_End ⟨(at' l ord k).to, tlen (at' l ord k)⟩ = some (tend (at' l ord k)) := by
            unfold G.extent_End
            simp only
            rw [w64 (by omega) (by unfold tend at hgo; omega)]; rfl
          have e2 : IntKind.i64.wrap ((k : Int) + 1) = ((k + 1 : Nat) : Int) := inc64 hlt (by omega)
          obtain ⟨h0, hgp⟩ := hgap
          have he : e < tend (at' l ord k) ∨ e = (at' l ord k).to ∧ e < tend (at' l ord k) := .inl (by unfold tend; omega)
          have he' : e < tend (at' l ord k) := by unfold tend; omega
          rcases hgp with ⟨rfl, hcov⟩ | ⟨hg0, hge, hcov, hnot, hcand⟩
          · by_cases h2 : (at' l ord k).to > e
            · simp only [h2, if_true, Option.bind_some, show ((-1 : Int) < 0) = True by simp, decide_true, e1, e2]
              refine ⟨l.length - (k + 1), _, rfl, by omega, k + 1, _, e, rfl, rfl, by omega, hnew, by omega, .inr ⟨h0, he', fun o h3 h4 => ?_, fun p hp' => ?_, ?_⟩⟩
              · obtain ⟨p, h5, h6⟩ := hcov o h3 h4
                exact ⟨p, by omega, h6⟩
              · by_cases hpk : p = k
                · subst hpk; omega
                · have := hc.le (fun c hc' => ⟨(hg c hc').1, (hg c hc').2.1⟩) ho (by omega) (p := p) (by omega)
                  omega
              · by_cases hk0 : k = 0
                · exact .inl (hc.zero hk0)
                · exact .inr ⟨k - 1, by omega, hc.last (k - 1) (by omega)⟩
            · simp only [h2, if_false, Option.bind_some, Bool.false_eq_true, e1, e2]
              refine ⟨l.length - (k + 1), _, rfl, by omega, k + 1, _, -1, rfl, rfl, by omega, hnew, by omega, .inl ⟨rfl, fun o h3 h4 => ?_⟩⟩
              by_cases h5 : o < e
              · obtain ⟨p, h6, h7⟩ := hcov o h3 h5
                exact ⟨p, by omega, h7⟩
              · exact ⟨k, by omega, by omega, h4⟩
          · have hng : ¬ g < 0 := by omega
            have hres : (if (at' l ord k).to > e then some (decide (g < 0)) else some false) = some false := by
              split
              · rw [decide_eq_false hng]
              · rfl
            simp only [hres, Option.bind_some, Bool.false_eq_true, if_false, e1, e2]
            refine ⟨l.length - (k + 1), _, rfl, by omega, k + 1, _, g, rfl, rfl, by omega, hnew, by omega, .inr ⟨hg0, by omega, fun o h3 h4 => ?_, fun p hp' => ?_, ?_⟩⟩
            · obtain ⟨p, h5, h6⟩ := hcov o h3 h4
              exact ⟨p, by omega, h6⟩
            · by_cases hpk : p = k
              · subst hpk; omega
              · exact hnot p (by omega)
            · rcases hcand with h | ⟨p, h5, h6⟩
              · exact .inl h
              · exact .inr ⟨p, by omega, h6⟩
      · right
        rw [if_neg (show ¬ ((k : Int), (0 : Int), false, e, g).1 < ((ord.length : Nat) : Int) by simp; omega)]
        have : k = l.length := by omega
        subst this
        exact ⟨_, rfl, .inr ⟨e, g, rfl, hc, hgap⟩⟩) l.length (0, 0, false, 0, -1)
    ⟨0, 0, -1, rfl, rfl, Nat.zero_le _, ⟨fun _ => rfl, fun j hj => by omega, fun p q h1 h2 => by omega⟩, Int.le_refl _, .inl ⟨rfl, fun o h1 h2 => by omega⟩⟩
  rcases hq with ⟨_, _, rfl, hm⟩ | ⟨e, g, rfl, hc, h0, hgap⟩
  · left
    rw [hr]
    exact ⟨hm, rfl⟩
  · right
    rw [hr]
    simp only [Option.bind_some, joinK_inl]
    have hgl : ∀ c ∈ l, 0 ≤ c.to ∧ 1 ≤ tlen c := fun c hc' => ⟨(hg c hc').1, (hg c hc').2.1⟩
    refine ⟨fun ⟨i, j, hi, hj, hne, hov⟩ => ?_, ?_⟩
    · obtain ⟨p, hp1, hp2⟩ := ho.surj hi
      obtain ⟨q, hq1, hq2⟩ := ho.surj hj
      have hpq : p ≠ q := fun h => hne (by rw [← hp2, ← hq2, h])
      have k1 : cat l i = at' l ord p := by unfold at'; rw [hp2]
      have k2 : cat l j = at' l ord q := by unfold at'; rw [hq2]
      rw [k1, k2] at hov
      unfold ov at hov
      rw [decide_eq_true_eq] at hov
      rcases Nat.lt_or_gt_of_ne hpq with h | h
      · have := hc.apart p q h hq1; omega
      · have := hc.apart q p h hp1; omega
    · rcases hgap with ⟨rfl, hcov⟩ | ⟨hg0, hge, hcov, hnot, hcand⟩
      · rw [if_neg (by omega)]
        refine ⟨e, rfl, h0, fun o h1 h2 => ?_, fun ⟨c, hcl, h1, h2⟩ => ?_, ?_⟩
        · obtain ⟨p, h3, h4⟩ := hcov o h1 h2
          exact ⟨_, ho.mem h3, h4⟩
        · obtain ⟨k, hk, rfl⟩ := ho.any hcl
          have := hc.le hgl ho (Nat.le_refl _) hk
          omega
        · by_cases hk0 : l.length = 0
          · exact .inl (hc.zero hk0)
          · exact .inr ⟨_, ho.mem (k := l.length - 1) (by omega), hc.last (l.length - 1) (by omega)⟩
      · rw [if_pos (by omega)]
        refine ⟨g, rfl, hg0, fun o h1 h2 => ?_, fun ⟨c, hcl, h1, h2⟩ => ?_, ?_⟩
        · obtain ⟨p, h3, h4⟩ := hcov o h1 h2
          exact ⟨_, ho.mem h3, h4⟩
        · obtain ⟨k, hk, rfl⟩ := ho.any hcl
          exact hnot k hk ⟨h1, h2⟩
        · rcases hcand with h | ⟨p, h3, h4⟩
          · exact .inl h
          · exact .inr ⟨_, ho.mem h3, h4⟩
end
end G
end Go.Proofs.Ythnhjibbkleneaa
namespace Go.Proofs.Ythnhjibbkleneaa
open G
namespace G
theorem meets_iff {l : List G.Command} : Meets l ↔ ∃ i, i < l.length ∧ ovi l i = true := by
  have key : ∀ i j, i < l.length → j < i → ov (cat l i) (cat l j) = true → ∃ i, i < l.length ∧ ovi l i = true := fun i j hi hj h => by
    refine ⟨i, hi, ?_⟩
    unfold ovi
    rw [List.any_eq_true]
    refine ⟨cat l j, ?_, h⟩
    rw [cat_getElem (by omega)]
    exact List.mem_take_iff_getElem.2 ⟨j, by omega, rfl⟩
  constructor
  · rintro ⟨i, j, hi, hj, hne, h⟩
    rcases Nat.lt_or_gt_of_ne hne with k | k
    · exact key j i hj k (by rw [ov_comm]; exact h)
    · exact key i j hi k h
  · rintro ⟨i, hi, h⟩
    unfold ovi at h
    rw [List.any_eq_true] at h
    obtain ⟨c, hc, h⟩ := h
    obtain ⟨j, hj, rfl⟩ := List.mem_take_iff_getElem.1 hc
    refine ⟨i, j, hi, by omega, by omega, ?_⟩
    rw [cat_getElem (i := j) (by omega)]; exact h
section
variable {d : G.Delta}
theorem overlap_in (hg : ∀ c ∈ d.commands, Good d c) (hn : d.commands.length ≤ 17592186044416) {i : Nat} (hi : i < d.commands.length) :
    Iter (G.delta_overlap_l2 d.commands (i : Int) (d.commands.take i)) 0 = some (if ovi d.commands i = true then .inr (i : Int) else .inl ((i + 1 : Nat) : Int)) := by
  have hl : (d.commands.take i).length = i := by simp; omega
  have hK := Iter_scan (f := G.delta_overlap_l2 d.commands (i : Int) (d.commands.take i)) (d.commands.take i) (fun c => ov (cat d.commands i) c) (fun k => (k : Int)) (fun _ => .inr (i : Int)) (.inl ((i + 1 : Nat) : Int))
    (fun k h hb => by
      obtain ⟨e, he⟩ := Overlap_of (hg _ (cat_mem hi)) (hg _ (List.mem_of_mem_take (List.getElem_mem h)))
      unfold G.delta_overlap_l2
      rw [if_pos (by omega), idx_of h, idx_getD default hi]
      simp only [Option.bind_some, Target_of, he, hb, Bool.false_eq_true, if_false]
      rw [inc64 (n := 17592186044417) (by omega) (by omega)])
    (fun k h hb => by
      obtain ⟨e, he⟩ := Overlap_of (hg _ (cat_mem hi)) (hg _ (List.mem_of_mem_take (List.getElem_mem h)))
      unfold G.delta_overlap_l2
      rw [if_pos (by omega), idx_of h, idx_getD default hi]
      simp only [Option.bind_some, Target_of, he, hb, if_true])
    (by unfold G.delta_overlap_l2; rw [if_neg (by omega), inc64 (n := 17592186044417) (by omega) (by omega)]) (s := 0) rfl
  rcases hK with ⟨ha, he⟩ | ⟨k, h, hb, _, he⟩
  · rw [he, if_neg]
    unfold ovi; rw [List.any_eq_true]
    rintro ⟨c, hc, h⟩
    rw [ha c hc] at h; cases h
  · rw [he, if_pos]
    unfold ovi; rw [List.any_eq_true]
    exact ⟨_, List.getElem_mem h, hb⟩
theorem overlap5_in (hg : ∀ c ∈ d.commands, Good d c) (hn : d.commands.length ≤ 17592186044416) {i : Nat} (hi : i < d.commands.length) :
    Iter (G.graftref05_Check_l3 d (i : Int)) 0 = some (if ovi d.commands i = true then .inr (.inr (4, (i : Int))) else .inl ((i + 1 : Nat) : Int)) := by
  have hl : (d.commands.take i).length = i := by simp; omega
  have hK := Iter_scan (f := G.graftref05_Check_l3 d (i : Int)) (d.commands.take i) (fun c => ov (cat d.commands i) c) (fun k => (k : Int)) (fun _ => .inr (.inr (4, (i : Int)))) (.inl ((i + 1 : Nat) : Int))
    (fun k h hb => by
      obtain ⟨e, he, he2⟩ := Overlap1_of (hg _ (cat_mem hi)) (hg _ (List.mem_of_mem_take (List.getElem_mem h)))
      have hk : (d.commands.take i)[k] = d.commands[k]'(by omega) := List.getElem_take
      rw [hk] at he he2 hb
      unfold G.graftref05_Check_l3
      rw [if_pos (by omega), idx_getD default hi, idx_of (show k < d.commands.length by omega)]
      simp only [Option.bind_some, Target4_of, he]
      rw [if_neg (by rw [hb] at he2; simpa using he2), inc64 (n := 17592186044417) (by omega) (by omega)])
    (fun k h hb => by
      obtain ⟨e, he, he2⟩ := Overlap1_of (hg _ (cat_mem hi)) (hg _ (List.mem_of_mem_take (List.getElem_mem h)))
      have hk : (d.commands.take i)[k] = d.commands[k]'(by omega) := List.getElem_take
      rw [hk] at he he2 hb
      unfold G.graftref05_Check_l3
      rw [if_pos (by omega), idx_getD default hi, idx_of (show k < d.commands.length by omega)]
      simp only [Option.bind_some, Target4_of, he]
      rw [if_pos (by rw [hb] at he2; simpa using he2)])
    (by unfold G.graftref05_Check_l3; rw [if_neg (by omega), inc64 (n := 17592186044417) (by omega) (by omega)]) (s := 0) rfl
  rcases hK with ⟨ha, he⟩ | ⟨k, h, hb, _, he⟩
  · rw [he, if_neg]
    unfold ovi; rw [List.any_eq_true]
    rintro ⟨c, hc, h⟩
    rw [ha c hc] at h; cases h
  · rw [he, if_pos]
    unfold ovi; rw [List.any_eq_true]
    exact ⟨_, List.getElem_mem h, hb⟩
def IsFirst (l : List G.Command) (i : Nat) : Prop := i < l.length ∧ ovi l i = true ∧ ∀ j, j < i → ovi l j = false
theorem IsFirst.unique {l : List G.Command} {i j : Nat} (h : IsFirst l i) (k : IsFirst l j) : i = j := by
  rcases Nat.lt_trichotomy i j with q | q | q
  · have := k.2.2 i q; rw [h.2.1] at this; cases this
  · exact q
  · have := h.2.2 j q; rw [k.2.1] at this; cases this
theorem overlap_of (hg : ∀ c ∈ d.commands, Good d c) (hn : d.commands.length ≤ 17592186044416) (hm : Meets d.commands) :
    ∃ i, IsFirst d.commands i ∧ G.delta_overlap d.commands = some (i : Int) := by
  have hK := Iter_scan (f := G.delta_overlap_l1 d.commands) (List.range d.commands.length) (fun i => ovi d.commands i) (fun k => (k : Int)) (fun k => (k : Int)) (-1)
    (fun k h hb => by
      simp at h hb
      unfold G.delta_overlap_l1
      rw [if_pos (by omega), slcTo_of (by omega)]
      simp only [Option.bind_some, Int.toNat_natCast]
      rw [overlap_in hg hn h, hb]; rfl)
    (fun k h hb => by
      simp at h hb
      unfold G.delta_overlap_l1
      rw [if_pos (by omega), slcTo_of (by omega)]
      simp only [Option.bind_some, Int.toNat_natCast]
      rw [overlap_in hg hn h, hb]; rfl)
    (by unfold G.delta_overlap_l1; simp) (s := 0) rfl
  unfold G.delta_overlap
  rcases hK with ⟨ha, he⟩ | ⟨k, h, hb, hj, he⟩
  · obtain ⟨i, hi, h⟩ := meets_iff.1 hm
    have := ha i (List.mem_range.2 hi)
    rw [h] at this; cases this
  · simp at h hb
    exact ⟨k, ⟨h, hb, fun j hjk => by simpa using hj j hjk⟩, he⟩
theorem overlap5_of (hg : ∀ c ∈ d.commands, Good d c) (hn : d.commands.length ≤ 17592186044416) :
    (¬ Meets d.commands ∧ Iter (G.graftref05_Check_l2 d) 0 = some (.inl ())) ∨ (Meets d.commands ∧ ∃ i, IsFirst d.commands i ∧ Iter (G.graftref05_Check_l2 d) 0 = some (.inr (4, (i : Int)))) := by
  have hK := Iter_scan (f := G.graftref05_Check_l2 d) (List.range d.commands.length) (fun i => ovi d.commands i) (fun k => (k : Int)) (fun k => .inr (4, (k : Int))) (.inl ())
    (fun k h hb => by
      simp at h hb
      unfold G.graftref05_Check_l2
      rw [if_pos (by omega), overlap5_in hg hn h, hb]; rfl)
    (fun k h hb => by
      simp at h hb
      unfold G.graftref05_Check_l2
      rw [if_pos (by omega), overlap5_in hg hn h, hb]; rfl)
    (by unfold G.graftref05_Check_l2; simp) (s := 0) rfl
  rcases hK with ⟨ha, he⟩ | ⟨k, h, hb, hj, he⟩
  · refine .inl ⟨fun hm => ?_, he⟩
    obtain ⟨i, hi, h⟩ := meets_iff.1 hm
    have := ha i (List.mem_range.2 hi)
    rw [h] at this; cases this
  · simp at h hb
    exact .inr ⟨meets_iff.2 ⟨k, h, hb⟩, k, ⟨h, hb, fun j hjk => by simpa using hj j hjk⟩, he⟩
theorem Find5_full (hg : ∀ c ∈ d.commands, Good d c) (hn : d.commands.length ≤ 17592186044416) (o : Int) : ∃ r, G.graftref05_Find d o = some r ∧ (r < 0 ↔ ¬ Cov d.commands o) ∧ (0 ≤ r → ∃ k : Nat, ∃ h : k < d.commands.length, r = (k : Int) ∧ d.commands[k].to ≤ o ∧ o < tend d.commands[k]) := by
  have hh : ∀ c ∈ d.commands, G.graftref05_has c o = some (decide (c.to ≤ o ∧ o < tend c)) := fun c hc => by
    have h1 := hg c hc
    unfold G.graftref05_has G.graftref01_Has
    have := h1.to0; have := h1.max; have := h1.len1
    simp only [Target4_of, Option.bind_some]
    unfold tend at *
    rw [w64 (by omega) (by omega)]
    by_cases h : o ≥ c.to
    · rw [if_pos h]; simp only [Option.bind_some]; congr 1; rw [decide_eq_decide]; omega
    · rw [if_neg h]; simp only [Option.bind_some]; congr 1; symm; rw [decide_eq_false_iff_not]; omega
  have hK := Iter_scan (f := G.graftref05_Find_l1 d o) d.commands (fun c => decide (c.to ≤ o ∧ o < tend c)) (fun k => (k : Int)) (fun k => (k : Int)) (-1)
    (fun k h hb => by
      unfold G.graftref05_Find_l1
      rw [if_pos (by omega), idx_of h]
      simp only [Option.bind_some, hh _ (List.getElem_mem h), hb, Bool.false_eq_true, if_false]
      rw [inc64 (n := 17592186044417) (by omega) (by omega)])
    (fun k h hb => by
      unfold G.graftref05_Find_l1
      rw [if_pos (by omega), idx_of h]
      simp only [Option.bind_some, hh _ (List.getElem_mem h), hb, if_true])
    (by unfold G.graftref05_Find_l1; simp) (s := 0) rfl
  unfold G.graftref05_Find
  rcases hK with ⟨ha, he⟩ | ⟨k, h, hb, hj, he⟩
  · refine ⟨-1, he, ?_, fun h => by omega⟩
    refine ⟨fun _ ⟨c, hc, h⟩ => ?_, fun _ => by omega⟩
    have := ha c hc
    simp only [decide_eq_false_iff_not] at this
    exact this h
  · refine ⟨(k : Int), he, ⟨fun h => by omega, fun hnc => absurd ⟨_, List.getElem_mem h, by simpa using hb⟩ hnc⟩, fun _ => ⟨k, h, rfl, by simpa using hb⟩⟩
theorem Find5_of (hg : ∀ c ∈ d.commands, Good d c) (hn : d.commands.length ≤ 17592186044416) (o : Int) : ∃ r, G.graftref05_Find d o = some r ∧ (r < 0 ↔ ¬ Cov d.commands o) := by
  obtain ⟨r, h1, h2, _⟩ := Find5_full hg hn o
  exact ⟨r, h1, h2⟩
theorem gap5_of (hg : ∀ c ∈ d.commands, Good d c) (hn : d.commands.length ≤ 17592186044416) {t : Int} (ht : IsEnd d.commands t) :
    G.graftref05_gap d = some (if t < d.newLen then t else -1) := by
  unfold G.graftref05_gap
  obtain ⟨r, hr, hq⟩ := Iter_total (f := G.graftref05_gap_l1 d)
    (fun m st => ∃ (k : Nat) (out : Int), st = (out, (k : Int) - 1) ∧ m = d.commands.length + 1 - k ∧ k ≤ d.commands.length + 1 ∧ (out = -1 ∨ (t ≤ out ∧ out < d.newLen)) ∧ (t < d.newLen → (0 < k ∧ t = 0 ∨ ∃ j, j + 1 < k ∧ t = tend (cat d.commands j)) → out = t))
    (fun r => r = if t < d.newLen then t else -1) (by
      rintro m st ⟨k, out, rfl, rfl, hk, h1, h2⟩
      unfold G.graftref05_gap_l1
      by_cases hlt : k < d.commands.length + 1
      · left
        rw [if_pos (show (out, (k : Int) - 1).2 < (d.commands.length : Int) by simp; omega)]
        obtain ⟨v, hv, hv0, hvc⟩ : ∃ v, (if (out, (k : Int) - 1).2 ≥ 0 then (idx d.commands (out, (k : Int) - 1).2).bind fun x2 => (idx d.commands (out, (k : Int) - 1).2).bind fun x3 => (G.graftref04_Len x3).bind fun y2 => some (IntKind.i64.wrap (x2.to + y2)) else some 0) = some v ∧ 0 ≤ v ∧ (k = 0 ∧ v = 0 ∨ ∃ j, j + 1 = k ∧ v = tend (cat d.commands j)) := by
          by_cases hk0 : k = 0
          · subst hk0
            exact ⟨0, by rw [if_neg (by simp)], Int.le_refl _, .inl ⟨rfl, rfl⟩⟩
          · have hgo := hg _ (cat_mem (l := d.commands) (i := k - 1) (by omega))
            rw [if_pos (by simp; omega)]
            simp only [idx_getD' (k := k - 1) default (show (k : Int) - 1 = ((k - 1 : Nat) : Int) by omega) (show k - 1 < d.commands.length by omega), Option.bind_some, Len4_of]
            have := hgo.to0; have := hgo.max; have := hgo.len1
            refine ⟨tend (cat d.commands (k - 1)), ?_, by unfold tend at *; omega, .inr ⟨k - 1, by omega, rfl⟩⟩
            unfold tend at *
            show some (IntKind.i64.wrap ((cat d.commands (k - 1)).to + tlen (cat d.commands (k - 1)))) = _
            rw [w64 (by omega) (by omega)]
        rw [hv]
        obtain ⟨f, hf, hfc⟩ := Find5_of hg hn v
        obtain ⟨b, hb, hbi⟩ : ∃ b, (if v < d.newLen then (G.graftref05_Find d v).bind fun y1 => if y1 < 0 then (if (out, (k : Int) - 1).1 < 0 then some true else some (decide (v < (out, (k : Int) - 1).1))) else some false else some false) = some b ∧ (b = true ↔ v < d.newLen ∧ ¬ Cov d.commands v ∧ (out < 0 ∨ v < out)) := by
          by_cases c1 : v < d.newLen
          · rw [if_pos c1, hf]
            simp only [Option.bind_some]
            by_cases c2 : f < 0
            · rw [if_pos c2]
              have c2' := hfc.1 c2
              by_cases c3 : out < 0
              · exact ⟨true, by rw [if_pos c3], by simp [c1, c2', c3]⟩
              · exact ⟨_, by rw [if_neg c3], by simp [c1, c2', c3]⟩
            · exact ⟨false, by rw [if_neg c2], by simp only [Bool.false_eq_true, false_iff]; exact fun h => c2 (hfc.2 h.2.1)⟩
          · exact ⟨false, by rw [if_neg c1], by simp [c1]⟩
        simp only [Option.bind_some]
        rw [hb]
        simp only [Option.bind_some]
        have hw : IntKind.i64.wrap ((k : Int) - 1 + 1) = ((k + 1 : Nat) : Int) - 1 := by rw [w64 (by omega) (by omega)]; omega
        have hvt : ¬ Cov d.commands v → t ≤ v := fun h => by
          refine Int.not_lt.1 fun hlt' => h (ht.cov v hv0 hlt')
        by_cases hbt : b = true
        · have hb' := hbi.1 hbt
          rw [if_pos hbt, hw]
          refine ⟨d.commands.length + 1 - (k + 1), _, rfl, by omega, k + 1, v, rfl, rfl, by omega, .inr ⟨hvt hb'.2.1, hb'.1⟩, fun htn hc => ?_⟩
          have h3 := hvt hb'.2.1
          have key : (0 < k ∧ t = 0 ∨ ∃ j, j + 1 < k ∧ t = tend (cat d.commands j)) → v = t := fun hc => by
            have q1 := h2 htn hc
            have q2 := ht.pos
            have q3 := hb'.2.2
            clear hvc hc h2
            omega
          rcases hc with ⟨_, h0⟩ | ⟨j, hj, hjt⟩
          · rcases hvc with ⟨h4, h5⟩ | ⟨j, h4, h5⟩
            · omega
            · exact key (.inl ⟨by omega, h0⟩)
          · by_cases hjk : j + 1 = k
            · rcases hvc with ⟨h4, h5⟩ | ⟨j', h4, h5⟩
              · omega
              · have : j' = j := by omega
                subst this; omega
            · exact key (.inr ⟨j, by omega, hjt⟩)
        · have hb' := fun h => hbt (hbi.2 h)
          rw [if_neg hbt, hw]
          refine ⟨d.commands.length + 1 - (k + 1), _, rfl, by omega, k + 1, out, rfl, rfl, by omega, h1, fun htn hc => ?_⟩
          have hvis : v = t → out = t := fun hvt' => by
            have := ht.pos
            have h6 : ¬ (out < 0 ∨ v < out) := fun h => hb' ⟨by clear hvc hc h2; omega, by rw [hvt']; exact ht.not, h⟩
            clear hvc hc h2
            omega
          rcases hc with ⟨_, h0⟩ | ⟨j, hj, hjt⟩
          · rcases hvc with ⟨h4, h5⟩ | ⟨j, h4, h5⟩
            · exact hvis (by omega)
            · exact h2 htn (.inl ⟨by omega, h0⟩)
          · by_cases hjk : j + 1 = k
            · rcases hvc with ⟨h4, h5⟩ | ⟨j', h4, h5⟩
              · omega
              · have : j' = j := by omega
                subst this
                exact hvis (by omega)
            · exact h2 htn (.inr ⟨j, by omega, hjt⟩)
      · right
        rw [if_neg (show ¬ (out, (k : Int) - 1).2 < (d.commands.length : Int) by simp; omega)]
        refine ⟨_, rfl, ?_⟩
        by_cases htn : t < d.newLen
        · rw [if_pos htn]
          refine h2 htn ?_
          rcases ht.cand with h | ⟨c, hc, h⟩
          · exact .inl ⟨by omega, h⟩
          · obtain ⟨i, hi, rfl⟩ := mem_cat hc
            exact .inr ⟨i, by omega, h⟩
        · rw [if_neg htn]
          rcases h1 with h | h
          · exact h
          · omega) (d.commands.length + 1) ((-1), (-1))
    ⟨0, -1, by simp, by omega, by omega, .inl rfl, fun _ h => by rcases h with h | ⟨j, h, _⟩ <;> omega⟩
  rw [hr, hq]
end
def InR (d : G.Delta) : Prop := 0 ≤ d.oldLen ∧ d.oldLen ≤ 4611686018427387903 ∧ 0 ≤ d.newLen ∧ d.newLen ≤ 4611686018427387903
instance (d : G.Delta) : Decidable (InR d) := by unfold InR; infer_instance
def IsChk (d : G.Delta) (e p : Int) : Prop :=
  (¬ InR d ∧ e = 2 ∧ p = -1) ∨ (InR d ∧ ∃ i, i < d.commands.length ∧ (∀ j, j < i → Good d (cat d.commands j)) ∧ ¬ Good d (cat d.commands i) ∧ e = sng d (cat d.commands i) ∧ p = i) ∨
  (InR d ∧ (∀ c ∈ d.commands, Good d c) ∧ Meets d.commands ∧ ∃ i : Nat, IsFirst d.commands i ∧ e = 4 ∧ p = i) ∨
  (InR d ∧ (∀ c ∈ d.commands, Good d c) ∧ ¬ Meets d.commands ∧ ∃ t, IsEnd d.commands t ∧ ((t < d.newLen ∧ e = 3 ∧ p = t) ∨ (¬ t < d.newLen ∧ e = 0 ∧ p = 0)))
theorem Check5 {d : G.Delta} (hn : d.commands.length ≤ 17592186044416) : ∃ e p, IsChk d e p ∧ G.delta_Check d = some ⟨e, p⟩ ∧ G.graftref05_Check d = some (e, p) := by
  have h1 : ((G.delta_inRange d.oldLen).bind fun y4 => if y4 = false then some true else (G.delta_inRange d.newLen).bind fun y5 => some (!y5)) = some (decide (¬ InR d)) := by
    unfold G.delta_inRange InR
    simp only [Valid_of, Option.bind_some]
    by_cases a : vld 0 d.oldLen = true
    · rw [a, if_neg (by simp)]
      congr 1
      have a' := vld_iff.1 a
      by_cases b : vld 0 d.newLen = true
      · have b' := vld_iff.1 b
        rw [b]; symm; exact decide_eq_false (fun h => h (by omega))
      · have b' := fun h => b (vld_iff.2 h)
        rw [show vld 0 d.newLen = false by simpa using b]; symm; exact decide_eq_true (fun h => b' (by omega))
    · have a' := fun h => a (vld_iff.2 h)
      rw [show vld 0 d.oldLen = false by simpa using a, if_pos rfl]
      congr 1; symm; exact decide_eq_true (fun h => a' (by omega))
  have h2 : (if d.oldLen < 0 then some true else if d.newLen < 0 then some true else (G.graftref01_Max).bind fun y6 => if d.oldLen > y6 then some true else (G.graftref01_Max).bind fun y7 => some (decide (d.newLen > y7))) = some (decide (¬ InR d)) := by
    unfold G.graftref01_Max InR
    simp only [Option.bind_some]
    split
    · congr 1; symm; rw [decide_eq_true_eq]; omega
    · split
      · congr 1; symm; rw [decide_eq_true_eq]; omega
      · split
        · congr 1; symm; rw [decide_eq_true_eq]; omega
        · congr 1; rw [decide_eq_decide]; omega
  unfold G.delta_Check G.graftref05_Check
  rw [h1, h2]
  by_cases hr : InR d
  · simp only [hr, not_true_eq_false, decide_false, Option.bind_some, Bool.false_eq_true, if_false]
    have hA := Iter_scan (f := G.delta_Check_l1 d) d.commands (fun c => decide (sng d c ≠ 0)) (fun k => (k : Int)) (fun k => .inr (⟨sng d (cat d.commands k), (k : Int)⟩ : G.Fault)) (.inl ())
      (fun k h hb => by
        unfold G.delta_Check_l1
        rw [if_pos (by omega), idx_of h]
        simp only [Option.bind_some, single_of]
        rw [if_neg (by simpa using hb), inc64 (n := 17592186044417) (by omega) (by omega)])
      (fun k h hb => by
        unfold G.delta_Check_l1
        rw [if_pos (by omega), idx_of h]
        simp only [Option.bind_some, single_of]
        rw [if_pos (by simpa using hb), cat_getElem h])
      (by unfold G.delta_Check_l1; simp) (s := 0) rfl
    have hB := Iter_scan (f := G.graftref05_Check_l1 d) d.commands (fun c => decide (sng d c ≠ 0)) (fun k => (k : Int)) (fun k => .inr (sng d (cat d.commands k), (k : Int))) (.inl ())
      (fun k h hb => by
        unfold G.graftref05_Check_l1
        rw [if_pos (by omega), idx_of h]
        simp only [Option.bind_some, single5_of]
        rw [if_neg (by simpa using hb), inc64 (n := 17592186044417) (by omega) (by omega)])
      (fun k h hb => by
        unfold G.graftref05_Check_l1
        rw [if_pos (by omega), idx_of h]
        simp only [Option.bind_some, single5_of]
        rw [if_pos (by simpa using hb), cat_getElem h])
      (by unfold G.graftref05_Check_l1; simp) (s := 0) rfl
    rcases hA with ⟨ha, he⟩ | ⟨k, h, hb, hj, he⟩
    · rcases hB with ⟨_, hf⟩ | ⟨k, h, hb, _, _⟩
      · have hg : ∀ c ∈ d.commands, Good d c := fun c hc => sng_zero.1 (by simpa using ha c hc)
        simp only [he, hf, Option.bind_some, joinK_inl]
        rcases tiles_of (l := d.commands) (fun c hc => ⟨(hg c hc).to0, (hg c hc).len1, (hg c hc).max⟩) hn with ⟨hm, ht⟩ | ⟨hm, t, ht, hte⟩
        · obtain ⟨i, hi, ho⟩ := overlap_of hg hn hm
          rcases overlap5_of hg hn with ⟨hm', _⟩ | ⟨_, j, hj, ho'⟩
          · exact absurd hm hm'
          · have := hi.unique hj
            subst this
            refine ⟨4, (i : Int), .inr (.inr (.inl ⟨hr, hg, hm, i, hi, rfl, rfl⟩)), ?_, ?_⟩
            · rw [ht]; simp only [Option.bind_some, if_true, ho]
            · rw [ho']; rfl
        · rcases overlap5_of hg hn with ⟨_, ho'⟩ | ⟨hm', _⟩
          · have := hte.pos
            by_cases hlt : t < d.newLen
            · refine ⟨3, t, .inr (.inr (.inr ⟨hr, hg, hm, t, hte, .inl ⟨hlt, rfl, rfl⟩⟩)), ?_, ?_⟩
              · rw [ht]; simp [hlt]
              · rw [ho']; simp only [Option.bind_some, joinK_inl, gap5_of hg hn hte, if_pos hlt]; rw [if_pos (by omega)]
            · refine ⟨0, 0, .inr (.inr (.inr ⟨hr, hg, hm, t, hte, .inr ⟨hlt, rfl, rfl⟩⟩)), ?_, ?_⟩
              · rw [ht]; simp [hlt]
              · rw [ho']; simp only [Option.bind_some, joinK_inl, gap5_of hg hn hte, if_neg hlt]; rw [if_neg (by omega)]
          · exact absurd hm' hm
      · have := ha _ (List.getElem_mem h)
        rw [hb] at this; cases this
    · rcases hB with ⟨ha, _⟩ | ⟨k', h', hb', hj', hf⟩
      · have := ha _ (List.getElem_mem h)
        rw [hb] at this; cases this
      · have : k = k' := by
          rcases Nat.lt_trichotomy k k' with q | q | q
          · have := hj' k q; rw [hb] at this; cases this
          · exact q
          · have := hj k' q; rw [hb'] at this; cases this
        subst this
        refine ⟨sng d (cat d.commands k), (k : Int), .inr (.inl ⟨hr, k, h, fun j hjk => ?_, ?_, rfl, rfl⟩), ?_, ?_⟩
        · rw [cat_getElem (by omega)]; exact sng_zero.1 (by simpa using hj j hjk)
        · rw [cat_getElem h]; exact sng_ne.1 (by simpa using hb)
        · rw [he]; rfl
        · rw [hf]; rfl
  · exact ⟨2, -1, .inl ⟨hr, rfl, rfl⟩, by simp [hr], by simp [hr]⟩
structure VD (d : G.Delta) : Prop where
  rng : InR d
  good : ∀ c ∈ d.commands, Good d c
  apart : ¬ Meets d.commands
  full : ∀ o, 0 ≤ o → o < d.newLen → Cov d.commands o
theorem IsChk.zero {d : G.Delta} {e p : Int} (h : IsChk d e p) : (e = 0 ↔ VD d) ∧ (e = 0 → p = 0) := by
  rcases h with ⟨h1, rfl, rfl⟩ | ⟨h1, i, hi, _, hb, rfl, rfl⟩ | ⟨h1, h2, h3, i, _, rfl, rfl⟩ | ⟨h1, h2, h3, t, ht, ⟨h4, rfl, rfl⟩ | ⟨h4, rfl, rfl⟩⟩
  · exact ⟨⟨fun h => by omega, fun h => absurd h.rng h1⟩, fun h => by omega⟩
  · exact ⟨⟨fun h => absurd (sng_zero.1 h) hb, fun h => absurd (h.good _ (cat_mem hi)) hb⟩, fun h => absurd (sng_zero.1 h) hb⟩
  · exact ⟨⟨fun h => by omega, fun h => absurd h3 h.apart⟩, fun h => by omega⟩
  · exact ⟨⟨fun h => by omega, fun h => absurd (h.full p ht.pos h4) ht.not⟩, fun h => by omega⟩
  · exact ⟨⟨fun _ => ⟨h1, h2, h3, fun o h5 h6 => ht.cov o h5 (by omega)⟩, fun _ => rfl⟩, fun _ => rfl⟩
theorem Check_valid {d : G.Delta} (hn : d.commands.length ≤ 17592186044416) (h : VD d) : G.delta_Check d = some ⟨0, 0⟩ ∧ G.graftref05_Check d = some (0, 0) := by
  obtain ⟨e, p, h1, h2, h3⟩ := Check5 hn
  have he := h1.zero.1.2 h
  have hp := h1.zero.2 he
  subst he hp
  exact ⟨h2, h3⟩
theorem Valid5_of {d : G.Delta} (hn : d.commands.length ≤ 17592186044416) : ∃ b, G.delta_Valid d = some b ∧ G.graftref05_Valid d = some b ∧ (b = true ↔ VD d) := by
  obtain ⟨e, p, h1, h2, h3⟩ := Check5 hn
  unfold G.delta_Valid G.graftref05_Valid
  rw [h2, h3]
  simp only [Option.bind_some]
  refine ⟨decide (e = 0), ?_, ?_, by rw [decide_eq_true_eq]; exact h1.zero.1⟩
  · congr 1; rw [decide_eq_decide]; exact ⟨fun h => h.1, fun h => ⟨h, h1.zero.2 h⟩⟩
  · congr 1
end G
end Go.Proofs.Ythnhjibbkleneaa
namespace Go.Proofs.Ythnhjibbkleneaa
open G
namespace G
def few5 (d : G.Delta) : Bool := d.commands.all (fun c => decide (c.data.length ≤ 300)) && decide (d.commands.length ≤ 40)
theorem Few5_of (d : G.Delta) (hn : d.commands.length ≤ 9223372036854775807) : G.graftref05_Few d = some (few5 d) := by
  unfold G.graftref05_Few few5
  have hK := Iter_scan (f := G.graftref05_Few_l1 d) d.commands (fun c => !decide (c.data.length ≤ 300)) (fun k => (k : Int)) (fun _ => .inr false) (.inl ())
    (fun k h hb => by
      unfold G.graftref05_Few_l1
      rw [if_pos (by omega), idx_of h]
      simp only [Option.bind_some]
      simp at hb
      rw [if_neg (by omega), inc64 h hn])
    (fun k h hb => by
      unfold G.graftref05_Few_l1
      rw [if_pos (by omega), idx_of h]
      simp only [Option.bind_some]
      simp at hb
      rw [if_pos (by omega)])
    (by unfold G.graftref05_Few_l1; rw [if_neg (by omega)]) (s := 0) rfl
  rcases hK with ⟨ha, he⟩ | ⟨k, h, hb, _, he⟩
  · have : d.commands.all (fun c => decide (c.data.length ≤ 300)) = true := by rw [List.all_eq_true]; intro x hx; simpa using ha x hx
    rw [he, this]
    simp only [Option.bind_some, joinK_inl, Bool.true_and]
    congr 1; rw [decide_eq_decide]; omega
  · have : d.commands.all (fun c => decide (c.data.length ≤ 300)) = false := by rw [List.all_eq_false]; exact ⟨_, List.getElem_mem h, by simpa using hb⟩
    rw [he, this]; rfl
theorem few5_iff {d : G.Delta} : few5 d = true ↔ (∀ c ∈ d.commands, c.data.length ≤ 300) ∧ d.commands.length ≤ 40 := by
  unfold few5; rw [Bool.and_eq_true, List.all_eq_true, decide_eq_true_eq]; simp
theorem CloneB_of (l : List UInt8) (h : l.length ≤ 140737488355328) : G.slices_Clone_byte_byte l = some l := by
  unfold G.slices_Clone_byte_byte
  rw [app_of (by simpa using h)]
  cases l with
  | nil => exact agree_same _
  | cons a l => rfl
theorem Clone_of (c : G.Command) (h : c.data.length ≤ 140737488355328) : G.command_Clone c = some c := by
  unfold G.command_Clone
  rw [CloneB_of _ h]
  rfl
theorem With_of (d : G.Delta) (l : List G.Command) (h : ∀ c ∈ l, c.data.length ≤ 140737488355328) (hn : l.length ≤ 1000000000000) : G.delta_With d l = some ⟨d.oldLen, d.newLen, d.oldHash, d.newHash, l⟩ := by
  unfold G.delta_With
  refine Iter_count l.length (fun k => ((k : Int), d.oldLen, d.newLen, d.oldHash, d.newHash, l.take k, 0, 0, (fun _ => 0), (fun _ => 0), [])) _ (fun k hk => ?_) ?_ rfl
  · unfold G.delta_With_l1
    rw [if_pos (by simp; omega)]
    simp only [idx_of hk, Option.bind_some, Clone_of _ (h _ (List.getElem_mem hk))]
    rw [app_of (by simp; omega)]
    simp only [Option.bind_some, inc64 hk (by omega)]
    rw [List.take_succ_eq_append_getElem hk]
  · unfold G.delta_With_l1
    rw [if_neg (by simp)]
    simp
theorem Same4_eq (a b : G.Command) : G.graftref04_Same a b = some (decide (a = b)) := by
  unfold G.graftref04_Same
  obtain ⟨a1, a2, a3, a4, a5⟩ := a
  obtain ⟨b1, b2, b3, b4, b5⟩ := b
  simp only [G.Command.mk.injEq]
  by_cases h1 : a1 = b1
  · by_cases h2 : a2 = b2
    · by_cases h3 : a3 = b3
      · by_cases h4 : a4 = b4 <;> simp [h1, h2, h3, h4]
      · simp [h1, h2, h3]
    · simp [h1, h2]
  · simp [h1]
theorem lists_eq {a b : List G.Command} (hl : a.length = b.length) : (∀ i, i < a.length → cat a i = cat b i) ↔ a = b := by
  constructor
  · intro h
    refine List.ext_getElem hl fun i h1 h2 => ?_
    rw [← cat_getElem h1, ← cat_getElem h2]; exact h i h1
  · rintro rfl i _; rfl
theorem loop_eq {f : Int → Option (Int ⊕ Bool)} {a b : List G.Command} (hl : a.length = b.length) (hf : ∀ k : Nat, f (k : Int) = if k < a.length then some (if cat a k = cat b k then .inl ((k + 1 : Nat) : Int) else .inr false) else some (.inr true)) : Iter f 0 = some (decide (a = b)) := by
  have hK := Iter_scan (f := f) (List.range a.length) (fun k => decide (cat a k ≠ cat b k)) (fun k => (k : Int)) (fun _ => false) true
    (fun k h hb => by
      have hb' : cat a k = cat b k := by simpa using hb
      simp at h; rw [hf, if_pos h, if_pos hb'])
    (fun k h hb => by
      have hb' : ¬ cat a k = cat b k := by simpa using hb
      simp at h; rw [hf, if_pos h, if_neg hb'])
    (by rw [hf, if_neg (by simp)]) (s := 0) rfl
  rcases hK with ⟨ha, he⟩ | ⟨k, h, hb, _, he⟩
  · rw [he]; congr 1; symm; rw [decide_eq_true_eq]
    exact (lists_eq hl).1 fun i hi => by simpa using ha i (List.mem_range.2 hi)
  · simp at h hb
    rw [he]; congr 1; symm; rw [decide_eq_false_iff_not]
    exact fun e => hb ((lists_eq hl).2 e k h)
theorem All_eq (a b : List G.Command) (hn : a.length ≤ 9223372036854775807) : G.graftref04_All a b = some (decide (a = b)) := by
  unfold G.graftref04_All
  by_cases hl : a.length = b.length
  · rw [if_neg (by simp; omega)]
    refine loop_eq hl fun k => ?_
    unfold G.graftref04_All_l1
    by_cases hk : k < a.length
    · rw [if_pos (by omega), if_pos hk, idx_getD default hk, idx_getD default (show k < b.length by omega)]
      simp only [Option.bind_some, Same4_eq]
      by_cases h : cat a k = cat b k
      · rw [if_neg (by simpa using h), if_pos h, inc64 hk hn]
      · rw [if_pos (by simpa using h), if_neg h]
    · rw [if_neg (by omega), if_neg hk]
  · rw [if_pos (by omega)]; congr 1; symm; rw [decide_eq_false_iff_not]; exact fun e => hl (by rw [e])
def sm (a b : G.Delta) : Bool := decide (a.oldLen = b.oldLen) && decide (a.newLen = b.newLen) && hashEq a.oldHash b.oldHash && hashEq a.newHash b.newHash && decide (a.commands = b.commands)
theorem Same5_eq (a b : G.Delta) (hn : a.commands.length ≤ 9223372036854775807) : G.graftref05_Same a b = some (sm a b) := by
  unfold G.graftref05_Same sm
  rw [All_eq _ _ hn]
  by_cases h1 : a.oldLen = b.oldLen
  · by_cases h2 : a.newLen = b.newLen
    · cases h3 : hashEq a.oldHash b.oldHash
      · simp [h1, h2]
      · cases h4 : hashEq a.newHash b.newHash <;> simp [h1, h2]
    · simp [h1, h2]
  · simp [h1]
theorem hash_self (f : Nat → UInt8) : hashEq f f = true := by unfold hashEq; rw [List.all_eq_true]; intro i _; simp
theorem sm_self (a : G.Delta) : sm a a = true := by unfold sm; simp [hash_self]
end G
end Go.Proofs.Ythnhjibbkleneaa
namespace Go.Proofs.Ythnhjibbkleneaa
open G
namespace G
def inOrd (l : List G.Command) (ord : List Int) : List G.Command := ord.map fun x => cat l x.toNat
section
variable {l : List G.Command} {ord : List Int}
theorem inOrd_perm (h : Ord l ord) : (inOrd l ord).Perm l := by
  refine (h.perm.map _).trans ?_
  have : (ixs l.length).map (fun x => cat l x.toNat) = l := by
    refine List.ext_getElem (by simp [ixs]) fun i h1 h2 => ?_
    simp [ixs, h2]
  rw [this]
theorem inOrd_len (h : Ord l ord) : (inOrd l ord).length = l.length := (inOrd_perm h).length_eq
theorem inOrd_get (h : Ord l ord) {k : Nat} (hk : k < l.length) : cat (inOrd l ord) k = at' l ord k := by
  have hl := h.len
  rw [cat_getElem (by rw [inOrd_len h]; exact hk)]
  unfold inOrd at'
  rw [List.getElem_map]
  simp [show k < ord.length by omega]
end
section
variable {d : G.Delta} {ord : List Int}
def pos (d : G.Delta) (ord : List Int) (k : Nat) : Int := if k < d.commands.length then (at' d.commands ord k).to else d.newLen
theorem apart_of (hv : VD d) (ho : Ord d.commands ord) {p q : Nat} (hpq : p < q) (hq : q < d.commands.length) : tend (at' d.commands ord p) ≤ (at' d.commands ord q).to := by
  refine Int.not_lt.1 fun hlt => hv.apart ?_
  have hle := ho.le (Nat.le_of_lt hpq) hq
  have gp := hv.good _ (ho.mem (k := p) (by omega))
  have gq := hv.good _ (ho.mem hq)
  have h1 := ho.ix (k := p) (by omega)
  have h2 := ho.ix hq
  obtain ⟨a1, a2⟩ := h1
  obtain ⟨b1, b2⟩ := h2
  refine ⟨(ord.getD p 0).toNat, (ord.getD q 0).toNat, by omega, by omega, fun e => by have := ho.inj (by omega) hq e; omega, ?_⟩
  show ov (at' d.commands ord p) (at' d.commands ord q) = true
  unfold ov
  rw [decide_eq_true_eq]
  have := gq.len1
  refine ⟨?_, hlt⟩
  unfold tend; omega
theorem tiled (hv : VD d) (ho : Ord d.commands ord) : pos d ord 0 = 0 ∧ ∀ k, k < d.commands.length → pos d ord (k + 1) = tend (at' d.commands ord k) := by
  have hN := hv.rng
  unfold InR at hN
  constructor
  · unfold pos
    split
    · rename_i hn
      have g0 := hv.good _ (ho.mem hn)
      have := g0.to0; have := g0.len1; have := g0.fits
      refine Int.le_antisymm (Int.not_lt.1 fun hlt => ?_) (by omega)
      obtain ⟨c, hc, h1, h2⟩ := hv.full 0 (Int.le_refl _) (by unfold tend at *; omega)
      obtain ⟨k, hk, rfl⟩ := ho.any hc
      have := ho.le (Nat.zero_le k) hk
      omega
    · rename_i hn
      refine Int.le_antisymm (Int.not_lt.1 fun hlt => ?_) (by omega)
      obtain ⟨c, hc, _⟩ := hv.full 0 (Int.le_refl _) hlt
      obtain ⟨k, hk, _⟩ := ho.any hc
      omega
  · intro k hk
    have gk := hv.good _ (ho.mem hk)
    have := gk.to0; have := gk.len1; have := gk.fits
    have none : ¬ Cov d.commands (tend (at' d.commands ord k)) → d.newLen ≤ tend (at' d.commands ord k) := fun h => Int.not_lt.1 fun hlt => h (hv.full _ (by unfold tend; omega) hlt)
    have cov : Cov d.commands (tend (at' d.commands ord k)) → ∃ q, k < q ∧ q < d.commands.length ∧ (at' d.commands ord q).to ≤ tend (at' d.commands ord k) := fun ⟨c, hc, h1, h2⟩ => by
      obtain ⟨q, hq, rfl⟩ := ho.any hc
      refine ⟨q, Nat.lt_of_not_le fun hle => ?_, hq, h1⟩
      by_cases e : q = k
      · subst e; omega
      · have := apart_of hv ho (p := q) (q := k) (by omega) hk
        unfold tend at *; omega
    unfold pos
    split
    · rename_i hk1
      refine Int.le_antisymm ?_ (apart_of hv ho (Nat.lt_succ_self k) hk1)
      have g1 := hv.good _ (ho.mem hk1)
      have h3 := apart_of hv ho (Nat.lt_succ_self k) hk1
      have h4 := g1.fits; have h5 := g1.len1
      by_cases hc : Cov d.commands (tend (at' d.commands ord k))
      · obtain ⟨q, h6, h7, h8⟩ := cov hc
        exact Int.le_trans (ho.le h6 h7) h8
      · have := none hc
        unfold tend at h4; omega
    · rename_i hk1
      refine Int.le_antisymm ?_ gk.fits
      refine none fun hc => ?_
      obtain ⟨q, h6, h7, _⟩ := cov hc
      omega
theorem sorted2_of (ho : Ord d.commands ord) (hn : d.commands.length ≤ 1000000000000) : G.delta_sorted_2_delta_Sort ord d.commands d [] = some (d, inOrd d.commands ord) := by
  have hl := ho.len
  unfold G.delta_sorted_2_delta_Sort
  refine Iter_count (f := G.delta_sorted_2_delta_Sort_l1 ord d.commands) ord.length (fun k => ((k : Int), d, (inOrd d.commands ord).take k)) _ (fun k hk => ?step) ?fin rfl
  case step =>
    unfold G.delta_sorted_2_delta_Sort_l1 G.delta_Sort_b1
    have hix := ho.ix (k := k) (by omega)
    obtain ⟨h1, h2⟩ := hix
    rw [if_pos (by simp; omega)]
    simp only [idx_getD (0 : Int) hk, Option.bind_some]
    rw [idx_getD' (k := (ord.getD k 0).toNat) default (by omega) (by omega)]
    simp only [Option.bind_some, Target_of]
    rw [app_of (by have := inOrd_len ho; simp; omega)]
    simp only [Option.bind_some, inc64 hk (by omega)]
    rw [List.take_succ_eq_append_getElem (by rw [inOrd_len ho]; omega), ← cat_getElem, inOrd_get ho (by omega)]
    rfl
  case fin =>
    unfold G.delta_sorted_2_delta_Sort_l1
    rw [if_neg (by simp)]
    simp only
    rw [List.take_of_length_le (by rw [inOrd_len ho]; omega)]
theorem Sort_of (ho : Ord d.commands ord) (hs : G.delta_sorted d.commands = some (d.commands, ord)) (hd : ∀ c ∈ d.commands, c.data.length ≤ 140737488355328) (hn : d.commands.length ≤ 1000000000000) :
    G.delta_Sort d = some ⟨d.oldLen, d.newLen, d.oldHash, d.newHash, inOrd d.commands ord⟩ := by
  unfold G.delta_Sort
  rw [hs]
  simp only [Option.bind_some, sorted2_of ho hn]
  rw [With_of d _ (fun c hc => hd c ((inOrd_perm ho).mem_iff.1 hc)) (by rw [inOrd_len ho]; exact hn)]
  rfl
theorem sorted_unique : ∀ (A B : List G.Command), A.Perm B → (A.Pairwise fun a b => a.to ≤ b.to) → (B.Pairwise fun a b => a.to ≤ b.to) → (∀ a ∈ A, ∀ b ∈ A, a.to = b.to → a = b) → A = B
  | [], B, hp, _, _, _ => (List.nil_perm.1 hp).symm
  | a :: A, [], hp, _, _, _ => absurd hp.length_eq (by simp)
  | a :: A, b :: B, hp, ha, hb, hu => by
    have h1 : a ∈ b :: B := hp.mem_iff.1 (by simp)
    have h2 : b ∈ a :: A := hp.mem_iff.2 (by simp)
    have k1 : a.to ≤ b.to := by
      rcases List.mem_cons.1 h2 with e | e
      · rw [e]; exact Int.le_refl _
      · exact (List.pairwise_cons.1 ha).1 b e
    have k2 : b.to ≤ a.to := by
      rcases List.mem_cons.1 h1 with e | e
      · rw [e]; exact Int.le_refl _
      · exact (List.pairwise_cons.1 hb).1 a e
    have e : a = b := hu a (by simp) b h2 (by omega)
    subst e
    rw [sorted_unique A B (List.Perm.cons_inv hp) (List.pairwise_cons.1 ha).2 (List.pairwise_cons.1 hb).2 fun x hx y hy => hu x (by simp [hx]) y (by simp [hy])]
theorem to_inj (hv : VD d) : ∀ a ∈ d.commands, ∀ b ∈ d.commands, a.to = b.to → a = b := fun a ha b hb e => by
  obtain ⟨i, hi, rfl⟩ := mem_cat ha
  obtain ⟨j, hj, rfl⟩ := mem_cat hb
  by_cases hij : i = j
  · rw [hij]
  · refine absurd ⟨i, j, hi, hj, hij, ?_⟩ hv.apart
    have := (hv.good _ ha).len1
    have := (hv.good _ hb).len1
    unfold ov tend
    rw [decide_eq_true_eq]; omega
end
end G
end Go.Proofs.Ythnhjibbkleneaa
namespace Go.Proofs.Ythnhjibbkleneaa
open G
namespace G
abbrev Org := Int ⊕ UInt8
def exp (c : G.Command) : List Org := if c.kind = 1 then (List.range c.len.toNat).map (fun k : Nat => .inl (c.from_ + (k : Int))) else c.data.map .inr
def expL (l : List G.Command) : List Org := l.flatMap exp
structure Nice (c : G.Command) : Prop where
  len1 : 1 ≤ tlen c
  copy : c.kind = 1 → c.data = []
  lit : c.kind ≠ 1 → c.kind = 2 ∧ c.from_ = 0 ∧ c.len = 0
theorem Good.nice {d : G.Delta} {c : G.Command} (h : Good d c) : Nice c := ⟨h.len1, fun hk => (h.copy hk).2.2.2.2, h.lit⟩
theorem tlen_copy {c : G.Command} (h : c.kind = 1) : tlen c = c.len := by unfold tlen; rw [if_pos h]
theorem tlen_lit {c : G.Command} (h : c.kind ≠ 1) : tlen c = (c.data.length : Int) := by unfold tlen; rw [if_neg h]
theorem exp_copy {c : G.Command} (h : c.kind = 1) : exp c = (List.range c.len.toNat).map (fun k : Nat => .inl (c.from_ + (k : Int))) := by unfold exp; rw [if_pos h]
theorem exp_lit {c : G.Command} (h : c.kind ≠ 1) : exp c = c.data.map .inr := by unfold exp; rw [if_neg h]
theorem exp_len {c : G.Command} (h : Nice c) : ((exp c).length : Int) = tlen c := by
  by_cases hk : c.kind = 1
  · have := h.len1; rw [tlen_copy hk] at this ⊢; rw [exp_copy hk]; simp; omega
  · rw [tlen_lit hk, exp_lit hk]; simp
section
variable {x y : G.Command} {l L : List G.Command}
def Til (a : Int) : List G.Command → Int → Prop
  | [], b => a = b
  | c :: l, b => c.to = a ∧ Til (tend c) l b
def one (a : Int) : Org → G.Command
  | .inl k => ⟨1, a, k, 1, []⟩
  | .inr b => ⟨2, a, 0, 0, [b]⟩
end
end G
end Go.Proofs.Ythnhjibbkleneaa
namespace Go.Proofs.Ythnhjibbkleneaa
open G
namespace G
structure Fit (N M : Int) (c : G.Command) : Prop where
  nice : Nice c
  to0 : 0 ≤ c.to
  fits : tend c ≤ N
  src : c.kind = 1 → 0 ≤ c.from_ ∧ c.from_ + c.len ≤ M
theorem Good.fit {d : G.Delta} {c : G.Command} (h : Good d c) : Fit d.newLen d.oldLen c := ⟨h.nice, h.to0, h.fits, fun hk => ⟨(h.copy hk).1, (h.copy hk).2.2.1⟩⟩
section
variable {N M : Int} {a b c : G.Command}
theorem Fit.data (ha : Fit N M a) (hN : N ≤ 1000000) : a.data.length ≤ 1000000 := by
  by_cases hk : a.kind = 1
  · rw [ha.nice.copy hk]; simp
  · have := ha.fits; have := ha.to0; unfold tend at *; rw [tlen_lit hk] at *; omega
theorem Concat_of (l : List (List UInt8)) (h : l.flatten.length ≤ 100000000) (hn : l.length ≤ 1000) : G.slices_Concat_byte_byte l = some l.flatten := by
  have hpre : ∀ k, (l.take k).flatten.length ≤ l.flatten.length := fun k => by
    conv => rhs; rw [← List.take_append_drop k l]
    rw [List.flatten_append, List.length_append]; omega
  have hsucc : ∀ k (hk : k < l.length), (l.take (k + 1)).flatten = (l.take k).flatten ++ l[k] := fun k hk => by
    rw [List.take_succ_eq_append_getElem hk, List.flatten_append]; simp
  unfold G.slices_Concat_byte_byte
  rw [Iter_count (f := G.slices_Concat_byte_byte_l1 l) l.length (fun k => (((l.take k).flatten.length : Int), (k : Int))) (l.flatten.length : Int) (fun k hk => ?s1) ?f1 (s := (0, 0)) rfl]
  · simp only [Option.bind_some]
    have hg : G.slices_Grow_byte_byte_nil0 (l.flatten.length : Int) = some [] := by
      unfold G.slices_Grow_byte_byte_nil0
      rw [if_neg (by omega), w64 (x := (0 : Int) - 0) (by omega) (by omega), w64 (by omega) (by omega)]
      by_cases h0 : (l.flatten.length : Int) - (0 - 0) > 0
      · rw [if_pos h0, chk_of (by omega)]; rfl
      · rw [if_neg h0]
    rw [hg]
    simp only [Option.bind_some]
    rw [Iter_count (f := G.slices_Concat_byte_byte_l2 l) l.length (fun k => ((l.take k).flatten, (k : Int))) l.flatten (fun k hk => ?s2) ?f2 (s := ([], 0)) rfl]
    case s2 =>
      unfold G.slices_Concat_byte_byte_l2
      rw [if_pos (by simp; omega)]
      have := hpre (k + 1); rw [hsucc k hk, List.length_append] at this
      simp only [idx_of hk, Option.bind_some, inc64 hk (by omega)]
      rw [app_of (by omega)]
      simp only [Option.bind_some, hsucc k hk]
    case f2 =>
      unfold G.slices_Concat_byte_byte_l2
      rw [if_neg (by simp)]; simp
  case s1 =>
    unfold G.slices_Concat_byte_byte_l1
    rw [if_pos (by simp; omega)]
    have := hpre (k + 1); rw [hsucc k hk, List.length_append] at this
    simp only [idx_of hk, Option.bind_some, inc64 hk (by omega)]
    rw [w64 (by omega) (by omega), if_neg (by omega), hsucc k hk, List.length_append]
    congr 4
  case f1 =>
    unfold G.slices_Concat_byte_byte_l1
    rw [if_neg (by simp)]; simp
theorem Literal_of (t : Int) (l : List (List UInt8)) (h : l.flatten.length ≤ 100000000) (hn : l.length ≤ 1000) : G.command_Literal t l = some ⟨2, t, 0, 0, l.flatten⟩ := by
  unfold G.command_Literal; rw [Concat_of l h hn]; rfl
theorem Source_of (c : G.Command) : G.command_Source c = some (if c.kind = 1 then (⟨c.from_, c.len⟩, true) else (⟨0, 0⟩, false)) := by
  unfold G.command_Source; by_cases h : c.kind = 1 <;> simp [h]
end
end G
end Go.Proofs.Ythnhjibbkleneaa
namespace Go.Proofs.Ythnhjibbkleneaa
open G
namespace G
section
variable {N M : Int} {l : List G.Command}
theorem drop_cons {α : Type} {l : List α} {i : Nat} (h : i < l.length) : l.drop i = l[i] :: l.drop (i + 1) := by rw [List.drop_eq_getElem_cons h]
end
end G
end Go.Proofs.Ythnhjibbkleneaa
namespace Go.Proofs.Ythnhjibbkleneaa
open G
namespace G
section
variable {N M : Int} {c : G.Command} {o n : Int}
theorem EqualB_of (a b : List UInt8) (hn : a.length ≤ 9000000000000000000) : G.slices_Equal_byte_byte a b = some (decide (a = b)) := by
  unfold G.slices_Equal_byte_byte
  by_cases hl : a.length = b.length
  · rw [if_neg (by omega)]
    have hs : ∀ k (h : k < a.length), G.slices_Equal_byte_byte_l1 a b (k : Int) = some (if a[k] = b[k]'(by omega) then .inl ((k + 1 : Nat) : Int) else .inr false) := fun k h => by
      unfold G.slices_Equal_byte_byte_l1
      rw [if_pos (by omega), idx_of h, idx_of (l := b) (by omega)]
      simp only [Option.bind_some, inc64 h (by omega)]
      by_cases e : a[k] = b[k]'(by omega)
      · rw [if_pos e, if_neg (by rw [e]; simp)]
      · rw [if_neg e, if_pos]
        intro e'
        exact e (UInt8.toNat_inj.1 (by omega))
    rcases Iter_scan (f := G.slices_Equal_byte_byte_l1 a b) (List.range a.length) (fun k => decide (a.getD k 0 ≠ b.getD k 0)) (fun k => (k : Int)) (fun _ => false) true
      (fun k h hb => by
        simp only [List.length_range] at h
        simp only [List.getElem_range, List.getD_eq_getElem?_getD, List.getElem?_eq_getElem h, List.getElem?_eq_getElem (show k < b.length by omega), Option.getD_some, decide_eq_false_iff_not, ne_eq, Decidable.not_not] at hb
        rw [hs k h, if_pos hb])
      (fun k h hb => by
        simp only [List.length_range] at h
        simp only [List.getElem_range, List.getD_eq_getElem?_getD, List.getElem?_eq_getElem h, List.getElem?_eq_getElem (show k < b.length by omega), Option.getD_some, decide_eq_true_eq, ne_eq] at hb
        rw [hs k h, if_neg hb])
      (by unfold G.slices_Equal_byte_byte_l1; rw [if_neg (by simp)]) (s := 0) rfl with ⟨hall, he⟩ | ⟨k, h, hb, _, he⟩
    · rw [he]; congr 1; symm; rw [decide_eq_true_eq]
      refine List.ext_getElem hl fun i h1 h2 => ?_
      have := hall i (by simp; exact h1)
      simpa [h1, h2] using this
    · rw [he]; congr 1; symm; rw [decide_eq_false_iff_not]
      rintro rfl
      simp at hb
  · rw [if_pos (by omega)]; congr 1; symm; rw [decide_eq_false_iff_not]; intro h; rw [h] at hl; exact hl rfl
end
end G
end Go.Proofs.Ythnhjibbkleneaa
namespace Go.Proofs.Ythnhjibbkleneaa
open G
namespace G
section
variable {d : G.Delta} {ord : List Int}
theorem til_of (hv : VD d) (ho : Ord d.commands ord) : Til 0 (inOrd d.commands ord) d.newLen := by
  obtain ⟨h0, h1⟩ := tiled hv ho
  have hl := inOrd_len ho
  have key : ∀ m k, k + m = d.commands.length → Til (pos d ord k) ((inOrd d.commands ord).drop k) d.newLen := by
    intro m
    induction m with
    | zero =>
      intro k hk
      rw [List.drop_of_length_le (by omega)]
      show pos d ord k = d.newLen
      unfold pos; rw [if_neg (by omega)]
    | succ m ih =>
      intro k hk
      have hk' : k < (inOrd d.commands ord).length := by omega
      rw [drop_cons hk', ← cat_getElem hk', inOrd_get ho (by omega)]
      refine ⟨?_, ?_⟩
      · unfold pos; rw [if_pos (by omega)]
      · rw [← h1 k (by omega)]; exact ih (k + 1) (by omega)
  have := key d.commands.length 0 (by omega)
  rw [h0] at this; simpa using this
end
theorem til_in : ∀ {l : List G.Command} {a b : Int}, (∀ c ∈ l, Nice c) → Til a l b → a ≤ b ∧ ∀ c ∈ l, a ≤ c.to ∧ tend c ≤ b
  | [], a, b, _, h => ⟨Int.le_of_eq h, fun c hc => by cases hc⟩
  | x :: l, a, b, hn, ⟨h1, h2⟩ => by
    obtain ⟨h3, h4⟩ := til_in (fun c hc => hn c (by simp [hc])) h2
    have hx := (hn x (by simp)).len1
    have ht : tend x = x.to + tlen x := rfl
    refine ⟨by omega, fun c hc => ?_⟩
    rcases List.mem_cons.1 hc with rfl | hc
    · exact ⟨by omega, h3⟩
    · have := h4 c hc; exact ⟨by omega, this.2⟩
theorem til_srt : ∀ {l : List G.Command} {a b : Int}, (∀ c ∈ l, Nice c) → Til a l b → l.Pairwise fun x y => tend x ≤ y.to
  | [], _, _, _, _ => .nil
  | x :: l, a, b, hn, ⟨h1, h2⟩ => by
    have hn' := fun c hc => hn c (List.mem_cons_of_mem x hc)
    exact .cons (fun y hy => ((til_in hn' h2).2 y hy).1) (til_srt hn' h2)
structure Sm (d : G.Delta) (S : List G.Command) : Prop where
  vd : VD d
  len : d.commands.length ≤ 1000
  new : d.newLen ≤ 3000
  perm : S.Perm d.commands
  til : Til 0 S d.newLen
section
variable {d : G.Delta} {S : List G.Command}
theorem Sm.fit (h : Sm d S) : ∀ c ∈ S, Fit d.newLen d.oldLen c := fun c hc => (h.vd.good c (h.perm.mem_iff.1 hc)).fit
theorem Sm.nice (h : Sm d S) : ∀ c ∈ S, Nice c := fun c hc => (h.fit c hc).nice
theorem Sm.rng (h : Sm d S) : d.newLen ≤ 1000000 ∧ d.oldLen ≤ 4611686018427387903 := ⟨by have := h.new; omega, h.vd.rng.2.1⟩
theorem Sm.slen (h : Sm d S) : S.length ≤ 1000 := by rw [h.perm.length_eq]; exact h.len
theorem Sm.data (h : Sm d S) : ∀ c ∈ d.commands, c.data.length ≤ 140737488355328 := fun c hc => by
  have := (h.vd.good c hc).fit.data h.rng.1; omega
theorem Sm.pw (h : Sm d S) : S.Pairwise fun a b => a.to ≤ b.to := by
  refine (List.pairwise_iff_getElem).2 fun i j hi hj hij => ?_
  have h1 := List.pairwise_iff_getElem.1 (til_srt h.nice h.til) i j hi hj hij
  have h2 := (h.nice _ (List.getElem_mem hi)).len1
  unfold tend at h1; omega
theorem Sm.inj (h : Sm d S) : ∀ a ∈ S, ∀ b ∈ S, a.to = b.to → a = b := fun a ha b hb e => to_inj h.vd a (h.perm.mem_iff.1 ha) b (h.perm.mem_iff.1 hb) e
theorem Sm.ord (h : Sm d S) : ∃ ord, Ord d.commands ord ∧ G.delta_sorted d.commands = some (d.commands, ord) ∧ inOrd d.commands ord = S := by
  obtain ⟨ord, hs, hp, hsr⟩ := sorted_of (l := d.commands) (by have := h.len; omega)
  have ho : Ord d.commands ord := ⟨hp, hsr⟩
  refine ⟨ord, ho, hs, ?_⟩
  refine (sorted_unique S _ (h.perm.trans (inOrd_perm ho).symm) h.pw ?_ h.inj).symm
  have ht := til_of h.vd ho
  have hn : ∀ c ∈ inOrd d.commands ord, Nice c := fun c hc => (h.vd.good c ((inOrd_perm ho).mem_iff.1 hc)).nice
  refine (List.pairwise_iff_getElem).2 fun i j hi hj hij => ?_
  have h1 := List.pairwise_iff_getElem.1 (til_srt hn ht) i j hi hj hij
  have h2 := (hn _ (List.getElem_mem hi)).len1
  unfold tend at h1; omega
theorem Sm.sort (h : Sm d S) : G.delta_Sort d = some ⟨d.oldLen, d.newLen, d.oldHash, d.newHash, S⟩ := by
  obtain ⟨ord, ho, hs, rfl⟩ := h.ord
  exact Sort_of ho hs h.data (by have := h.len; omega)
theorem Sm_of (hv : VD d) (h1 : d.commands.length ≤ 1000) (h2 : d.newLen ≤ 3000) : ∃ S, Sm d S := by
  obtain ⟨ord, hs, hp, hsr⟩ := sorted_of (l := d.commands) (by omega)
  have ho : Ord d.commands ord := ⟨hp, hsr⟩
  exact ⟨inOrd d.commands ord, hv, h1, h2, inOrd_perm ho, til_of hv ho⟩
end
end G
namespace G
theorem til_len : ∀ {l : List G.Command} {a b : Int}, (∀ c ∈ l, Nice c) → Til a l b → ((expL l).length : Int) = b - a
  | [], a, b, _, h => by have h : a = b := h; subst h; show ((0 : Nat) : Int) = _; omega
  | x :: l, a, b, hn, ⟨h1, h2⟩ => by
    have ih := til_len (fun c hc => hn c (List.mem_cons_of_mem x hc)) h2
    have hx := exp_len (hn x (by simp))
    show ((exp x ++ expL l).length : Int) = _
    rw [List.length_append]
    have : tend x = x.to + tlen x := rfl
    omega
theorem til_at : ∀ {l : List G.Command} {a b o : Int} {c : G.Command}, (∀ c ∈ l, Nice c) → Til a l b → c ∈ l → c.to ≤ o → o < tend c → (expL l)[(o - a).toNat]? = (exp c)[(o - c.to).toNat]?
  | x :: l, a, b, o, c, hn, ⟨h1, h2⟩, hc, h3, h4 => by
    have hx := exp_len (hn x (by simp))
    have te : tend x = x.to + tlen x := rfl
    have hn' := fun c hc => hn c (List.mem_cons_of_mem x hc)
    show (exp x ++ expL l)[(o - a).toNat]? = _
    rcases List.mem_cons.1 hc with rfl | hc
    · rw [List.getElem?_append_left (by omega), h1]
    · have h5 := ((til_in hn' h2).2 c hc).1
      have h6 := (hn x (by simp)).len1
      rw [List.getElem?_append_right (by omega), ← til_at hn' h2 hc h3 h4]
      congr 1; omega
end G
end Go.Proofs.Ythnhjibbkleneaa
namespace Go.Proofs.Ythnhjibbkleneaa
open G
namespace G
def rd (a0 : List UInt8) : Org → UInt8
  | .inl k => a0.getD k.toNat 0
  | .inr b => b
def byts (a0 : List UInt8) (c : G.Command) : List UInt8 := (exp c).map (rd a0)
def file (a0 : List UInt8) (S : List G.Command) : List UInt8 := (expL S).map (rd a0)
section
variable {d : G.Delta} {S : List G.Command} {a0 : List UInt8}
theorem byts_len {c : G.Command} (h : Nice c) : ((byts a0 c).length : Int) = tlen c := by unfold byts; rw [List.length_map]; exact exp_len h
theorem byts_copy {c : G.Command} (hk : c.kind = 1) (h0 : 0 ≤ c.from_) (h1 : 0 ≤ c.len) (h2 : c.from_ + c.len ≤ (a0.length : Int)) : byts a0 c = (a0.take (c.from_ + c.len).toNat).drop c.from_.toNat := by
  unfold byts
  rw [exp_copy hk, List.map_map]
  refine List.ext_getElem (by simp only [List.length_map, List.length_range, List.length_drop, List.length_take]; omega) fun i h3 h4 => ?_
  simp only [List.length_map, List.length_range] at h3
  simp only [List.getElem_map, List.getElem_range, List.getElem_drop, List.getElem_take, Function.comp_apply, rd]
  rw [show (c.from_ + (i : Int)).toNat = c.from_.toNat + i by omega, List.getD_eq_getElem?_getD, List.getElem?_eq_getElem (by omega)]
  rfl
theorem byts_lit {c : G.Command} (hk : c.kind ≠ 1) : byts a0 c = c.data := by
  unfold byts
  rw [exp_lit hk, List.map_map]
  have : rd a0 ∘ Sum.inr = id := by funext b; rfl
  rw [this, List.map_id]
theorem bytesOf_of {c : G.Command} {N M : Int} (h : Fit N M c) (hM : M ≤ (a0.length : Int)) (hl : a0.length ≤ 1000000) : G.patch_bytesOf a0 c = some (byts a0 c) := by
  unfold G.patch_bytesOf
  rw [Source_of]
  by_cases hk : c.kind = 1
  · have hs := h.src hk
    have hn := h.nice.len1
    rw [tlen_copy hk] at hn
    simp only [if_pos hk, Option.bind_some, if_true]
    rw [w64 (by omega) (by omega), slcMid_of (by omega), byts_copy hk hs.1 (by omega) (by omega)]
    rfl
  · simp only [if_neg hk, Option.bind_some, Bool.false_eq_true, if_false]
    rw [byts_lit hk]
theorem file_at {o : Int} {c : G.Command} (h : Sm d S) (hc : c ∈ S) (h1 : c.to ≤ o) (h2 : o < tend c) : (file a0 S)[o.toNat]? = (byts a0 c)[(o - c.to).toNat]? := by
  unfold file byts
  have := til_at h.nice h.til hc h1 h2
  rw [Int.sub_zero] at this
  rw [List.getElem?_map, List.getElem?_map, this]
theorem file_len (h : Sm d S) : ((file a0 S).length : Int) = d.newLen := by
  unfold file; rw [List.length_map, til_len h.nice h.til]; omega
theorem fits_of (hv : VD d) (hn : d.commands.length ≤ 17592186044416) (hl : d.oldLen = (a0.length : Int)) : G.patch_fits a0 d = some true := by
  unfold G.patch_fits
  obtain ⟨b, h1, _, h2⟩ := Valid5_of (d := d) hn
  rw [h1, h2.2 hv]
  simp only [Option.bind_some, if_true]
  rw [beq_iff_eq.2 hl]
theorem cpy_at {α : Type} {l x : List α} {o : Nat} (h : o + x.length ≤ l.length) (j : Nat) : (cpy l o x)[j]? = if o ≤ j ∧ j < o + x.length then x[j - o]? else l[j]? := by
  have hl : (l.take o).length = o := by simp; omega
  unfold cpy
  rw [List.take_of_length_le (l := x) (by omega)]
  by_cases h1 : j < o
  · rw [if_neg (by omega), List.getElem?_append_left (by omega), List.getElem?_take, if_pos h1]
  · rw [List.getElem?_append_right (by omega), hl]
    by_cases h2 : j < o + x.length
    · rw [if_pos ⟨by omega, h2⟩, List.getElem?_append_left (by omega)]
    · rw [if_neg (by omega), List.getElem?_append_right (by omega), List.getElem?_drop, show o + x.length + (j - o - x.length) = j by omega]
theorem Apply_of (h : Sm d S) (hl : d.oldLen = (a0.length : Int)) (ha : a0.length ≤ 1000000) : G.patch_Apply a0 d = some (file a0 S) := by
  have hN := h.new
  have hR := h.vd.rng
  unfold InR at hR
  unfold G.patch_Apply
  rw [fits_of h.vd (by have := h.len; omega) hl]
  simp only [Option.bind_some, Bool.true_eq_false, if_false]
  rw [chk_of (by omega)]
  simp only [Option.bind_some]
  obtain ⟨r, hr, rfl⟩ := Iter_total (f := G.patch_Apply_l1 a0 d)
    (fun m st => ∃ (k : Nat) (out : List UInt8), st = ((k : Int), out) ∧ m = d.commands.length - k ∧ k ≤ d.commands.length ∧ (out.length : Int) = d.newLen ∧ ∀ i (hi : i < d.commands.length), i < k → ∀ o : Int, d.commands[i].to ≤ o → o < tend d.commands[i] → out[o.toNat]? = (file a0 S)[o.toNat]?)
    (fun r => r = file a0 S) (by
      rintro m st ⟨k, out, rfl, rfl, hk, hlen, hall⟩
      unfold G.patch_Apply_l1
      by_cases hlt : k < d.commands.length
      · left
        rw [if_pos (by simp; omega)]
        have hm : d.commands[k] ∈ S := h.perm.mem_iff.2 (List.getElem_mem hlt)
        have hf := h.fit _ hm
        have f0 := hf.to0; have f1 := hf.fits; have f2 := hf.nice.len1
        simp only [idx_of hlt, Option.bind_some]
        rw [chk_of (by unfold tend at f1; omega), bytesOf_of hf (by omega) ha]
        simp only [Option.bind_some, inc64 hlt (by have := h.len; omega)]
        have bl := byts_len (a0 := a0) hf.nice
        have te : tend d.commands[k] = d.commands[k].to + tlen d.commands[k] := rfl
        rw [List.take_of_length_le (by omega)]
        refine ⟨d.commands.length - (k + 1), _, rfl, by omega, k + 1, _, rfl, rfl, by omega, by rw [cpy_length (by omega)]; exact hlen, fun i hi hik o h1 h2 => ?_⟩
        rw [cpy_at (by omega)]
        by_cases hin : d.commands[k].to ≤ o ∧ o < tend d.commands[k]
        · rw [if_pos (by omega), file_at h hm hin.1 hin.2]
          congr 1; omega
        · have hi0 := (h.fit _ (h.perm.mem_iff.2 (List.getElem_mem hi))).to0
          rw [if_neg (by omega)]
          by_cases e : i = k
          · subst e; exact absurd ⟨h1, h2⟩ hin
          · exact hall i hi (by omega) o h1 h2
      · right
        rw [if_neg (by simp; omega)]
        refine ⟨_, rfl, List.ext_getElem? fun j => ?_⟩
        have fl := file_len (a0 := a0) h
        show out[j]? = _
        by_cases hj : (j : Int) < d.newLen
        · obtain ⟨c, hc, h1, h2⟩ := h.vd.full (j : Int) (by omega) hj
          obtain ⟨i, hi, rfl⟩ := List.mem_iff_getElem.1 hc
          have := hall i hi (by omega) (j : Int) h1 h2
          rwa [Int.toNat_natCast] at this
        · rw [List.getElem?_eq_none (by omega), List.getElem?_eq_none (by omega)]) _ _ ⟨0, List.replicate d.newLen.toNat 0, rfl, rfl, Nat.zero_le _, by rw [List.length_replicate]; omega, fun i hi h => by omega⟩
  exact hr
theorem refApply_of (h : Sm d S) (hl : d.oldLen = (a0.length : Int)) (ha : a0.length ≤ 1000000) : G.graftref08_Apply a0 d = some (file a0 S) := by
  have hN := h.new
  have hR := h.vd.rng
  unfold InR at hR
  have fl := file_len (a0 := a0) h
  unfold G.graftref08_Apply
  refine Iter_count (f := G.graftref08_Apply_l1 a0 d) (file a0 S).length (fun k => ((file a0 S).take k, (k : Int))) _ (fun k hk => ?_) ?_ rfl
  · unfold G.graftref08_Apply_l1
    rw [if_pos (by simp only; omega)]
    obtain ⟨r, hr, hr1, hr2⟩ := Find5_full h.vd.good (by have := h.len; omega) (k : Int)
    have hr0 : 0 ≤ r := Int.not_lt.1 fun hlt => hr1.1 hlt (h.vd.full _ (by omega) (by omega))
    obtain ⟨i, hi, rfl, h2, h3⟩ := hr2 hr0
    simp only [hr, Option.bind_some, idx_of hi]
    have hm : d.commands[i] ∈ S := h.perm.mem_iff.2 (List.getElem_mem hi)
    have hf := h.fit _ hm
    generalize d.commands[i] = c at *
    have hat := file_at (a0 := a0) h hm h2 h3
    have f1 := hf.fits; have f2 := hf.to0
    have te : tend c = c.to + tlen c := rfl
    have bl := byts_len (a0 := a0) hf.nice
    rw [Int.toNat_natCast, List.getElem?_eq_getElem hk, List.getElem?_eq_getElem (by omega)] at hat
    have hat := Option.some.inj hat
    have happ : ∀ u, u = (file a0 S)[k] → (app 1 ((file a0 S).take k) [u]).bind (fun y => some (Sum.inl (α := List UInt8 × Int) (β := List UInt8) (y, IntKind.i64.wrap ((k : Int) + 1)))) = some (.inl ((file a0 S).take (k + 1), ((k + 1 : Nat) : Int))) := by
      rintro u rfl
      rw [app_of (by simp; omega), List.take_succ_eq_append_getElem hk]
      simp only [Option.bind_some]
      rw [inc64 (n := 100000) (by omega) (by omega)]
    by_cases hkd : c.kind = 1
    · have hs := hf.src hkd
      have hn := hf.nice.len1
      rw [tlen_copy hkd] at te hn bl
      rw [if_pos hkd, w64 (x := c.from_ + (k : Int)) (by omega) (by omega), w64 (by omega) (by omega), idx_getD' (k := (c.from_ + (k : Int) - c.to).toNat) (0 : UInt8) (by omega) (by omega)]
      simp only [Option.bind_some]
      refine happ _ ?_
      rw [hat]
      simp only [byts_copy hkd hs.1 (by omega) (show c.from_ + c.len ≤ (a0.length : Int) by omega), List.getElem_drop, List.getElem_take]
      rw [List.getD_eq_getElem?_getD, List.getElem?_eq_getElem (by omega)]
      simp only [Option.getD_some]
      congr 1; omega
    · rw [tlen_lit hkd] at te bl
      rw [if_neg hkd, w64 (by omega) (by omega), idx_getD' (k := ((k : Int) - c.to).toNat) (0 : UInt8) (by omega) (by omega)]
      simp only [Option.bind_some]
      refine happ _ ?_
      rw [hat]
      simp only [byts_lit hkd]
      rw [List.getD_eq_getElem?_getD, List.getElem?_eq_getElem (by omega)]
      rfl
  · unfold G.graftref08_Apply_l1
    rw [if_neg (by simp only; omega)]
    simp
end
end G
end Go.Proofs.Ythnhjibbkleneaa
