/- Part of what the laws need: plain words, the walker and its laws, the program's functions. -/
import Derived.Test.YthhmandpjlggcaaZPBase
import Derived.Test.YthhmandpjlggcaaZEG
import Derived.KernelRfl
namespace Go.Proofs.Ythhmandpjlggcaa
open G
namespace G
def tlen (c : G.Command) : Int := if c.kind = 1 then c.len else (c.data.length : Int)
def tend (c : G.Command) : Int := c.to + tlen c
theorem Target_of (c : G.Command) : G.command_Target c = some ⟨c.to, tlen c⟩ := by unfold G.command_Target G.command_of tlen; split <;> rfl
theorem Len4_of (c : G.Command) : G.graftref04_Len c = some (tlen c) := by unfold G.graftref04_Len tlen; split <;> rfl
theorem Target4_of (c : G.Command) : G.graftref04_Target c = some ⟨c.to, tlen c⟩ := by unfold G.graftref04_Target; rw [Len4_of]; rfl
def vld (o n : Int) : Bool := decide (0 ≤ o ∧ 0 ≤ n ∧ o + n ≤ 4611686018427387903)
theorem vld_iff {o n : Int} : vld o n = true ↔ 0 ≤ o ∧ 0 ≤ n ∧ o + n ≤ 4611686018427387903 := by unfold vld; simp
theorem Valid1_of (e : G.Extent) : G.graftref01_Valid e = some (vld e.off e.len) := by
  unfold G.graftref01_Valid vld G.graftref01_Max
  simp only [Option.bind_some]
  split
  · split
    · split
      · rw [w64 (by omega) (by omega)]; congr 1; rw [decide_eq_decide]; omega
      · congr 1; symm; rw [decide_eq_false_iff_not]; omega
    · congr 1; symm; rw [decide_eq_false_iff_not]; omega
  · congr 1; symm; rw [decide_eq_false_iff_not]; omega
def chk4 (c : G.Command) : Int :=
  if c.kind ≠ 1 ∧ c.kind ≠ 2 then 11 else if tlen c = 0 then 7 else if vld c.to (tlen c) = false then 2 else
    if c.kind = 1 then (if c.data.length = 0 ∧ vld c.from_ c.len = true then 0 else 2) else if c.from_ = 0 ∧ c.len = 0 then 0 else 2
theorem Check4_of (c : G.Command) : G.graftref04_Check c = some (chk4 c) := by
  unfold G.graftref04_Check chk4 G.graftref04_Source
  simp only [Target4_of, Len4_of, Valid1_of, Option.bind_some]
  by_cases k1 : c.kind = 1
  · by_cases t0 : tlen c = 0
    · simp [k1, t0]
    · cases hv : vld c.to (tlen c)
      · simp [k1, t0, hv]
      · by_cases d0 : c.data.length = 0
        · have : ¬ (c.data.length : Int) > 0 := by omega
          cases hw : vld c.from_ c.len <;> simp [k1, t0, hv, d0, hw]
        · have : 0 < c.data.length := by omega
          simp [k1, t0, hv, d0, this]
  · by_cases k2 : c.kind = 2
    · by_cases t0 : tlen c = 0
      · simp [k2, t0]
      · cases hv : vld c.to (tlen c)
        · simp [k2, t0, hv]
        · by_cases f0 : c.from_ = 0
          · by_cases l0 : c.len = 0 <;> simp [k2, t0, hv, f0, l0]
          · simp [k2, t0, hv, f0]
    · simp [k1, k2]
theorem chk4_zero {c : G.Command} (h : chk4 c = 0) : 0 ≤ c.to ∧ 1 ≤ tlen c ∧ tend c ≤ 4611686018427387903 ∧ (c.kind = 1 → 0 ≤ c.from_ ∧ 0 ≤ c.len ∧ c.from_ + c.len ≤ 4611686018427387903 ∧ c.data = []) ∧ (c.kind ≠ 1 → c.kind = 2 ∧ c.from_ = 0 ∧ c.len = 0) := by
  unfold chk4 at h
  split at h
  · omega
  · rename_i hk
    split at h
    · omega
    · rename_i ht
      split at h
      · omega
      · rename_i hv
        have hv' := vld_iff.1 (by simpa using hv)
        refine ⟨hv'.1, by omega, hv'.2.2, fun k1 => ?_, fun k1 => ?_⟩
        · rw [if_pos k1] at h
          split at h
          · rename_i hd
            have := vld_iff.1 hd.2
            exact ⟨this.1, this.2.1, this.2.2, List.eq_nil_of_length_eq_zero hd.1⟩
          · omega
        · rw [if_neg k1] at h
          split at h
          · rename_i hd
            exact ⟨by omega, hd.1, hd.2⟩
          · omega
structure Good (d : G.Delta) (c : G.Command) : Prop where
  to0 : 0 ≤ c.to
  len1 : 1 ≤ tlen c
  fits : tend c ≤ d.newLen
  max : tend c ≤ 4611686018427387903
  copy : c.kind = 1 → 0 ≤ c.from_ ∧ 0 ≤ c.len ∧ c.from_ + c.len ≤ d.oldLen ∧ c.from_ + c.len ≤ 4611686018427387903 ∧ c.data = []
  lit : c.kind ≠ 1 → c.kind = 2 ∧ c.from_ = 0 ∧ c.len = 0
def ov (a b : G.Command) : Bool := decide (a.to < tend b ∧ b.to < tend a)
theorem Overlap1_of {d : G.Delta} {a b : G.Command} (ha : Good d a) (hb : Good d b) : ∃ e, G.graftref01_Overlap ⟨a.to, tlen a⟩ ⟨b.to, tlen b⟩ = some e ∧ decide (e.len > 0) = ov a b := by
  have := ha.to0; have := hb.to0; have := ha.max; have := hb.max; have := ha.len1; have := hb.len1
  unfold G.graftref01_Overlap
  simp only
  unfold tend at *
  rw [w64 (x := a.to + tlen a) (by omega) (by omega), w64 (x := b.to + tlen b) (by omega) (by omega)]
  have hx : imin (a.to + tlen a) (b.to + tlen b) - imax a.to b.to ≤ 4611686018427387903 ∧ -4611686018427387903 ≤ imin (a.to + tlen a) (b.to + tlen b) - imax a.to b.to ∧ (imax a.to b.to ≥ imin (a.to + tlen a) (b.to + tlen b) ↔ ¬ (a.to < b.to + tlen b ∧ b.to < a.to + tlen a)) := by
    unfold imin imax; split <;> split <;> omega
  unfold ov tend
  split
  · rename_i h
    exact ⟨_, rfl, by rw [decide_eq_false (hx.2.2.1 h)]; rfl⟩
  · rename_i h
    refine ⟨_, rfl, ?_⟩
    rw [w64 (by omega) (by omega), decide_eq_decide]
    constructor
    · intro _; exact Classical.not_not.1 (fun k => h (hx.2.2.2 k))
    · intro _; show imin (a.to + tlen a) (b.to + tlen b) - imax a.to b.to > 0; omega
abbrev cat (l : List G.Command) (i : Nat) : G.Command := l.getD i default
theorem cat_getElem {l : List G.Command} {i : Nat} (h : i < l.length) : cat l i = l[i] := by simp [cat, h]
def ovi (l : List G.Command) (i : Nat) : Bool := (l.take i).any fun c => ov (cat l i) c
end G
end Go.Proofs.Ythhmandpjlggcaa
namespace Go.Proofs.Ythhmandpjlggcaa
open G
namespace G
def dM : G.Delta := ⟨4611686018427387903, 4611686018427387903, fun _ => 0, fun _ => 0, []⟩
theorem good_dM {c : G.Command} (h : chk4 c = 0) : Good dM c := by
  obtain ⟨h1, h2, h3, h4, h5⟩ := chk4_zero h
  exact ⟨h1, h2, h3, h3, fun hk => by obtain ⟨k1, k2, k3, k4⟩ := h4 hk; exact ⟨k1, k2, k3, k3, k4⟩, h5⟩
structure Rt (l : List G.Command) : Prop where
  len : l.length ≤ 30
  good : ∀ c ∈ l, Good dM c
  data : ∀ c ∈ l, c.data.length ≤ 200
  apart : ∀ i, i < l.length → ovi l i = false
section
variable {l : List G.Command}
theorem right_in {i : Nat} (hn : l.length ≤ 30) (hi : i < l.length) (hg : ∀ j (hj : j < l.length), j ≤ i → Good dM l[j]) :
    Iter (G.graftref12_Right_l2 l (i : Int)) 0 = some (if ovi l i = true then .inr false else .inl ((i + 1 : Nat) : Int)) := by
  have hl : (l.take i).length = i := by simp; omega
  have hK := Iter_scan (f := G.graftref12_Right_l2 l (i : Int)) (l.take i) (fun c => ov (cat l i) c) (fun k => (k : Int)) (fun _ => .inr false) (.inl ((i + 1 : Nat) : Int))
    (fun k h hb => by
      have hk : (l.take i)[k] = l[k]'(by omega) := List.getElem_take
      obtain ⟨e, he, he2⟩ := Overlap1_of (hg i hi (Nat.le_refl _)) (hg k (by omega) (by omega))
      rw [hk, cat_getElem hi] at hb
      unfold G.graftref12_Right_l2
      rw [if_pos (by omega), idx_of hi, idx_of (show k < l.length by omega)]
      simp only [Option.bind_some, Target4_of, he]
      rw [if_neg (by rw [hb] at he2; simpa using he2), inc64 (n := 17592186044417) (by omega) (by omega)])
    (fun k h hb => by
      have hk : (l.take i)[k] = l[k]'(by omega) := List.getElem_take
      obtain ⟨e, he, he2⟩ := Overlap1_of (hg i hi (Nat.le_refl _)) (hg k (by omega) (by omega))
      rw [hk, cat_getElem hi] at hb
      unfold G.graftref12_Right_l2
      rw [if_pos (by omega), idx_of hi, idx_of (show k < l.length by omega)]
      simp only [Option.bind_some, Target4_of, he]
      rw [if_pos (by rw [hb] at he2; simpa using he2)])
    (by unfold G.graftref12_Right_l2; rw [if_neg (by omega), inc64 (n := 17592186044417) (by omega) (by omega)]) (s := 0) rfl
  rcases hK with ⟨ha, he⟩ | ⟨k, h, hb, _, he⟩
  · rw [he, if_neg]
    unfold ovi; rw [List.any_eq_true]
    rintro ⟨c, hc, h⟩
    rw [ha c hc] at h; cases h
  · rw [he, if_pos]
    unfold ovi; rw [List.any_eq_true]
    exact ⟨_, List.getElem_mem h, hb⟩
theorem Right_of (l : List G.Command) (hL : l.length ≤ 9223372036854775807) : ∃ b, G.graftref12_Right l = some b ∧ (b = true → Rt l) := by
  unfold G.graftref12_Right
  by_cases hn : (l.length : Int) > 30
  · rw [if_pos hn]; exact ⟨false, rfl, fun h => by cases h⟩
  rw [if_neg hn]
  refine Iter_total (f := G.graftref12_Right_l1 l)
    (fun m s => ∃ i : Nat, s = (i : Int) ∧ m = l.length - i ∧ i ≤ l.length ∧ ∀ j (hj : j < l.length), j < i → Good dM l[j] ∧ l[j].data.length ≤ 200 ∧ ovi l j = false)
    (fun b => b = true → Rt l) ?_ l.length 0 ⟨0, rfl, rfl, Nat.zero_le _, fun j hj h => by omega⟩
  rintro m s ⟨i, rfl, rfl, hi, hall⟩
  unfold G.graftref12_Right_l1
  by_cases hlt : i < l.length
  · rw [if_pos (by omega)]
    simp only [idx_of hlt, Option.bind_some, Check4_of]
    by_cases hc : chk4 l[i] ≠ 0
    · rw [if_pos hc]
      exact .inr ⟨false, rfl, fun h => by cases h⟩
    · have hg := good_dM (Classical.not_not.1 hc)
      rw [if_neg hc]
      simp only [Option.bind_some]
      by_cases hd : (l[i].data.length : Int) > 200
      · rw [if_pos (decide_eq_true hd)]
        exact .inr ⟨false, rfl, fun h => by cases h⟩
      · rw [if_neg (by simpa using hd), right_in (by omega) hlt (fun j hj hji => by
          by_cases e : j = i
          · subst e; exact hg
          · exact (hall j hj (by omega)).1)]
        by_cases ho : ovi l i = true
        · rw [if_pos ho]; exact .inr ⟨false, rfl, fun h => by cases h⟩
        · rw [if_neg ho]
          refine .inl ⟨l.length - (i + 1), _, rfl, by omega, i + 1, rfl, rfl, by omega, fun j hj hji => ?_⟩
          by_cases e : j = i
          · subst e; exact ⟨hg, by omega, by simpa using ho⟩
          · exact hall j hj (by omega)
  · rw [if_neg (by omega)]
    refine .inr ⟨true, rfl, fun _ => ⟨by omega, fun c hc => ?_, fun c hc => ?_, fun j hj => (hall j hj (by omega)).2.2⟩⟩
    · obtain ⟨j, hj, rfl⟩ := List.mem_iff_getElem.1 hc; exact (hall j hj (by omega)).1
    · obtain ⟨j, hj, rfl⟩ := List.mem_iff_getElem.1 hc; exact (hall j hj (by omega)).2.1
def hit (c j : G.Command) : Bool := decide (c.kind = 1 ∧ c.from_ < tend j ∧ j.to < c.from_ + c.len)
def tgt (c : G.Command) : G.Extent := ⟨c.to, tlen c⟩
end
end G
end Go.Proofs.Ythhmandpjlggcaa
namespace Go.Proofs.Ythhmandpjlggcaa
open G
namespace G
section
variable {l : List G.Command}
def wrt (l : List G.Command) (i : Nat) (o : Int) : Bool := (l.take i).any fun c => decide (c.to ≤ o ∧ o < tend c)
end
end G
end Go.Proofs.Ythhmandpjlggcaa
namespace Go.Proofs.Ythhmandpjlggcaa
open G
namespace G
section
variable {a0 : List UInt8} {l : List G.Command}
theorem src5 (c : G.Command) : G.command_Source c = some (if c.kind = 1 then (⟨c.from_, c.len⟩, true) else (⟨0, 0⟩, false)) := by
  unfold G.command_Source; by_cases h : c.kind = 1 <;> simp [h]
end
end G
end Go.Proofs.Ythhmandpjlggcaa
namespace Go.Proofs.Ythhmandpjlggcaa
open G
namespace G
theorem Reads_of {a b : G.Command} (ha : Good dM a) (hb : Good dM b) : ∃ n, G.graftref12_Reads a b = some n ∧ (n > 0 ↔ hit a b = true) := by
  unfold G.graftref12_Reads hit
  by_cases hk : a.kind = 1
  · obtain ⟨k1, k2, k3, k4, _⟩ := ha.copy hk
    have k5 := ha.len1
    rw [show tlen a = a.len by unfold tlen; rw [if_pos hk]] at k5
    have b1 := hb.to0; have b2 := hb.len1; have b3 := hb.max
    rw [if_neg (by simp [hk])]
    unfold G.graftref04_Source G.graftref01_Overlap
    unfold tend at b3 ⊢
    simp only [Option.bind_some, Target4_of]
    rw [w64 (x := a.from_ + a.len) (by omega) (by omega), w64 (x := b.to + tlen b) (by omega) (by omega), decide_eq_true_eq]
    by_cases h : imax a.from_ b.to ≥ imin (a.from_ + a.len) (b.to + tlen b)
    · rw [if_pos h]
      refine ⟨_, rfl, ?_⟩
      simp only
      revert h
      unfold imax imin
      split <;> split <;> omega
    · rw [if_neg h]
      refine ⟨_, rfl, ?_⟩
      simp only
      revert h
      unfold imax imin
      split <;> split <;> (intro h; rw [w64 (by omega) (by omega)]; omega)
  · rw [if_pos (by simpa using hk)]
    exact ⟨0, rfl, by simp [hk]⟩
end G
end Go.Proofs.Ythhmandpjlggcaa
namespace Go.Proofs.Ythhmandpjlggcaa
open G
section
variable {T : Type} [Inhabited T]
def cz (l : List T) (i : Int) : T := l.getD i.toNat default
def sz (l : List T) (i j : Int) : List T := (l.set i.toNat (cz l j)).set j.toNat (cz l i)
theorem idc {l : List T} {i : Int} (h0 : 0 ≤ i) (h : i < (l.length : Int)) : idx l i = some (cz l i) := by
  unfold idx cz
  rw [if_pos h0, List.getD_eq_getElem?_getD, List.getElem?_eq_getElem (by omega)]; rfl
theorem sz_len (l : List T) (i j : Int) : (sz l i j).length = l.length := by simp [sz]
theorem cz_set {l : List T} {m k : Int} {v : T} (hm : 0 ≤ m ∧ m < (l.length : Int)) (hk : 0 ≤ k) : cz (l.set m.toNat v) k = if k = m then v else cz l k := by
  unfold cz
  rw [List.getD_eq_getElem?_getD, List.getElem?_set]
  by_cases h : k = m
  · subst h; rw [if_pos rfl, if_pos rfl, if_pos (by omega)]; rfl
  · rw [if_neg (by omega), if_neg h]; simp
theorem cz_sz {l : List T} {i j : Int} (hi : 0 ≤ i ∧ i < (l.length : Int)) (hj : 0 ≤ j ∧ j < (l.length : Int)) {k : Int} (hk : 0 ≤ k) : cz (sz l i j) k = if k = i then cz l j else if k = j then cz l i else cz l k := by
  unfold sz
  rw [cz_set (by simpa using hj) hk, cz_set hi hk]
  by_cases h1 : k = j
  · by_cases h2 : k = i
    · rw [if_pos h1, if_pos h2, ← h1, ← h2]
    · rw [if_pos h1, if_neg h2, if_pos h1]
  · rw [if_neg h1]
    by_cases h2 : k = i
    · rw [if_pos h2, if_pos h2]
    · rw [if_neg h2, if_neg h2, if_neg h1]
theorem cz_get {l : List T} {i : Nat} (h : i < l.length) : cz l (i : Int) = l[i] := by
  unfold cz; rw [Int.toNat_natCast, List.getD_eq_getElem?_getD, List.getElem?_eq_getElem h]; rfl
theorem sz_perm {l : List T} {i j : Int} (hi : 0 ≤ i ∧ i < (l.length : Int)) (hj : 0 ≤ j ∧ j < (l.length : Int)) : (sz l i j).Perm l := by
  unfold sz
  have e1 : cz l i = l[i.toNat]'(by omega) := by rw [← cz_get (by omega), Int.toNat_of_nonneg hi.1]
  have e2 : cz l j = l[j.toNat]'(by omega) := by rw [← cz_get (by omega), Int.toNat_of_nonneg hj.1]
  rw [e1, e2]
  exact List.set_set_perm (by omega) (by omega)
inductive Sws (a b : Int) (l : List T) : List T → Prop
  | refl : Sws a b l l
  | step {l' : List T} {i j : Int} : Sws a b l l' → (a ≤ i ∧ i < b) → (a ≤ j ∧ j < b) → (0 ≤ i ∧ i < (l'.length : Int)) → (0 ≤ j ∧ j < (l'.length : Int)) → Sws a b l (sz l' i j)
variable {a b : Int} {l l' l'' : List T}
theorem Sws.len (h : Sws a b l l') : l'.length = l.length := by
  induction h with
  | refl => rfl
  | step _ _ _ _ _ ih => rw [sz_len, ih]
theorem Sws.trans (h : Sws a b l l') (k : Sws a b l' l'') : Sws a b l l'' := by
  induction k with
  | refl => exact h
  | step _ h1 h2 h3 h4 ih => exact ih.step h1 h2 h3 h4
theorem Sws.mono (h : Sws a b l l') {a' b' : Int} (ha : a' ≤ a) (hb : b ≤ b') : Sws a' b' l l' := by
  induction h with
  | refl => exact .refl
  | step _ h1 h2 h3 h4 ih => exact ih.step ⟨by omega, by omega⟩ ⟨by omega, by omega⟩ h3 h4
theorem Sws.one (i j : Int) (h1 : a ≤ i ∧ i < b) (h2 : a ≤ j ∧ j < b) (ha : 0 ≤ a) (hb : b ≤ (l.length : Int)) : Sws a b l (sz l i j) := Sws.refl.step h1 h2 ⟨by omega, by omega⟩ ⟨by omega, by omega⟩
theorem Sws.perm (h : Sws a b l l') : l'.Perm l := by
  induction h with
  | refl => exact .refl _
  | step _ _ _ h3 h4 ih => exact (sz_perm h3 h4).trans ih
theorem Sws.out (h : Sws a b l l') {k : Int} (hk : 0 ≤ k) (ho : k < a ∨ b ≤ k) : cz l' k = cz l k := by
  induction h with
  | refl => rfl
  | step _ h1 h2 h3 h4 ih => rw [cz_sz h3 h4 hk, if_neg (by omega), if_neg (by omega), ih]
theorem Sws.all (h : Sws a b l l') (P : T → Prop) (hP : ∀ k, 0 ≤ k → a ≤ k → k < b → P (cz l k)) : ∀ k, 0 ≤ k → a ≤ k → k < b → P (cz l' k) := by
  induction h with
  | refl => exact hP
  | step _ h1 h2 h3 h4 ih =>
    intro k hk h5 h6
    rw [cz_sz h3 h4 hk]
    split
    · exact ih _ h4.1 h2.1 h2.2
    · split
      · exact ih _ h3.1 h1.1 h1.2
      · exact ih _ hk h5 h6
end
end Go.Proofs.Ythhmandpjlggcaa
namespace Go.Proofs.Ythhmandpjlggcaa
open G
namespace QI
abbrev T := G.index_entry
def key (x : T) : Int := x.extent.off
def cm (x y : T) : Int := if key x < key y then -1 else if key x > key y then 1 else 0
theorem cmp_of (x y : T) : G.index_New_1 x y = some (cm x y) := by
  unfold G.index_New_1 G.cmp_Compare_int G.cmp_isNaN_int
  unfold cm key
  simp only [Option.bind_some, bne_self_eq_false, Bool.false_eq_true, if_false]
  split
  · rfl
  · split <;> rfl
theorem cm_lt (x y : T) : (cm x y < 0) = (key x < key y) := by
  unfold cm; apply propext; split
  · simp [*]
  · split <;> simp [*]
variable {l : List T} {a b : Int}
def Srt (l : List T) (a b : Int) : Prop := ∀ p q, a ≤ p → p < q → q < b → key (cz l p) ≤ key (cz l q)
theorem ins_in {i : Int} (ha : 0 ≤ a) (hai : a ≤ i) (hib : i < b) (hb : b ≤ (l.length : Int)) (hn : l.length ≤ 1000) (hs : Srt l a i) :
    ∃ l', Iter (G.slices_insertionSortCmpFunc_index_entry_v0_index_New_1_l2 a (i, l)) (i, l) = some (.inl (i + 1, l')) ∧ Sws a b l l' ∧ Srt l' a (i + 1) := by
  obtain ⟨r, h1, l', rfl, h2, h3⟩ := Iter_total (f := G.slices_insertionSortCmpFunc_index_entry_v0_index_New_1_l2 a (i, l))
    (fun m s => ∃ (j : Int) (l1 : List T), s = (j, l1) ∧ m = j.toNat ∧ a ≤ j ∧ j ≤ i ∧ Sws a b l l1 ∧ ∀ p q, a ≤ p → p < q → q ≤ i → q ≠ j → key (cz l1 p) ≤ key (cz l1 q))
    (fun r => ∃ l', r = .inl (i + 1, l') ∧ Sws a b l l' ∧ Srt l' a (i + 1)) (by
      rintro m s ⟨j, l1, rfl, rfl, h1, h2, h3, h4⟩
      have hl := h3.len
      have w1 : IntKind.i64.wrap (j - 1) = j - 1 := w64 (by omega) (by omega)
      have w2 : IntKind.i64.wrap (i + 1) = i + 1 := w64 (by omega) (by omega)
      unfold G.slices_insertionSortCmpFunc_index_entry_v0_index_New_1_l2
      simp only [w1, w2]
      by_cases hj : j > a
      · have e1 : idx l1 j = some (cz l1 j) := idc (by omega) (by omega)
        have e2 : idx l1 (j - 1) = some (cz l1 (j - 1)) := idc (by omega) (by omega)
        have e3 : idx (l1.set j.toNat (cz l1 (j - 1))) (j - 1) = some _ := idc (by omega) (by rw [List.length_set]; omega)
        simp only [if_pos hj, e1, e2, e3, cmp_of, Option.bind_some, cm_lt, decide_eq_true_eq]
        by_cases hc : key (cz l1 j) < key (cz l1 (j - 1))
        · rw [if_pos hc]
          refine .inl ⟨_, _, rfl, ?_, j - 1, sz l1 j (j - 1), rfl, rfl, by omega, by omega, h3.step ⟨by omega, by omega⟩ ⟨by omega, by omega⟩ ⟨by omega, by omega⟩ ⟨by omega, by omega⟩, fun p q hp hpq hq hne => ?_⟩
          · omega
          · have c := fun (k : Int) (hk : 0 ≤ k) => cz_sz (l := l1) (i := j) (j := j - 1) ⟨by omega, by omega⟩ ⟨by omega, by omega⟩ hk
            have A := h4 p q; have B := h4 (j - 1) q; have C := h4 j q; have D := h4 p (j - 1)
            rw [c p (by omega), c q (by omega)]
            repeat' split
            all_goals omega
        · rw [if_neg hc]
          refine .inr ⟨_, rfl, l1, rfl, h3, fun p q hp hpq hq => ?_⟩
          have A := h4 p q; have D := h4 p (j - 1)
          by_cases e : q = j
          · subst e
            by_cases e2 : p = q - 1
            · subst e2; omega
            · omega
          · omega
      · simp only [if_neg hj, Option.bind_some]
        rw [if_neg (by decide)]
        refine .inr ⟨_, rfl, l1, rfl, h3, fun p q hp hpq hq => h4 p q hp hpq (by omega) (by omega)⟩) i.toNat (i, l) ⟨i, l, rfl, rfl, hai, Int.le_refl _, .refl, fun p q hp hpq hq hne => hs p q hp hpq (by omega)⟩
  exact ⟨l', h1, h2, h3⟩
theorem ins_of (ha : 0 ≤ a) (hab : a ≤ b) (hb : b ≤ (l.length : Int)) (hn : l.length ≤ 1000) : ∃ l', G.slices_insertionSortCmpFunc_index_entry_v0_index_New_1 l a b = some l' ∧ Sws a b l l' ∧ Srt l' a b := by
  unfold G.slices_insertionSortCmpFunc_index_entry_v0_index_New_1
  rw [w64 (by omega) (by omega)]
  exact Iter_total (f := G.slices_insertionSortCmpFunc_index_entry_v0_index_New_1_l1 a b)
    (fun m s => ∃ (i : Int) (l1 : List T), s = (i, l1) ∧ m = (b - i).toNat ∧ a < i ∧ Sws a b l l1 ∧ Srt l1 a i)
    (fun l' => Sws a b l l' ∧ Srt l' a b) (by
      rintro m s ⟨i, l1, rfl, rfl, h1, h2, h3⟩
      have hl := h2.len
      unfold G.slices_insertionSortCmpFunc_index_entry_v0_index_New_1_l1
      simp only
      by_cases hi : i < b
      · obtain ⟨l', k1, k2, k3⟩ := ins_in (b := b) ha (by omega) hi (by omega) (by omega) h3
        rw [if_pos hi, k1]
        exact .inl ⟨_, _, rfl, by omega, i + 1, l', rfl, rfl, by omega, h2.trans k2, k3⟩
      · rw [if_neg hi]
        exact .inr ⟨_, rfl, h2, fun p q hp hpq hq => h3 p q hp hpq (by omega)⟩) _ _ ⟨a + 1, l, rfl, rfl, by omega, .refl, fun p q hp hpq hq => by omega⟩
def HP (l : List T) (lo hi f r : Int) : Prop := ∀ c, 1 ≤ c → c < hi → lo ≤ (c - 1) / 2 → (c - 1) / 2 ≠ r → key (cz l (f + c)) ≤ key (cz l (f + (c - 1) / 2))
theorem sift_of {lo hi f : Int} (hf : 0 ≤ f) (hlo : 0 ≤ lo) (hhi : f + hi ≤ (l.length : Int)) (hn : l.length ≤ 1000) (hlo2 : lo ≤ 1000) (hhi2 : 0 ≤ hi) (hp : HP l lo hi f lo) :
    ∃ l', G.slices_siftDownCmpFunc_index_entry_v0_index_New_1 l lo hi f = some l' ∧ Sws f (f + hi) l l' ∧ HP l' lo hi f (-1) := by
  unfold G.slices_siftDownCmpFunc_index_entry_v0_index_New_1
  exact Iter_total (f := G.slices_siftDownCmpFunc_index_entry_v0_index_New_1_l1 hi f)
    (fun m s => ∃ (r : Int) (l1 : List T), s = (r, l1) ∧ m = (hi - r).toNat ∧ lo ≤ r ∧ r ≤ 1000 ∧ Sws f (f + hi) l l1 ∧ HP l1 lo hi f r ∧ ∀ c, 1 ≤ c → c < hi → (c - 1) / 2 = r → 1 ≤ r → lo ≤ (r - 1) / 2 → key (cz l1 (f + c)) ≤ key (cz l1 (f + (r - 1) / 2)))
    (fun l' => Sws f (f + hi) l l' ∧ HP l' lo hi f (-1)) (by
      rintro m s ⟨r, l1, rfl, rfl, h1, hr, h2, h3, h4⟩
      have hl := h2.len
      unfold G.slices_siftDownCmpFunc_index_entry_v0_index_New_1_l1
      have w1 : IntKind.i64.wrap (2 * r) = 2 * r := w64 (by omega) (by omega)
      have w2 : IntKind.i64.wrap (2 * r + 1) = 2 * r + 1 := w64 (by omega) (by omega)
      have w3 : IntKind.i64.wrap (2 * r + 1 + 1) = 2 * r + 2 := by rw [w64 (by omega) (by omega)]; omega
      have w4 : IntKind.i64.wrap (f + (2 * r + 1)) = f + (2 * r + 1) := w64 (by omega) (by omega)
      have w5 : IntKind.i64.wrap (f + (2 * r + 1) + 1) = f + (2 * r + 2) := by rw [w64 (by omega) (by omega)]; omega
      have w6 : IntKind.i64.wrap (f + r) = f + r := w64 (by omega) (by omega)
      simp only [w1, w2, w3, w4, w5, w6]
      by_cases hc : 2 * r + 1 ≥ hi
      · rw [if_pos hc]
        refine .inr ⟨_, rfl, h2, fun c k1 k2 k3 _ => ?_⟩
        exact h3 c k1 k2 k3 (by omega)
      rw [if_neg hc]
      have hv : ∃ c0, (c0 = 2 * r + 1 ∨ c0 = 2 * r + 2) ∧ c0 < hi ∧ (∀ c, c < hi → c = 2 * r + 1 ∨ c = 2 * r + 2 → key (cz l1 (f + c)) ≤ key (cz l1 (f + c0))) ∧
          (((if 2 * r + 2 < hi then (idx l1 (f + (2 * r + 1))).bind fun x3 => (idx l1 (f + (2 * r + 2))).bind fun x4 => (G.index_New_1 x3 x4).bind fun y5 => some (decide (y5 < 0)) else some false).bind fun v2 => if v2 = true then some (2 * r + 2) else some (2 * r + 1)) = some c0) := by
        by_cases hc2 : 2 * r + 2 < hi
        · rw [if_pos hc2, idc (by omega) (by omega), idc (by omega) (by omega)]
          simp only [Option.bind_some, cmp_of, cm_lt, decide_eq_true_eq]
          by_cases hk : key (cz l1 (f + (2 * r + 1))) < key (cz l1 (f + (2 * r + 2)))
          · rw [if_pos hk]
            exact ⟨_, .inr rfl, hc2, fun c _ hc => by rcases hc with rfl | rfl <;> omega, rfl⟩
          · rw [if_neg hk]
            exact ⟨_, .inl rfl, by omega, fun c _ hc => by rcases hc with rfl | rfl <;> omega, rfl⟩
        · rw [if_neg hc2]
          refine ⟨2 * r + 1, .inl rfl, by omega, fun c h hc => ?_, rfl⟩
          rcases hc with rfl | rfl
          · exact Int.le_refl _
          · omega
      obtain ⟨c0, q1, q2, q3, q4⟩ := hv
      have q4 : ∀ {β : Type} (K : Int → Option β), ((if 2 * r + 2 < hi then (idx l1 (f + (2 * r + 1))).bind fun x3 => (idx l1 (f + (2 * r + 2))).bind fun x4 => (G.index_New_1 x3 x4).bind fun y5 => some (decide (y5 < 0)) else some false).bind fun v2 => (if v2 = true then some (2 * r + 2) else some (2 * r + 1)).bind K) = K c0 := fun {β} K => by
        have := congrArg (fun o => Option.bind o K) q4
        simp only [Option.bind_assoc, Option.bind_some] at this
        exact this
      rw [q4]
      have w7 : IntKind.i64.wrap (f + c0) = f + c0 := w64 (by omega) (by omega)
      have e1 : idx l1 (f + r) = some (cz l1 (f + r)) := idc (by omega) (by omega)
      have e2 : idx l1 (f + c0) = some (cz l1 (f + c0)) := idc (by omega) (by omega)
      have e3 : idx (l1.set (f + r).toNat (cz l1 (f + c0))) (f + c0) = some _ := idc (by omega) (by rw [List.length_set]; omega)
      simp only [w7, e1, e2, e3, cmp_of, Option.bind_some, cm_lt, decide_eq_false_iff_not]
      by_cases hk : key (cz l1 (f + r)) < key (cz l1 (f + c0))
      · rw [if_neg (fun h => h hk)]
        have c := fun (k : Int) (hk : 0 ≤ k) => cz_sz (l := l1) (i := f + r) (j := f + c0) ⟨by omega, by omega⟩ ⟨by omega, by omega⟩ hk
        refine .inl ⟨_, _, rfl, by omega, c0, sz l1 (f + r) (f + c0), rfl, rfl, by omega, by omega, h2.step ⟨by omega, by omega⟩ ⟨by omega, by omega⟩ ⟨by omega, by omega⟩ ⟨by omega, by omega⟩, fun x k1 k2 k3 k4 => ?_, fun x k1 k2 k3 k4 k5 => ?_⟩
        · rw [c (f + x) (by omega), c (f + (x - 1) / 2) (by omega)]
          have A := h3 x k1 k2 k3
          have B := h4 c0 (by omega) q2 (by omega)
          have C := q3 x k2
          by_cases e1 : (x - 1) / 2 = r
          · by_cases e3 : x = c0
            · rw [if_neg (by omega), if_pos (by omega), if_pos (by omega)]; omega
            · rw [if_neg (by omega), if_neg (by omega), if_pos (by omega)]
              exact C (by omega)
          · by_cases e2 : x = r
            · subst e2
              rw [if_pos rfl, if_neg (by omega), if_neg (by omega)]
              exact B (by omega) k3
            · rw [if_neg (by omega), if_neg (by omega), if_neg (by omega), if_neg (by omega)]
              exact A e1
        · rw [c (f + x) (by omega), c (f + (c0 - 1) / 2) (by omega), if_neg (by omega), if_neg (by omega), if_pos (by omega)]
          have A := h3 x k1 k2 (by omega) (by omega)
          rw [k3] at A
          exact A
      · rw [if_pos hk]
        refine .inr ⟨_, rfl, h2, fun x k1 k2 k3 _ => ?_⟩
        by_cases e : (x - 1) / 2 = r
        · have := q3 x k2 (by omega)
          rw [e]; omega
        · exact h3 x k1 k2 k3 e) _ _ ⟨lo, l, rfl, rfl, Int.le_refl _, hlo2, .refl, hp, fun c _ _ _ _ _ => by omega⟩
theorem heap_max {hi f : Int} (h : HP l 0 hi f (-1)) : ∀ (n : Nat) (c : Int), c.toNat ≤ n → 0 ≤ c → c < hi → key (cz l (f + c)) ≤ key (cz l f)
  | 0, c, hn, h0, h1 => by
    have : c = 0 := by omega
    subst this; rw [Int.add_zero]; exact Int.le_refl _
  | n + 1, c, hn, h0, h1 => by
    by_cases e : c = 0
    · subst e; rw [Int.add_zero]; exact Int.le_refl _
    · exact Int.le_trans (h c (by omega) h1 (by omega) (by omega)) (heap_max h n _ (by omega) (by omega) (by omega))
theorem heap_of (ha : 0 ≤ a) (hab : a + 1 ≤ b) (hb : b ≤ (l.length : Int)) (hn : l.length ≤ 1000) : ∃ l', G.slices_heapSortCmpFunc_index_entry_v0_index_New_1 l a b = some l' ∧ Sws a b l l' ∧ Srt l' a b := by
  unfold G.slices_heapSortCmpFunc_index_entry_v0_index_New_1
  have w1 : IntKind.i64.wrap (b - a) = b - a := w64 (by omega) (by omega)
  have w2 : IntKind.i64.wrap (b - a - 1) = b - a - 1 := w64 (by omega) (by omega)
  have w3 : IntKind.i64.wrap (Int.tdiv (b - a - 1) 2) = (b - a - 1) / 2 := by rw [Int.tdiv_eq_ediv_of_nonneg (by omega), w64 (by omega) (by omega)]
  simp only [w1, w2, w3]
  obtain ⟨l1, h1, h2, h3⟩ := Iter_total (f := G.slices_heapSortCmpFunc_index_entry_v0_index_New_1_l1 a b)
    (fun m s => ∃ (i : Int) (l1 : List T), s = (i, l1) ∧ m = (i + 1).toNat ∧ -1 ≤ i ∧ i ≤ 1000 ∧ Sws a b l l1 ∧ HP l1 (i + 1) (b - a) a (-1))
    (fun l1 => Sws a b l l1 ∧ HP l1 0 (b - a) a (-1)) (by
      rintro m s ⟨i, l1, rfl, rfl, k1, k2, k3, k4⟩
      have hl := k3.len
      unfold G.slices_heapSortCmpFunc_index_entry_v0_index_New_1_l1
      simp only
      by_cases hi : i ≥ 0
      · obtain ⟨l2, q1, q2, q3⟩ := sift_of (l := l1) (lo := i) (hi := b - a) (f := a) ha hi (by omega) (by omega) (by omega) (by omega) (fun c c1 c2 c3 c4 => k4 c c1 c2 (by omega) (by omega))
        rw [if_pos hi, w64 (by omega) (by omega), q1]
        simp only [Option.bind_some]
        rw [w64 (by omega) (by omega)]
        refine .inl ⟨_, _, rfl, by omega, i - 1, l2, rfl, rfl, by omega, by omega, k3.trans (q2.mono (by omega) (by omega)), ?_⟩
        rw [show i - 1 + 1 = i by omega]; exact q3
      · rw [if_neg hi]
        have : i + 1 = 0 := by omega
        rw [this] at k4
        exact .inr ⟨_, rfl, k3, k4⟩) _ _ ⟨(b - a - 1) / 2, l, rfl, rfl, by omega, by omega, .refl, fun c c1 c2 c3 c4 => by omega⟩
  rw [h1]
  simp only [Option.bind_some]
  obtain ⟨l2, h4, h5, h6⟩ := Iter_total (f := G.slices_heapSortCmpFunc_index_entry_v0_index_New_1_l2 a)
    (fun m s => ∃ (i : Int) (l2 : List T), s = (i, l2) ∧ m = (i + 1).toNat ∧ -1 ≤ i ∧ i < b - a ∧ Sws a b l l2 ∧ HP l2 0 (i + 1) a (-1) ∧ ∀ p q, a ≤ p → p < q → q < b → a + i < q → key (cz l2 p) ≤ key (cz l2 q))
    (fun l2 => Sws a b l l2 ∧ Srt l2 a b) (by
      rintro m s ⟨i, l2, rfl, rfl, k1, k2, k3, k4, k5⟩
      have hl := k3.len
      unfold G.slices_heapSortCmpFunc_index_entry_v0_index_New_1_l2
      simp only
      by_cases hi : i ≥ 0
      · have w4 : IntKind.i64.wrap (a + i) = a + i := w64 (by omega) (by omega)
        have w5 : IntKind.i64.wrap (i - 1) = i - 1 := w64 (by omega) (by omega)
        have e1 : idx l2 (a + i) = some (cz l2 (a + i)) := idc (by omega) (by omega)
        have e2 : idx l2 a = some (cz l2 a) := idc (by omega) (by omega)
        have e3 : idx (l2.set a.toNat (cz l2 (a + i))) (a + i) = some _ := idc (by omega) (by rw [List.length_set]; omega)
        simp only [if_pos hi, w4, w5, e1, e2, e3, Option.bind_some]
        have c := fun (k : Int) (hk : 0 ≤ k) => cz_sz (l := l2) (i := a) (j := a + i) ⟨by omega, by omega⟩ ⟨by omega, by omega⟩ hk
        obtain ⟨l3, q1, q2, q3⟩ := sift_of (l := sz l2 a (a + i)) (lo := 0) (hi := i) (f := a) ha (by omega) (by rw [sz_len]; omega) (by rw [sz_len]; omega) (by omega) hi (fun x x1 x2 x3 x4 => by
          rw [c (a + x) (by omega), c (a + (x - 1) / 2) (by omega), if_neg (by omega), if_neg (by omega), if_neg (by omega), if_neg (by omega)]
          exact k4 x x1 (by omega) (by omega) (by omega))
        have q1' : G.slices_siftDownCmpFunc_index_entry_v0_index_New_1 ((l2.set a.toNat (cz l2 (a + i))).set (a + i).toNat (cz l2 a)) 0 i a = some l3 := q1
        rw [q1']
        have S1 : Sws a (a + i + 1) l2 (sz l2 a (a + i)) := Sws.one a (a + i) ⟨by omega, by omega⟩ ⟨by omega, by omega⟩ ha (by omega)
        have S2 : Sws a (a + i + 1) l2 l3 := S1.trans (q2.mono (by omega) (by omega))
        refine .inl ⟨_, _, rfl, by omega, i - 1, l3, rfl, rfl, by omega, by omega, k3.trans (S2.mono (by omega) (by omega)), ?_, fun p q p1 p2 p3 p4 => ?_⟩
        · rw [show i - 1 + 1 = i by omega]; exact q3
        · by_cases e : q = a + i
          · subst e
            have hmax := S2.all (fun x => key x ≤ key (cz l2 a)) (fun k r1 r2 r3 => by
              have := heap_max k4 (k - a).toNat (k - a) (by omega) (by omega) (by omega)
              rwa [show a + (k - a) = k by omega] at this) p (by omega) p1 (by omega)
            rw [q2.out (k := a + i) (by omega) (by omega), c (a + i) (by omega)]
            split
            · rename_i h0; rw [h0]; exact hmax
            · rw [if_pos rfl]; exact hmax
          · rw [S2.out (k := q) (by omega) (by omega)]
            by_cases e2 : p < a + i + 1
            · exact S2.all (fun x => key x ≤ key (cz l2 q)) (fun k r1 r2 r3 => k5 k q r2 (by omega) p3 (by omega)) p (by omega) p1 e2
            · rw [S2.out (k := p) (by omega) (by omega)]
              exact k5 p q p1 p2 p3 (by omega)
      · rw [if_neg hi]
        exact .inr ⟨_, rfl, k3, fun p q p1 p2 p3 => k5 p q p1 p2 p3 (by omega)⟩) _ _ ⟨b - a - 1, l1, rfl, rfl, by omega, by omega, h2, by rw [show b - a - 1 + 1 = b - a by omega]; exact h3, fun p q p1 p2 p3 p4 => by omega⟩
  exact ⟨l2, h4, h5, h6⟩
end QI
end Go.Proofs.Ythhmandpjlggcaa
namespace Go.Proofs.Ythhmandpjlggcaa
open G
namespace QI
theorem band_le {x m : Int} (h0 : 0 ≤ m) (h1 : m ≤ 1000) : 0 ≤ band .u64 x m ∧ band .u64 x m ≤ m := by
  unfold band
  rw [BitVec.toNat_and]
  have h2 : (BitVec.ofInt IntKind.u64.bits m).toNat = m.toNat := by
    show (BitVec.ofInt 64 m).toNat = m.toNat
    rw [BitVec.toNat_ofInt]
    congr 1; omega
  rw [h2]
  have h3 : (BitVec.ofInt IntKind.u64.bits x).toNat &&& m.toNat ≤ m.toNat := Nat.and_le_right
  generalize (BitVec.ofInt IntKind.u64.bits x).toNat &&& m.toNat = k at h3
  have h4 : IntKind.u64.wrap (k : Int) = (k : Int) := by
    simp only [IntKind.wrap, IntKind.bits, IntKind.signed]; simp; omega
  rw [h4]; omega
noncomputable def npOk (n : Nat) : Bool := match G.slices_nextPowerOfTwo (n : Int) with | some m => decide (1 ≤ m ∧ m ≤ 2 * (n : Int)) | none => false
theorem np_all : ((List.range 50).all fun n => decide (n < 8) || npOk n) = true := by kernel_rfl
theorem np_of {n : Int} (h1 : 8 ≤ n) (h2 : n < 50) : ∃ m, G.slices_nextPowerOfTwo n = some m ∧ 1 ≤ m ∧ m ≤ 2 * n := by
  have h := List.all_eq_true.1 np_all n.toNat (List.mem_range.2 (by omega))
  rw [Bool.or_eq_true, decide_eq_true_eq] at h
  have h := h.resolve_left (by omega)
  unfold npOk at h
  rw [Int.toNat_of_nonneg (by omega)] at h
  split at h
  · rename_i m e
    have := of_decide_eq_true h
    exact ⟨m, e, this⟩
  · cases h
variable {l : List T} {a b : Int}
theorem brk_of (ha : 0 ≤ a) (hab : a + 8 ≤ b) (hb : b ≤ (l.length : Int)) (hn : l.length < 50) : ∃ l', G.slices_breakPatternsCmpFunc_index_entry_v0_index_New_1 l a b = some l' ∧ Sws a b l l' := by
  unfold G.slices_breakPatternsCmpFunc_index_entry_v0_index_New_1
  have w1 : IntKind.i64.wrap (b - a) = b - a := w64 (by omega) (by omega)
  have w3 : IntKind.i64.wrap (Int.tdiv (b - a) 4) = (b - a) / 4 := by rw [Int.tdiv_eq_ediv_of_nonneg (by omega), w64 (by omega) (by omega)]
  have w4 : IntKind.i64.wrap ((b - a) / 4 * 2) = (b - a) / 4 * 2 := w64 (by omega) (by omega)
  have w5 : IntKind.i64.wrap (a + (b - a) / 4 * 2) = a + (b - a) / 4 * 2 := w64 (by omega) (by omega)
  have w6 : IntKind.i64.wrap (a + (b - a) / 4 * 2 - 1) = a + (b - a) / 4 * 2 - 1 := w64 (by omega) (by omega)
  have w7 : IntKind.i64.wrap (a + (b - a) / 4 * 2 + 1) = a + (b - a) / 4 * 2 + 1 := w64 (by omega) (by omega)
  obtain ⟨m, hm, m1, m2⟩ := np_of (n := b - a) (by omega) (by omega)
  simp only [w1, w3, w4, w5, w6]
  rw [if_pos (by omega), hm]
  simp only [Option.bind_some]
  exact Iter_total (f := G.slices_breakPatternsCmpFunc_index_entry_v0_index_New_1_l1 a b m)
    (fun k s => ∃ (i : Int) (l1 : List T) (r : Int), s = (i, l1, r) ∧ k = (a + (b - a) / 4 * 2 + 2 - i).toNat ∧ a ≤ i ∧ Sws a b l l1)
    (fun l' => Sws a b l l') (by
      rintro k s ⟨i, l1, r, rfl, rfl, h1, h2⟩
      have hl := h2.len
      unfold G.slices_breakPatternsCmpFunc_index_entry_v0_index_New_1_l1
      simp only [w1, w3, w4, w5, w7]
      by_cases hi : i ≤ a + (b - a) / 4 * 2 + 1
      · rw [if_pos hi]
        obtain ⟨y, hy⟩ : ∃ y, G.slices_xorshift_Next r = some y := ⟨_, rfl⟩
        rw [hy]
        simp only [Option.bind_some]
        have wu : IntKind.u64.wrap (m - 1) = m - 1 := by simp only [IntKind.wrap, IntKind.bits, IntKind.signed]; simp; omega
        rw [wu]
        obtain ⟨q1, q2⟩ := band_le (x := y.1) (m := m - 1) (by omega) (by omega)
        generalize band .u64 y.1 (m - 1) = z at q1 q2
        have wz : IntKind.i64.wrap z = z := w64 (by omega) (by omega)
        have wz2 : IntKind.i64.wrap (z - (b - a)) = z - (b - a) := w64 (by omega) (by omega)
        rw [wz, wz2]
        obtain ⟨v, hv, v1, v2⟩ : ∃ v, (if z ≥ b - a then some (z - (b - a)) else some z) = some v ∧ 0 ≤ v ∧ v < b - a := by
          by_cases h : z ≥ b - a
          · exact ⟨_, if_pos h, by omega, by omega⟩
          · exact ⟨_, if_neg h, by omega, by omega⟩
        rw [hv]
        simp only [Option.bind_some]
        have w8 : IntKind.i64.wrap (a + v) = a + v := w64 (by omega) (by omega)
        have w9 : IntKind.i64.wrap (i + 1) = i + 1 := w64 (by omega) (by omega)
        have e1 : idx l1 (a + v) = some (cz l1 (a + v)) := idc (by omega) (by omega)
        have e2 : idx l1 i = some (cz l1 i) := idc (by omega) (by omega)
        have e3 : idx (l1.set i.toNat (cz l1 (a + v))) (a + v) = some _ := idc (by omega) (by rw [List.length_set]; omega)
        simp only [w8, w9, e1, e2, e3, Option.bind_some]
        exact .inl ⟨_, _, rfl, by omega, i + 1, sz l1 i (a + v), y.2, rfl, rfl, by omega, h2.step ⟨by omega, by omega⟩ ⟨by omega, by omega⟩ ⟨by omega, by omega⟩ ⟨by omega, by omega⟩⟩
      · rw [if_neg hi]
        exact .inr ⟨_, rfl, h2⟩) _ _ ⟨_, l, _, rfl, rfl, by omega, .refl⟩
theorem ord2_of {i j s : Int} (hi : 0 ≤ i ∧ i < (l.length : Int)) (hj : 0 ≤ j ∧ j < (l.length : Int)) : ∃ x y s', G.slices_order2CmpFunc_index_entry_v0_index_New_1 l i j s = some (x, y, s') ∧ (x = i ∧ y = j ∨ x = j ∧ y = i) := by
  unfold G.slices_order2CmpFunc_index_entry_v0_index_New_1
  rw [idc hj.1 hj.2, idc hi.1 hi.2]
  simp only [Option.bind_some, cmp_of]
  split
  · exact ⟨_, _, _, rfl, .inr ⟨rfl, rfl⟩⟩
  · exact ⟨_, _, _, rfl, .inl ⟨rfl, rfl⟩⟩
theorem med_of {i j k s : Int} (hi : 0 ≤ i ∧ i < (l.length : Int)) (hj : 0 ≤ j ∧ j < (l.length : Int)) (hk : 0 ≤ k ∧ k < (l.length : Int)) : ∃ x s', G.slices_medianCmpFunc_index_entry_v0_index_New_1 l i j k s = some (x, s') ∧ (x = i ∨ x = j ∨ x = k) := by
  unfold G.slices_medianCmpFunc_index_entry_v0_index_New_1
  obtain ⟨x1, y1, s1, e1, h1⟩ := ord2_of (l := l) (s := s) hi hj
  rw [e1]
  simp only [Option.bind_some]
  obtain ⟨x2, y2, s2, e2, h2⟩ := ord2_of (l := l) (i := y1) (j := k) (s := s1) (by omega) hk
  rw [e2]
  simp only [Option.bind_some]
  obtain ⟨x3, y3, s3, e3, h3⟩ := ord2_of (l := l) (i := x1) (j := x2) (s := s2) (by omega) (by omega)
  rw [e3]
  exact ⟨_, _, rfl, by simp only; omega⟩
theorem piv_of (ha : 0 ≤ a) (hab : a + 8 ≤ b) (hb : b ≤ (l.length : Int)) (hn : l.length < 50) : ∃ p h, G.slices_choosePivotCmpFunc_index_entry_v0_index_New_1 l a b = some (p, h) ∧ a ≤ p ∧ p < b := by
  unfold G.slices_choosePivotCmpFunc_index_entry_v0_index_New_1
  have w1 : IntKind.i64.wrap (b - a) = b - a := w64 (by omega) (by omega)
  have w3 : IntKind.i64.wrap (Int.tdiv (b - a) 4) = (b - a) / 4 := by rw [Int.tdiv_eq_ediv_of_nonneg (by omega), w64 (by omega) (by omega)]
  have w4 : IntKind.i64.wrap ((b - a) / 4 * 1) = (b - a) / 4 * 1 := w64 (by omega) (by omega)
  have w5 : IntKind.i64.wrap ((b - a) / 4 * 2) = (b - a) / 4 * 2 := w64 (by omega) (by omega)
  have w6 : IntKind.i64.wrap ((b - a) / 4 * 3) = (b - a) / 4 * 3 := w64 (by omega) (by omega)
  have w7 : IntKind.i64.wrap (a + (b - a) / 4 * 1) = a + (b - a) / 4 * 1 := w64 (by omega) (by omega)
  have w8 : IntKind.i64.wrap (a + (b - a) / 4 * 2) = a + (b - a) / 4 * 2 := w64 (by omega) (by omega)
  have w9 : IntKind.i64.wrap (a + (b - a) / 4 * 3) = a + (b - a) / 4 * 3 := w64 (by omega) (by omega)
  simp only [w1, w3, w4, w5, w6, w7, w8, w9]
  rw [if_pos (by omega), if_neg (by omega)]
  simp only [Option.bind_some]
  obtain ⟨x, s, e, h⟩ := med_of (l := l) (i := a + (b - a) / 4 * 1) (j := a + (b - a) / 4 * 2) (k := a + (b - a) / 4 * 3) (s := 0) (by omega) (by omega) (by omega)
  rw [e]
  simp only [Option.bind_some]
  have hx : a ≤ x ∧ x < b := by omega
  split
  · exact ⟨_, _, rfl, hx⟩
  · split
    · exact ⟨_, _, rfl, hx⟩
    · exact ⟨_, _, rfl, hx⟩
theorem rev_of (ha : 0 ≤ a) (hb : b ≤ (l.length : Int)) (hn : l.length < 50) (hab : a ≤ b) : ∃ l', G.slices_reverseRangeCmpFunc_index_entry_v0_index_New_1 l a b = some l' ∧ Sws a b l l' := by
  unfold G.slices_reverseRangeCmpFunc_index_entry_v0_index_New_1
  rw [w64 (by omega) (by omega)]
  exact Iter_total (f := G.slices_reverseRangeCmpFunc_index_entry_v0_index_New_1_l1)
    (fun k s => ∃ (i j : Int) (l1 : List T), s = (i, j, l1) ∧ k = (j - i + 1).toNat ∧ a ≤ i ∧ j < b ∧ Sws a b l l1)
    (fun l' => Sws a b l l') (by
      rintro k s ⟨i, j, l1, rfl, rfl, h1, h2, h3⟩
      have hl := h3.len
      unfold G.slices_reverseRangeCmpFunc_index_entry_v0_index_New_1_l1
      simp only
      by_cases hi : i < j
      · have w8 : IntKind.i64.wrap (j - 1) = j - 1 := w64 (by omega) (by omega)
        have w9 : IntKind.i64.wrap (i + 1) = i + 1 := w64 (by omega) (by omega)
        have e1 : idx l1 j = some (cz l1 j) := idc (by omega) (by omega)
        have e2 : idx l1 i = some (cz l1 i) := idc (by omega) (by omega)
        have e3 : idx (l1.set i.toNat (cz l1 j)) j = some _ := idc (by omega) (by rw [List.length_set]; omega)
        simp only [if_pos hi, w8, w9, e1, e2, e3, Option.bind_some]
        exact .inl ⟨_, _, rfl, by omega, i + 1, j - 1, sz l1 i j, rfl, rfl, by omega, by omega, h3.step ⟨by omega, by omega⟩ ⟨by omega, by omega⟩ ⟨by omega, by omega⟩ ⟨by omega, by omega⟩⟩
      · rw [if_neg hi]
        exact .inr ⟨_, rfl, h3⟩) _ _ ⟨a, b - 1, l, rfl, rfl, Int.le_refl _, by omega, .refl⟩
theorem up_of {f : Int → Option (Int ⊕ Int)} (P : Int → Bool) {i j : Int} (hj : j ≤ 1000) (h0 : 0 ≤ i) (hij : i ≤ j + 1) (hf : ∀ k, i ≤ k → k ≤ j + 1 → f k = some (if k ≤ j ∧ P k = true then .inl (k + 1) else .inr k)) :
    ∃ r, Iter f i = some r ∧ i ≤ r ∧ r ≤ j + 1 ∧ (∀ k, i ≤ k → k < r → P k = true) ∧ (r ≤ j → P r = false) :=
  Iter_total (f := f) (fun m s => m = (j + 1 - s).toNat ∧ i ≤ s ∧ s ≤ j + 1 ∧ ∀ k, i ≤ k → k < s → P k = true) _ (by
    rintro m s ⟨rfl, h1, h2, h3⟩
    rw [hf s h1 h2]
    by_cases h : s ≤ j ∧ P s = true
    · rw [if_pos h]
      exact .inl ⟨_, _, rfl, by omega, rfl, by omega, by omega, fun k k1 k2 => by
        by_cases e : k = s
        · rw [e]; exact h.2
        · exact h3 k k1 (by omega)⟩
    · rw [if_neg h]
      exact .inr ⟨_, rfl, h1, h2, h3, fun hs => by rw [Bool.eq_false_iff]; exact fun hp => h ⟨hs, hp⟩⟩) _ _ ⟨rfl, Int.le_refl _, hij, fun k k1 k2 => by omega⟩
theorem down_of {f : Int → Option (Int ⊕ Int)} (P : Int → Bool) {i j : Int} (h0 : 0 ≤ i) (hij : i ≤ j + 1) (hf : ∀ k, i ≤ k + 1 → k ≤ j → f k = some (if i ≤ k ∧ P k = true then .inl (k - 1) else .inr k)) :
    ∃ r, Iter f j = some r ∧ i ≤ r + 1 ∧ r ≤ j ∧ (∀ k, r < k → k ≤ j → P k = true) ∧ (i ≤ r → P r = false) :=
  Iter_total (f := f) (fun m s => m = (s + 1 - i).toNat ∧ i ≤ s + 1 ∧ s ≤ j ∧ ∀ k, s < k → k ≤ j → P k = true) _ (by
    rintro m s ⟨rfl, h1, h2, h3⟩
    rw [hf s h1 h2]
    by_cases h : i ≤ s ∧ P s = true
    · rw [if_pos h]
      exact .inl ⟨_, _, rfl, by omega, rfl, by omega, by omega, fun k k1 k2 => by
        by_cases e : k = s
        · rw [e]; exact h.2
        · exact h3 k (by omega) k2⟩
    · rw [if_neg h]
      exact .inr ⟨_, rfl, h1, h2, h3, fun hs => by rw [Bool.eq_false_iff]; exact fun hp => h ⟨hs, hp⟩⟩) _ _ ⟨rfl, hij, Int.le_refl _, fun k k1 k2 => by omega⟩
theorem ifb {β : Type} (c : Prop) [Decidable c] (P : Bool) (x y : β) : ((if c then some P else some false : Option Bool).bind fun v => if v = true then some x else some y) = some (if c ∧ P = true then x else y) := by
  by_cases h : c
  · rw [if_pos h]
    simp only [Option.bind_some]
    by_cases hp : P = true
    · rw [if_pos hp, if_pos ⟨h, hp⟩]
    · rw [if_neg hp, if_neg (fun k => hp k.2)]
  · rw [if_neg h, if_neg (fun k => h k.1)]; rfl
theorem ifb2 {β : Type} {c : Prop} [Decidable c] {F : Option Bool} (P : Bool) (x y : β) (hF : c → F = some P) : ((if c then F else some false : Option Bool).bind fun v => if v = true then some x else some y) = some (if c ∧ P = true then x else y) := by
  rw [← ifb c P x y]
  congr 1
  by_cases h : c
  · rw [if_pos h, if_pos h, hF h]
  · rw [if_neg h, if_neg h]
theorem pis_of (ha : 0 ≤ a) (hab : a + 1 ≤ b) (hb : b ≤ (l.length : Int)) (hn : l.length < 50) : ∃ r, G.slices_partialInsertionSortCmpFunc_index_entry_v0_index_New_1 l a b = some (r, l) ∧ (r = true → Srt l a b) := by
  unfold G.slices_partialInsertionSortCmpFunc_index_entry_v0_index_New_1
  rw [w64 (by omega) (by omega)]
  obtain ⟨r, e, r1, r2, r3, r4⟩ := up_of (f := G.slices_partialInsertionSortCmpFunc_index_entry_v0_index_New_1_l2 b (a + 1, 0, l)) (fun k => !decide (key (cz l k) < key (cz l (k - 1)))) (i := a + 1) (j := b - 1) (by omega) (by omega) (by omega) (fun k k1 k2 => by
    unfold G.slices_partialInsertionSortCmpFunc_index_entry_v0_index_New_1_l2
    simp only
    rw [w64 (x := k - 1) (by omega) (by omega), w64 (x := k + 1) (by omega) (by omega)]
    refine (ifb2 (!decide (key (cz l k) < key (cz l (k - 1)))) _ _ (fun h => ?_)).trans ?_
    · rw [idc (by omega) (by omega), idc (by omega) (by omega)]
      simp only [Option.bind_some, cmp_of, cm_lt]
    · congr 1
      by_cases h : k < b
      · simp only [h, show k ≤ b - 1 by omega]
      · simp only [h, show ¬ k ≤ b - 1 by omega])
  have hs : Srt l a r := by
    have key1 : ∀ (n : Nat) (p q : Int), q - p ≤ n → a ≤ p → p < q → q < r → key (cz l p) ≤ key (cz l q) := fun n => by
      induction n with
      | zero => intro p q _ _ _ _; omega
      | succ n ih =>
        intro p q h1 h2 h3 h4
        have := r3 q (by omega) h4
        simp only [Bool.not_eq_true', decide_eq_false_iff_not] at this
        by_cases e : p = q - 1
        · subst e; omega
        · have := ih p (q - 1) (by omega) h2 (by omega) (by omega)
          omega
    exact fun p q h1 h2 h3 => key1 (q - p).toNat p q (by omega) h1 h2 h3
  by_cases h : r = b
  · refine ⟨true, Iter_inr ?_, fun _ => h ▸ hs⟩
    unfold G.slices_partialInsertionSortCmpFunc_index_entry_v0_index_New_1_l1
    simp only
    rw [if_pos (by omega), e]
    simp only [Option.bind_some]
    rw [if_pos h]
  · refine ⟨false, Iter_inr ?_, fun h => by cases h⟩
    unfold G.slices_partialInsertionSortCmpFunc_index_entry_v0_index_New_1_l1
    simp only
    rw [if_pos (by omega), e]
    simp only [Option.bind_some]
    rw [if_neg h, w64 (by omega) (by omega), if_pos (by omega)]
structure Pt (a b m : Int) (l : List T) : Prop where
  lo : ∀ k, a ≤ k → k < m → key (cz l k) ≤ key (cz l m)
  hi : ∀ k, m < k → k < b → key (cz l m) ≤ key (cz l k)
theorem part_end {L : List T} {j : Int} (ha : 0 ≤ a) (haj : a ≤ j) (hjb : j < b) (hb : b ≤ (L.length : Int)) (h1 : ∀ k, a + 1 ≤ k → k < j + 1 → key (cz L k) ≤ key (cz L a)) (h2 : ∀ k, j < k → k < b → key (cz L a) ≤ key (cz L k)) : Pt a b j (sz L j a) := by
  have c := fun (k : Int) (hk : 0 ≤ k) => cz_sz (l := L) (i := j) (j := a) ⟨by omega, by omega⟩ ⟨by omega, by omega⟩ hk
  refine ⟨fun k k1 k2 => ?_, fun k k1 k2 => ?_⟩
  · rw [c k (by omega), c j (by omega), if_neg (by omega), if_pos rfl]
    split
    · exact h1 j (by omega) (by omega)
    · exact h1 k (by omega) (by omega)
  · have cj : cz (sz L j a) j = cz L a := by rw [c j (by omega), if_pos rfl]
    rw [cj, c k (by omega), if_neg (by omega), if_neg (by omega)]
    exact h2 k k1 k2
theorem part_of {p : Int} (ha : 0 ≤ a) (hap : a ≤ p) (hpb : p < b) (hb : b ≤ (l.length : Int)) (hn : l.length < 50) :
    ∃ m fl l', G.slices_partitionCmpFunc_index_entry_v0_index_New_1 l a b p = some (m, fl, l') ∧ Sws a b l l' ∧ a ≤ m ∧ m < b ∧ Pt a b m l' := by
  unfold G.slices_partitionCmpFunc_index_entry_v0_index_New_1
  have w1 : IntKind.i64.wrap (a + 1) = a + 1 := w64 (by omega) (by omega)
  have w2 : IntKind.i64.wrap (b - 1) = b - 1 := w64 (by omega) (by omega)
  have e1 : idx l p = some (cz l p) := idc (by omega) (by omega)
  have e2 : idx l a = some (cz l a) := idc (by omega) (by omega)
  have e3 : idx (l.set a.toNat (cz l p)) p = some _ := idc (by omega) (by rw [List.length_set]; omega)
  simp only [w1, w2, e1, e2, e3, Option.bind_some]
  have S0 : Sws a b l (sz l a p) := Sws.one a p ⟨by omega, by omega⟩ ⟨by omega, by omega⟩ ha hb
  have hL : (l.set a.toNat (cz l p)).set p.toNat (cz l a) = sz l a p := rfl
  rw [hL]
  have len0 := S0.len
  obtain ⟨i, ei, i1, i2, i3, i4⟩ := up_of (f := G.slices_partitionCmpFunc_index_entry_v0_index_New_1_l1 l a b p (cz l p) (cz l a)) (fun k => decide (key (cz (sz l a p) k) < key (cz (sz l a p) a))) (i := a + 1) (j := b - 1) (by omega) (by omega) (by omega) (fun k k1 k2 => by
    unfold G.slices_partitionCmpFunc_index_entry_v0_index_New_1_l1
    rw [hL, w2, w64 (x := k + 1) (by omega) (by omega)]
    exact ifb2 (decide (key (cz (sz l a p) k) < key (cz (sz l a p) a))) _ _ (fun h => by
      rw [idc (by omega) (by omega), idc (by omega) (by omega)]
      simp only [Option.bind_some, cmp_of, cm_lt]))
  rw [ei]
  simp only [Option.bind_some]
  obtain ⟨j, ej, j1, j2, j3, j4⟩ := down_of (f := G.slices_partitionCmpFunc_index_entry_v0_index_New_1_l2 l a p (cz l p) (cz l a) i) (fun k => !decide (key (cz (sz l a p) k) < key (cz (sz l a p) a))) (i := i) (j := b - 1) (by omega) (by omega) (fun k k1 k2 => by
    unfold G.slices_partitionCmpFunc_index_entry_v0_index_New_1_l2
    rw [hL, w64 (by omega) (by omega)]
    exact ifb2 (!decide (key (cz (sz l a p) k) < key (cz (sz l a p) a))) _ _ (fun h => by
      rw [idc (by omega) (by omega), idc (by omega) (by omega)]
      simp only [Option.bind_some, cmp_of, cm_lt]))
  rw [ej]
  simp only [Option.bind_some]
  have up0 : ∀ k, a + 1 ≤ k → k < i → key (cz (sz l a p) k) ≤ key (cz (sz l a p) a) := fun k k1 k2 => by
    have := of_decide_eq_true (i3 k k1 k2); omega
  have dn0 : ∀ k, j < k → k < b → key (cz (sz l a p) a) ≤ key (cz (sz l a p) k) := fun k k1 k2 => by
    have := j3 k k1 (by omega)
    simp only [Bool.not_eq_true', decide_eq_false_iff_not] at this; omega
  generalize sz l a p = L at *
  by_cases hij : i > j
  · rw [if_pos hij]
    have e4 : idx L a = some (cz L a) := idc (by omega) (by omega)
    have e5 : idx L j = some (cz L j) := idc (by omega) (by omega)
    have e6 : idx (L.set j.toNat (cz L a)) a = some _ := idc (by omega) (by rw [List.length_set]; omega)
    simp only [e4, e5, e6, Option.bind_some]
    exact ⟨j, true, sz L j a, rfl, S0.trans (Sws.one j a ⟨by omega, by omega⟩ ⟨by omega, by omega⟩ ha (by omega)), by omega, by omega, part_end ha (by omega) (by omega) (by omega) (fun k k1 k2 => up0 k k1 (by omega)) dn0⟩
  · rw [if_neg hij]
    have hne : i ≠ j := fun e => by
      have h1 := i4 (by omega)
      have h2 := j4 (by omega)
      rw [e] at h1
      simp only [h1] at h2; cases h2
    have e4 : idx L j = some (cz L j) := idc (by omega) (by omega)
    have e5 : idx L i = some (cz L i) := idc (by omega) (by omega)
    have e6 : idx (L.set i.toNat (cz L j)) j = some _ := idc (by omega) (by rw [List.length_set]; omega)
    have w3 : IntKind.i64.wrap (i + 1) = i + 1 := w64 (by omega) (by omega)
    have w4 : IntKind.i64.wrap (j - 1) = j - 1 := w64 (by omega) (by omega)
    simp only [e4, e5, e6, w3, w4, Option.bind_some]
    have hL2 : (L.set i.toNat (cz L j)).set j.toNat (cz L i) = sz L i j := rfl
    rw [hL2]
    have ai := of_decide_eq_false (i4 (by omega))
    have aj := j4 (by omega)
    simp only [Bool.not_eq_false', decide_eq_true_eq] at aj
    have step : ∀ {L : List T} {i j : Int}, L.length = l.length → a + 1 ≤ i → i < j → j < b → ¬ key (cz L i) < key (cz L a) → key (cz L j) < key (cz L a) → (∀ k, a + 1 ≤ k → k < i → key (cz L k) ≤ key (cz L a)) → (∀ k, j < k → k < b → key (cz L a) ≤ key (cz L k)) →
        (∀ k, a + 1 ≤ k → k < i + 1 → key (cz (sz L i j) k) ≤ key (cz (sz L i j) a)) ∧ (∀ k, j - 1 < k → k < b → key (cz (sz L i j) a) ≤ key (cz (sz L i j) k)) := fun {L i j} q0 q1 q2 q3 q4 q5 q6 q7 => by
      have c := fun (k : Int) (hk : 0 ≤ k) => cz_sz (l := L) (i := i) (j := j) ⟨by omega, by omega⟩ ⟨by omega, by omega⟩ hk
      have ca := c a ha
      rw [if_neg (by omega), if_neg (by omega)] at ca
      rw [ca]
      refine ⟨fun k k1 k2 => ?_, fun k k1 k2 => ?_⟩
      · rw [c k (by omega)]
        split
        · omega
        · rw [if_neg (by omega)]; exact q6 k k1 (by omega)
      · rw [c k (by omega)]
        rw [if_neg (by omega)]
        split
        · omega
        · exact q7 k (by omega) k2
    obtain ⟨r, er, r1, r2, r3, r4, r5⟩ := Iter_total (f := G.slices_partitionCmpFunc_index_entry_v0_index_New_1_l3 a)
      (fun m s => ∃ (i j : Int) (L : List T), s = (i, j, L) ∧ m = (j + 1 - i).toNat ∧ a + 1 ≤ i ∧ j < b ∧ i ≤ j + 1 ∧ Sws a b l L ∧ (∀ k, a + 1 ≤ k → k < i → key (cz L k) ≤ key (cz L a)) ∧ (∀ k, j < k → k < b → key (cz L a) ≤ key (cz L k)))
      (fun r => Sws a b l r.2 ∧ a ≤ r.1 ∧ r.1 < b ∧ (∀ k, a + 1 ≤ k → k < r.1 + 1 → key (cz r.2 k) ≤ key (cz r.2 a)) ∧ (∀ k, r.1 < k → k < b → key (cz r.2 a) ≤ key (cz r.2 k))) (by
        rintro m s ⟨i, j, L, rfl, rfl, s1, s2, s3, s4, s5, s6⟩
        have hl := s4.len
        unfold G.slices_partitionCmpFunc_index_entry_v0_index_New_1_l3
        simp only
        obtain ⟨i', ei, i1, i2, i3, i4⟩ := up_of (f := G.slices_partitionCmpFunc_index_entry_v0_index_New_1_l4 a (i, j, L)) (fun k => decide (key (cz L k) < key (cz L a))) (i := i) (j := j) (by omega) (by omega) (by omega) (fun k k1 k2 => by
          unfold G.slices_partitionCmpFunc_index_entry_v0_index_New_1_l4
          simp only
          rw [w64 (by omega) (by omega)]
          exact ifb2 (decide (key (cz L k) < key (cz L a))) _ _ (fun h => by
            rw [idc (by omega) (by omega), idc (by omega) (by omega)]
            simp only [Option.bind_some, cmp_of, cm_lt]))
        rw [ei]
        simp only [Option.bind_some]
        obtain ⟨j', ej, j1, j2, j3, j4⟩ := down_of (f := G.slices_partitionCmpFunc_index_entry_v0_index_New_1_l5 a (i, j, L) i') (fun k => !decide (key (cz L k) < key (cz L a))) (i := i') (j := j) (by omega) (by omega) (fun k k1 k2 => by
          unfold G.slices_partitionCmpFunc_index_entry_v0_index_New_1_l5
          simp only
          rw [w64 (by omega) (by omega)]
          exact ifb2 (!decide (key (cz L k) < key (cz L a))) _ _ (fun h => by
            rw [idc (by omega) (by omega), idc (by omega) (by omega)]
            simp only [Option.bind_some, cmp_of, cm_lt]))
        rw [ej]
        simp only [Option.bind_some]
        have up1 : ∀ k, a + 1 ≤ k → k < i' → key (cz L k) ≤ key (cz L a) := fun k k1 k2 => by
          by_cases h : k < i
          · exact s5 k k1 h
          · have := of_decide_eq_true (i3 k (by omega) k2); omega
        have dn1 : ∀ k, j' < k → k < b → key (cz L a) ≤ key (cz L k) := fun k k1 k2 => by
          by_cases h : j < k
          · exact s6 k h k2
          · have := j3 k k1 (by omega)
            simp only [Bool.not_eq_true', decide_eq_false_iff_not] at this; omega
        by_cases hij : i' > j'
        · rw [if_pos hij]
          exact .inr ⟨_, rfl, s4, by simp only; omega, by simp only; omega, fun k k1 k2 => up1 k k1 (by simp only at k2; omega), dn1⟩
        · rw [if_neg hij]
          have ai := of_decide_eq_false (i4 (by omega))
          have aj := j4 (by omega)
          simp only [Bool.not_eq_false', decide_eq_true_eq] at aj
          have hne : i' ≠ j' := fun e => by subst e; exact ai aj
          have e4 : idx L j' = some (cz L j') := idc (by omega) (by omega)
          have e5 : idx L i' = some (cz L i') := idc (by omega) (by omega)
          have e6 : idx (L.set i'.toNat (cz L j')) j' = some _ := idc (by omega) (by rw [List.length_set]; omega)
          have w3 : IntKind.i64.wrap (i' + 1) = i' + 1 := w64 (by omega) (by omega)
          have w4 : IntKind.i64.wrap (j' - 1) = j' - 1 := w64 (by omega) (by omega)
          simp only [e4, e5, e6, w3, w4, Option.bind_some]
          obtain ⟨t1, t2⟩ := step hl (by omega) (by omega) (by omega) ai aj up1 dn1
          exact .inl ⟨_, _, rfl, by omega, i' + 1, j' - 1, sz L i' j', rfl, rfl, by omega, by omega, by omega, s4.step ⟨by omega, by omega⟩ ⟨by omega, by omega⟩ ⟨by omega, by omega⟩ ⟨by omega, by omega⟩, t1, t2⟩) _ _ (by
        obtain ⟨t1, t2⟩ := step (L := L) (i := i) (j := j) (by omega) (by omega) (by omega) (by omega) ai aj up0 dn0
        exact ⟨i + 1, j - 1, sz L i j, rfl, rfl, by omega, by omega, by omega, S0.step ⟨by omega, by omega⟩ ⟨by omega, by omega⟩ ⟨by omega, by omega⟩ ⟨by omega, by omega⟩, t1, t2⟩)
    rw [er]
    obtain ⟨j2, L2⟩ := r
    simp only at r1 r2 r3 r4 r5
    have hl2 := r1.len
    have e4 : idx L2 a = some (cz L2 a) := idc (by omega) (by omega)
    have e5 : idx L2 j2 = some (cz L2 j2) := idc (by omega) (by omega)
    have e6 : idx (L2.set j2.toNat (cz L2 a)) a = some _ := idc (by omega) (by rw [List.length_set]; omega)
    simp only [e4, e5, e6, Option.bind_some]
    exact ⟨j2, false, sz L2 j2 a, rfl, r1.step ⟨by omega, by omega⟩ ⟨by omega, by omega⟩ ⟨by omega, by omega⟩ ⟨by omega, by omega⟩, r2, r3, part_end ha (by omega) (by omega) (by omega) r4 r5⟩
theorem pEq_of {p : Int} (ha : 0 ≤ a) (hap : a ≤ p) (hpb : p < b) (hb : b ≤ (l.length : Int)) (hn : l.length < 50) :
    ∃ m l', G.slices_partitionEqualCmpFunc_index_entry_v0_index_New_1 l a b p = some (m, l') ∧ Sws a b l l' ∧ a < m ∧ m ≤ b ∧ ∀ k, a ≤ k → k < m → key (cz l' k) ≤ key (cz l p) := by
  unfold G.slices_partitionEqualCmpFunc_index_entry_v0_index_New_1
  have w1 : IntKind.i64.wrap (a + 1) = a + 1 := w64 (by omega) (by omega)
  have w2 : IntKind.i64.wrap (b - 1) = b - 1 := w64 (by omega) (by omega)
  have e1 : idx l p = some (cz l p) := idc (by omega) (by omega)
  have e2 : idx l a = some (cz l a) := idc (by omega) (by omega)
  have e3 : idx (l.set a.toNat (cz l p)) p = some _ := idc (by omega) (by rw [List.length_set]; omega)
  simp only [w1, w2, e1, e2, e3, Option.bind_some]
  have S0 : Sws a b l (sz l a p) := Sws.one a p ⟨by omega, by omega⟩ ⟨by omega, by omega⟩ ha hb
  have hpv : cz (sz l a p) a = cz l p := by rw [cz_sz ⟨by omega, by omega⟩ ⟨by omega, by omega⟩ ha, if_pos rfl]
  obtain ⟨r, er, r1, r2, r3, r4⟩ := Iter_total (f := G.slices_partitionEqualCmpFunc_index_entry_v0_index_New_1_l1 a)
    (fun m s => ∃ (i j : Int) (L : List T), s = (i, j, L) ∧ m = (j + 1 - i).toNat ∧ a + 1 ≤ i ∧ j < b ∧ i ≤ j + 1 ∧ Sws a b l L ∧ cz L a = cz l p ∧ (∀ k, a + 1 ≤ k → k < i → key (cz L k) ≤ key (cz l p)))
    (fun r => Sws a b l r.2 ∧ a < r.1 ∧ r.1 ≤ b ∧ ∀ k, a ≤ k → k < r.1 → key (cz r.2 k) ≤ key (cz l p)) (by
      rintro m s ⟨i, j, L, rfl, rfl, s1, s2, s3, s4, s5, s6⟩
      have hl := s4.len
      unfold G.slices_partitionEqualCmpFunc_index_entry_v0_index_New_1_l1
      simp only
      obtain ⟨i', ei, i1, i2, i3, i4⟩ := up_of (f := G.slices_partitionEqualCmpFunc_index_entry_v0_index_New_1_l2 a (i, j, L)) (fun k => !decide (key (cz L a) < key (cz L k))) (i := i) (j := j) (by omega) (by omega) (by omega) (fun k k1 k2 => by
        unfold G.slices_partitionEqualCmpFunc_index_entry_v0_index_New_1_l2
        simp only
        rw [w64 (by omega) (by omega)]
        exact ifb2 (!decide (key (cz L a) < key (cz L k))) _ _ (fun h => by
          rw [idc (by omega) (by omega), idc (by omega) (by omega)]
          simp only [Option.bind_some, cmp_of, cm_lt]))
      rw [ei]
      simp only [Option.bind_some]
      obtain ⟨j', ej, j1, j2, j3, j4⟩ := down_of (f := G.slices_partitionEqualCmpFunc_index_entry_v0_index_New_1_l3 a (i, j, L) i') (fun k => decide (key (cz L a) < key (cz L k))) (i := i') (j := j) (by omega) (by omega) (fun k k1 k2 => by
        unfold G.slices_partitionEqualCmpFunc_index_entry_v0_index_New_1_l3
        simp only
        rw [w64 (by omega) (by omega)]
        exact ifb2 (decide (key (cz L a) < key (cz L k))) _ _ (fun h => by
          rw [idc (by omega) (by omega), idc (by omega) (by omega)]
          simp only [Option.bind_some, cmp_of, cm_lt]))
      rw [ej]
      simp only [Option.bind_some]
      have up1 : ∀ k, a + 1 ≤ k → k < i' → key (cz L k) ≤ key (cz l p) := fun k k1 k2 => by
        by_cases h : k < i
        · exact s6 k k1 h
        · have := i3 k (by omega) k2
          simp only [Bool.not_eq_true', decide_eq_false_iff_not, s5] at this; omega
      by_cases hij : i' > j'
      · rw [if_pos hij]
        refine .inr ⟨_, rfl, s4, by simp only; omega, by simp only; omega, fun k k1 k2 => ?_⟩
        by_cases e : k = a
        · subst e; simp only; rw [s5]; exact Int.le_refl _
        · exact up1 k (by omega) k2
      · rw [if_neg hij]
        have ai := i4 (by omega)
        simp only [Bool.not_eq_false', decide_eq_true_eq] at ai
        have aj := of_decide_eq_false (j4 (by omega))
        have hne : i' ≠ j' := fun e => by subst e; exact aj ai
        have e4 : idx L j' = some (cz L j') := idc (by omega) (by omega)
        have e5 : idx L i' = some (cz L i') := idc (by omega) (by omega)
        have e6 : idx (L.set i'.toNat (cz L j')) j' = some _ := idc (by omega) (by rw [List.length_set]; omega)
        have w3 : IntKind.i64.wrap (i' + 1) = i' + 1 := w64 (by omega) (by omega)
        have w4 : IntKind.i64.wrap (j' - 1) = j' - 1 := w64 (by omega) (by omega)
        simp only [e4, e5, e6, w3, w4, Option.bind_some]
        have c := fun (k : Int) (hk : 0 ≤ k) => cz_sz (l := L) (i := i') (j := j') ⟨by omega, by omega⟩ ⟨by omega, by omega⟩ hk
        refine .inl ⟨_, _, rfl, by omega, i' + 1, j' - 1, sz L i' j', rfl, rfl, by omega, by omega, by omega, s4.step ⟨by omega, by omega⟩ ⟨by omega, by omega⟩ ⟨by omega, by omega⟩ ⟨by omega, by omega⟩, ?_, fun k k1 k2 => ?_⟩
        · rw [c a ha, if_neg (by omega), if_neg (by omega), s5]
        · rw [c k (by omega)]
          split
          · rw [s5] at aj; omega
          · rw [if_neg (by omega)]; exact up1 k k1 (by omega)) _ _ ⟨a + 1, b - 1, sz l a p, rfl, rfl, by omega, by omega, by omega, S0, hpv, fun k k1 k2 => by omega⟩
  exact ⟨r.1, r.2, er, r1, r2, r3, r4⟩
end QI
end Go.Proofs.Ythhmandpjlggcaa
namespace Go.Proofs.Ythhmandpjlggcaa
open G
namespace QI
variable {l : List T} {a b A B : Int}
def PR (A B a b : Int) (l : List T) : Prop := ∀ p q, A ≤ p → p < q → q < B → (p < a ∨ b ≤ q) → key (cz l p) ≤ key (cz l q)
theorem PR.keep {l l' : List T} (hA : 0 ≤ A) (hAa : A ≤ a) (hbB : b ≤ B) (h : PR A B a b l) (s : Sws a b l l') : PR A B a b l' := by
  intro p q h1 h2 h3 h4
  by_cases hp : p < a
  · rw [s.out (k := p) (by omega) (.inl hp)]
    by_cases hq : a ≤ q ∧ q < b
    · exact s.all (fun x => key (cz l p) ≤ key x) (fun k k0 k1 k2 => h p k h1 (by omega) (by omega) (.inl hp)) q (by omega) hq.1 hq.2
    · rw [s.out (k := q) (by omega) (by omega)]; exact h p q h1 h2 h3 h4
  · have hq : b ≤ q := h4.resolve_left hp
    rw [s.out (k := q) (by omega) (.inr hq)]
    by_cases hp2 : p < b
    · exact s.all (fun x => key x ≤ key (cz l q)) (fun k k0 k1 k2 => h k q (by omega) (by omega) h3 (.inr hq)) p (by omega) (by omega) hp2
    · rw [s.out (k := p) (by omega) (by omega)]; exact h p q h1 h2 h3 h4
theorem PR.fin {l : List T} (h : PR A B a b l) (s : Srt l a b) : Srt l A B := fun p q h1 h2 h3 => by
  by_cases h4 : p < a ∨ b ≤ q
  · exact h p q h1 h2 h3 h4
  · exact s p q (by omega) h2 (by omega)
def Pre (A B : Int) (l : List T) : Prop := 0 < A → ∀ k, A ≤ k → k < B → key (cz l (A - 1)) ≤ key (cz l k)
theorem Pre.keep {l l' : List T} (h : Pre A B l) (s : Sws A B l l') : Pre A B l' := fun h0 k h1 h2 => by
  rw [s.out (k := A - 1) (by omega) (by omega)]
  exact s.all (fun x => key (cz l (A - 1)) ≤ key x) (fun k k0 k1 k2 => h h0 k k1 k2) k (by omega) h1 h2
theorem Pre.sub {l : List T} (h : Pre A B l) (hA : 0 ≤ A) (hAa : A ≤ a) (hbB : b ≤ B) (hp : PR A B a b l) : Pre a b l := fun h0 k h1 h2 => by
  by_cases e : a = A
  · subst e; exact h h0 k h1 (by omega)
  · exact hp (a - 1) k (by omega) (by omega) (by omega) (by omega)
abbrev St := Int × Int × Int × Bool × Bool × (List T)
abbrev Ar := (List T) × Int × Int × Int
structure Inv (A B : Int) (l : List T) (s : St) : Prop where
  a0 : A ≤ s.1
  ab : s.1 ≤ s.2.1
  bB : s.2.1 ≤ B
  sw : Sws A B l s.2.2.2.2.2
  pr : PR A B s.1 s.2.1 s.2.2.2.2.2
structure Arg (y : Ar) : Prop where
  a0 : 0 ≤ y.2.1
  ab : y.2.1 ≤ y.2.2.1
  bl : y.2.2.1 ≤ (y.1.length : Int)
  n : y.1.length < 50
  pre : Pre y.2.1 y.2.2.1 y.1
def Res (y : Ar) (r : List T) : Prop := Sws y.2.1 y.2.2.1 y.1 r ∧ Srt r y.2.1 y.2.2.1
theorem round (hA : 0 ≤ A) (hB : B ≤ (l.length : Int)) (hn : l.length < 50) (hp : Pre A B l) (ρ : Ar → List T) (hρ : ∀ y, Arg y → y.2.2.1 - y.2.1 < B - A → Res y (ρ y)) {s : St} (h : Inv A B l s) :
    (∃ s', (∀ fx : Ar → Option (List T), (∀ y, Arg y → y.2.2.1 - y.2.1 < B - A → fx y = some (ρ y)) → G.slices_pdqsortCmpFunc_index_entry_v0_index_New_1_l1 fx s = some (.inl s')) ∧ Inv A B l s' ∧ s'.2.1 - s'.1 < s.2.1 - s.1) ∨
    (∃ r, (∀ fx : Ar → Option (List T), G.slices_pdqsortCmpFunc_index_entry_v0_index_New_1_l1 fx s = some (.inr r)) ∧ Sws A B l r ∧ Srt r A B) := by
  obtain ⟨a, b, lim, wb, wp, L⟩ := s
  obtain ⟨h1, h2, h3, h4, h5⟩ := h
  simp only at h1 h2 h3 h4 h5
  have hl := h4.len
  have w1 : IntKind.i64.wrap (b - a) = b - a := w64 (by omega) (by omega)
  by_cases hs : b - a ≤ 12
  · obtain ⟨l', e, q1, q2⟩ := ins_of (l := L) (a := a) (b := b) (by omega) h2 (by omega) (by omega)
    refine .inr ⟨l', fun fx => ?_, h4.trans (q1.mono h1 h3), (h5.keep hA h1 h3 q1).fin q2⟩
    unfold G.slices_pdqsortCmpFunc_index_entry_v0_index_New_1_l1
    simp only [w1, if_pos hs, e, Option.bind_some]
  by_cases hm : lim = 0
  · obtain ⟨l', e, q1, q2⟩ := heap_of (l := L) (a := a) (b := b) (by omega) (by omega) (by omega) (by omega)
    refine .inr ⟨l', fun fx => ?_, h4.trans (q1.mono h1 h3), (h5.keep hA h1 h3 q1).fin q2⟩
    unfold G.slices_pdqsortCmpFunc_index_entry_v0_index_New_1_l1
    simp only [w1, if_neg hs, if_pos hm, e, Option.bind_some]
  obtain ⟨lim', L1, e4, s1⟩ : ∃ lim' L1, (if wb = false then (G.slices_breakPatternsCmpFunc_index_entry_v0_index_New_1 L a b).bind fun y5 => some ((IntKind.i64.wrap (lim - (1 : Int))), y5) else some (lim, L)) = some (lim', L1) ∧ Sws a b L L1 := by
    by_cases h : wb = false
    · obtain ⟨l', e, q⟩ := brk_of (l := L) (a := a) (b := b) (by omega) (by omega) (by omega) (by omega)
      rw [if_pos h, e]
      exact ⟨_, _, rfl, q⟩
    · rw [if_neg h]
      exact ⟨_, _, rfl, .refl⟩
  have hl1 := s1.len
  obtain ⟨p, hint, e6, p1, p2⟩ := piv_of (l := L1) (a := a) (b := b) (by omega) (by omega) (by omega) (by omega)
  obtain ⟨p', hint', L2, e7, p1', p2', s2⟩ : ∃ p' hint' L2, (if hint = (2 : Int) then (G.slices_reverseRangeCmpFunc_index_entry_v0_index_New_1 L1 a b).bind fun y8 => some ((IntKind.i64.wrap ((IntKind.i64.wrap (b - (1 : Int))) - (IntKind.i64.wrap (p - a)))), (1 : Int), y8) else some (p, hint, L1)) = some (p', hint', L2) ∧ a ≤ p' ∧ p' < b ∧ Sws a b L1 L2 := by
    by_cases h : hint = 2
    · obtain ⟨l', e, q⟩ := rev_of (l := L1) (a := a) (b := b) (by omega) (by omega) (by omega) (by omega)
      have w2 : IntKind.i64.wrap (b - 1) = b - 1 := w64 (by omega) (by omega)
      have w3 : IntKind.i64.wrap (p - a) = p - a := w64 (by omega) (by omega)
      have w4 : IntKind.i64.wrap (b - 1 - (p - a)) = b - 1 - (p - a) := w64 (by omega) (by omega)
      rw [if_pos h, e, w2, w3, w4]
      exact ⟨_, _, _, rfl, by omega, by omega, q⟩
    · rw [if_neg h]
      exact ⟨_, _, _, rfl, p1, p2, .refl⟩
  have hl2 := s2.len
  have S2 := s1.trans s2
  have hpr2 := h5.keep hA h1 h3 S2
  obtain ⟨b9, e9⟩ : ∃ b9, (if wb = true then if wp = true then some (hint' == (1 : Int)) else some false else some false) = some b9 := by
    split
    · split
      · exact ⟨_, rfl⟩
      · exact ⟨_, rfl⟩
    · exact ⟨_, rfl⟩
  have hv : ((if b9 = true then (G.slices_partialInsertionSortCmpFunc_index_entry_v0_index_New_1 L2 a b).bind fun y12 => if y12.1 = true then some (.inr (.inr y12.2)) else some (.inl y12.2) else some (.inl L2)) : Option ((List T) ⊕ (St ⊕ (List T)))) = some (.inl L2) ∨
      (((if b9 = true then (G.slices_partialInsertionSortCmpFunc_index_entry_v0_index_New_1 L2 a b).bind fun y12 => if y12.1 = true then some (.inr (.inr y12.2)) else some (.inl y12.2) else some (.inl L2)) : Option ((List T) ⊕ (St ⊕ (List T)))) = some (.inr (.inr L2)) ∧ Srt L2 a b) := by
    by_cases h : b9 = true
    · obtain ⟨r, e, hr⟩ := pis_of (l := L2) (a := a) (b := b) (by omega) (by omega) (by omega) (by omega)
      rw [if_pos h, e]
      simp only [Option.bind_some]
      by_cases hr2 : r = true
      · rw [if_pos hr2]; exact .inr ⟨rfl, hr hr2⟩
      · rw [if_neg hr2]; exact .inl rfl
    · rw [if_neg h]; exact .inl rfl
  rcases hv with e10 | ⟨e10, hsrt⟩
  · obtain ⟨b13, e13, h13⟩ : ∃ b13, (if a > (0 : Int) then (idx L2 (IntKind.i64.wrap (a - (1 : Int)))).bind fun x14 => (idx L2 p').bind fun x15 => (G.index_New_1 x14 x15).bind fun y16 => some (!(decide (y16 < (0 : Int)))) else some false) = some b13 ∧ (b13 = true → 0 < a ∧ ¬ key (cz L2 (a - 1)) < key (cz L2 p')) := by
      by_cases h : a > 0
      · rw [if_pos h, w64 (by omega) (by omega), idc (by omega) (by omega), idc (by omega) (by omega)]
        simp only [Option.bind_some, cmp_of, cm_lt]
        exact ⟨_, rfl, fun hb => ⟨h, by simpa using hb⟩⟩
      · rw [if_neg h]
        exact ⟨_, rfl, fun h => by cases h⟩
    have hpre2 : Pre a b L2 := (hp.keep (h4.trans (S2.mono h1 h3))).sub hA h1 h3 hpr2
    by_cases hb13 : b13 = true
    · obtain ⟨k0, k1⟩ := h13 hb13
      obtain ⟨m, L3, e14, s3, m1, m2, m3⟩ := pEq_of (l := L2) (a := a) (b := b) (p := p') (by omega) p1' p2' (by omega) (by omega)
      have hpr3 := hpr2.keep hA h1 h3 s3
      have hmin := s3.all (fun x => key (cz L2 p') ≤ key x) (fun k j0 j1 j2 => by have := hpre2 k0 k j1 j2; omega)
      refine .inl ⟨(m, b, lim', wb, wp, L3), fun fx _ => ?_, ⟨by simp only; omega, m2, h3, h4.trans ((S2.trans s3).mono h1 h3), fun u v u1 u2 u3 u4 => ?_⟩, by simp only; omega⟩
      · unfold G.slices_pdqsortCmpFunc_index_entry_v0_index_New_1_l1
        simp only [w1, if_neg hs, if_neg hm, e4, e6, e7, e9, Option.bind_some, joinK]
        rw [e10]
        simp only [Option.bind_some]
        rw [e13]
        simp only [Option.bind_some]
        rw [if_pos hb13, e14]
        rfl
      · simp only at u4 ⊢
        by_cases u5 : u < a ∨ b ≤ v
        · exact hpr3 u v u1 u2 u3 u5
        · have q1 := m3 u (by omega) (by omega)
          have q2 := hmin v (by omega) (by omega) (by omega)
          omega
    · obtain ⟨m, fl, L3, e14, s3, m1, m2, m3⟩ := part_of (l := L2) (a := a) (b := b) (p := p') (by omega) p1' p2' (by omega) (by omega)
      have hpr3 := hpr2.keep hA h1 h3 s3
      have hpre3 := hpre2.keep s3
      have hl3 := s3.len
      have S3 := h4.trans ((S2.trans s3).mono h1 h3)
      by_cases hside : IntKind.i64.wrap (m - a) < IntKind.i64.wrap (b - m)
      · have hy : Arg (L3, a, m, lim') := ⟨by simp only; omega, m1, by simp only; omega, by simp only; omega, fun j0 k j1 j2 => hpre3 j0 k j1 (by simp only at j2; omega)⟩
        obtain ⟨s4, srt4⟩ := hρ _ hy (by simp only; omega)
        simp only at s4 srt4
        generalize hr : ρ (L3, a, m, lim') = L4 at s4 srt4
        refine .inl ⟨(m + 1, b, lim', decide (IntKind.i64.wrap (m - a) ≥ IntKind.i64.wrap (Int.tdiv (b - a) 8)), fl, L4), fun fx hfx => ?_, ⟨by simp only; omega, by simp only; omega, h3, S3.trans (s4.mono (by omega) (by omega)), fun u v u1 u2 u3 u4 => ?_⟩, by simp only; omega⟩
        · unfold G.slices_pdqsortCmpFunc_index_entry_v0_index_New_1_l1
          simp only [w1, if_neg hs, if_neg hm, e4, e6, e7, e9, Option.bind_some, joinK]
          rw [e10]
          simp only [Option.bind_some]
          rw [e13]
          simp only [Option.bind_some]
          rw [if_neg hb13, e14]
          simp only [Option.bind_some]
          rw [if_pos hside, hfx _ hy (by simp only; omega), hr, w64 (x := m + 1) (by omega) (by omega)]
          rfl
        · simp only at u4 ⊢
          by_cases u5 : u < a ∨ b ≤ v
          · exact (hpr3.keep hA h1 h3 (s4.mono (Int.le_refl _) (by omega))) u v u1 u2 u3 u5
          · have hum := s4.all (fun x => key x ≤ key (cz L3 m)) (fun k j0 j1 j2 => m3.lo k j1 j2)
            have hem : cz L4 m = cz L3 m := s4.out (by omega) (by omega)
            by_cases u6 : v < m
            · exact srt4 u v (by omega) u2 u6
            · by_cases u7 : v = m
              · subst u7; rw [hem]; exact hum u (by omega) (by omega) (by omega)
              · rw [s4.out (k := v) (by omega) (by omega)]
                have q1 := m3.hi v (by omega) (by omega)
                by_cases u8 : u = m
                · subst u8; rw [hem]; exact q1
                · have := hum u (by omega) (by omega) (by omega); omega
      · have hy : Arg (L3, m + 1, b, lim') := ⟨by simp only; omega, by simp only; omega, by simp only; omega, by simp only; omega, fun j0 k j1 j2 => by
          simp only at j1 j2 ⊢
          rw [show m + 1 - 1 = m by omega]; exact m3.hi k (by omega) j2⟩
        obtain ⟨s4, srt4⟩ := hρ _ hy (by simp only; omega)
        simp only at s4 srt4
        generalize hr : ρ (L3, m + 1, b, lim') = L4 at s4 srt4
        refine .inl ⟨(a, m, lim', decide (IntKind.i64.wrap (b - m) ≥ IntKind.i64.wrap (Int.tdiv (b - a) 8)), fl, L4), fun fx hfx => ?_, ⟨h1, m1, by simp only; omega, S3.trans (s4.mono (by omega) (by omega)), fun u v u1 u2 u3 u4 => ?_⟩, by simp only; omega⟩
        · unfold G.slices_pdqsortCmpFunc_index_entry_v0_index_New_1_l1
          simp only [w1, if_neg hs, if_neg hm, e4, e6, e7, e9, Option.bind_some, joinK]
          rw [e10]
          simp only [Option.bind_some]
          rw [e13]
          simp only [Option.bind_some]
          rw [if_neg hb13, e14]
          simp only [Option.bind_some]
          rw [if_neg hside, w64 (x := m + 1) (by omega) (by omega), hfx _ hy (by simp only; omega), hr]
          rfl
        · simp only at u4 ⊢
          by_cases u5 : u < a ∨ b ≤ v
          · exact (hpr3.keep hA h1 h3 (s4.mono (by omega) (Int.le_refl _))) u v u1 u2 u3 u5
          · have hum := s4.all (fun x => key (cz L3 m) ≤ key x) (fun k j0 j1 j2 => m3.hi k (by omega) j2)
            have hem : cz L4 m = cz L3 m := s4.out (by omega) (by omega)
            have hvm : m ≤ v := by omega
            by_cases u6 : m < u
            · exact srt4 u v (by omega) u2 (by omega)
            · by_cases u7 : u = m
              · subst u7; rw [hem]; exact hum v (by omega) (by omega) (by omega)
              · rw [s4.out (k := u) (by omega) (by omega)]
                have q1 := m3.lo u (by omega) (by omega)
                by_cases u8 : v = m
                · subst u8; rw [hem]; exact q1
                · have := hum v (by omega) (by omega) (by omega); omega
  · refine .inr ⟨L2, fun fx => ?_, h4.trans (S2.mono h1 h3), hpr2.fin hsrt⟩
    unfold G.slices_pdqsortCmpFunc_index_entry_v0_index_New_1_l1
    simp only [w1, if_neg hs, if_neg hm, e4, e6, e7, e9, Option.bind_some, joinK]
    rw [e10]
    rfl
theorem loop (hA : 0 ≤ A) (hB : B ≤ (l.length : Int)) (hn : l.length < 50) (hp : Pre A B l) (ρ : Ar → List T) (hρ : ∀ y, Arg y → y.2.2.1 - y.2.1 < B - A → Res y (ρ y)) : ∀ (n : Nat) (s : St), s.2.1 - s.1 ≤ n → Inv A B l s →
    ∃ r, (∀ fx : Ar → Option (List T), (∀ y, Arg y → y.2.2.1 - y.2.1 < B - A → fx y = some (ρ y)) → Iter (G.slices_pdqsortCmpFunc_index_entry_v0_index_New_1_l1 fx) s = some r) ∧ Sws A B l r ∧ Srt r A B := by
  intro n
  induction n with
  | zero =>
    intro s hs h
    rcases round hA hB hn hp ρ hρ h with ⟨s', e, h', hlt⟩ | ⟨r, e, h1, h2⟩
    · have := h'.ab; omega
    · exact ⟨r, fun fx _ => Iter_inr (e fx), h1, h2⟩
  | succ n ih =>
    intro s hs h
    rcases round hA hB hn hp ρ hρ h with ⟨s', e, h', hlt⟩ | ⟨r, e, h1, h2⟩
    · obtain ⟨r, e2, h1, h2⟩ := ih s' (by omega) h'
      exact ⟨r, fun fx hfx => by rw [Iter_inl (e fx hfx)]; exact e2 fx hfx, h1, h2⟩
    · exact ⟨r, fun fx _ => Iter_inr (e fx), h1, h2⟩
theorem pdq_of {y : Ar} (h : Arg y) : ∃ r, G.slices_pdqsortCmpFunc_index_entry_v0_index_New_1 y.1 y.2.1 y.2.2.1 y.2.2.2 = some r ∧ Res y r := by
  unfold G.slices_pdqsortCmpFunc_index_entry_v0_index_New_1
  refine Fix_total (F := G.slices_pdqsortCmpFunc_index_entry_v0_index_New_1_F) (fun k y => Arg y ∧ k = (y.2.2.1 - y.2.1).toNat) Res (fun k y hy f g hfg => ?_) (k := (y.2.2.1 - y.2.1).toNat) ⟨h, rfl⟩
  obtain ⟨hy, rfl⟩ := hy
  have q0 := hy.a0; have q1 := hy.ab
  have hag : ∀ z : Ar, Arg z → z.2.2.1 - z.2.1 < y.2.2.1 - y.2.1 → f z = some ((f z).getD []) ∧ g z = some ((f z).getD []) ∧ Res z ((f z).getD []) := fun z hz hlt => by
    have := hz.ab
    obtain ⟨r, e1, e2, e3⟩ := hfg (z.2.2.1 - z.2.1).toNat z (by omega) ⟨hz, rfl⟩
    rw [e1, e2]; exact ⟨rfl, rfl, e3⟩
  obtain ⟨r, e, s1, s2⟩ := loop (l := y.1) (A := y.2.1) (B := y.2.2.1) hy.a0 hy.bl hy.n hy.pre (fun z => (f z).getD []) (fun z hz hlt => (hag z hz hlt).2.2) (y.2.2.1 - y.2.1).toNat (y.2.1, y.2.2.1, y.2.2.2, true, true, y.1) (by simp only; omega) ⟨Int.le_refl _, hy.ab, Int.le_refl _, .refl, fun p q h1 h2 h3 h4 => by simp only at h4; omega⟩
  exact ⟨r, e f fun z hz hlt => (hag z hz hlt).1, e g fun z hz hlt => (hag z hz hlt).2.1, s1, s2⟩
noncomputable def blOk (n : Nat) : Bool := match G.math_bits_Len (IntKind.u64.wrap (n : Int)) with | some _ => true | none => false
theorem bl_all : ((List.range 50).all fun n => blOk n) = true := by kernel_rfl
theorem bl_of {n : Nat} (h : n < 50) : ∃ m, G.math_bits_Len (IntKind.u64.wrap (n : Int)) = some m := by
  have h := List.all_eq_true.1 bl_all n (List.mem_range.2 h)
  unfold blOk at h
  split at h
  · rename_i m e; exact ⟨m, e⟩
  · cases h
theorem Sort_of (l : List T) (hn : l.length < 50) : ∃ r, G.slices_SortFunc_index_entry_index_entry_v0_index_New_1_w l = some r ∧ r.Perm l ∧ r.Pairwise fun x y => key x ≤ key y := by
  unfold G.slices_SortFunc_index_entry_index_entry_v0_index_New_1_w
  obtain ⟨m, e⟩ := bl_of hn
  rw [e]
  simp only [Option.bind_some]
  obtain ⟨r, e2, h1, h2⟩ := pdq_of (y := (l, 0, (l.length : Int), m)) ⟨Int.le_refl _, by simp only; omega, Int.le_refl _, hn, fun h => absurd h (by simp)⟩
  have e2 : G.slices_pdqsortCmpFunc_index_entry_v0_index_New_1 l 0 (l.length : Int) m = some r := e2
  have h1 : Sws 0 (l.length : Int) l r := h1
  have h2 : Srt r 0 (l.length : Int) := h2
  rw [e2]
  refine ⟨r, rfl, h1.perm, List.pairwise_iff_getElem.2 fun i j hi hj hij => ?_⟩
  have hl := h1.len
  have := h2 (i : Int) (j : Int) (by omega) (by omega) (by omega)
  rwa [cz_get hi, cz_get hj] at this
end QI
end Go.Proofs.Ythhmandpjlggcaa
namespace Go.Proofs.Ythhmandpjlggcaa
open G
namespace G
theorem midx {i j : Nat} (h : i + j ≤ 9223372036854775807) : IntKind.i64.wrap (ishr .u64 (IntKind.u64.wrap (IntKind.i64.wrap ((i : Int) + (j : Int)))) 1) = (((i + j) / 2 : Nat) : Int) := mid_of (by omega) h
theorem tw_mem {α : Type} {p : α → Bool} {x : α} : ∀ {l : List α}, x ∈ l.takeWhile p → p x = true
  | [], h => by cases h
  | a :: l, h => by
    by_cases ha : p a = true
    · rw [List.takeWhile_cons_of_pos ha] at h
      rcases List.mem_cons.1 h with rfl | h
      · exact ha
      · exact tw_mem h
    · rw [List.takeWhile_cons_of_neg ha] at h; cases h
def xend (e : G.Extent) : Int := e.off + e.len
def Ex (e : G.Extent) : Prop := 0 ≤ e.off ∧ 1 ≤ e.len ∧ e.off + e.len ≤ 4611686018427387903
def xov (a b : G.Extent) : Bool := decide (a.off < xend b ∧ b.off < xend a)
def xpart (a b : G.Extent) : G.Extent := ⟨imax a.off b.off, imin (xend a) (xend b) - imax a.off b.off⟩
theorem xov_comm (a b : G.Extent) : xov a b = xov b a := by unfold xov; rw [decide_eq_decide]; omega
theorem OverlapX {a b : G.Extent} (ha : Ex a) (hb : Ex b) : G.extent_Overlap a b = some (if xov a b = true then (xpart a b, true) else (⟨0, 0⟩, false)) := by
  obtain ⟨a1, a2, a3⟩ := ha
  obtain ⟨b1, b2, b3⟩ := hb
  unfold G.extent_Overlap G.extent_End G.extent_between
  simp only [Option.bind_some]
  rw [w64 (x := a.off + a.len) (by omega) (by omega), w64 (x := b.off + b.len) (by omega) (by omega)]
  have hx : imin (a.off + a.len) (b.off + b.len) - imax a.off b.off ≤ 4611686018427387903 ∧ -4611686018427387903 ≤ imin (a.off + a.len) (b.off + b.len) - imax a.off b.off ∧ (imin (a.off + a.len) (b.off + b.len) - imax a.off b.off < 1 ↔ ¬ (a.off < b.off + b.len ∧ b.off < a.off + a.len)) := by
    unfold imin imax; split <;> split <;> omega
  rw [w64 (by omega) (by omega)]
  unfold xov xend
  by_cases h : a.off < b.off + b.len ∧ b.off < a.off + a.len
  · rw [if_neg (fun k => hx.2.2.1 k h), if_pos (decide_eq_true h)]; rfl
  · rw [if_pos (hx.2.2.2 h), if_neg (by simpa using h)]; rfl
def ents (B : List G.Extent) : List G.index_entry := B.mapIdx fun k e => ⟨e, (k : Int)⟩
theorem ents_len (B : List G.Extent) : (ents B).length = B.length := by unfold ents; simp
theorem ents_get {B : List G.Extent} {k : Nat} (hk : k < B.length) (h' : k < (ents B).length) : (ents B)[k] = ⟨B[k], (k : Int)⟩ := List.getElem_mapIdx
theorem ents_take (B : List G.Extent) {k : Nat} (hk : k < B.length) : (ents B).take (k + 1) = (ents B).take k ++ [⟨B[k], (k : Int)⟩] := by
  rw [List.take_succ_eq_append_getElem (by rw [ents_len]; exact hk), ents_get hk]
theorem ents_mem {B : List G.Extent} {e : G.index_entry} (h : e ∈ ents B) : ∃ k, ∃ hk : k < B.length, e = ⟨B[k], (k : Int)⟩ := by
  obtain ⟨k, hk, rfl⟩ := List.mem_iff_getElem.1 h
  have hk' : k < B.length := by rwa [ents_len] at hk
  exact ⟨k, hk', ents_get hk' hk⟩
theorem mem_ents {B : List G.Extent} {k : Nat} (hk : k < B.length) : (⟨B[k], (k : Int)⟩ : G.index_entry) ∈ ents B := by
  exact List.mem_iff_getElem.2 ⟨k, by rw [ents_len]; exact hk, ents_get hk _⟩
theorem Valid_ex {e : G.Extent} (h : Ex e) : G.extent_Valid e = some true := by
  obtain ⟨h1, h2, h3⟩ := h
  unfold G.extent_Valid
  rw [if_pos (by unfold imin; split <;> omega), if_pos (by omega), w64 (by omega) (by omega)]
  congr 1; exact decide_eq_true (by omega)
theorem new_l1 {B : List G.Extent} (hB : ∀ e ∈ B, Ex e) (hn : B.length ≤ 1000) : Iter (G.index_New_l1 B) (0, []) = some (.inl (ents B)) := by
  refine Iter_count (f := G.index_New_l1 B) B.length (fun k => ((k : Int), (ents B).take k)) _ (fun k hk => ?_) ?_ rfl
  · have he := hB _ (List.getElem_mem hk)
    unfold G.index_New_l1
    rw [if_pos (by simp only; omega)]
    simp only [idx_of hk, Option.bind_some, Valid_ex he]
    rw [if_neg (by decide)]
    simp only [Option.bind_some]
    rw [if_neg (by have := he.2.1; simp only [beq_iff_eq]; omega), app_of (by simp [ents_len]; omega), inc64 hk (by omega), ents_take B hk]
    rfl
  · unfold G.index_New_l1
    rw [if_neg (by simp)]
    rw [List.take_of_length_le (by rw [ents_len]; exact Nat.le_refl _)]
structure Idx (B : List G.Extent) (y : List G.index_entry) : Prop where
  perm : y.Perm (ents B)
  len : y.length = B.length
  ex : ∀ e ∈ y, Ex e.extent
  srt : y.Pairwise fun a b => xend a.extent ≤ b.extent.off
theorem New_of {B : List G.Extent} (hB : ∀ e ∈ B, Ex e) (hn : B.length < 50) (hd : ∀ i j (hi : i < B.length) (hj : j < B.length), i ≠ j → xov B[i] B[j] = false) : ∃ y, G.index_New B = some (.inr y) ∧ Idx B y := by
  unfold G.index_New
  rw [new_l1 hB (by omega)]
  simp only [Option.bind_some, joinK]
  obtain ⟨y, e, hp, hs⟩ := QI.Sort_of (ents B) (by rw [ents_len]; exact hn)
  rw [e]
  simp only [Option.bind_some]
  have hl : y.length = B.length := by rw [hp.length_eq, ents_len]
  have hex : ∀ e ∈ y, Ex e.extent := fun e he => by
    obtain ⟨k, hk, rfl⟩ := ents_mem (hp.mem_iff.1 he)
    exact hB _ (List.getElem_mem hk)
  have hnd : y.Pairwise fun a b => a.position ≠ b.position := by
    have h0 : (ents B).Pairwise fun a b => a.position ≠ b.position := by
      refine List.pairwise_iff_getElem.2 fun i j hi hj hij => ?_
      rw [ents_get (by rwa [ents_len] at hi), ents_get (by rwa [ents_len] at hj)]
      simp only; omega
    exact (hp.pairwise_iff (fun h => h.symm)).2 h0
  have hsr : y.Pairwise fun a b => xend a.extent ≤ b.extent.off := by
    refine List.pairwise_iff_getElem.2 fun i j hi hj hij => ?_
    have h1 := List.pairwise_iff_getElem.1 hs i j hi hj hij
    have h2 := List.pairwise_iff_getElem.1 hnd i j hi hj hij
    have x2 := hex _ (List.getElem_mem hj)
    obtain ⟨p, hp1, e1⟩ := ents_mem (hp.mem_iff.1 (List.getElem_mem hi))
    obtain ⟨q, hq1, e2⟩ := ents_mem (hp.mem_iff.1 (List.getElem_mem hj))
    have h3 := hd p q hp1 hq1 (fun h => h2 (by rw [e1, e2]; simp only; omega))
    rw [e1] at h1 ⊢
    rw [e2] at h1 x2 ⊢
    unfold xov at h3
    have h3 := of_decide_eq_false h3
    unfold QI.key at h1
    unfold Ex at x2
    simp only at h1 x2 ⊢
    unfold xend at h3 ⊢
    omega
  refine ⟨y, ?_, hp, hl, hex, hsr⟩
  refine Iter_count (f := G.index_New_l2 y) y.length (fun k => (k : Int)) _ (fun k hk => ?_) ?_ rfl
  · unfold G.index_New_l2
    rw [if_pos (by omega)]
    have hv : (if (k : Int) > 0 then (idx y (k : Int)).bind fun x11 => (idx y (IntKind.i64.wrap ((k : Int) - 1))).bind fun x12 => (G.extent_End x12.extent).bind fun y13 => some (decide (x11.extent.off < y13)) else some false) = some false := by
      by_cases h0 : (k : Int) > 0
      · rw [if_pos h0, idx_of hk, w64 (by omega) (by omega), idx_of' (k := k - 1) (by omega) (by omega)]
        unfold G.extent_End
        simp only [Option.bind_some]
        have x1 := hex _ (List.getElem_mem (show k - 1 < y.length by omega))
        have := List.pairwise_iff_getElem.1 hsr (k - 1) k (by omega) hk (by omega)
        unfold Ex at x1
        unfold xend at this
        rw [w64 (by omega) (by omega), decide_eq_false (by omega)]
      · rw [if_neg h0]
    rw [hv]
    simp only [Option.bind_some]
    rw [if_neg (by decide), inc64 hk (by omega)]
  · unfold G.index_New_l2
    rw [if_neg (by omega)]
section
variable {B : List G.Extent} {y : List G.index_entry}
theorem Idx.get (h : Idx B y) {i j : Nat} (hij : i < j) (hj : j < y.length) : xend y[i].extent ≤ y[j].extent.off := List.pairwise_iff_getElem.1 h.srt i j (by omega) hj hij
theorem Idx.mono (h : Idx B y) {i j : Nat} (hij : i ≤ j) (hj : j < y.length) : xend y[i].extent ≤ xend y[j].extent := by
  by_cases e : i = j
  · subst e; exact Int.le_refl _
  · have := h.get (i := i) (j := j) (by omega) hj
    have x := h.ex _ (List.getElem_mem hj)
    unfold Ex at x
    have : xend y[j].extent = y[j].extent.off + y[j].extent.len := rfl
    omega
theorem after_of (h : Idx B y) (hn : y.length < 50) (o : Int) : ∃ k : Nat, G.index_Index_after o y = some (k : Int) ∧ k ≤ y.length ∧ (∀ j (hj : j < y.length), j < k → xend y[j].extent ≤ o) ∧ ∀ j (hj : j < y.length), k ≤ j → o < xend y[j].extent := by
  unfold G.index_Index_after G.index_Index_Len G.sort_Search_index_Index_after_1x
  simp only [Option.bind_some]
  have hq : ∀ m (hm : m < y.length), G.index_Index_after_1x (m : Int) y o = some (decide (o < xend y[m].extent)) := fun m hm => by
    unfold G.index_Index_after_1x G.extent_End
    have x := h.ex _ (List.getElem_mem hm)
    unfold Ex at x
    rw [idx_of hm]
    simp only [Option.bind_some]
    rw [w64 (by omega) (by omega)]
    rfl
  obtain ⟨r, e, k, rfl, h1, h2, h3⟩ := Iter_total (f := G.sort_Search_index_Index_after_1x_l1 y o)
    (fun m s => ∃ i j : Nat, s = ((i : Int), (j : Int)) ∧ m = j - i ∧ i ≤ j ∧ j ≤ y.length ∧ (∀ p (hp : p < y.length), p < i → xend y[p].extent ≤ o) ∧ ∀ p (hp : p < y.length), j ≤ p → o < xend y[p].extent)
    (fun r => ∃ k : Nat, r = (k : Int) ∧ k ≤ y.length ∧ (∀ j (hj : j < y.length), j < k → xend y[j].extent ≤ o) ∧ ∀ j (hj : j < y.length), k ≤ j → o < xend y[j].extent) (by
      rintro m s ⟨i, j, rfl, rfl, h1, h2, h3, h4⟩
      unfold G.sort_Search_index_Index_after_1x_l1
      simp only
      by_cases hij : i < j
      · have hm : (i + j) / 2 < y.length := by omega
        rw [if_pos (by omega), midx (by omega), hq _ hm]
        simp only [Option.bind_some]
        by_cases hc : o < xend y[(i + j) / 2].extent
        · rw [decide_eq_true hc, if_neg (by decide)]
          exact .inl ⟨_, _, rfl, by omega, i, (i + j) / 2, rfl, rfl, by omega, by omega, h3, fun p hp hjp => by have := h.mono hjp hp; omega⟩
        · rw [decide_eq_false hc, if_pos rfl]
          refine .inl ⟨j - ((i + j) / 2 + 1), _, rfl, by omega, (i + j) / 2 + 1, j, ?_, rfl, by omega, by omega, fun p hp hpi => by have := h.mono (i := p) (j := (i + j) / 2) (by omega) hm; omega, h4⟩
          rw [w64 (by omega) (by omega)]; rfl
      · rw [if_neg (by omega)]
        have : i = j := by omega
        subst this
        exact .inr ⟨_, rfl, i, rfl, h2, h3, h4⟩) _ ((0 : Int), (y.length : Int)) ⟨0, y.length, rfl, rfl, Nat.zero_le _, Nat.le_refl _, fun p _ hp => by omega, fun p hp hp2 => by omega⟩
  rw [e]
  exact ⟨k, rfl, h1, h2, h3⟩
theorem Meet_of (h : Idx B y) (hn : y.length < 50) {s : G.Extent} (hs : Ex s) : ∃ M : List G.index_entry, G.index_Index_Meet s y = some (M.map (·.position)) ∧ M.length < 50 ∧ (M.Pairwise fun a b => xend a.extent ≤ b.extent.off) ∧ ∀ e, e ∈ M ↔ e ∈ y ∧ xov e.extent s = true := by
  obtain ⟨k, hk, k1, k2, k3⟩ := after_of h hn s.off
  refine ⟨(y.drop k).takeWhile fun e => xov e.extent s, ?_, ?_, ?_, ?_⟩
  · unfold G.index_Index_Meet G.index_Index_overlaps G.index_Index_overlaps_1_index_Index_Meetx
    simp only [Option.bind_some]
    rw [hk]
    simp only [Option.bind_some]
    rw [bind_id]
    obtain ⟨r, e, he⟩ := Iter_total (f := G.index_Index_overlaps_1_index_Index_Meetx_l1 y s)
      (fun m st => ∃ (i : Nat) (out : List Int), st = ((i : Int), out) ∧ m = y.length - i ∧ k ≤ i ∧ i ≤ y.length ∧ out.length ≤ i ∧ out ++ ((y.drop i).takeWhile fun e => xov e.extent s).map (·.position) = ((y.drop k).takeWhile fun e => xov e.extent s).map (·.position))
      (fun r => r = ((y.drop k).takeWhile fun e => xov e.extent s).map (·.position)) (by
        rintro m st ⟨i, out, rfl, rfl, i1, i2, i3, i4⟩
        unfold G.index_Index_overlaps_1_index_Index_Meetx_l1 G.index_Index_Len
        simp only [Option.bind_some]
        by_cases hi : i < y.length
        · have x := h.ex _ (List.getElem_mem hi)
          rw [if_pos (by omega), idx_of hi]
          simp only [Option.bind_some]
          rw [OverlapX x hs]
          simp only [Option.bind_some]
          rw [List.drop_eq_getElem_cons hi] at i4
          by_cases hov : xov y[i].extent s = true
          · rw [if_pos hov]
            rw [List.takeWhile_cons_of_pos (p := fun e : G.index_entry => xov e.extent s) hov, List.map_cons] at i4
            simp only [Bool.true_eq_false, if_false]
            unfold G.index_Index_Meet_b1
            rw [app_of (by simp; omega)]
            simp only [Option.bind_some, Bool.false_eq_true, if_false]
            rw [inc64 hi (by omega)]
            exact .inl ⟨y.length - (i + 1), _, rfl, by omega, i + 1, _, rfl, rfl, by omega, hi, by simp; omega, by rw [List.append_assoc]; exact i4⟩
          · rw [if_neg hov]
            rw [List.takeWhile_cons_of_neg (p := fun e : G.index_entry => xov e.extent s) hov, List.map_nil, List.append_nil] at i4
            simp only [if_true, Option.bind_some]
            exact .inr ⟨_, rfl, i4⟩
        · rw [if_neg (by omega)]
          rw [List.drop_eq_nil_of_le (by omega), List.takeWhile_nil, List.map_nil, List.append_nil] at i4
          exact .inr ⟨_, rfl, i4⟩) _ ((k : Int), []) ⟨k, [], rfl, rfl, Nat.le_refl _, k1, by simp, rfl⟩
    rw [e, he]
  · have h1 := (List.takeWhile_sublist (fun e : G.index_entry => xov e.extent s) (l := y.drop k)).length_le
    rw [List.length_drop] at h1; omega
  · exact h.srt.sublist ((List.takeWhile_sublist _).trans (List.drop_sublist _ _))
  · intro e
    constructor
    · intro he
      exact ⟨List.mem_of_mem_drop ((List.takeWhile_sublist _).mem he), tw_mem (p := fun e : G.index_entry => xov e.extent s) he⟩
    · rintro ⟨he, hov⟩
      obtain ⟨j, hj, rfl⟩ := List.mem_iff_getElem.1 he
      unfold xov at hov
      have hov := of_decide_eq_true hov
      have hkj : k ≤ j := Nat.le_of_not_lt fun hlt => by
        have := k2 j hj hlt
        omega
      have hall : ∀ (n i : Nat), i + n = j → k ≤ i → y[j] ∈ (y.drop i).takeWhile fun e => xov e.extent s := by
        intro n
        induction n with
        | zero =>
          intro i hi hki
          have : i = j := by omega
          subst this
          rw [List.drop_eq_getElem_cons hj, List.takeWhile_cons_of_pos (p := fun e : G.index_entry => xov e.extent s) (by unfold xov; exact decide_eq_true hov)]
          exact List.mem_cons_self ..
        | succ n ih =>
          intro i hi hki
          have hi2 : i < y.length := by omega
          have x := h.ex _ (List.getElem_mem hi2)
          have q1 := h.get (i := i) (j := j) (by omega) hj
          have q2 := k3 i hi2 hki
          rw [List.drop_eq_getElem_cons hi2, List.takeWhile_cons_of_pos (p := fun e : G.index_entry => xov e.extent s) (by
            unfold xov; refine decide_eq_true ⟨?_, q2⟩
            unfold Ex at x; unfold xend at q1; omega)]
          exact List.mem_cons_of_mem _ (ih (i + 1) (by omega) (by omega))
      exact hall (j - k) k (by omega) (Nat.le_refl _)
end
end G
end Go.Proofs.Ythhmandpjlggcaa
namespace Go.Proofs.Ythhmandpjlggcaa
open G
namespace G
def rng (o : Int) (m : Nat) : List Int := (List.range m).map fun (j : Nat) => o + (j : Int)
section
variable {l : List G.Command}
def wb (l : List G.Command) (i : Nat) (o : Int) (n : Nat) : List Int := (rng o n).filter fun x => wrt l i x
theorem tgt_ex {c : G.Command} (h : Good dM c) : Ex (tgt c) := ⟨h.to0, h.len1, h.max⟩
theorem tgt_apart (h : Rt l) (i : Nat) : ∀ p q (hp : p < ((l.take i).map tgt).length) (hq : q < ((l.take i).map tgt).length), p ≠ q → xov ((l.take i).map tgt)[p] ((l.take i).map tgt)[q] = false := by
  have key : ∀ p q (hp : p < l.length) (hq : q < l.length), p < q → xov (tgt l[q]) (tgt l[p]) = false := fun p q hp hq hpq => by
    have h1 := h.apart q hq
    unfold ovi at h1
    rw [List.any_eq_false] at h1
    have h2 := h1 l[p] (List.mem_iff_getElem.2 ⟨p, by simp; omega, by simp⟩)
    rw [cat_getElem hq] at h2
    show ov l[q] l[p] = false
    simpa using h2
  intro p q hp hq hne
  simp only [List.length_map, List.length_take] at hp hq
  simp only [List.getElem_map, List.getElem_take]
  rcases Nat.lt_or_ge p q with hpq | hpq
  · rw [xov_comm]; exact key p q (by omega) (by omega) hpq
  · exact key q p (by omega) (by omega) (by omega)
end
end G
end Go.Proofs.Ythhmandpjlggcaa
