/- Applying a delta: the bytes it writes. No program in sight. -/
import Derived.Test.YtnbipipegmoigaaPT5
namespace Go.Proofs.Ytnbipipegmoigaa
open G
namespace G
/-- The byte that an origin stands for. -/
def rd (a0 : List UInt8) : Org → UInt8
  | .inl k => a0.getD k.toNat 0
  | .inr b => b
def byts (a0 : List UInt8) (c : G.Command) : List UInt8 := (exp c).map (rd a0)
def file (a0 : List UInt8) (S : List G.Command) : List UInt8 := (expL S).map (rd a0)
section
variable {d : G.Delta} {S : List G.Command} {a0 : List UInt8}
theorem byts_len {c : G.Command} (h : Nice c) : ((byts a0 c).length : Int) = tlen c := by unfold byts; rw [List.length_map]; exact exp_len h
theorem byts_copy {c : G.Command} (hk : c.kind = 1) (h0 : 0 ≤ c.from_) (h1 : 0 ≤ c.len) (h2 : c.from_ + c.len ≤ (a0.length : Int)) : byts a0 c = (a0.take (c.from_ + c.len).toNat).drop c.from_.toNat := by
  unfold byts
  rw [exp_copy hk, List.map_map]
  refine List.ext_getElem (by simp only [List.length_map, List.length_range, List.length_drop, List.length_take]; omega) fun i h3 h4 => ?_
  simp only [List.length_map, List.length_range] at h3
  simp only [List.getElem_map, List.getElem_range, List.getElem_drop, List.getElem_take, Function.comp_apply, rd]
  rw [show (c.from_ + (i : Int)).toNat = c.from_.toNat + i by omega, List.getD_eq_getElem?_getD, List.getElem?_eq_getElem (by omega)]
  rfl
theorem byts_lit {c : G.Command} (hk : c.kind ≠ 1) : byts a0 c = c.data := by
  unfold byts
  rw [exp_lit hk, List.map_map]
  have : rd a0 ∘ Sum.inr = id := by funext b; rfl
  rw [this, List.map_id]
theorem bytesOf_of {c : G.Command} {N M : Int} (h : Fit N M c) (hM : M ≤ (a0.length : Int)) (hl : a0.length ≤ 1000000) : G.patch_bytesOf a0 c = some (byts a0 c) := by
  unfold G.patch_bytesOf
  rw [Source_of]
  by_cases hk : c.kind = 1
  · have hs := h.src hk
    have hn := h.nice.len1
    rw [tlen_copy hk] at hn
    simp only [if_pos hk, Option.bind_some, if_true]
    rw [w64 (by omega) (by omega), slcMid_of (by omega), byts_copy hk hs.1 (by omega) (by omega)]
    rfl
  · simp only [if_neg hk, Option.bind_some, Bool.false_eq_true, if_false]
    rw [byts_lit hk]
theorem file_at {o : Int} {c : G.Command} (h : Sm d S) (hc : c ∈ S) (h1 : c.to ≤ o) (h2 : o < tend c) : (file a0 S)[o.toNat]? = (byts a0 c)[(o - c.to).toNat]? := by
  unfold file byts
  have := til_at h.nice h.til hc h1 h2
  rw [Int.sub_zero] at this
  rw [List.getElem?_map, List.getElem?_map, this]
theorem file_len (h : Sm d S) : ((file a0 S).length : Int) = d.newLen := by
  unfold file; rw [List.length_map, til_len h.nice h.til]; omega
theorem fits_of (hv : VD d) (hn : d.commands.length ≤ 17592186044416) (hl : d.oldLen = (a0.length : Int)) : G.patch_fits a0 d = some true := by
  unfold G.patch_fits
  obtain ⟨b, h1, _, h2⟩ := Valid5_of (d := d) hn
  rw [h1, h2.2 hv]
  simp only [Option.bind_some, if_true]
  rw [beq_iff_eq.2 hl]
theorem cpy_at {α : Type} {l x : List α} {o : Nat} (h : o + x.length ≤ l.length) (j : Nat) : (cpy l o x)[j]? = if o ≤ j ∧ j < o + x.length then x[j - o]? else l[j]? := by
  have hl : (l.take o).length = o := by simp; omega
  unfold cpy
  rw [List.take_of_length_le (l := x) (by omega)]
  by_cases h1 : j < o
  · rw [if_neg (by omega), List.getElem?_append_left (by omega), List.getElem?_take, if_pos h1]
  · rw [List.getElem?_append_right (by omega), hl]
    by_cases h2 : j < o + x.length
    · rw [if_pos ⟨by omega, h2⟩, List.getElem?_append_left (by omega)]
    · rw [if_neg (by omega), List.getElem?_append_right (by omega), List.getElem?_drop, show o + x.length + (j - o - x.length) = j by omega]
theorem Apply_of (h : Sm d S) (hl : d.oldLen = (a0.length : Int)) (ha : a0.length ≤ 1000000) : G.patch_Apply a0 d = some (file a0 S) := by
  have hN := h.new
  have hR := h.vd.rng
  unfold InR at hR
  unfold G.patch_Apply
  rw [fits_of h.vd (by have := h.len; omega) hl]
  simp only [Option.bind_some, Bool.true_eq_false, if_false]
  rw [chk_of (by omega)]
  simp only [Option.bind_some]
  obtain ⟨r, hr, rfl⟩ := Iter_total (f := G.patch_Apply_l1 a0 d)
    (fun m st => ∃ (k : Nat) (out : List UInt8), st = ((k : Int), out) ∧ m = d.commands.length - k ∧ k ≤ d.commands.length ∧ (out.length : Int) = d.newLen ∧ ∀ i (hi : i < d.commands.length), i < k → ∀ o : Int, d.commands[i].to ≤ o → o < tend d.commands[i] → out[o.toNat]? = (file a0 S)[o.toNat]?)
    (fun r => r = file a0 S) (by
      rintro m st ⟨k, out, rfl, rfl, hk, hlen, hall⟩
      unfold G.patch_Apply_l1
      by_cases hlt : k < d.commands.length
      · left
        rw [if_pos (by simp; omega)]
        have hm : d.commands[k] ∈ S := h.perm.mem_iff.2 (List.getElem_mem hlt)
        have hf := h.fit _ hm
        have f0 := hf.to0; have f1 := hf.fits; have f2 := hf.nice.len1
        simp only [idx_of hlt, Option.bind_some]
        rw [chk_of (by unfold tend at f1; omega), bytesOf_of hf (by omega) ha]
        simp only [Option.bind_some, inc64 hlt (by have := h.len; omega)]
        have bl := byts_len (a0 := a0) hf.nice
        have te : tend d.commands[k] = d.commands[k].to + tlen d.commands[k] := rfl
        rw [List.take_of_length_le (by omega)]
        refine ⟨d.commands.length - (k + 1), _, rfl, by omega, k + 1, _, rfl, rfl, by omega, by rw [cpy_length (by omega)]; exact hlen, fun i hi hik o h1 h2 => ?_⟩
        rw [cpy_at (by omega)]
        by_cases hin : d.commands[k].to ≤ o ∧ o < tend d.commands[k]
        · rw [if_pos (by omega), file_at h hm hin.1 hin.2]
          congr 1; omega
        · have hi0 := (h.fit _ (h.perm.mem_iff.2 (List.getElem_mem hi))).to0
          rw [if_neg (by omega)]
          by_cases e : i = k
          · subst e; exact absurd ⟨h1, h2⟩ hin
          · exact hall i hi (by omega) o h1 h2
      · right
        rw [if_neg (by simp; omega)]
        refine ⟨_, rfl, List.ext_getElem? fun j => ?_⟩
        have fl := file_len (a0 := a0) h
        show out[j]? = _
        by_cases hj : (j : Int) < d.newLen
        · obtain ⟨c, hc, h1, h2⟩ := h.vd.full (j : Int) (by omega) hj
          obtain ⟨i, hi, rfl⟩ := List.mem_iff_getElem.1 hc
          have := hall i hi (by omega) (j : Int) h1 h2
          rwa [Int.toNat_natCast] at this
        · rw [List.getElem?_eq_none (by omega), List.getElem?_eq_none (by omega)]) _ _ ⟨0, List.replicate d.newLen.toNat 0, rfl, rfl, Nat.zero_le _, by rw [List.length_replicate]; omega, fun i hi h => by omega⟩
  exact hr
theorem refApply_of (h : Sm d S) (hl : d.oldLen = (a0.length : Int)) (ha : a0.length ≤ 1000000) : G.graftref08_Apply a0 d = some (file a0 S) := by
  have hN := h.new
  have hR := h.vd.rng
  unfold InR at hR
  have fl := file_len (a0 := a0) h
  unfold G.graftref08_Apply
  refine Iter_count (f := G.graftref08_Apply_l1 a0 d) (file a0 S).length (fun k => ((file a0 S).take k, (k : Int))) _ (fun k hk => ?_) ?_ rfl
  · unfold G.graftref08_Apply_l1
    rw [if_pos (by simp only; omega)]
    obtain ⟨r, hr, hr1, hr2⟩ := Find5_full h.vd.good (by have := h.len; omega) (k : Int)
    have hr0 : 0 ≤ r := Int.not_lt.1 fun hlt => hr1.1 hlt (h.vd.full _ (by omega) (by omega))
    obtain ⟨i, hi, rfl, h2, h3⟩ := hr2 hr0
    simp only [hr, Option.bind_some, idx_of hi]
    have hm : d.commands[i] ∈ S := h.perm.mem_iff.2 (List.getElem_mem hi)
    have hf := h.fit _ hm
    generalize d.commands[i] = c at *
    have hat := file_at (a0 := a0) h hm h2 h3
    have f1 := hf.fits; have f2 := hf.to0
    have te : tend c = c.to + tlen c := rfl
    have bl := byts_len (a0 := a0) hf.nice
    rw [Int.toNat_natCast, List.getElem?_eq_getElem hk, List.getElem?_eq_getElem (by omega)] at hat
    have hat := Option.some.inj hat
    have happ : ∀ u, u = (file a0 S)[k] → (app 1 ((file a0 S).take k) [u]).bind (fun y => some (Sum.inl (α := List UInt8 × Int) (β := List UInt8) (y, IntKind.i64.wrap ((k : Int) + 1)))) = some (.inl ((file a0 S).take (k + 1), ((k + 1 : Nat) : Int))) := by
      rintro u rfl
      rw [app_of (by simp; omega), List.take_succ_eq_append_getElem hk]
      simp only [Option.bind_some]
      rw [inc64 (n := 100000) (by omega) (by omega)]
    by_cases hkd : c.kind = 1
    · have hs := hf.src hkd
      have hn := hf.nice.len1
      rw [tlen_copy hkd] at te hn bl
      rw [if_pos hkd, w64 (x := c.from_ + (k : Int)) (by omega) (by omega), w64 (by omega) (by omega), idx_getD' (k := (c.from_ + (k : Int) - c.to).toNat) (0 : UInt8) (by omega) (by omega)]
      simp only [Option.bind_some]
      refine happ _ ?_
      rw [hat]
      simp only [byts_copy hkd hs.1 (by omega) (show c.from_ + c.len ≤ (a0.length : Int) by omega), List.getElem_drop, List.getElem_take]
      rw [List.getD_eq_getElem?_getD, List.getElem?_eq_getElem (by omega)]
      simp only [Option.getD_some]
      congr 1; omega
    · rw [tlen_lit hkd] at te bl
      rw [if_neg hkd, w64 (by omega) (by omega), idx_getD' (k := ((k : Int) - c.to).toNat) (0 : UInt8) (by omega) (by omega)]
      simp only [Option.bind_some]
      refine happ _ ?_
      rw [hat]
      simp only [byts_lit hkd]
      rw [List.getD_eq_getElem?_getD, List.getElem?_eq_getElem (by omega)]
      rfl
  · unfold G.graftref08_Apply_l1
    rw [if_neg (by simp only; omega)]
    simp
end
theorem Fits8_of (a0 : List UInt8) (d : G.Delta) (hn : d.commands.length ≤ 9223372036854775807) : ∃ b, G.graftref08_Fits a0 d = some b ∧ (b = true → d.oldLen = (a0.length : Int) ∧ ∃ S, Sm d S) := by
  unfold G.graftref08_Fits
  rw [Few5_of d hn]
  simp only [Option.bind_some]
  by_cases hf : few5 d = true
  · rw [if_pos hf]
    obtain ⟨h1, h2⟩ := few5_iff.1 hf
    obtain ⟨b, _, h3, h4⟩ := Valid5_of (d := d) (by omega)
    rw [h3]
    simp only [Option.bind_some]
    by_cases hb : b = true
    · rw [if_pos hb]
      by_cases hl : d.oldLen = (a0.length : Int)
      · rw [if_pos hl]
        refine ⟨_, rfl, fun h => ⟨hl, Sm_of (h4.1 hb) h2 (of_decide_eq_true h)⟩⟩
      · rw [if_neg hl]; exact ⟨false, rfl, fun h => by cases h⟩
    · rw [if_neg hb]; exact ⟨false, rfl, fun h => by cases h⟩
  · rw [if_neg hf]; exact ⟨false, rfl, fun h => by cases h⟩
theorem file_can {d : G.Delta} {A : List G.Command} (a0 : List UInt8) (h : Sm d A) : file a0 (can_ A) = file a0 A := by
  unfold file; rw [(can_laws h.nice h.til).1]
end G
end Go.Proofs.Ytnbipipegmoigaa
