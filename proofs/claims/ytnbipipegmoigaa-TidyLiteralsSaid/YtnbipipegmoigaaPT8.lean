/- The example of the chapter; TidyEquivalent and TidyCanonical are true. No program in sight. -/
import Derived.Test.YtnbipipegmoigaaPT5
namespace Go.Proofs.Ytnbipipegmoigaa
open G
namespace G
def cA : G.Command := ⟨1, 0, 5, 2, []⟩
def cB : G.Command := ⟨1, 2, 7, 3, []⟩
def cC : G.Command := ⟨1, 5, 9, 1, []⟩
theorem tl_cA : tlen cA = 2 := by unfold tlen cA; rfl
theorem tl_cB : tlen cB = 3 := by unfold tlen cB; rfl
theorem tl_cC : tlen cC = 1 := by unfold tlen cC; rfl
theorem te_cA : tend cA = 2 := by unfold tend; rw [tl_cA]; rfl
theorem te_cB : tend cB = 5 := by unfold tend; rw [tl_cB]; rfl
theorem te_cC : tend cC = 6 := by unfold tend; rw [tl_cC]; rfl
/-- The example's delta. -/
def exD : G.Delta := ⟨10, 6, fun _ => 0, fun _ => 0, [cC, cB, cA]⟩
theorem exD_vd : VD exD := by
  refine ⟨by unfold InR exD; simp, fun c hc => ?_, ?_, fun o h1 h2 => ?_⟩
  · have hc : c = cC ∨ c = cB ∨ c = cA := by simpa [exD] using hc
    rcases hc with rfl | rfl | rfl
    · exact ⟨by decide, by rw [tl_cC]; decide, by rw [te_cC]; decide, by rw [te_cC]; decide, fun _ => by simp [cC, exD], fun h => absurd rfl h⟩
    · exact ⟨by decide, by rw [tl_cB]; decide, by rw [te_cB]; decide, by rw [te_cB]; decide, fun _ => by simp [cB, exD], fun h => absurd rfl h⟩
    · exact ⟨by decide, by rw [tl_cA]; decide, by rw [te_cA]; decide, by rw [te_cA]; decide, fun _ => by simp [cA, exD], fun h => absurd rfl h⟩
  · rintro ⟨i, j, hi, hj, hne, h⟩
    have hi : i < 3 := hi
    have hj : j < 3 := hj
    have e0 : cat exD.commands 0 = cC := rfl
    have e1 : cat exD.commands 1 = cB := rfl
    have e2 : cat exD.commands 2 = cA := rfl
    have oo : ∀ a b : G.Command, ov a b = true ↔ a.to < tend b ∧ b.to < tend a := fun a b => by unfold ov; rw [decide_eq_true_eq]
    have tA : cA.to = 0 := rfl
    have tB : cB.to = 2 := rfl
    have tC : cC.to = 5 := rfl
    have hi3 : i = 0 ∨ i = 1 ∨ i = 2 := by omega
    have hj3 : j = 0 ∨ j = 1 ∨ j = 2 := by omega
    rcases hi3 with rfl | rfl | rfl <;> rcases hj3 with rfl | rfl | rfl <;> first | exact hne rfl | (simp only [e0, e1, e2, oo, te_cA, te_cB, te_cC, tA, tB, tC] at h; omega)
  · have h2 : o < 6 := h2
    have tA : cA.to = 0 := rfl
    have tB : cB.to = 2 := rfl
    have tC : cC.to = 5 := rfl
    by_cases k1 : o < 2
    · exact ⟨cA, by simp [exD], by omega, by rw [te_cA]; omega⟩
    · by_cases k2 : o < 5
      · exact ⟨cB, by simp [exD], by omega, by rw [te_cB]; omega⟩
      · exact ⟨cC, by simp [exD], by omega, by rw [te_cC]; omega⟩
theorem exD_sm : Sm exD [cA, cB, cC] := by
  refine ⟨exD_vd, by decide, by decide, ?_, ?_⟩
  · show [cA, cB, cC].Perm [cC, cB, cA]
    exact (List.reverse_perm [cA, cB, cC]).symm
  · refine ⟨rfl, ?_, ?_, ?_⟩
    · rw [te_cA]; rfl
    · rw [te_cB]; rfl
    · exact te_cC
theorem exD_can : can_ [cA, cB, cC] = [⟨1, 0, 5, 5, []⟩, cC] := by decide
theorem exD_find : G.delta_Find exD 3 = some 1 := by
  unfold G.delta_Find G.slices_IndexFunc_api_Command_api_Command_delta_Find_1
  have fa := Find1_of (c := cC) (o := 3) (by decide) (by rw [tl_cC]; decide) (by rw [te_cC]; decide) (by decide)
  have fb := Find1_of (c := cB) (o := 3) (by decide) (by rw [tl_cB]; decide) (by rw [te_cB]; decide) (by decide)
  rw [te_cC] at fa
  rw [te_cB] at fb
  rw [show exD.commands = [cC, cB, cA] from rfl]
  rw [Iter_inl (s' := 1) (by
    unfold G.slices_IndexFunc_api_Command_api_Command_delta_Find_1_l1
    rw [if_pos (by simp)]
    simp only [idx_of' (k := 0) (show (0 : Int) = ((0 : Nat) : Int) from rfl) (show 0 < [cC, cB, cA].length by simp), Option.bind_some, List.getElem_cons_zero, fa]
    rw [if_neg (by decide)]; rfl)]
  rw [Iter_inr (a := 1) (by
    unfold G.slices_IndexFunc_api_Command_api_Command_delta_Find_1_l1
    rw [if_pos (by simp)]
    simp only [idx_of' (k := 1) (show (1 : Int) = ((1 : Nat) : Int) from rfl) (show 1 < [cC, cB, cA].length by simp), Option.bind_some, List.getElem_cons_succ, List.getElem_cons_zero, fb]
    rw [if_pos (by decide)])]
  rfl
theorem exD_of : G.tidy_Of exD 3 = some (⟨true, 8, 0⟩, true) := by
  unfold G.tidy_Of
  rw [exD_find]
  simp only [Option.bind_some]
  rw [if_neg (by decide), show idx exD.commands 1 = some cB from idx_of' (k := 1) rfl (by decide)]
  simp only [Option.bind_some]
  rw [Part_of (exD_sm.fit cB (by simp)) exD_sm.rng.1 exD_sm.rng.2 (by decide) (by decide) (by rw [te_cB]; decide)]
  simp only [Option.bind_some]
  rw [show part cB 3 1 = ⟨1, 3, 8, 1, []⟩ from rfl, Source_of]
  rfl
theorem alive9 : G.graftlaw09_alive = some true := by
  unfold G.graftlaw09_alive
  rw [show (⟨1, 0, 5, 2, ([] : List UInt8)⟩ : G.Command) = cA from rfl, show (⟨1, 2, 7, 3, ([] : List UInt8)⟩ : G.Command) = cB from rfl, show (⟨1, 5, 9, 1, ([] : List UInt8)⟩ : G.Command) = cC from rfl,
    show (⟨10, 6, fun _ => 0, fun _ => 0, [cC, cB, cA]⟩ : G.Delta) = exD from rfl]
  rw [Merge_of exD_sm.fit exD_sm.rng.1 exD_sm.rng.2 (by decide), exD_can, exD_of, Equivalent_of exD_sm exD_sm]
  simp only [Option.bind_some]
  rw [All_eq _ _ (by decide), decide_eq_true rfl, decide_eq_true (show Same9 exD exD _ _ from ⟨rfl, rfl, rfl⟩)]
  rfl
end G
theorem G.graftlaw09_TidyEquivalent_true (a0 : G.Delta) (a1 : G.Delta) (h0 : G.Delta.Ok a0) (h1 : G.Delta.Ok a1) : G.graftlaw09_TidyEquivalent a0 a1 = some true := by
  unfold G.graftlaw09_TidyEquivalent
  have n0 : a0.commands.length ≤ 9223372036854775807 := h0.2.2.1
  have n1 : a1.commands.length ≤ 9223372036854775807 := h1.2.2.1
  obtain ⟨b0, e0, s0⟩ := Small_of a0 n0
  obtain ⟨b1, e1, s1⟩ := Small_of a1 n1
  rw [e0, e1, alive9]
  cases b0
  · rfl
  cases b1
  · rfl
  obtain ⟨A, hA⟩ := s0 rfl
  obtain ⟨B, hB⟩ := s1 rfl
  rw [hA.tidy, hB.tidy, Equivalent_of hA hB, refEquivalent_of hA hB]
  have e : (if a0.oldLen = a1.oldLen then if a0.newLen = a1.newLen then (G.graftref04_All (can_ A) (can_ B)).bind fun y8 => some y8 else some false else some false) = some (decide (Same9 a0 a1 A B)) := by
    by_cases k1 : a0.oldLen = a1.oldLen
    · by_cases k2 : a0.newLen = a1.newLen
      · rw [if_pos k1, if_pos k2, All_eq _ _ (by have h := (can_laws hA.nice hA.til).2.2.2; have := hA.slen; omega)]
        simp only [Option.bind_some]
        congr 1; rw [decide_eq_decide, can_eq hA.nice hA.til hB.nice hB.til]
        unfold Same9; simp [k1, k2]
      · rw [if_pos k1, if_neg k2]; congr 1; symm; rw [decide_eq_false_iff_not]; exact fun h => k2 h.2.1
    · rw [if_neg k1]; congr 1; symm; rw [decide_eq_false_iff_not]; exact fun h => k1 h.1
  simp only [Option.bind_some, Bool.not_true, Bool.true_eq_false, Bool.false_eq_true, if_false, if_true, e, beq_self_eq_true]
theorem G.graftlaw09_TidyCanonical_true (a0 : G.Delta) (h0 : G.Delta.Ok a0) : G.graftlaw09_TidyCanonical a0 = some true := by
  unfold G.graftlaw09_TidyCanonical
  have n0 : a0.commands.length ≤ 9223372036854775807 := h0.2.2.1
  obtain ⟨b0, e0, s0⟩ := Small_of a0 n0
  rw [e0, alive9]
  cases b0
  · rfl
  obtain ⟨A, hA⟩ := s0 rfl
  obtain ⟨k1, k2, k3, k4⟩ := can_laws hA.nice hA.til
  have hC := hA.can
  have hL := hA.slen
  have hi := can_idem hA.nice hA.til
  rw [hA.tidy, hA.rtidy]
  simp only [Option.bind_some, Bool.true_eq_false, if_false, if_true]
  obtain ⟨b, v1, _, v2⟩ := Valid5_of (d := ⟨a0.oldLen, a0.newLen, a0.oldHash, a0.newHash, can_ A⟩) (by show (can_ A).length ≤ _; omega)
  have hb : b = true := v2.2 hC.vd
  subst hb
  rw [Same5_eq _ _ (by show (can_ A).length ≤ _; omega), sm_self, v1, Equivalent_of hC hA, hC.tidy, hi, decide_eq_true (show Same9 (⟨a0.oldLen, a0.newLen, a0.oldHash, a0.newHash, can_ A⟩ : G.Delta) a0 (can_ A) A from ⟨rfl, rfl, k1⟩)]
  simp only [Option.bind_some, if_true]
  rw [Same5_eq _ _ (by show (can_ A).length ≤ _; omega), sm_self]
  simp only [Option.bind_some, if_true]
  congr 1; rw [decide_eq_true_eq]
  have := hA.perm.length_eq
  omega
/-! Applying a delta: the bytes it writes. No program in sight. -/
namespace G
/-- The byte that an origin stands for. -/
def rd (a0 : List UInt8) : Org → UInt8
  | .inl k => a0.getD k.toNat 0
  | .inr b => b
def byts (a0 : List UInt8) (c : G.Command) : List UInt8 := (exp c).map (rd a0)
def file (a0 : List UInt8) (S : List G.Command) : List UInt8 := (expL S).map (rd a0)
section
variable {d : G.Delta} {S : List G.Command} {a0 : List UInt8}
theorem byts_len {c : G.Command} (h : Nice c) : ((byts a0 c).length : Int) = tlen c := by unfold byts; rw [List.length_map]; exact exp_len h
theorem byts_copy {c : G.Command} (hk : c.kind = 1) (h0 : 0 ≤ c.from_) (h1 : 0 ≤ c.len) (h2 : c.from_ + c.len ≤ (a0.length : Int)) : byts a0 c = (a0.take (c.from_ + c.len).toNat).drop c.from_.toNat := by
  unfold byts
  rw [exp_copy hk, List.map_map]
  refine List.ext_getElem (by simp only [List.length_map, List.length_range, List.length_drop, List.length_take]; omega) fun i h3 h4 => ?_
  simp only [List.length_map, List.length_range] at h3
  simp only [List.getElem_map, List.getElem_range, List.getElem_drop, List.getElem_take, Function.comp_apply, rd]
  rw [show (c.from_ + (i : Int)).toNat = c.from_.toNat + i by omega, List.getD_eq_getElem?_getD, List.getElem?_eq_getElem (by omega)]
  rfl
theorem byts_lit {c : G.Command} (hk : c.kind ≠ 1) : byts a0 c = c.data := by
  unfold byts
  rw [exp_lit hk, List.map_map]
  have : rd a0 ∘ Sum.inr = id := by funext b; rfl
  rw [this, List.map_id]
theorem bytesOf_of {c : G.Command} {N M : Int} (h : Fit N M c) (hM : M ≤ (a0.length : Int)) (hl : a0.length ≤ 1000000) : G.patch_bytesOf a0 c = some (byts a0 c) := by
  unfold G.patch_bytesOf
  rw [Source_of]
  by_cases hk : c.kind = 1
  · have hs := h.src hk
    have hn := h.nice.len1
    rw [tlen_copy hk] at hn
    simp only [if_pos hk, Option.bind_some, if_true]
    rw [w64 (by omega) (by omega), slcMid_of (by omega), byts_copy hk hs.1 (by omega) (by omega)]
    rfl
  · simp only [if_neg hk, Option.bind_some, Bool.false_eq_true, if_false]
    rw [byts_lit hk]
theorem file_at {o : Int} {c : G.Command} (h : Sm d S) (hc : c ∈ S) (h1 : c.to ≤ o) (h2 : o < tend c) : (file a0 S)[o.toNat]? = (byts a0 c)[(o - c.to).toNat]? := by
  unfold file byts
  have := til_at h.nice h.til hc h1 h2
  rw [Int.sub_zero] at this
  rw [List.getElem?_map, List.getElem?_map, this]
theorem file_len (h : Sm d S) : ((file a0 S).length : Int) = d.newLen := by
  unfold file; rw [List.length_map, til_len h.nice h.til]; omega
theorem fits_of (hv : VD d) (hn : d.commands.length ≤ 17592186044416) (hl : d.oldLen = (a0.length : Int)) : G.patch_fits a0 d = some true := by
  unfold G.patch_fits
  obtain ⟨b, h1, _, h2⟩ := Valid5_of (d := d) hn
  rw [h1, h2.2 hv]
  simp only [Option.bind_some, if_true]
  rw [beq_iff_eq.2 hl]
theorem cpy_at {α : Type} {l x : List α} {o : Nat} (h : o + x.length ≤ l.length) (j : Nat) : (cpy l o x)[j]? = if o ≤ j ∧ j < o + x.length then x[j - o]? else l[j]? := by
  have hl : (l.take o).length = o := by simp; omega
  unfold cpy
  rw [List.take_of_length_le (l := x) (by omega)]
  by_cases h1 : j < o
  · rw [if_neg (by omega), List.getElem?_append_left (by omega), List.getElem?_take, if_pos h1]
  · rw [List.getElem?_append_right (by omega), hl]
    by_cases h2 : j < o + x.length
    · rw [if_pos ⟨by omega, h2⟩, List.getElem?_append_left (by omega)]
    · rw [if_neg (by omega), List.getElem?_append_right (by omega), List.getElem?_drop, show o + x.length + (j - o - x.length) = j by omega]
theorem Apply_of (h : Sm d S) (hl : d.oldLen = (a0.length : Int)) (ha : a0.length ≤ 1000000) : G.patch_Apply a0 d = some (file a0 S) := by
  have hN := h.new
  have hR := h.vd.rng
  unfold InR at hR
  unfold G.patch_Apply
  rw [fits_of h.vd (by have := h.len; omega) hl]
  simp only [Option.bind_some, Bool.true_eq_false, if_false]
  rw [chk_of (by omega)]
  simp only [Option.bind_some]
  obtain ⟨r, hr, rfl⟩ := Iter_total (f := G.patch_Apply_l1 a0 d)
    (fun m st => ∃ (k : Nat) (out : List UInt8), st = ((k : Int), out) ∧ m = d.commands.length - k ∧ k ≤ d.commands.length ∧ (out.length : Int) = d.newLen ∧ ∀ i (hi : i < d.commands.length), i < k → ∀ o : Int, d.commands[i].to ≤ o → o < tend d.commands[i] → out[o.toNat]? = (file a0 S)[o.toNat]?)
    (fun r => r = file a0 S) (by
      rintro m st ⟨k, out, rfl, rfl, hk, hlen, hall⟩
      unfold G.patch_Apply_l1
      by_cases hlt : k < d.commands.length
      · left
        rw [if_pos (by simp; omega)]
        have hm : d.commands[k] ∈ S := h.perm.mem_iff.2 (List.getElem_mem hlt)
        have hf := h.fit _ hm
        have f0 := hf.to0; have f1 := hf.fits; have f2 := hf.nice.len1
        simp only [idx_of hlt, Option.bind_some]
        rw [chk_of (by unfold tend at f1; omega), bytesOf_of hf (by omega) ha]
        simp only [Option.bind_some, inc64 hlt (by have := h.len; omega)]
        have bl := byts_len (a0 := a0) hf.nice
        have te : tend d.commands[k] = d.commands[k].to + tlen d.commands[k] := rfl
        rw [List.take_of_length_le (by omega)]
        refine ⟨d.commands.length - (k + 1), _, rfl, by omega, k + 1, _, rfl, rfl, by omega, by rw [cpy_length (by omega)]; exact hlen, fun i hi hik o h1 h2 => ?_⟩
        rw [cpy_at (by omega)]
        by_cases hin : d.commands[k].to ≤ o ∧ o < tend d.commands[k]
        · rw [if_pos (by omega), file_at h hm hin.1 hin.2]
          congr 1; omega
        · have hi0 := (h.fit _ (h.perm.mem_iff.2 (List.getElem_mem hi))).to0
          rw [if_neg (by omega)]
          by_cases e : i = k
          · subst e; exact absurd ⟨h1, h2⟩ hin
          · exact hall i hi (by omega) o h1 h2
      · right
        rw [if_neg (by simp; omega)]
        refine ⟨_, rfl, List.ext_getElem? fun j => ?_⟩
        have fl := file_len (a0 := a0) h
        show out[j]? = _
        by_cases hj : (j : Int) < d.newLen
        · obtain ⟨c, hc, h1, h2⟩ := h.vd.full (j : Int) (by omega) hj
          obtain ⟨i, hi, rfl⟩ := List.mem_iff_getElem.1 hc
          have := hall i hi (by omega) (j : Int) h1 h2
          rwa [Int.toNat_natCast] at this
        · rw [List.getElem?_eq_none (by omega), List.getElem?_eq_none (by omega)]) _ _ ⟨0, List.replicate d.newLen.toNat 0, rfl, rfl, Nat.zero_le _, by rw [List.length_replicate]; omega, fun i hi h => by omega⟩
  exact hr
theorem refApply_of (h : Sm d S) (hl : d.oldLen = (a0.length : Int)) (ha : a0.length ≤ 1000000) : G.graftref08_Apply a0 d = some (file a0 S) := by
  have hN := h.new
  have hR := h.vd.rng
  unfold InR at hR
  have fl := file_len (a0 := a0) h
  unfold G.graftref08_Apply
  refine Iter_count (f := G.graftref08_Apply_l1 a0 d) (file a0 S).length (fun k => ((file a0 S).take k, (k : Int))) _ (fun k hk => ?_) ?_ rfl
  · unfold G.graftref08_Apply_l1
    rw [if_pos (by simp only; omega)]
    obtain ⟨r, hr, hr1, hr2⟩ := Find5_full h.vd.good (by have := h.len; omega) (k : Int)
    have hr0 : 0 ≤ r := Int.not_lt.1 fun hlt => hr1.1 hlt (h.vd.full _ (by omega) (by omega))
    obtain ⟨i, hi, rfl, h2, h3⟩ := hr2 hr0
    simp only [hr, Option.bind_some, idx_of hi]
    have hm : d.commands[i] ∈ S := h.perm.mem_iff.2 (List.getElem_mem hi)
    have hf := h.fit _ hm
    generalize d.commands[i] = c at *
    have hat := file_at (a0 := a0) h hm h2 h3
    have f1 := hf.fits; have f2 := hf.to0
    have te : tend c = c.to + tlen c := rfl
    have bl := byts_len (a0 := a0) hf.nice
    rw [Int.toNat_natCast, List.getElem?_eq_getElem hk, List.getElem?_eq_getElem (by omega)] at hat
    have hat := Option.some.inj hat
    have happ : ∀ u, u = (file a0 S)[k] → (app 1 ((file a0 S).take k) [u]).bind (fun y => some (Sum.inl (α := List UInt8 × Int) (β := List UInt8) (y, IntKind.i64.wrap ((k : Int) + 1)))) = some (.inl ((file a0 S).take (k + 1), ((k + 1 : Nat) : Int))) := by
      rintro u rfl
      rw [app_of (by simp; omega), List.take_succ_eq_append_getElem hk]
      simp only [Option.bind_some]
      rw [inc64 (n := 100000) (by omega) (by omega)]
    by_cases hkd : c.kind = 1
    · have hs := hf.src hkd
      have hn := hf.nice.len1
      rw [tlen_copy hkd] at te hn bl
      rw [if_pos hkd, w64 (x := c.from_ + (k : Int)) (by omega) (by omega), w64 (by omega) (by omega), idx_getD' (k := (c.from_ + (k : Int) - c.to).toNat) (0 : UInt8) (by omega) (by omega)]
      simp only [Option.bind_some]
      refine happ _ ?_
      rw [hat]
      simp only [byts_copy hkd hs.1 (by omega) (show c.from_ + c.len ≤ (a0.length : Int) by omega), List.getElem_drop, List.getElem_take]
      rw [List.getD_eq_getElem?_getD, List.getElem?_eq_getElem (by omega)]
      simp only [Option.getD_some]
      congr 1; omega
    · rw [tlen_lit hkd] at te bl
      rw [if_neg hkd, w64 (by omega) (by omega), idx_getD' (k := ((k : Int) - c.to).toNat) (0 : UInt8) (by omega) (by omega)]
      simp only [Option.bind_some]
      refine happ _ ?_
      rw [hat]
      simp only [byts_lit hkd]
      rw [List.getD_eq_getElem?_getD, List.getElem?_eq_getElem (by omega)]
      rfl
  · unfold G.graftref08_Apply_l1
    rw [if_neg (by simp only; omega)]
    simp
end
end G
/-! TidyPatches and TidyLiterals are true. No program in sight. -/
namespace G
theorem Fits8_of (a0 : List UInt8) (d : G.Delta) (hn : d.commands.length ≤ 9223372036854775807) : ∃ b, G.graftref08_Fits a0 d = some b ∧ (b = true → d.oldLen = (a0.length : Int) ∧ ∃ S, Sm d S) := by
  unfold G.graftref08_Fits
  rw [Few5_of d hn]
  simp only [Option.bind_some]
  by_cases hf : few5 d = true
  · rw [if_pos hf]
    obtain ⟨h1, h2⟩ := few5_iff.1 hf
    obtain ⟨b, _, h3, h4⟩ := Valid5_of (d := d) (by omega)
    rw [h3]
    simp only [Option.bind_some]
    by_cases hb : b = true
    · rw [if_pos hb]
      by_cases hl : d.oldLen = (a0.length : Int)
      · rw [if_pos hl]
        refine ⟨_, rfl, fun h => ⟨hl, Sm_of (h4.1 hb) h2 (of_decide_eq_true h)⟩⟩
      · rw [if_neg hl]; exact ⟨false, rfl, fun h => by cases h⟩
    · rw [if_neg hb]; exact ⟨false, rfl, fun h => by cases h⟩
  · rw [if_neg hf]; exact ⟨false, rfl, fun h => by cases h⟩
theorem file_can {d : G.Delta} {A : List G.Command} (a0 : List UInt8) (h : Sm d A) : file a0 (can_ A) = file a0 A := by
  unfold file; rw [(can_laws h.nice h.til).1]
/-- Command c with its bytes. -/
def lit1 (a0 : List UInt8) (c : G.Command) : G.Command := ⟨2, c.to, 0, 0, byts a0 c⟩
def pick1 (a0 : List UInt8) (a2 : List Int) (i : Nat) (c : G.Command) : G.Command := if c.kind = 1 ∧ (i : Int) ∈ a2 then lit1 a0 c else c
def litL (a0 : List UInt8) (a2 : List Int) (l : List G.Command) : List G.Command := l.mapIdx (pick1 a0 a2)
section
variable {d : G.Delta} {S : List G.Command} {a0 : List UInt8} {a2 : List Int}
theorem pick_to (i : Nat) (c : G.Command) : (pick1 a0 a2 i c).to = c.to := by unfold pick1; split <;> rfl
theorem lit1_tlen {c : G.Command} (h : Nice c) : tlen (lit1 a0 c) = tlen c := by
  rw [tlen_lit (by simp [lit1])]; exact byts_len h
theorem pick_tlen (i : Nat) {c : G.Command} (h : Nice c) : tlen (pick1 a0 a2 i c) = tlen c := by
  unfold pick1; split
  · exact lit1_tlen h
  · rfl
theorem pick_byts (i : Nat) (c : G.Command) : byts a0 (pick1 a0 a2 i c) = byts a0 c := by
  unfold pick1; split
  · rw [byts_lit (by simp [lit1])]; rfl
  · rfl
theorem litL_len (l : List G.Command) : (litL a0 a2 l).length = l.length := by unfold litL; simp
theorem litL_get (l : List G.Command) {i : Nat} (h : i < l.length) (h' : i < (litL a0 a2 l).length) : (litL a0 a2 l)[i] = pick1 a0 a2 i l[i] := List.getElem_mapIdx
theorem litL_vd (h : Sm d S) : VD ⟨d.oldLen, d.newLen, d.oldHash, d.newHash, litL a0 a2 d.commands⟩ := by
  have hR := h.vd.rng
  have gd : ∀ i (hi : i < d.commands.length), Fit d.newLen d.oldLen d.commands[i] := fun i hi => h.fit _ (h.perm.mem_iff.2 (List.getElem_mem hi))
  have te : ∀ i (hi : i < d.commands.length), tend (pick1 a0 a2 i d.commands[i]) = tend d.commands[i] := fun i hi => by
    unfold tend; rw [pick_to, pick_tlen i (gd i hi).nice]
  refine ⟨hR, fun c hc => ?_, ?_, fun o h1 h2 => ?_⟩
  · obtain ⟨i, hi, rfl⟩ := List.mem_iff_getElem.1 hc
    have hi' : i < d.commands.length := by rw [← litL_len (a0 := a0) (a2 := a2) d.commands]; exact hi
    have e := litL_get (a0 := a0) (a2 := a2) d.commands hi' hi
    show Good _ (litL a0 a2 d.commands)[i]
    rw [e]
    have g := h.vd.good _ (List.getElem_mem hi')
    refine ⟨by rw [pick_to]; exact g.to0, by rw [pick_tlen i (gd i hi').nice]; exact g.len1, by rw [te i hi']; exact g.fits, by rw [te i hi']; exact g.max, fun hk => ?_, fun hk => ?_⟩
    · unfold pick1 at hk ⊢
      split at hk
      · simp [lit1] at hk
      · rename_i hn; rw [if_neg hn]; exact g.copy hk
    · unfold pick1 at hk ⊢
      split at hk
      · rename_i hp; rw [if_pos hp]; exact ⟨rfl, rfl, rfl⟩
      · rename_i hn; rw [if_neg hn]; exact g.lit hk
  · rintro ⟨i, j, hi, hj, hne, hov⟩
    change i < (litL a0 a2 d.commands).length at hi
    change j < (litL a0 a2 d.commands).length at hj
    change ov (cat (litL a0 a2 d.commands) i) (cat (litL a0 a2 d.commands) j) = true at hov
    have hi' : i < d.commands.length := by rw [litL_len] at hi; exact hi
    have hj' : j < d.commands.length := by rw [litL_len] at hj; exact hj
    rw [cat_getElem hi, cat_getElem hj, litL_get d.commands hi' hi, litL_get d.commands hj' hj] at hov
    refine h.vd.apart ⟨i, j, hi', hj', hne, ?_⟩
    rw [cat_getElem hi', cat_getElem hj']
    unfold ov at hov ⊢
    rw [te i hi', te j hj', pick_to, pick_to] at hov
    exact hov
  · obtain ⟨c, hc, h3⟩ := h.vd.full o h1 h2
    obtain ⟨i, hi, rfl⟩ := List.mem_iff_getElem.1 hc
    have hi' : i < (litL a0 a2 d.commands).length := by rw [litL_len]; exact hi
    refine ⟨(litL a0 a2 d.commands)[i], List.getElem_mem hi', ?_⟩
    rw [litL_get d.commands hi hi', te i hi, pick_to]; exact h3
theorem litL_sm (h : Sm d S) : ∃ S', Sm ⟨d.oldLen, d.newLen, d.oldHash, d.newHash, litL a0 a2 d.commands⟩ S' ∧ file a0 S' = file a0 S := by
  obtain ⟨S', hS'⟩ := Sm_of (litL_vd (a0 := a0) (a2 := a2) h) (by show (litL a0 a2 d.commands).length ≤ 40; rw [litL_len]; exact h.len) h.new
  refine ⟨S', hS', List.ext_getElem? fun j => ?_⟩
  have l1 := file_len (a0 := a0) h
  have l2 : ((file a0 S').length : Int) = d.newLen := file_len (a0 := a0) (d := ⟨d.oldLen, d.newLen, d.oldHash, d.newHash, litL a0 a2 d.commands⟩) hS'
  by_cases hj : (j : Int) < d.newLen
  · obtain ⟨c, hc, h1, h2⟩ := h.vd.full (j : Int) (by omega) hj
    have e1 := file_at (a0 := a0) h (h.perm.mem_iff.2 hc) h1 h2
    obtain ⟨i, hi, rfl⟩ := List.mem_iff_getElem.1 hc
    have hi' : i < (litL a0 a2 d.commands).length := by rw [litL_len]; exact hi
    have hn := (h.fit _ (h.perm.mem_iff.2 (List.getElem_mem hi))).nice
    have hm : (litL a0 a2 d.commands)[i] ∈ S' := hS'.perm.mem_iff.2 (List.getElem_mem hi')
    have ep := litL_get (a0 := a0) (a2 := a2) d.commands hi hi'
    have e2 := file_at (a0 := a0) (o := (j : Int)) hS' hm (by rw [ep, pick_to]; exact h1) (by rw [ep]; unfold tend; rw [pick_to, pick_tlen i hn]; exact h2)
    rw [Int.toNat_natCast] at e1 e2
    rw [e1, e2, ep, pick_byts, pick_to]
  · rw [List.getElem?_eq_none (by omega), List.getElem?_eq_none (by omega)]
theorem Contains_int (l : List Int) (x : Int) (hn : l.length ≤ 9000000000000000000) : G.slices_Contains_int_int l x = some (decide (x ∈ l)) := by
  unfold G.slices_Contains_int_int G.slices_Index_int_int
  have hK := Iter_scan (f := G.slices_Index_int_int_l1 l x) l (fun c => decide (x = c)) (fun k => (k : Int)) (fun k => (k : Int)) (-1)
    (fun k h hb => by
      unfold G.slices_Index_int_int_l1
      rw [if_pos (by omega), idx_of h]
      simp only [Option.bind_some]
      rw [if_neg (of_decide_eq_false hb), inc64 h (by omega)])
    (fun k h hb => by
      unfold G.slices_Index_int_int_l1
      rw [if_pos (by omega), idx_of h]
      simp only [Option.bind_some]
      rw [if_pos (of_decide_eq_true hb)])
    (by unfold G.slices_Index_int_int_l1; rw [if_neg (by omega)]) (s := 0) rfl
  rcases hK with ⟨ha, he⟩ | ⟨k, h, hb, _, he⟩
  · rw [he]
    simp only [Option.bind_some]
    congr 1
    rw [decide_eq_decide]
    exact ⟨fun h => by omega, fun h => absurd rfl (of_decide_eq_false (ha x h))⟩
  · rw [he]
    simp only [Option.bind_some]
    congr 1
    rw [decide_eq_decide]
    exact ⟨fun _ => by rw [of_decide_eq_true hb]; exact List.getElem_mem h, fun _ => by omega⟩
theorem refin_of (l : List Int) (x : Int) (hn : l.length ≤ 9000000000000000000) : G.graftref09_in x l = some (decide (x ∈ l)) := by
  unfold G.graftref09_in
  have hK := Iter_scan (f := G.graftref09_in_l1 x l) l (fun c => decide (c = x)) (fun k => (k : Int)) (fun _ => true) false
    (fun k h hb => by
      unfold G.graftref09_in_l1
      rw [if_pos (by omega), idx_of h]
      simp only [Option.bind_some]
      rw [if_neg (of_decide_eq_false hb), inc64 h (by omega)])
    (fun k h hb => by
      unfold G.graftref09_in_l1
      rw [if_pos (by omega), idx_of h]
      simp only [Option.bind_some]
      rw [if_pos (of_decide_eq_true hb)])
    (by unfold G.graftref09_in_l1; rw [if_neg (by omega)]) (s := 0) rfl
  rcases hK with ⟨ha, he⟩ | ⟨k, h, hb, _, he⟩
  · rw [he]; congr 1; symm; rw [decide_eq_false_iff_not]
    exact fun h => absurd rfl (of_decide_eq_false (ha x h))
  · rw [he]; congr 1; symm; rw [decide_eq_true_eq]
    rw [← of_decide_eq_true hb]; exact List.getElem_mem h
theorem slc_byts {c : G.Command} {N M : Int} (h : Fit N M c) (hk : c.kind = 1) (hM : M ≤ (a0.length : Int)) (hl : a0.length ≤ 1000000) : slcMid a0 c.from_ (IntKind.i64.wrap (c.from_ + c.len)) = some (byts a0 c) := by
  have hs := h.src hk
  have hn := h.nice.len1
  rw [tlen_copy hk] at hn
  rw [w64 (by omega) (by omega), slcMid_of (by omega), byts_copy hk hs.1 (by omega) (by omega)]
theorem litL_take (l : List G.Command) {k : Nat} (hk : k < l.length) : (litL a0 a2 l).take (k + 1) = (litL a0 a2 l).take k ++ [pick1 a0 a2 k l[k]] := by
  rw [List.take_succ_eq_append_getElem (by rw [litL_len]; exact hk), litL_get l hk]
theorem litL_set (l : List G.Command) {k : Nat} (hk : k < l.length) : ((litL a0 a2 l).take k ++ l.drop k).set k (pick1 a0 a2 k l[k]) = (litL a0 a2 l).take (k + 1) ++ l.drop (k + 1) := by
  have hl : ((litL a0 a2 l).take k).length = k := by rw [List.length_take, litL_len]; omega
  rw [List.set_append_right _ _ (by omega), hl, Nat.sub_self, List.drop_eq_getElem_cons hk, List.set_cons_zero, litL_take l hk, List.append_assoc]; rfl
theorem Literals_of (h : Sm d S) (hl : d.oldLen = (a0.length : Int)) (ha : a0.length ≤ 1000000) (hn : a2.length ≤ 9000000000000000000) : G.tidy_Literals a0 d a2 = some (⟨d.oldLen, d.newLen, d.oldHash, d.newHash, litL a0 a2 d.commands⟩, true) := by
  unfold G.tidy_Literals
  rw [if_neg (by simpa using hl), Withw_of d _ h.data (by have := h.len; omega)]
  simp only [Option.bind_some]
  refine Iter_count (f := G.tidy_Literals_l1 a0 d a2 (d.oldLen, d.newLen, d.oldHash, d.newHash, d.commands)) d.commands.length (fun k => ((k : Int), 0, 0, (fun _ => 0), (fun _ => 0), (litL a0 a2 d.commands).take k ++ d.commands.drop k, [])) _ (fun k hk => ?_) ?_ (by simp)
  · unfold G.tidy_Literals_l1
    have hf := h.fit _ (h.perm.mem_iff.2 (List.getElem_mem hk))
    have hb := byts_len (a0 := a0) hf.nice
    have hN := h.new; have f0 := hf.to0; have f1 := hf.fits
    rw [if_pos (by simp; omega)]
    simp only [idx_of hk, Option.bind_some, Source_of]
    have hlen : k < ((litL a0 a2 d.commands).take k ++ d.commands.drop k).length := by rw [List.length_append, List.length_take, List.length_drop, litL_len]; omega
    by_cases hkd : d.commands[k].kind = 1
    · simp only [if_pos hkd, if_true, Contains_int a2 _ hn, Option.bind_some]
      by_cases hm : (k : Int) ∈ a2
      · rw [decide_eq_true hm, if_pos rfl, slc_byts hf hkd (by omega) ha]
        simp only [Option.bind_some]
        rw [Literal_of _ _ (by simp; unfold tend at f1; omega) (by simp)]
        simp only [Option.bind_some, inc64 hk (by have := h.len; omega)]
        rw [idx_of hlen]
        simp only [Option.bind_some, Int.toNat_natCast]
        rw [← litL_set d.commands hk]
        have : pick1 a0 a2 k d.commands[k] = ⟨2, d.commands[k].to, 0, 0, [byts a0 d.commands[k]].flatten⟩ := by unfold pick1; rw [if_pos ⟨hkd, hm⟩]; simp [lit1]
        rw [this]
      · rw [decide_eq_false hm, if_neg (by simp), inc64 hk (by have := h.len; omega)]
        have : pick1 a0 a2 k d.commands[k] = d.commands[k] := by unfold pick1; rw [if_neg (fun h => hm h.2)]
        rw [litL_take d.commands hk, this, List.drop_eq_getElem_cons hk]
        simp
    · simp only [if_neg hkd, Bool.false_eq_true, if_false, Option.bind_some, inc64 hk (by have := h.len; omega)]
      have : pick1 a0 a2 k d.commands[k] = d.commands[k] := by unfold pick1; rw [if_neg (fun h => hkd h.1)]
      rw [litL_take d.commands hk, this, List.drop_eq_getElem_cons hk]
      simp
  · unfold G.tidy_Literals_l1
    rw [if_neg (by simp)]
    simp only [List.drop_length, List.append_nil]
    rw [List.take_of_length_le (by rw [litL_len]; omega)]
theorem refLiterals_of (h : Sm d S) (hl : d.oldLen = (a0.length : Int)) (ha : a0.length ≤ 1000000) (hn : a2.length ≤ 9000000000000000000) : G.graftref09_Literals a0 d a2 = some ⟨d.oldLen, d.newLen, d.oldHash, d.newHash, litL a0 a2 d.commands⟩ := by
  unfold G.graftref09_Literals
  rw [Iter_count (f := G.graftref09_Literals_l1 a0 d a2) d.commands.length (fun k => ((litL a0 a2 d.commands).take k, (k : Int), 0, 0, (fun _ => 0), (fun _ => 0), [])) (litL a0 a2 d.commands, 0, 0, (fun _ => 0), (fun _ => 0), []) (fun k hk => ?s) ?f (s := ([], 0, 0, 0, (fun _ => 0), (fun _ => 0), [])) rfl]
  · rfl
  case s =>
    unfold G.graftref09_Literals_l1
    have hf := h.fit _ (h.perm.mem_iff.2 (List.getElem_mem hk))
    have hb := byts_len (a0 := a0) hf.nice
    have hN := h.new; have f0 := hf.to0; have f1 := hf.fits
    have hC := h.len
    rw [if_pos (by simp; omega)]
    simp only [idx_of hk, Option.bind_some]
    have hv : (if d.commands[k].kind = 1 then (G.graftref09_in (k : Int) a2).bind fun y5 => some y5 else some false) = some (decide (d.commands[k].kind = 1 ∧ (k : Int) ∈ a2)) := by
      by_cases hkd : d.commands[k].kind = 1
      · rw [if_pos hkd, refin_of a2 _ hn]
        simp only [Option.bind_some]
        congr 1; rw [decide_eq_decide]; simp [hkd]
      · rw [if_neg hkd]; congr 1; symm; rw [decide_eq_false_iff_not]; exact fun h => hkd h.1
    rw [hv]
    simp only [Option.bind_some]
    have hw : (if decide (d.commands[k].kind = 1 ∧ (k : Int) ∈ a2) = true then (slcMid a0 d.commands[k].from_ (IntKind.i64.wrap (d.commands[k].from_ + d.commands[k].len))).bind fun y7 => (app 1 ([] : List UInt8) y7).bind fun y8 => some (⟨2, d.commands[k].to, 0, 0, y8⟩ : G.Command) else some d.commands[k]) = some (pick1 a0 a2 k d.commands[k]) := by
      unfold pick1
      by_cases hp : d.commands[k].kind = 1 ∧ (k : Int) ∈ a2
      · rw [if_pos (decide_eq_true hp), if_pos hp, slc_byts hf hp.1 (by omega) ha]
        simp only [Option.bind_some]
        rw [app_of (by simp; unfold tend at f1; omega)]
        rfl
      · rw [if_neg (by simpa using hp), if_neg hp]
    rw [hw]
    simp only [Option.bind_some, inc64 hk (by omega)]
    rw [app_of (by simp; omega), litL_take d.commands hk]
    rfl
  case f =>
    unfold G.graftref09_Literals_l1
    rw [if_neg (by simp)]
    simp only
    rw [List.take_of_length_le (by rw [litL_len]; omega)]
end
end G
theorem G.graftlaw09_TidyLiterals_true (a0 : List UInt8) (a1 : G.Delta) (a2 : List Int) (_h0 : Len a0) (h1 : G.Delta.Ok a1) (_h2 : (Len a2 ∧ ∀ y ∈ a2, I64 y)) : G.graftlaw09_TidyLiterals a0 a1 a2 = some true := by
  unfold G.graftlaw09_TidyLiterals
  rw [alive9]
  by_cases hl : (a0.length : Int) > 300
  · rw [if_pos hl]; rfl
  rw [if_neg hl]
  obtain ⟨b1, e1, s1⟩ := Small_of a1 h1.2.2.1
  rw [e1]
  cases b1
  · rfl
  obtain ⟨A, hA⟩ := s1 rfl
  simp only [Option.bind_some, Bool.true_eq_false, if_false]
  by_cases h60 : (a2.length : Int) > 60
  · rw [decide_eq_true h60]; rfl
  rw [decide_eq_false h60]
  simp only [Bool.false_eq_true, if_false]
  have ha : a0.length ≤ 1000000 := by omega
  by_cases ho : a1.oldLen = (a0.length : Int)
  · rw [Literals_of hA ho ha (by omega), refLiterals_of hA ho ha (by omega)]
    have hL : (litL a0 a2 a1.commands).length ≤ 40 := by rw [litL_len]; exact hA.len
    obtain ⟨S', hS', hfile⟩ := litL_sm (a0 := a0) (a2 := a2) hA
    obtain ⟨b, v1, _, v2⟩ := Valid5_of (d := ⟨a1.oldLen, a1.newLen, a1.oldHash, a1.newHash, litL a0 a2 a1.commands⟩) (by show (litL a0 a2 a1.commands).length ≤ _; omega)
    have hb : b = true := v2.2 hS'.vd
    subst hb
    simp only [Option.bind_some]
    rw [if_neg (by simpa using ho), if_pos trivial, if_pos trivial, Same5_eq _ _ (by show (litL a0 a2 a1.commands).length ≤ _; omega), sm_self]
    simp only [Option.bind_some, if_true]
    rw [v1]
    simp only [Option.bind_some, if_true]
    rw [Apply_of hS' ho ha, refApply_of hA ho ha, hfile]
    simp
  · have e : G.tidy_Literals a0 a1 a2 = some (⟨0, 0, (fun _ => 0), (fun _ => 0), []⟩, false) := by unfold G.tidy_Literals; rw [if_pos ho]
    rw [e]
    simp only [Option.bind_some]
    rw [if_pos ho, if_pos trivial, if_pos trivial, Same5_eq _ _ (by show (0 : Nat) ≤ _; omega), sm_self]
    rfl
theorem G.graftlaw09_TidyPatches_true (a0 : List UInt8) (a1 : G.Delta) (a2 : G.Delta) (_h0 : Len a0) (h1 : G.Delta.Ok a1) (h2 : G.Delta.Ok a2) : G.graftlaw09_TidyPatches a0 a1 a2 = some true := by
  unfold G.graftlaw09_TidyPatches
  rw [alive9]
  by_cases hl : (a0.length : Int) > 300
  · rw [if_pos hl]; rfl
  rw [if_neg hl]
  obtain ⟨b1, e1, s1⟩ := Fits8_of a0 a1 h1.2.2.1
  obtain ⟨b2, e2, s2⟩ := Fits8_of a0 a2 h2.2.2.1
  rw [e1, e2]
  cases b1
  · rfl
  cases b2
  · rfl
  obtain ⟨l1, A, hA⟩ := s1 rfl
  obtain ⟨l2, B, hB⟩ := s2 rfl
  have ha : a0.length ≤ 1000000 := by omega
  rw [Apply_of hA l1 ha, Apply_of hB l2 ha, hA.tidy, refApply_of hA l1 ha, Equivalent_of hA hB]
  simp only [Option.bind_some, Bool.not_true, Bool.true_eq_false, Bool.false_eq_true, if_false, if_true]
  rw [Apply_of hA.can l1 ha, file_can a0 hA]
  simp only [Option.bind_some, if_true, decide_true]
  by_cases hs : Same9 a1 a2 A B
  · rw [decide_eq_true hs]
    have : file a0 A = file a0 B := by unfold file; rw [hs.2.2]
    rw [if_neg (by simp), if_pos this]
  · rw [decide_eq_false hs]; rfl
end Go.Proofs.Ytnbipipegmoigaa
