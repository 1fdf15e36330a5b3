/- The laws of layer 7, plain. -/
import Derived.Test.YtkalbidbhaalmaaPCodec
namespace Go.Proofs.Ytkalbidbhaalmaa
open G
open RS
theorem zero_good : GoodD zeroD := ⟨⟨0, rfl, by decide⟩, ⟨0, rfl, by decide⟩, fun c h => by cases h⟩
theorem zero_len : (enc zeroD).length = 89 := by unfold enc; rw [List.length_append, encH_len]; rfl
/-- Decode inverts Encode, up to the bytes of a hash past its end. -/
theorem dec_same {d : G.Delta} (hg : GoodD d) (hn : d.commands.length < 4294967296) (hb : (enc d).length ≤ 1099511627776) : ∃ d', dec (enc d) = (d', 0, 0) ∧ G.graftref05_Same d' d = some true := by
  have := dec_enc hg hn [] (by simpa using hb)
  rw [List.append_nil, if_pos rfl] at this
  exact ⟨_, this, Same5_of rfl rfl (fun i h => hash_arrL _ i h) (fun i h => hash_arrL _ i h) rfl (by omega)⟩
theorem alive7 : G.graftlaw07_alive = some true := by
  unfold G.graftlaw07_alive
  rw [show (⟨0, 0, fun _ => (0 : UInt8), fun _ => (0 : UInt8), ([] : List G.Command)⟩ : G.Delta) = zeroD from rfl]
  have hl := zero_len
  have hn : zeroD.commands.length < 4294967296 := by decide
  rw [Encode_p zero_good (good_wrong zero_good) hn (by omega)]
  simp only [Option.bind_some]
  obtain ⟨d', e, hs⟩ := dec_same zero_good hn (by omega)
  rw [Decode_p (by omega), e]
  simp only [Option.bind_some]
  have e3 : ([71, 82, 70] : List UInt8) = (enc zeroD).take 3 := by
    unfold enc encH magic; rfl
  rw [e3, Decode_p (by simp; omega), dec_cut zero_good hn (by omega) 3 (by omega)]
  simp only [Option.bind_some]
  rw [if_pos (by omega), if_pos trivial, hs]
  simp only [Option.bind_some]
  rw [Size_p zero_good (good_wrong zero_good) hn (by omega)]
  simp [hl]
theorem same_zero : G.graftref05_Same zeroD zeroD = some true := Same5_self _ (by decide)
theorem dec_ok {b : List UInt8} : ((dec b).2.1 = 0 ∧ (dec b).2.2 = 0 ∧ (dec b).1 = Dec.d b ∧ (Dec.s9 b).code = 0) ∨ ((dec b).2.1 ≠ 0 ∧ (dec b).1 = zeroD ∧ (dec b).2.1 = (Dec.s9 b).code ∧ (dec b).2.2 = (Dec.s9 b).pos) := by
  unfold dec
  by_cases h : (Dec.s9 b).code = 0
  · rw [if_neg (by simp [h])]; exact .inl ⟨rfl, rfl, rfl, h⟩
  · rw [if_pos h]; exact .inr ⟨h, rfl, rfl, rfl⟩
theorem dec_cmds {b : List UInt8} : (dec b).1.commands.length ≤ 4294967296 := by
  rcases dec_ok (b := b) with ⟨_, _, e, h⟩ | ⟨_, e, _⟩
  · rw [e]; have := (enc_dec h).2.2; omega
  · rw [e]; exact Nat.zero_le _
theorem G.graftlaw07_FormatDecodes_true (a0 : List UInt8) (h0 : Len a0) : G.graftlaw07_FormatDecodes a0 = some true := by
  unfold G.graftlaw07_FormatDecodes
  by_cases h : (a0.length : Int) > 2000
  · rw [if_pos h, alive7]; rfl
  · rw [if_neg h, Decode_p (by omega), Decode_q (by omega), alive7]
    simp only [Option.bind_some, if_true]
    rw [Same5_self _ (by have := dec_cmds (b := a0); omega)]
    simp
theorem G.graftlaw07_FormatInverse_true (a0 : G.Delta) (a1 : List UInt8) (h0 : G.Delta.Ok a0) (h1 : Len a1) : G.graftlaw07_FormatInverse a0 a1 = some true := by
  unfold G.graftlaw07_FormatInverse
  have hn := h0.2.2.1
  unfold Len at hn h1
  rw [Few_of a0 hn, Wrong_q a0 hn]
  simp only [Option.bind_some]
  by_cases hf : few a0 = true
  · by_cases hw : wrong a0 = 0
    · by_cases hl : (a1.length : Int) > 100
      · simp only [hf, hw, hl, Bool.true_eq_false, if_false, ne_eq, not_true, decide_true, Option.bind_some, if_true, alive7]
      · simp only [hf, hw, hl, Bool.true_eq_false, if_false, ne_eq, not_true, decide_false, Option.bind_some, Bool.false_eq_true]
        obtain ⟨hc, hs⟩ := few_enc hf
        have hg := good_d hw
        rw [Encode_p hg hw (by omega) (by omega)]
        simp only [Option.bind_some]
        obtain ⟨d', e, hsm⟩ := dec_same hg (by omega) (by omega)
        rw [Decode_p (by omega), e, ]
        simp only [Option.bind_some, hsm, not_true, if_false, and_self, decide_true, Bool.true_eq_false, Bool.not_true, Bool.false_eq_true]
        rw [app_of (by simp; omega)]
        simp only [Option.bind_some, List.nil_append]
        rw [app_of (by omega)]
        simp only [Option.bind_some]
        rw [Decode_p (by simp; omega), dec_enc hg (by omega) a1 (by simp; omega), alive7]
        simp only [Option.bind_some, if_true]
        cases a1 with
        | nil => rfl
        | cons x l =>
          rw [if_neg (by simp only [List.length_cons]; omega), if_neg (by simp)]
          simp
    · simp only [hf, hw, Bool.true_eq_false, if_false, ne_eq, not_false_iff, Option.bind_some, if_true, alive7]
  · have : few a0 = false := by simpa using hf
    simp only [this, Option.bind_some, if_true, alive7]
theorem G.graftlaw07_FormatCuts_true (a0 : G.Delta) (a1 : Int) (h0 : G.Delta.Ok a0) (h1 : (0 ≤ a1 ∧ a1 ≤ 65535)) : G.graftlaw07_FormatCuts a0 a1 = some true := by
  unfold G.graftlaw07_FormatCuts
  have hn := h0.2.2.1
  unfold Len at hn
  rw [Few_of a0 hn, Wrong_q a0 hn]
  simp only [Option.bind_some]
  by_cases hf : few a0 = true
  · by_cases hw : wrong a0 = 0
    · obtain ⟨hc, hs⟩ := few_enc hf
      have hg := good_d hw
      have e : (wrong a0 != 0) = false := by rw [hw]; rfl
      simp only [hf, e, Bool.true_eq_false, if_false, Option.bind_some, Bool.false_eq_true]
      rw [Encode_q hg (by omega) (by omega)]
      simp only [Option.bind_some]
      have hL : 89 ≤ (enc a0).length := by unfold enc; rw [List.length_append, encH_len]; omega
      rw [chk_of (by omega), w64 (by omega) (by omega)]
      simp only [Option.bind_some]
      have hm : Int.tmod a1 ((enc a0).length : Int) = ((a1.toNat % (enc a0).length : Nat) : Int) := by
        obtain ⟨m, rfl⟩ : ∃ m : Nat, a1 = (m : Int) := ⟨a1.toNat, by omega⟩
        rw [Int.tmod_eq_emod_of_nonneg h1.1]; simp
      have hlt := Nat.mod_lt a1.toNat (show 0 < (enc a0).length by omega)
      rw [hm]
      generalize a1.toNat % (enc a0).length = k at *
      rw [slcTo_of (by omega), Int.toNat_natCast]
      simp only [Option.bind_some]
      rw [Decode_p (by simp; omega), dec_cut hg (by omega) (by omega) k hlt, alive7]
      simp only [Option.bind_some, if_true]
      rw [show (⟨0, 0, fun _ => (0 : UInt8), fun _ => (0 : UInt8), ([] : List G.Command)⟩ : G.Delta) = zeroD from rfl, same_zero]
      simp
    · have e : (wrong a0 != 0) = true := by simpa using hw
      simp only [hf, e, Bool.true_eq_false, if_false, Option.bind_some, if_true, alive7]
  · have : few a0 = false := by simpa using hf
    simp only [this, Option.bind_some, if_true, alive7]
theorem G.graftlaw07_FormatEncodes_true (a0 : G.Delta) (h0 : G.Delta.Ok a0) : G.graftlaw07_FormatEncodes a0 = some true := by
  unfold G.graftlaw07_FormatEncodes
  have hn := h0.2.2.1
  unfold Len at hn
  rw [Few_of a0 hn, Wrong_q a0 hn]
  simp only [Option.bind_some]
  by_cases hf : few a0 = true
  · simp only [hf, Bool.true_eq_false, if_false]
    by_cases hw : wrong a0 = 0
    · obtain ⟨hc, hs⟩ := few_enc hf
      have hg := good_d hw
      rw [Encode_p hg hw (by omega) (by omega)]
      simp only [Option.bind_some, hw, ne_eq, not_true, if_false, alive7, if_true]
      rw [Encode_q hg (by omega) (by omega)]
      simp only [Option.bind_some]
      rw [Equal_self _ (by omega), Size_p hg hw (by omega) (by omega)]
      simp
    · rw [Encode_bad hw hn, Size_bad hw hn]
      simp [hw, alive7]
  · have : few a0 = false := by simpa using hf
    simp only [this, Option.bind_some, if_true, alive7]
/-- An offset of an error is one of the bytes. -/
def In (s : RS) : Prop := s.at_ ≤ s.bs.length ∧ 0 ≤ s.pos ∧ s.pos ≤ s.bs.length
theorem In.fail {s : RS} (h : In s) {c p : Int} (hp : 0 ≤ p ∧ p ≤ s.bs.length) : In (s.fail c p) := by
  unfold RS.fail; split
  · exact ⟨h.1, hp⟩
  · exact h
theorem In.take {s : RS} (h : In s) (n : Int) : In (s.take n).2 := by
  have h1 := h.1
  unfold RS.take; split
  · exact h
  · split
    · exact h.fail (by omega)
    · split
      · exact h.fail (by omega)
      · exact ⟨by dsimp only; omega, h.2⟩
theorem In.uint {s : RS} (h : In s) (n : Int) : In (s.uint n).2 := by rw [uint_snd]; exact h.take _
theorem In.bytes {s : RS} (h : In s) (n : Int) : In (s.bytes n).2 := by rw [bytes_snd]; exact h.take _
theorem In.length {s : RS} (h : In s) : In s.length.2 := by
  have h1 := h.1
  unfold RS.length; split
  · exact (h.uint 8).fail (by rw [uint_bs]; omega)
  · exact h.uint 8
theorem In.expect {s : RS} (h : In s) (l : List UInt8) (c : Int) : In (s.expect l c).2 := by
  have h1 := h.1
  unfold RS.expect; split
  · exact h
  · split
    · exact h.fail (by omega)
    · exact h.take _
theorem In.cmd {s : RS} (h : In s) : In s.cmd.2 := by
  have h1 := h.1
  unfold RS.cmd; split
  · exact (h.uint 1).length.length.length
  · split
    · exact (h.uint 1).length.length.bytes _
    · exact (h.uint 1).fail (by rw [uint_bs]; omega)
theorem In.cmds : ∀ {n : Nat} {s : RS} {l : List G.Command}, In s → In (RS.cmds n s l).1
  | 0, _, _, h => h
  | n + 1, s, l, h => by
    unfold RS.cmds; split
    · exact h.cmd.cmds
    · exact h
theorem take_far {s : RS} {n : Int} (h : (s.take n).2.code = 0) : (s.at_ : Int) + n ≤ s.bs.length := (take_good h).2.2.1
theorem pos_in {b : List UInt8} (h : b.length ≤ 1099511627776) : 0 ≤ (Dec.s9 b).pos ∧ (Dec.s9 b).pos ≤ b.length := by
  have i0 : In (Dec.s0 b) := ⟨Nat.zero_le _, by show (0 : Int) ≤ 0; omega, by show (0 : Int) ≤ _; omega⟩
  have i1 : In (Dec.s1 b) := by rw [← Dec.a1]; exact i0.expect _ _
  have i2 : In (Dec.s2 b) := by
    rw [Dec.a2]; split
    · by_cases hc : ((Dec.s1 b).uint 1).2.code = 0
      · have hb : ((Dec.s1 b).uint 1).2.bs = b := by rw [uint_bs, ← Dec.a1, expect_bs]; rfl
        have hb1 : (Dec.s1 b).bs = b := by rw [← Dec.a1, expect_bs]; rfl
        obtain ⟨c1, g, _⟩ := uint_good (by decide) (by decide) hc
        rw [hb1] at g
        refine (i1.uint 1).fail ?_
        rw [hb]
        have : 4 ≤ (Dec.s1 b).at_ := by
          rw [← Dec.a1] at c1 ⊢
          unfold RS.expect at c1 ⊢
          rw [if_neg (by simp [Dec.s0])] at c1 ⊢
          split at c1
          · exact absurd c1 (fail_code (by decide))
          · rename_i hx
            rw [if_neg hx]
            obtain ⟨_, _, _, g4⟩ := take_good c1
            rw [g4]; show 4 ≤ 0 + 4; omega
        omega
      · rw [fail_bad _ hc]; exact i1.uint 1
    · exact i1.uint 1
  have i3 : In (Dec.s3 b) := by rw [← Dec.a3]; exact i2.length
  have i4 : In (Dec.s4 b) := by rw [← Dec.a4]; exact i3.length
  have i5 : In (Dec.s5 b) := by rw [← Dec.a5]; exact i4.bytes 32
  have i6 : In (Dec.s6 b) := by rw [← Dec.a6]; exact i5.bytes 32
  have i7 : In (Dec.s7 b) := by rw [← Dec.a7]; exact i6.uint 4
  have i8 : In (Dec.s8 b).1 := by rw [← Dec.a8]; exact i7.cmds
  have i9 : In (Dec.s9 b) := by
    rw [Dec.a9]; split
    · exact i8.fail (by have := i8.1; omega)
    · exact i8
  have e : (Dec.s9 b).bs = b := by
    rw [Dec.a9]; split
    · rw [(fail_bs _ _ _).1, Dec.b8]
    · exact Dec.b8
  have := i9.2
  rwa [e] at this
theorem G.graftlaw07_FormatOnce_true (a0 : List UInt8) (h0 : Len a0) : G.graftlaw07_FormatOnce a0 = some true := by
  unfold G.graftlaw07_FormatOnce
  by_cases h : (a0.length : Int) > 2000
  · rw [if_pos h, alive7]; rfl
  · rw [if_neg h, Decode_p (by omega), alive7]
    simp only [Option.bind_some, if_true]
    rcases dec_ok (b := a0) with ⟨e1, e2, e3, h9⟩ | ⟨e1, e3, e4, e5⟩
    · rw [e1, e2, e3]
      simp only [and_self, decide_true, Bool.true_eq_false, if_false]
      obtain ⟨g, e, hn⟩ := enc_dec h9
      rw [Encode_p g (good_wrong g) hn (by rw [e]; omega), e]
      simp only [Option.bind_some, if_true]
      rw [Equal_self _ (by omega)]; rfl
    · have hp := pos_in (b := a0) (by omega)
      rw [← e5] at hp
      rw [show decide ((dec a0).2.1 = 0 ∧ (dec a0).2.2 = 0) = false by simp [e1]]
      rw [if_pos rfl, e3]
      rw [show (⟨0, 0, fun _ => (0 : UInt8), fun _ => (0 : UInt8), ([] : List G.Command)⟩ : G.Delta) = zeroD from rfl, same_zero]
      simp only [Option.bind_some, if_true]
      rw [if_pos e1, if_pos hp.1, decide_eq_true hp.2]
end Go.Proofs.Ytkalbidbhaalmaa
