/- Decoding, plain; the program's and the reference's decoders are the plain one. -/
import Derived.Test.YtkalbidbhaalmaaPSix2
namespace Go.Proofs.Ytkalbidbhaalmaa
open G
namespace RS
/-- A command. -/
def cmd (s : RS) : G.Command × RS :=
  if (s.uint 1).1 = 1 then
    (⟨1, (s.uint 1).2.length.1, (s.uint 1).2.length.2.length.1, (s.uint 1).2.length.2.length.2.length.1, []⟩, (s.uint 1).2.length.2.length.2.length.2)
  else if (s.uint 1).1 = 2 then
    (⟨2, (s.uint 1).2.length.1, 0, 0, ((s.uint 1).2.length.2.length.2.bytes (s.uint 1).2.length.2.length.1).1⟩, ((s.uint 1).2.length.2.length.2.bytes (s.uint 1).2.length.2.length.1).2)
  else (⟨0, 0, 0, 0, []⟩, (s.uint 1).2.fail 11 s.at_)
def cmds : Nat → RS → List G.Command → RS × List G.Command
  | 0, s, l => (s, l)
  | n + 1, s, l => if s.code = 0 then cmds n s.cmd.2 (l ++ [s.cmd.1]) else (s, l)
theorem Fit.cmd {s : RS} (h : s.Fit) : s.cmd.2.Fit := by
  unfold RS.cmd; split
  · exact (h.uint 1).length.length.length
  · split
    · exact (h.uint 1).length.length.bytes _
    · exact (h.uint 1).fail _ _
theorem cmd_bs (s : RS) : s.cmd.2.bs = s.bs := by
  unfold cmd; split
  · rw [length_bs, length_bs, length_bs, uint_bs]
  · split
    · rw [bytes_bs, length_bs, length_bs, uint_bs]
    · rw [(fail_bs _ _ _).1, uint_bs]
theorem uint1_lt (s : RS) : (s.uint 1).1 < 256 := by
  cases h : (s.take (size 1)).1 with
  | none => rw [uint_none s h]; exact (by decide : (0 : Nat) < 256)
  | some l =>
    rw [uint_some s h]
    have := num_lt l
    have hl : l.length ≤ 1 := by
      unfold RS.take at h; split at h
      · cases h
      · split at h
        · cases h
        · split at h
          · cases h
          · cases h; simp [size]; omega
    have : 256 ^ l.length ≤ 256 ^ 1 := Nat.pow_le_pow_right (by omega) hl
    omega
theorem length_i64 (s : RS) : I64 s.length.1 := by
  unfold RS.length; split
  · unfold I64; dsimp only; omega
  · unfold I64; dsimp only; omega
theorem cmd_r {s : RS} (h : s.Fit) : G.format_decoder_command ⟨s.r⟩ = some (s.cmd.1, s.cmd.2.r) := by
  unfold G.format_decoder_command G.wire_Reader_At
  have hu := uint1_lt s
  simp only [Option.bind_some]
  rw [uint_r h (by unfold I64; omega)]
  simp only [Option.bind_some]
  rw [w64 (by omega) (by omega)]
  have f1 := h.uint 1
  unfold RS.cmd
  by_cases h1 : (s.uint 1).1 = 1
  · rw [if_pos (by omega), if_pos h1]
    unfold G.format_decoder_copying
    simp only [length_r f1, length_r f1.length, length_r f1.length.length, Option.bind_some]
  · rw [if_neg (by omega), if_neg h1]
    by_cases h2 : (s.uint 1).1 = 2
    · rw [if_pos (by omega), if_pos h2]
      unfold G.format_decoder_literal
      simp only [length_r f1, length_r f1.length, bytes_r f1.length.length (length_i64 _), Option.bind_some]
    · rw [if_neg (by omega), if_neg h2]
      simp only [fail_r, Option.bind_some]
      rfl
theorem fail_code {s : RS} {c p : Int} (hc : c ≠ 0) : (s.fail c p).code ≠ 0 := by
  unfold RS.fail; split
  · exact hc
  · rename_i h; exact fun k => h ⟨k, hc⟩
theorem uint_bad {s : RS} (h : s.code ≠ 0) (n : Int) : s.uint n = (0, s) := by unfold RS.uint; rw [take_bad s h]
theorem length_bad {s : RS} (h : s.code ≠ 0) : s.length = (0, s) := by unfold RS.length; rw [uint_bad h]; rfl
theorem bytes_bad {s : RS} (h : s.code ≠ 0) (n : Int) : s.bytes n = ([], s) := by unfold RS.bytes; rw [take_bad s h]
theorem cmd_q {s : RS} (h : s.Fit) : ∃ c, G.graftref07_command s.q = some (c, s.cmd.2.q) ∧ (s.cmd.2.code = 0 → c = s.cmd.1) := by
  unfold G.graftref07_command
  have hu := uint1_lt s
  have f1 := h.uint 1
  simp only [uint_q h (n := 1) (by unfold I64; omega), Option.bind_some, w64 (x := ((s.uint 1).1 : Int)) (by omega) (by omega)]
  unfold RS.cmd
  by_cases h1 : (s.uint 1).1 = 1
  · have e1 : ((s.uint 1).1 : Int) = 1 := by omega
    have e : ((if (s.uint 1).2.q.code = 0 then if (1 : Int) ≠ 1 then some ((1 : Int) != 2) else some false else some false) : Option Bool) = some false := by simp
    rw [if_pos h1]
    simp only [e1, e, Option.bind_some, if_true, Bool.false_eq_true, if_false, length_q f1, length_q f1.length, length_q f1.length.length]
    exact ⟨_, rfl, fun _ => rfl⟩
  · by_cases h2 : (s.uint 1).1 = 2
    · have e1 : ((s.uint 1).1 : Int) = 2 := by omega
      have e : ((if (s.uint 1).2.q.code = 0 then if (2 : Int) ≠ 1 then some ((2 : Int) != 2) else some false else some false) : Option Bool) = some false := by simp
      rw [if_neg h1, if_pos h2]
      simp only [e1, e, Option.bind_some, if_true, Bool.false_eq_true, if_false, length_q f1, length_q f1.length, bytes_q f1.length.length, show ¬ (2 : Int) = 1 by decide]
      exact ⟨_, rfl, fun _ => rfl⟩
    · have n1 : ¬ ((s.uint 1).1 : Int) = 1 := by omega
      have n2 : (((s.uint 1).1 : Int) != 2) = true := by simp; omega
      have hb : ((s.uint 1).2.fail 11 s.at_).code ≠ 0 := fail_code (by decide)
      have e : (((if (s.uint 1).2.q.code = 0 then if ((s.uint 1).1 : Int) ≠ 1 then some (((s.uint 1).1 : Int) != 2) else some false else some false) : Option Bool).bind fun v1 => if v1 = true then (G.graftref06_Fail (s.uint 1).2.q 11 s.q.at_).bind fun y7 => some y7 else some (s.uint 1).2.q) = some ((s.uint 1).2.fail 11 s.at_).q := by
        by_cases hc : (s.uint 1).2.code = 0
        · rw [if_pos (show (s.uint 1).2.q.code = 0 from hc), if_pos n1, n2]
          simp only [Option.bind_some, if_true, fail_q]; rfl
        · rw [if_neg (show ¬ (s.uint 1).2.q.code = 0 from hc), fail_bad _ hc]; rfl
      rw [← Option.bind_assoc, e]
      have f2 : ((s.uint 1).2.fail 11 s.at_).Fit := f1.fail _ _
      simp only [Option.bind_some, length_q f2, length_bad hb, n1, h1, h2, if_false, bytes_q f2, bytes_bad hb]
      exact ⟨_, rfl, fun k => absurd k hb⟩
/-- Reading leaves an offset where it is, or moves it on; an error stays. -/
theorem take_at (s : RS) (n : Int) : s.at_ ≤ (s.take n).2.at_ := by
  unfold RS.take; split
  · exact Nat.le_refl _
  · split
    · rw [(fail_bs _ _ _).2]; exact Nat.le_refl _
    · split
      · rw [(fail_bs _ _ _).2]; exact Nat.le_refl _
      · dsimp only; omega
theorem uint_at (s : RS) (n : Int) : s.at_ ≤ (s.uint n).2.at_ := by rw [uint_snd]; exact take_at s _
theorem length_at (s : RS) : s.at_ ≤ s.length.2.at_ := by
  unfold RS.length; split
  · rw [(fail_bs _ _ _).2]; exact uint_at s 8
  · exact uint_at s 8
theorem bytes_at (s : RS) (n : Int) : s.at_ ≤ (s.bytes n).2.at_ := by rw [bytes_snd]; exact take_at s _
theorem take_good {s : RS} {n : Int} (h : (s.take n).2.code = 0) : s.code = 0 ∧ 0 ≤ n ∧ (s.at_ : Int) + n ≤ s.bs.length ∧ s.take n = (some ((s.bs.drop s.at_).take n.toNat), { s with at_ := s.at_ + n.toNat }) := by
  by_cases hc : s.code = 0
  · by_cases hn : n < 0
    · rw [take_neg s hc n hn] at h; exact absurd h (fail_code (by decide))
    · by_cases hs : (s.bs.length : Int) - s.at_ < n
      · rw [take_short s hc n (by omega) hs] at h; exact absurd h (fail_code (by decide))
      · refine ⟨hc, by omega, by omega, ?_⟩
        unfold RS.take; rw [if_neg (by simp [hc]), if_neg hn, if_neg hs]
  · rw [take_bad s hc] at h; exact absurd h hc
theorem uint_good {s : RS} {n : Int} (h1 : 1 ≤ n) (h8 : n ≤ 8) (h : (s.uint n).2.code = 0) : s.code = 0 ∧ (s.at_ : Int) + n ≤ s.bs.length ∧ s.uint n = (num ((s.bs.drop s.at_).take n.toNat), { s with at_ := s.at_ + n.toNat }) := by
  have hz : size n = n := by unfold size; rw [if_neg (by omega)]
  rw [uint_snd, hz] at h
  obtain ⟨a, b, c, d⟩ := take_good h
  refine ⟨a, c, ?_⟩
  rw [uint_some s (l := (s.bs.drop s.at_).take n.toNat) (by rw [hz, d]), hz, d]
theorem length_good {s : RS} (h : s.length.2.code = 0) : s.code = 0 ∧ s.at_ + 8 ≤ s.bs.length ∧ num ((s.bs.drop s.at_).take 8) ≤ 4611686018427387903 ∧ s.length = ((num ((s.bs.drop s.at_).take 8) : Int), { s with at_ := s.at_ + 8 }) := by
  unfold RS.length at h ⊢
  split at h
  · exact absurd h (fail_code (by decide))
  · rename_i hc
    obtain ⟨a, b, c⟩ := uint_good (by decide) (by decide) h
    rw [if_neg hc, c]
    rw [c] at hc
    exact ⟨a, by omega, Nat.not_lt.mp hc, rfl⟩
theorem bytes_good {s : RS} {n : Int} (h : (s.bytes n).2.code = 0) : s.code = 0 ∧ 0 ≤ n ∧ (s.at_ : Int) + n ≤ s.bs.length ∧ s.bytes n = ((s.bs.drop s.at_).take n.toNat, { s with at_ := s.at_ + n.toNat }) := by
  rw [bytes_snd] at h
  obtain ⟨a, b, c, d⟩ := take_good h
  exact ⟨a, b, c, by unfold RS.bytes; rw [d]⟩
theorem cmd_at {s : RS} (h : s.cmd.2.code = 0) : s.at_ + 1 ≤ s.cmd.2.at_ := by
  have key : (s.uint 1).2.code = 0 → s.at_ + 1 ≤ (s.uint 1).2.at_ := fun k => by
    obtain ⟨_, _, e⟩ := uint_good (by decide) (by decide) k
    rw [e]; exact Nat.le_refl _
  unfold RS.cmd at h ⊢
  split at h
  · rename_i h1
    rw [if_pos h1]
    have := key (length_good (length_good (length_good h).1).1).1
    have a := length_at (s.uint 1).2
    have b := length_at (s.uint 1).2.length.2
    have c := length_at (s.uint 1).2.length.2.length.2
    dsimp only; omega
  · split at h
    · rename_i h1 h2
      rw [if_neg h1, if_pos h2]
      have := key (length_good (length_good (bytes_good h).1).1).1
      have a := length_at (s.uint 1).2
      have b := length_at (s.uint 1).2.length.2
      have c := bytes_at (s.uint 1).2.length.2.length.2 (s.uint 1).2.length.2.length.1
      dsimp only; omega
    · exact absurd h (fail_code (by decide))
end RS
end Go.Proofs.Ytkalbidbhaalmaa
