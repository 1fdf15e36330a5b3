/- Decode, plain: the program's and the reference's are the plain one. -/
import Derived.Test.YtkalbidbhaalmaaPSeven
namespace Go.Proofs.Ytkalbidbhaalmaa
open G
def zeroD : G.Delta := ⟨0, 0, fun _ => 0, fun _ => 0, []⟩
def magic : List UInt8 := [71, 82, 70, 84]
def hash (l : List UInt8) : Nat → UInt8 := cpArr 32 (fun _ => 0) l
namespace Dec
def s0 (b : List UInt8) : RS := ⟨b, 0, 0, 0⟩
def s1 (b : List UInt8) : RS := ((s0 b).expect magic 9).2
def s2 (b : List UInt8) : RS := if ((s1 b).uint 1).1 ≠ 1 then ((s1 b).uint 1).2.fail 10 4 else ((s1 b).uint 1).2
def s3 (b : List UInt8) : RS := (s2 b).length.2
def s4 (b : List UInt8) : RS := (s3 b).length.2
def s5 (b : List UInt8) : RS := ((s4 b).bytes 32).2
def s6 (b : List UInt8) : RS := ((s5 b).bytes 32).2
def s7 (b : List UInt8) : RS := ((s6 b).uint 4).2
def s8 (b : List UInt8) : RS × List G.Command := RS.cmds ((s6 b).uint 4).1 (s7 b) []
def s9 (b : List UInt8) : RS := if (s8 b).1.at_ < b.length then (s8 b).1.fail 12 (s8 b).1.at_ else (s8 b).1
def d (b : List UInt8) : G.Delta := ⟨(s2 b).length.1, (s3 b).length.1, hash ((s4 b).bytes 32).1, hash ((s5 b).bytes 32).1, (s8 b).2⟩
end Dec
/-- What Decode returns: a delta and a fault. -/
def dec (b : List UInt8) : G.Delta × Int × Int := if (Dec.s9 b).code ≠ 0 then (zeroD, (Dec.s9 b).code, (Dec.s9 b).pos) else (Dec.d b, 0, 0)
namespace RS
theorem Fit.cmds : ∀ {n : Nat} {s : RS} {l : List G.Command}, s.Fit → (RS.cmds n s l).1.Fit
  | 0, _, _, h => h
  | n + 1, s, l, h => by
    unfold RS.cmds; split
    · exact h.cmd.cmds
    · exact h
theorem cmds_bs : ∀ (n : Nat) (s : RS) (l : List G.Command), (RS.cmds n s l).1.bs = s.bs
  | 0, _, _ => rfl
  | n + 1, s, l => by
    unfold RS.cmds; split
    · rw [cmds_bs n, cmd_bs]
    · rfl
theorem uint4_lt (s : RS) : (s.uint 4).1 < 4294967296 := by
  cases h : (s.take (size 4)).1 with
  | none => rw [uint_none s h]; exact (by decide : (0 : Nat) < 4294967296)
  | some l =>
    rw [uint_some s h]
    have := num_lt l
    have hl : l.length ≤ 4 := by
      unfold RS.take at h; split at h
      · cases h
      · split at h
        · cases h
        · split at h
          · cases h
          · cases h; simp [size]; omega
    have : 256 ^ l.length ≤ 256 ^ 4 := Nat.pow_le_pow_right (by omega) hl
    omega
theorem ok_r {s : RS} (h : s.Fit) : G.format_decoder_ok ⟨s.r⟩ = some (decide (s.code = 0)) := by
  unfold G.format_decoder_ok G.wire_Reader_Fault
  have := h.2.2
  by_cases hc : s.code = 0
  · simp [r, p, hc, this hc]
  · simp [r, p, hc]
theorem cmds_r : ∀ (n : Nat) (s : RS) (l : List G.Command), s.Fit → n < 4294967296 → (s.code = 0 → l.length ≤ s.at_) → Iter G.format_Decode_l1 (s.r, l, (n : Int)) = some ((cmds n s l).1.r, (cmds n s l).2)
  | 0, s, l, h, _, _ => by
    apply Iter_inr
    unfold G.format_Decode_l1
    rw [if_neg (by dsimp only; omega)]; rfl
  | n + 1, s, l, h, hn, hl => by
    have e : ∀ F : Bool → Option ((G.wire_Reader × (List G.Command) × Int) ⊕ (G.wire_Reader × (List G.Command))), ((G.format_decoder_ok ⟨s.r⟩).bind fun y => some y).bind F = F (decide (s.code = 0)) := fun F => by rw [ok_r h]; rfl
    by_cases hc : s.code = 0
    · have hl' := hl hc
      have h1 := h.1; have h2 := h.2.1
      have := cmds_r n s.cmd.2 (l ++ [s.cmd.1]) h.cmd (by omega) (fun k => by have := cmd_at k; simp; omega)
      unfold RS.cmds; rw [if_pos hc, ← this]
      apply Iter_inl
      unfold G.format_Decode_l1
      rw [if_pos (by dsimp only; omega)]
      refine (e _).trans ?_
      rw [decide_eq_true hc, if_pos rfl]
      show (G.format_decoder_command ⟨s.r⟩).bind _ = _
      rw [cmd_r h]
      simp only [Option.bind_some]
      rw [app_of (by simp; omega)]
      simp only [Option.bind_some]
      rw [wu64 (by omega) (by omega)]
      have : (((n + 1 : Nat) : Int) - 1) = (n : Int) := by omega
      rw [this]
    · unfold RS.cmds; rw [if_neg hc]
      apply Iter_inr
      unfold G.format_Decode_l1
      rw [if_pos (by dsimp only; omega)]
      refine (e _).trans ?_
      rw [decide_eq_false hc, if_neg (by decide)]
theorem cmds_q (u : RS) : ∀ (n : Nat) (s : RS) (l : List G.Command) (N i : Nat), s.Fit → N = i + n → N < 4294967296 → (s.code = 0 → l.length ≤ s.at_) → ∃ l', Iter (G.graftref07_Decode_l2 ((N : Int), u.q)) (s.q, l, (i : Int)) = some ((cmds n s l).1.q, l') ∧ ((cmds n s l).1.code = 0 → l' = (cmds n s l).2)
  | 0, s, l, N, i, h, hN, hn, _ => by
    refine ⟨l, Iter_inr ?_, fun _ => rfl⟩
    unfold G.graftref07_Decode_l2
    dsimp only
    rw [w64 (by omega) (by omega), if_neg (by omega)]; rfl
  | n + 1, s, l, N, i, h, hN, hn, hl => by
    by_cases hc : s.code = 0
    · have hl' := hl hc
      have h1 := h.1; have h2 := h.2.1
      obtain ⟨c, hq, hcc⟩ := cmd_q h
      have hstep : G.graftref07_Decode_l2 ((N : Int), u.q) (s.q, l, (i : Int)) = some (.inl (s.cmd.2.q, l ++ [c], ((i + 1 : Nat) : Int))) := by
        unfold G.graftref07_Decode_l2
        dsimp only
        rw [w64 (by omega) (by omega), if_pos (by omega), show (s.q.code == 0) = true by simp [q, hc]]
        simp only [Option.bind_some, if_true, hq]
        rw [app_of (by simp; omega), inc64 (n := N) (by omega) (by omega)]
        rfl
      rw [Iter_inl hstep]
      unfold RS.cmds; rw [if_pos hc]
      by_cases hk : s.cmd.2.code = 0
      · rw [hcc hk]
        exact cmds_q u n s.cmd.2 (l ++ [s.cmd.1]) N (i + 1) h.cmd (by omega) hn (fun k => by have := cmd_at k; simp; omega)
      · have e : ∀ l', RS.cmds n s.cmd.2 l' = (s.cmd.2, l') := fun l' => by
          cases n with
          | zero => rfl
          | succ n => unfold RS.cmds; rw [if_neg hk]
        rw [e]
        refine ⟨l ++ [c], Iter_inr ?_, fun k => absurd k hk⟩
        unfold G.graftref07_Decode_l2
        dsimp only
        rw [show (s.cmd.2.q.code == 0) = false by simpa [q] using hk]
        split <;> rfl
    · unfold RS.cmds; rw [if_neg hc]
      refine ⟨l, Iter_inr ?_, fun _ => rfl⟩
      unfold G.graftref07_Decode_l2
      dsimp only
      rw [show (s.q.code == 0) = false by simpa [q] using hc]
      split <;> rfl
end RS
open RS
theorem s0_fit {b : List UInt8} (h : b.length ≤ 1099511627776) : (Dec.s0 b).Fit := ⟨Nat.zero_le _, h, fun _ => rfl⟩
namespace Dec
variable {b : List UInt8} (h : b.length ≤ 1099511627776)
include h
theorem f1 : (s1 b).Fit := (s0_fit h).expect _ _
theorem f2 : (s2 b).Fit := by
  unfold s2; split
  · exact ((f1 h).uint 1).fail _ _
  · exact (f1 h).uint 1
theorem f3 : (s3 b).Fit := (f2 h).length
theorem f4 : (s4 b).Fit := (f3 h).length
theorem f5 : (s5 b).Fit := (f4 h).bytes 32
theorem f6 : (s6 b).Fit := (f5 h).bytes 32
theorem f7 : (s7 b).Fit := (f6 h).uint 4
theorem f8 : (s8 b).1.Fit := (f7 h).cmds
theorem f9 : (s9 b).Fit := by
  unfold s9; split
  · exact (f8 h).fail _ _
  · exact f8 h
omit h in
theorem b2 : (s2 b).bs = b := by
  unfold s2; split
  · rw [(fail_bs _ _ _).1, uint_bs]; exact expect_bs _ _ _
  · rw [uint_bs]; exact expect_bs _ _ _
omit h in
theorem b7 : (s7 b).bs = b := by
  unfold s7 s6 s5 s4 s3
  rw [uint_bs, bytes_bs, bytes_bs, length_bs, length_bs, b2]
omit h in
theorem b8 : (s8 b).1.bs = b := by unfold s8; rw [cmds_bs, b7]
omit h in
theorem a1 : ((s0 b).expect [71, 82, 70, 84] 9).2 = s1 b := rfl
omit h in
theorem a3 : (s2 b).length.2 = s3 b := rfl
omit h in
theorem a4 : (s3 b).length.2 = s4 b := rfl
omit h in
theorem a5 : ((s4 b).bytes 32).2 = s5 b := rfl
omit h in
theorem a6 : ((s5 b).bytes 32).2 = s6 b := rfl
omit h in
theorem a7 : ((s6 b).uint 4).2 = s7 b := rfl
omit h in
theorem a8 : RS.cmds ((s6 b).uint 4).1 (s7 b) [] = s8 b := rfl
omit h in
theorem ar : (⟨⟨b, 0, ⟨0, 0⟩⟩⟩ : G.wire_Reader) = (s0 b).r := rfl
omit h in
theorem aq : (⟨b, 0, 0, 0⟩ : G.graftref06_Reader) = (s0 b).q := rfl
omit h in
theorem ad : d b = (⟨(s2 b).length.1, (s3 b).length.1, hash ((s4 b).bytes 32).1, hash ((s5 b).bytes 32).1, (s8 b).2⟩ : G.Delta) := rfl
omit h in
theorem a2 : s2 b = if ((s1 b).uint 1).1 ≠ 1 then ((s1 b).uint 1).2.fail 10 4 else ((s1 b).uint 1).2 := rfl
omit h in
theorem a9 : s9 b = if (s8 b).1.at_ < b.length then (s8 b).1.fail 12 (s8 b).1.at_ else (s8 b).1 := rfl
attribute [irreducible] s1 s2 s3 s4 s5 s6 s7 s8 s9
end Dec
theorem hash_r {s : RS} (h : s.Fit) : G.format_decoder_hash ⟨s.r⟩ = some (hash (s.bytes 32).1, (s.bytes 32).2.r) := by
  unfold G.format_decoder_hash
  rw [bytes_r h (by unfold I64; omega)]; rfl
theorem Decode_p {b : List UInt8} (h : b.length ≤ 1099511627776) : G.format_Decode b = some ((dec b).1, ⟨(dec b).2.1, (dec b).2.2⟩) := by
  unfold G.format_Decode G.wire_New G.slices_Clone_byte_byte
  rw [app_of (by simp; omega)]
  simp only [Option.bind_some, List.nil_append]
  rw [Dec.ar, expect_r (s0_fit h) _ _ (by decide)]
  simp only [Option.bind_some]
  rw [Dec.a1, uint_r (Dec.f1 h) (by unfold I64; omega)]
  simp only [Option.bind_some]
  have e2 : ((if (((Dec.s1 b).uint 1).1 : Int) ≠ 1 then (G.wire_Reader_Fail ((Dec.s1 b).uint 1).2.r 10 4).bind fun y16 => some y16 else some ((Dec.s1 b).uint 1).2.r) : Option G.wire_Reader) = some (Dec.s2 b).r := by
    rw [Dec.a2]
    rw [fail_r]
    by_cases hv : ((Dec.s1 b).uint 1).1 = 1
    · rw [if_neg (by omega), if_neg (by omega)]
    · rw [if_pos (by omega), if_pos (by omega)]; rfl
  rw [e2]
  simp only [Option.bind_some]
  show (G.wire_Reader_Length (Dec.s2 b).r).bind _ = _
  rw [length_r (Dec.f2 h)]
  simp only [Option.bind_some]
  rw [Dec.a3, length_r (Dec.f3 h)]
  simp only [Option.bind_some]
  rw [Dec.a4, hash_r (Dec.f4 h)]
  simp only [Option.bind_some]
  rw [Dec.a5, hash_r (Dec.f5 h)]
  simp only [Option.bind_some]
  rw [Dec.a6, uint_r (Dec.f6 h) (by unfold I64; omega)]
  simp only [Option.bind_some]
  rw [Dec.a7, cmds_r _ _ _ (Dec.f7 h) (uint4_lt _) (fun _ => Nat.zero_le _)]
  simp only [Option.bind_some]
  rw [Dec.a8]
  have g8 := (Dec.f8 h).1
  have g8' := (Dec.f8 h).2.1
  have e9 : ((G.wire_Reader_Rest (Dec.s8 b).1.r).bind fun y9 => (if y9 > 0 then (G.wire_Reader_At (Dec.s8 b).1.r).bind fun y12 => (G.wire_Reader_Fail (Dec.s8 b).1.r 12 y12).bind fun y13 => some y13 else some (Dec.s8 b).1.r : Option G.wire_Reader)) = some (Dec.s9 b).r := by
    unfold G.wire_Reader_Rest G.wire_Reader_At; rw [Dec.a9]
    simp only [Option.bind_some, fail_r, show (Dec.s8 b).1.r.position.b = (Dec.s8 b).1.bs from rfl, show (Dec.s8 b).1.r.position.at_ = ((Dec.s8 b).1.at_ : Int) from rfl]
    rw [w64 (by omega) (by omega)]
    rw [Dec.b8] at g8 ⊢
    by_cases hx : (Dec.s8 b).1.at_ < b.length
    · rw [if_pos (by omega), if_pos hx]
    · rw [if_neg (by omega), if_neg hx]
  show (G.wire_Reader_Rest (Dec.s8 b).1.r).bind (fun y9 => Option.bind (if y9 > 0 then (G.wire_Reader_At (Dec.s8 b).1.r).bind fun y12 => (G.wire_Reader_Fail (Dec.s8 b).1.r 12 y12).bind fun y13 => some y13 else some (Dec.s8 b).1.r : Option G.wire_Reader) _) = _
  rw [← Option.bind_assoc, e9]
  simp only [Option.bind_some]
  show (G.format_decoder_ok ⟨(Dec.s9 b).r⟩).bind _ = _
  rw [ok_r (Dec.f9 h)]
  simp only [Option.bind_some]
  unfold dec
  by_cases hc : (Dec.s9 b).code = 0
  · rw [if_neg (by simp [hc]), if_neg (by simp [hc])]; rfl
  · rw [if_pos (by simp [hc]), if_pos hc]; rfl
theorem hashes_q (n1 n2 : Int) (l' : List G.Command) (x4 x5 : List UInt8) (n4 : x4.length = 32) (n5 : x5.length = 32) (y5 y6 : G.graftref06_Reader) : Iter (G.graftref07_Decode_l1 (x4, y5) (x5, y6)) (⟨n1, n2, fun _ => 0, fun _ => 0, l'⟩, 0) = some (⟨n1, n2, hash x4, hash x5, l'⟩ : G.Delta) := by
  have hh : ∀ x : List UInt8, x.length = 32 → hash x = fun i => if i < 32 then x.getD i 0 else 0 := by
    intro x hx; funext i; unfold hash cpArr; rw [hx]
    by_cases hi : i < 32 <;> simp [hi]
  rw [hh x4 n4, hh x5 n5]
  refine Iter_count 32 (fun j => ((⟨n1, n2, fun i => if i < j then x4.getD i 0 else 0, fun i => if i < j then x5.getD i 0 else 0, l'⟩ : G.Delta), (j : Int))) _ (fun j hj => ?_) ?_ (by simp)
  · unfold G.graftref07_Decode_l1
    dsimp only
    rw [if_pos (by omega), idx_of (by omega), idx_of (by omega)]
    simp only [Option.bind_some]
    rw [chk_of (by omega)]
    simp only [Option.bind_some]
    rw [inc64 hj (by omega)]
    have hs : ∀ x : List UInt8, (hx : j < x.length) → setArr (fun i => if i < j then x.getD i 0 else 0) (j : Int) x[j] = fun i => if i < j + 1 then x.getD i 0 else 0 := by
      intro x hx; funext i; unfold setArr
      by_cases hij : i = j
      · subst hij; rw [if_pos rfl, if_pos (by omega), getD_lt _ _ _ hx]
      · rw [if_neg (by omega)]
        dsimp only
        by_cases hlt : i < j
        · rw [if_pos hlt, if_pos (by omega)]
        · rw [if_neg hlt, if_neg (by omega)]
    rw [hs x4 (by omega), hs x5 (by omega)]
  · unfold G.graftref07_Decode_l1
    rw [if_neg (by simp)]
theorem Decode_q {b : List UInt8} (h : b.length ≤ 1099511627776) : G.graftref07_Decode b = some (dec b) := by
  unfold G.graftref07_Decode
  rw [Dec.aq, expect_q (s0_fit h) _ _ (by decide)]
  simp only [Option.bind_some]
  rw [Dec.a1, uint_q (Dec.f1 h) (by unfold I64; omega)]
  simp only [Option.bind_some]
  have e2 : (((if ((Dec.s1 b).uint 1).2.q.code = 0 then some ((((Dec.s1 b).uint 1).1 : Int) != 1) else some false) : Option Bool).bind fun v1 => (if v1 = true then (G.graftref06_Fail ((Dec.s1 b).uint 1).2.q 10 4).bind fun y12 => some y12 else some ((Dec.s1 b).uint 1).2.q : Option G.graftref06_Reader)) = some (Dec.s2 b).q := by
    rw [Dec.a2]
    rw [fail_q]
    by_cases hc : ((Dec.s1 b).uint 1).2.code = 0
    · rw [if_pos (show ((Dec.s1 b).uint 1).2.q.code = 0 from hc)]
      by_cases hv : ((Dec.s1 b).uint 1).1 = 1
      · rw [hv]; rfl
      · rw [if_pos hv, show ((((Dec.s1 b).uint 1).1 : Int) != 1) = true by simp; omega]; rfl
    · rw [if_neg (show ¬ ((Dec.s1 b).uint 1).2.q.code = 0 from hc), fail_bad _ hc]; simp
  rw [← Option.bind_assoc, e2]
  simp only [Option.bind_some]
  rw [length_q (Dec.f2 h)]
  simp only [Option.bind_some]
  rw [Dec.a3, length_q (Dec.f3 h)]
  simp only [Option.bind_some]
  rw [Dec.a4, bytes_q (Dec.f4 h)]
  simp only [Option.bind_some]
  rw [Dec.a5, bytes_q (Dec.f5 h)]
  simp only [Option.bind_some]
  rw [Dec.a6, uint_q (Dec.f6 h) (by unfold I64; omega)]
  simp only [Option.bind_some]
  rw [Dec.a7]
  obtain ⟨l', hl, hl'⟩ := cmds_q (Dec.s7 b) _ (Dec.s7 b) [] ((Dec.s6 b).uint 4).1 0 (Dec.f7 h) (Nat.zero_add _).symm (uint4_lt _) (fun _ => Nat.zero_le _)
  rw [Dec.a8] at hl hl'
  rw [show ((0 : Nat) : Int) = 0 from rfl] at hl
  rw [hl]
  simp only [Option.bind_some]
  have e9 : (((if (Dec.s8 b).1.q.code = 0 then some (decide ((Dec.s8 b).1.q.at_ < (b.length : Int))) else some false) : Option Bool).bind fun v4 => (if v4 = true then (G.graftref06_Fail (Dec.s8 b).1.q 12 (Dec.s8 b).1.q.at_).bind fun y10 => some y10 else some (Dec.s8 b).1.q : Option G.graftref06_Reader)) = some (Dec.s9 b).q := by
    rw [Dec.a9]
    rw [fail_q]
    simp only [show (Dec.s8 b).1.q.at_ = ((Dec.s8 b).1.at_ : Int) from rfl, show (Dec.s8 b).1.q.code = (Dec.s8 b).1.code from rfl]
    by_cases hc : (Dec.s8 b).1.code = 0
    · rw [if_pos hc]
      by_cases hx : (Dec.s8 b).1.at_ < b.length
      · rw [if_pos hx, decide_eq_true (by omega)]; rfl
      · rw [if_neg hx, decide_eq_false (by omega)]; rfl
    · rw [if_neg hc, fail_bad _ hc]; simp
  rw [← Option.bind_assoc, e9]
  simp only [Option.bind_some]
  unfold dec
  by_cases hc : (Dec.s9 b).code = 0
  · have h9 := hc
    have h8 : (Dec.s8 b).1.code = 0 := by
      rw [Dec.a9] at hc; split at hc
      · exact absurd hc (fail_code (by decide))
      · exact hc
    have h7 : ∀ n s l, (RS.cmds n s l).1.code = 0 → s.code = 0 := by
      intro n s l hk
      cases n with
      | zero => exact hk
      | succ n =>
        unfold RS.cmds at hk; split at hk
        · assumption
        · exact hk
    have h8' := h8
    rw [← Dec.a8] at h8'
    have h7' := h7 _ _ _ h8'
    rw [← Dec.a7] at h7'
    obtain ⟨g6, _, _⟩ := uint_good (by decide) (by decide) h7'
    rw [← Dec.a6] at g6
    obtain ⟨g5, _, k5, e5⟩ := bytes_good g6
    rw [← Dec.a5] at g5
    obtain ⟨g4, _, k4, e4⟩ := bytes_good g5
    have n4 : ((Dec.s4 b).bytes 32).1.length = 32 := by rw [e4]; simp; omega
    have n5 : ((Dec.s5 b).bytes 32).1.length = 32 := by rw [e5]; simp; omega
    rw [if_neg (by simpa [q] using hc), if_neg (by simpa using hc)]
    have e5' := hashes_q (Dec.s2 b).length.1 (Dec.s3 b).length.1 l' _ _ n4 n5 ((Dec.s4 b).bytes 32).2.q ((Dec.s5 b).bytes 32).2.q
    rw [Dec.a5, Dec.a6] at e5'
    rw [e5', hl' h8, Dec.ad]; rfl
  · rw [if_pos (show (Dec.s9 b).q.code ≠ 0 from hc), if_pos hc]; rfl
end Go.Proofs.Ytkalbidbhaalmaa
