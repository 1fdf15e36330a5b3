/- The readers of the package wire and of the reference of layer 6 are the plain reader. -/
import Derived.Test.YtkalbidbhaalmaaPWire
import Derived.Test.YtkalbidbhaalmaaGs
namespace Go.Proofs.Ytkalbidbhaalmaa
open G
namespace RS
/-- The plain reader, as the program keeps it. -/
def p (s : RS) : G.wire_position := ⟨s.bs, s.at_, ⟨s.code, s.pos⟩⟩
def r (s : RS) : G.wire_Reader := ⟨s.p⟩
def q (s : RS) : G.graftref06_Reader := ⟨s.bs, s.at_, s.code, s.pos⟩
/-- A reader over bytes of a size that a machine can have. -/
def Fit (s : RS) : Prop := s.at_ ≤ s.bs.length ∧ s.bs.length ≤ 1099511627776 ∧ (s.code = 0 → s.pos = 0)
theorem Fit.ok {s : RS} (h : s.Fit) : s.Ok := h.1
theorem Fit.fail {s : RS} (h : s.Fit) (c p : Int) : (s.fail c p).Fit := by
  unfold Fit; rw [(fail_bs s c p).1, (fail_bs s c p).2]; refine ⟨h.1, h.2.1, ?_⟩
  unfold RS.fail; split
  · rename_i k; exact fun k' => absurd k' k.2
  · exact h.2.2
theorem Fit.take {s : RS} (h : s.Fit) (n : Int) : (s.take n).2.Fit := by
  refine ⟨take_ok s h.1 n, by rw [take_bs]; exact h.2.1, ?_⟩
  unfold RS.take; split
  · exact h.2.2
  · split
    · exact (h.fail _ _).2.2
    · split
      · exact (h.fail _ _).2.2
      · exact h.2.2
theorem Fit.uint {s : RS} (h : s.Fit) (n : Int) : (s.uint n).2.Fit := by rw [uint_snd]; exact h.take _
theorem Fit.bytes {s : RS} (h : s.Fit) (n : Int) : (s.bytes n).2.Fit := by rw [bytes_snd]; exact h.take _
theorem Fit.length {s : RS} (h : s.Fit) : s.length.2.Fit := by
  unfold RS.length; split
  · exact (h.uint 8).fail _ _
  · exact h.uint 8
theorem Fit.expect {s : RS} (h : s.Fit) (b : List UInt8) (c : Int) : (s.expect b c).2.Fit := by
  unfold RS.expect; split
  · exact h
  · split
    · exact h.fail _ _
    · exact h.take _
theorem fail_p (s : RS) (c n : Int) : G.wire_position_fail s.p c n = some (s.fail c n).p := by
  unfold G.wire_position_fail RS.fail p
  by_cases h : s.code = 0 <;> by_cases h2 : c = 0 <;> simp [h, h2]
theorem fail_q (s : RS) (c n : Int) : G.graftref06_Fail s.q c n = some (s.fail c n).q := by
  unfold G.graftref06_Fail RS.fail q
  by_cases h : s.code = 0 <;> by_cases h2 : c = 0 <;> simp [h, h2]
theorem take_p {s : RS} (h : s.Fit) {n : Int} (hn : I64 n) : G.wire_position_take s.p n = some ((s.take n).1.getD [], (s.take n).1.isSome, (s.take n).2.p) := by
  unfold I64 at hn
  obtain ⟨h1, h2, h3⟩ := h
  have e1 : ∀ n, G.wire_position_fail s.p 2 n = some (s.fail 2 n).p := fun n => fail_p s 2 n
  unfold G.wire_position_take
  by_cases hc : s.code = 0
  · have hc' : ¬ s.p.fault.code ≠ 0 := by simp [p, hc]
    rw [if_neg hc']
    by_cases hneg : n < 0
    · rw [if_pos hneg, fail_p, take_neg s hc n hneg]; rfl
    · rw [if_neg hneg]
      have e : IntKind.i64.wrap ((s.p.b.length : Int) - s.p.at_) = (s.bs.length : Int) - s.at_ := by
        simp only [p]; rw [w64 (by omega) (by omega)]
      rw [e]
      by_cases hs : n > (s.bs.length : Int) - s.at_
      · rw [if_pos hs, take_short s hc n (by omega) (by omega)]
        have : (s.p.b.length : Int) = s.bs.length := rfl
        rw [this, fail_p]; rfl
      · rw [if_neg hs]
        obtain ⟨k, rfl⟩ : ∃ k : Nat, n = (k : Int) := ⟨n.toNat, by omega⟩
        rw [take_some s hc k (by omega)]
        have e2 : IntKind.i64.wrap (s.p.at_ + (k : Int)) = ((s.at_ + k : Nat) : Int) := by simp only [p]; rw [w64 (by omega) (by omega)]; omega
        have e3 : IntKind.i64.wrap (((s.at_ + k : Nat) : Int) - (k : Int)) = (s.at_ : Int) := by rw [w64 (by omega) (by omega)]; omega
        rw [e2, e3, slcMid_of (by simp only [p]; omega)]
        simp only [p, Option.bind_some, Int.toNat_natCast, Option.getD_some, Option.isSome_some, List.drop_take, Nat.add_sub_cancel_left]
  · have hc' : s.p.fault.code ≠ 0 := hc
    rw [if_pos hc', take_bad s hc]; rfl
theorem take_getD_len {s : RS} (n : Int) : ((s.take n).1.getD []).length ≤ s.bs.length := by
  cases h : (s.take n).1 with
  | none => simp
  | some l => exact take_some_le s h
theorem num1 (x : Nat) (c : UInt8) (h : x < 72057594037927936) : bor .u64 (ishl .u64 (x : Int) 8) (c.toNat : Int) = ((256 * x + c.toNat : Nat) : Int) := by
  have hc := c.toNat_lt
  have e1 : ishl .u64 (x : Int) 8 = ((x * 256 : Nat) : Int) := by
    unfold ishl
    have : (2 : Int) ^ (min (8 : Int).toNat IntKind.u64.bits) = 256 := by decide
    rw [this, wu64 (by omega) (by omega)]; omega
  rw [e1]
  unfold bor
  have e2 : ∀ n : Nat, BitVec.ofInt 64 (n : Int) = BitVec.ofNat 64 n := fun n => by simp
  have e3 : x * 256 ||| c.toNat = 256 * x + c.toNat := by
    have := Nat.shiftLeft_add_eq_or_of_lt (i := 8) (b := c.toNat) (by omega) x
    rw [Nat.shiftLeft_eq, show (2 : Nat) ^ 8 = 256 from rfl] at this
    omega
  have e4 : (BitVec.ofInt 64 ((x * 256 : Nat) : Int) ||| BitVec.ofInt 64 (c.toNat : Int)).toNat = 256 * x + c.toNat := by
    rw [e2, e2, BitVec.toNat_or, BitVec.toNat_ofNat, BitVec.toNat_ofNat, Nat.mod_eq_of_lt (by omega), Nat.mod_eq_of_lt (by omega), e3]
  show IntKind.u64.wrap (((BitVec.ofInt 64 ((x * 256 : Nat) : Int) ||| BitVec.ofInt 64 (c.toNat : Int)).toNat : Nat) : Int) = _
  rw [e4]
  exact wu64 (by omega) (by omega)
theorem uint_r {s : RS} (h : s.Fit) {n : Int} (hn : I64 n) : G.wire_Reader_Uint s.r n = some (((s.uint n).1 : Int), (s.uint n).2.r) := by
  unfold G.wire_Reader_Uint
  have e1 : ((if n < 1 then some true else some (decide (n > 8))) : Option Bool) = some (decide (n < 1 ∨ 8 < n)) := by
    by_cases h1 : n < 1 <;> simp [h1]
  have e2 : (((if n < 1 then some true else some (decide (n > 8))) : Option Bool).bind fun v1 => (if v1 = true then some (-1) else some n)) = some (size n) := by
    rw [e1]; unfold size; by_cases h1 : n < 1 ∨ 8 < n <;> simp [h1]
  rw [← Option.bind_assoc, e2]
  simp only [Option.bind_some]
  have hsz : I64 (size n) := by unfold I64 size at *; split <;> omega
  rw [show s.r.position = s.p from rfl, take_p h hsz]
  simp only [Option.bind_some]
  cases ht : (s.take (size n)).1 with
  | none => rw [uint_none s ht]; simp [r]
  | some l =>
    rw [uint_some s ht]
    simp only [Option.isSome_some, Option.getD_some, Bool.true_eq_false, if_false, G.wire_number, Option.bind_some]
    have hl8 := take_size_le s ht
    refine Iter_count l.length (fun k => ((num (l.take k) : Int), (num (l.take k) : Int), (k : Int))) _ (fun k hk => ?_) ?_ (by simp [num])
    · unfold G.wire_Reader_Uint_l1
      have h1 : ((k : Int)) < (l.length : Int) := by omega
      simp only [h1, if_true, idx_of hk, Option.bind_some, G.wire_number_1]
      have hb := num_take_lt l k hk hl8
      rw [num1 _ _ hb, inc64 hk (by omega), num_take_succ l k hk, getD_lt _ _ _ hk]
    · unfold G.wire_Reader_Uint_l1
      simp [List.take_of_length_le, r]
theorem length_r {s : RS} (h : s.Fit) : G.wire_Reader_Length s.r = some (s.length.1, s.length.2.r) := by
  unfold G.wire_Reader_Length
  rw [uint_r h (by unfold I64; omega)]
  simp only [Option.bind_some]
  unfold RS.length
  by_cases hc : 4611686018427387903 < (s.uint 8).1
  · rw [if_pos (by omega), if_pos hc]
    rw [show (s.uint 8).2.r.position = (s.uint 8).2.p from rfl, fail_p]; rfl
  · rw [if_neg (by omega), if_neg hc, w64 (by omega) (by omega)]
theorem bytes_r {s : RS} (h : s.Fit) {n : Int} (hn : I64 n) : G.wire_Reader_Bytes s.r n = some ((s.bytes n).1, (s.bytes n).2.r) := by
  unfold G.wire_Reader_Bytes G.slices_Clone_byte_byte
  rw [show s.r.position = s.p from rfl, take_p h hn]
  have hl := take_getD_len (s := s) n
  simp only [Option.bind_some]
  have hb := h.2.1
  rw [app_of (by simp; omega)]
  simp only [Option.bind_some, List.nil_append]
  cases ht : (s.take n).1 with
  | none => rw [bytes_none s ht]; rfl
  | some l => rw [bytes_some s ht]; rfl
end RS
end Go.Proofs.Ytkalbidbhaalmaa
