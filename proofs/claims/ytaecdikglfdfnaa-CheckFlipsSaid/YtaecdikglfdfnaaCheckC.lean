/- The contracts of check.Of and of the reference's Extend and Of. -/
import Derived.Test.YtaecdikglfdfnaaCheckB
namespace Go.Proofs.Ytaecdikglfdfnaa
open Go.RowKit

theorem of_calls (a : Option Addr) (n cap : Nat) (ps : List (List UInt8)) (w : World) (hp : Parts w a n cap ps) :
    Calls Try.prog 9 #[.slice a n cap] w fun e w' => e = .returned (U32 (crc (0#32) ps.flatten)) ∧ Grow w w' := by
  have z : Value.int .u32 0 = U32 0#32 := rfl
  go_enter Try.func9, Try.ntmps9
  go_wp2_with (go_at_call 11; (refine (extend_calls 0#32 _ _ _ ps _ hp).mono ?_); rintro e w1 ⟨rfl, hg1⟩)
  go_ret
  exact ⟨rfl, hg1⟩

theorem bit_step (y : BitVec 32) : Crc.step y = if (N32 (y &&& 1#32) == 1) = true then y >>> 1 ^^^ 3988292384#32 else y >>> 1 := by
  unfold Crc.step
  have h : y &&& 1#32 = 0#32 ∨ y &&& 1#32 = 1#32 := by
    have hle : (y &&& 1#32).toNat ≤ 1 := by rw [BitVec.toNat_and]; exact Nat.and_le_right
    have : (y &&& 1#32).toNat = 0 ∨ (y &&& 1#32).toNat = 1 := by omega
    rcases this with h | h
    · exact .inl (BitVec.eq_of_toNat_eq h)
    · exact .inr (BitVec.eq_of_toNat_eq h)
  rcases h with h | h <;> rw [h]
  · rw [if_neg (by decide)]; simp
  · rw [if_pos (by decide)]; congr 1
@[go_sem] theorem N32_xpoly (x : BitVec 32) : bits .xor .u32 (N32 x) 3988292384 = N32 (x ^^^ 3988292384#32) := N32_xor x 3988292384#32

set_option maxHeartbeats 400000 in
theorem refExtend_calls (s : BitVec 32) (a : Option Addr) (n cap : Nat) (bs : List UInt8) (w : World) (hp : By w a n cap bs) :
    Calls Try.prog 19 #[U32 s, .slice a n cap] w fun e w' => e = .returned (U32 (crc s bs)) ∧ w = w' := by
  have hn := hp.lt63.1
  have HP := Lib.hid hp
  have HL := Lib.hid hp.len
  clear hp
  go_enter Try.func19, Try.ntmps19
  go_wp2
  go_loop [5, 6] (fun r i => ∃ (k : Nat), k ≤ n ∧ i = .int .i64 k ∧ r = U32 (reg (~~~s) (bs.take k))) (fun _ i => n - (intOf i).toNat)
  case atStart => exact ⟨0, by omega, rfl, rfl⟩
  case round =>
    obtain ⟨k, hk, rfl, rfl⟩ := hrel
    generalize hR : reg (~~~s) (bs.take k) = R
    have HR := Lib.hid hR
    clear hR
    by_cases hlt : k < n
    · obtain ⟨b, o, rfl, hc⟩ := HP.out.at hlt
      have hcell := hc k hlt
      clear hc
      generalize hC : bs.getD k 0 = c at hcell
      have HC := Lib.hid hC
      clear hC
      rw [U8_eq] at hcell
      have hc8 := w8_le c
      go_wp2
      go_loop [5, 7] (fun r i => ∃ (q : Nat) (y : BitVec 32), q ≤ 8 ∧ i = .int .i64 q ∧ r = U32 y ∧ Crc.steps (8 - q) y = Crc.byte R c.toBitVec) (fun _ i => 8 - (intOf i).toNat)
      case atStart => exact ⟨0, _, by omega, rfl, rfl, rfl⟩
      case round =>
        obtain ⟨q, y, hq, rfl, rfl, hst⟩ := hrel
        have Hst := Lib.hid hst
        have Hs := Lib.hid (bit_step y)
        clear hst
        by_cases hqlt : q < 8
        · by_cases hone : (N32 (y &&& 1#32) == 1) = true
          · go_wp2
            go_round
            case rel => exact ⟨q + 1, Crc.step y, by omega, by go_num, by rw [Hs.out, if_pos hone], by rw [← Hst.out, show 8 - q = (8 - (q + 1)) + 1 by omega]; rfl⟩
            case measure => simp [intOf]; omega
          · have hone' : (N32 (y &&& 1#32) == 1) = false := by simpa using hone
            go_wp2
            go_round
            case rel => exact ⟨q + 1, Crc.step y, by omega, by go_num, by rw [Hs.out, if_neg hone], by rw [← Hst.out, show 8 - q = (8 - (q + 1)) + 1 by omega]; rfl⟩
            case measure => simp [intOf]; omega
        · have hqe : q = 8 := by omega
          go_wp2
          go_round
          case rel =>
            refine ⟨k + 1, by omega, by go_num, congrArg U32 ?_⟩
            have hkl : k < bs.length := by have := HL.out; omega
            rw [take_snoc bs k hkl, reg_snoc, HR.out]
            have := HC.out
            rw [getD_lt _ _ _ hkl] at this
            have h8 := Hst.out
            rw [hqe] at h8
            rw [this]
            exact h8
          case measure => simp [intOf]; omega
    · have hke : k = n := by omega
      go_wp2
      go_ret
      refine ⟨congrArg (fun x => Ending.returned (U32 x)) ?_, rfl⟩
      rw [← HR.out, hke, List.take_of_length_le (by have := HL.out; omega)]
      rfl

theorem refOf_calls (a : Option Addr) (n cap : Nat) (bs : List UInt8) (w : World) (hp : By w a n cap bs) :
    Calls Try.prog 10 #[.slice a n cap] w fun e w' => e = .returned (U32 (crc (0#32) bs)) ∧ w = w' := by
  go_enter Try.func10, Try.ntmps10
  go_wp2_with (go_at_call 19; (refine (refExtend_calls 0#32 _ _ _ bs _ hp).mono ?_); rintro e w1 ⟨rfl, rfl⟩)
  go_ret
  exact ⟨rfl, rfl⟩
end Go.Proofs.Ytaecdikglfdfnaa
