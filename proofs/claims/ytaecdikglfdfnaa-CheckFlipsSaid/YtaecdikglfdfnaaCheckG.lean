/- The contracts of check.Flip and of the reference's Flip. -/
import Derived.Test.YtaecdikglfdfnaaCheckC
import Derived.Test.YtaecdikglfdfnaaTypes
namespace Go.Proofs.Ytaecdikglfdfnaa
open Go.RowKit
def flipOk (n bit : Int) : Bool := decide (1 ≤ n ∧ n ≤ 65536 ∧ 0 ≤ bit ∧ bit < 8 * n)
def flip (n bit : Nat) : BitVec 32 := Crc.steps (8 * (n - bit / 8)) (1#32 <<< (bit % 8))

theorem N32_shl1 (k : Nat) : (2 : Int) ^ k % 4294967296 = N32 (1#32 <<< k) := by
  unfold N32
  rw [BitVec.toNat_shiftLeft, Nat.shiftLeft_eq]
  have h1 : (1#32).toNat * 2 ^ k = 2 ^ k := by rw [show (1#32).toNat = 1 by decide, Nat.one_mul]
  rw [h1, Int.natCast_emod, Int.natCast_pow]
  rfl

set_option maxHeartbeats 400000 in
theorem flip_no (n bit : Int) (w : World) (h : flipOk n bit = false) :
    Calls Try.prog 17 #[.int .i64 n, .int .i64 bit] w fun e w' => e = .returned (.int .u32 0) ∧ w = w' := by
  have h' : n < 1 ∨ (1 ≤ n ∧ 65536 < n) ∨ (1 ≤ n ∧ n ≤ 65536 ∧ bit < 0) ∨ (1 ≤ n ∧ n ≤ 65536 ∧ 0 ≤ bit ∧ 8 * n ≤ bit) := by
    simp [flipOk] at h; omega
  clear h
  rcases h' with h | ⟨h1, h⟩ | ⟨h1, h2, h⟩ | ⟨h1, h2, h3, h⟩
  all_goals
    go_enter Try.func17, Try.ntmps17
    go_wp2
    go_ret
    exact ⟨rfl, rfl⟩

set_option maxHeartbeats 400000 in
theorem flip_yes (n bit : Nat) (w : World) (h1 : 1 ≤ n) (h2 : n ≤ 65536) (h3 : bit < 8 * n) :
    Calls Try.prog 17 #[.int .i64 n, .int .i64 bit] w fun e w' => e = .returned (U32 (flip n bit)) ∧ w = w' := by
  have hr := Lib.hid (show bit % 8 < 8 by omega)
  go_enter Try.func17, Try.ntmps17
  go_wp2
  have hT : bit / 8 ≤ n := by omega
  go_loop [5, 30] (fun r i => ∃ (q : Nat) (y : BitVec 32), q ≤ 8 * (n - bit / 8) ∧ i = .int .i64 q ∧ r = U32 y ∧ Crc.steps (8 * (n - bit / 8) - q) y = flip n bit) (fun _ i => 8 * (n - bit / 8) - (intOf i).toNat)
  case atStart => exact ⟨0, 1#32 <<< (bit % 8), by omega, rfl, congrArg (Value.int .u32) (N32_shl1 _), rfl⟩
  case round =>
    obtain ⟨q, y, hq, rfl, rfl, hst⟩ := hrel
    have Hst := Lib.hid hst
    clear hst
    by_cases hqlt : q < 8 * (n - bit / 8)
    · go_wp2
      go_round
      case rel => exact ⟨q + 1, Crc.step y, by omega, by go_num, rfl, by rw [← Hst.out, show 8 * (n - bit / 8) - q = (8 * (n - bit / 8) - (q + 1)) + 1 by omega]; rfl⟩
      case measure => simp [intOf]; omega
    · have hqe : 8 * (n - bit / 8) - q = 0 := by omega
      go_wp2
      go_ret
      refine ⟨congrArg (fun x => Ending.returned (U32 x)) ?_, rfl⟩
      rw [← Hst.out, hqe]; rfl

/-- The bytes of length n of which the bit alone is 1. -/
def oneBit (n bit : Nat) : List UInt8 := (List.replicate n 0).set (bit / 8) (UInt8.ofNat (2 ^ (bit % 8)))
def refFlip (n bit : Nat) : BitVec 32 := crc (0#32) (List.replicate n 0) ^^^ crc (0#32) (oneBit n bit)

theorem refFlip_no (n bit : Int) (w : World) (h : flipOk n bit = false) :
    Calls Try.prog 18 #[.int .i64 n, .int .i64 bit] w fun e w' => e = .returned (.int .u32 0) ∧ w = w' := by
  have h' : n < 1 ∨ (1 ≤ n ∧ 65536 < n) ∨ (1 ≤ n ∧ n ≤ 65536 ∧ bit < 0) ∨ (1 ≤ n ∧ n ≤ 65536 ∧ 0 ≤ bit ∧ 8 * n ≤ bit) := by
    simp [flipOk] at h; omega
  clear h
  rcases h' with h | ⟨h1, h⟩ | ⟨h1, h2, h⟩ | ⟨h1, h2, h3, h⟩
  all_goals
    go_enter Try.func18, Try.ntmps18
    go_wp2
    go_ret
    exact ⟨rfl, rfl⟩

set_option maxHeartbeats 400000 in
theorem refFlip_yes (n bit : Nat) (w : World) (h1 : 1 ≤ n) (h2 : n ≤ 65536) (h3 : bit < 8 * n) :
    Calls Try.prog 18 #[.int .i64 n, .int .i64 bit] w fun e w' => e = .returned (U32 (refFlip n bit)) ∧ Grow w w' := by
  obtain ⟨i0, hi0, hz0, hs0, hb0⟩ := info_parts byT.info
  go_enter Try.func18, Try.ntmps18
  go_wp2_with (at_make; (refine make_own (d := some 24) n byT rfl rfl rfl rfl (by omega) (by simp [maxLen]; omega) ?_); intro w1 hown hg1)
  have hb1 : OwnBy w1 w.heap.size 5 (some ⟨w.heap.size, 0, none⟩) n n (List.replicate n 0) := by
    have e : (madeCells (Value.cells (.int .u8 0)) (n * 1)).toList = (List.replicate n (0 : UInt8)).map U8 := by
      rw [Nat.mul_one]; exact (toList_madeCells_one _ n).trans (by simp)
    rw [e] at hown; exact hown
  clear hown
  refine (refOf_calls _ _ _ (List.replicate n 0) _ hb1.by).mono ?_
  rintro e w' ⟨rfl, rfl⟩
  have hcell := hb1.cell (j := bit / 8) (by omega)
  have hfr := hb1.frozen (bit / 8)
  generalize (List.replicate n (0 : UInt8)).getD (bit / 8) 0 = c0 at hcell
  have Hb1 := Lib.hid hb1
  have Hg1 := Lib.hid hg1
  have hpw : (2 : Int) ^ (bit % 8) % 256 = ((UInt8.ofNat (2 ^ (bit % 8))).toNat : Int) := by
    rw [UInt8.toNat_ofNat', Int.natCast_emod, Int.natCast_pow]; rfl
  clear hb1 hg1
  generalize hc : UInt8.ofNat (2 ^ (bit % 8)) = c at hpw
  have Hc := Lib.hid hc
  clear hc
  go_wp2_with fail
  obtain ⟨hb2, hg2⟩ := Hb1.out.store (bit / 8) c
  have hone : (List.replicate n (0 : UInt8)).set (bit / 8) c = oneBit n bit := by unfold oneBit; rw [Hc.out]
  rw [hone] at hb2
  refine (refOf_calls _ _ _ (oneBit n bit) _ hb2.by).mono ?_
  rintro e w' ⟨rfl, rfl⟩
  go_wp2_with fail
  go_ret
  exact ⟨rfl, Hg1.out.grown hg2 (fun k e => by cases e; exact Nat.le_refl _)⟩

theorem reg0_one (n bit : Nat) (h3 : bit < 8 * n) : Crc.reg (0#32) (bv (oneBit n bit)) = flip n bit := by
  have hlt : bit / 8 < n := by omega
  have e : bv (oneBit n bit) = List.replicate (bit / 8) 0#8 ++ (BitVec.ofNat 8 (2 ^ (bit % 8))) :: List.replicate (n - bit / 8 - 1) 0#8 := by
    unfold bv oneBit
    rw [List.map_set, List.map_replicate]
    apply List.ext_getElem?
    intro i
    rw [List.getElem?_set]
    by_cases hi : bit / 8 = i
    · subst hi
      simp [hlt]
      rfl
    · rw [if_neg hi]
      by_cases hl : i < bit / 8
      · rw [List.getElem?_append_left (by simpa using hl)]
        simp [show i < n by omega, hl]
      · rw [List.getElem?_append_right (by simp; omega)]
        simp only [List.length_replicate]
        obtain ⟨k, hk⟩ : ∃ k, i - bit / 8 = k + 1 := ⟨i - bit / 8 - 1, by omega⟩
        rw [hk, List.getElem?_cons_succ]
        by_cases hn : i < n
        · simp [hn, show k < n - bit / 8 - 1 by omega]
        · simp [hn, show ¬ k < n - bit / 8 - 1 by omega]
  rw [e, Crc.reg_one]
  unfold flip
  rw [show n - bit / 8 - 1 + 1 = n - bit / 8 by omega]
  congr 1
  have h8 : bit % 8 < 8 := by omega
  generalize bit % 8 = k at h8
  revert k
  decide
theorem bv_xor_zeros (n : Nat) (x : List UInt8) (h : x.length = n) : List.zipWith (· ^^^ ·) (bv x) (bv (List.replicate n 0)) = bv x := by
  subst h
  unfold bv
  apply List.ext_getElem
  · simp
  · intro i h1 h2
    simp
theorem refFlip_eq (n bit : Nat) (h3 : bit < 8 * n) : refFlip n bit = flip n bit := by
  unfold refFlip
  have hl : (oneBit n bit).length = n := by simp [oneBit]
  have h1 : crc (0#32) (oneBit n bit) = crc (0#32) (List.replicate n 0) ^^^ Crc.reg 0#32 (bv (oneBit n bit)) := by
    unfold crc
    rw [← Crc.ext_xor_zero _ _ _ (by simp [bv, hl])]
    congr 1
    apply List.ext_getElem
    · simp [bv, hl]
    · intro i h1 h2; simp [bv]
  rw [h1, reg0_one n bit h3, ← BitVec.xor_assoc]
  simp
end Go.Proofs.Ytaecdikglfdfnaa
