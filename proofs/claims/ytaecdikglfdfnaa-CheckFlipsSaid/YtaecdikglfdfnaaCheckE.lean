/- The contracts of check.Open and of the reference's Open. -/
import Derived.Test.YtaecdikglfdfnaaCheckD
namespace Go.Proofs.Ytaecdikglfdfnaa
open Go.RowKit
/-- The bytes of which bs is the sealed record. -/
def opened (bs : List UInt8) : Option (List UInt8) :=
  if 4 ≤ bs.length ∧ sealed (bs.take (bs.length - 4)) = bs then some (bs.take (bs.length - 4)) else none
theorem le4_shift (S : BitVec 32) (k : Nat) (hk : k < 4) : N32 S / (2 : Int) ^ (8 * k) % 256 = (((le4 S).getD k 0).toNat : Int) := by
  obtain rfl | rfl | rfl | rfl : k = 0 ∨ k = 1 ∨ k = 2 ∨ k = 3 := by omega
  · rw [show (2 : Int) ^ (8 * 0) = 1 by decide, Int.ediv_one, N32_lo8]; rfl
  · rw [show (2 : Int) ^ (8 * 1) = 256 by decide, N32_shr8, N32_lo8]; rfl
  · rw [show (2 : Int) ^ (8 * 2) = 65536 by decide, N32_shr16, N32_lo8]; rfl
  · rw [show (2 : Int) ^ (8 * 3) = 16777216 by decide, N32_shr24, N32_lo8]; rfl
theorem sealed_iff {bs : List UInt8} {m : Nat} (hl : bs.length = m + 4) : sealed (bs.take (bs.length - 4)) = bs ↔ bs.drop m = le4 (crc (0#32) (bs.take m)) := by
  rw [show bs.length - 4 = m by omega]
  unfold sealed
  constructor
  · intro h
    have h2 := congrArg (List.drop m) h
    rw [List.drop_append, List.drop_of_length_le (by simp; omega)] at h2
    rw [← h2, List.length_take, show m - min m bs.length = 0 by omega, List.drop_zero, List.nil_append]
  · intro h; rw [← h]; exact List.take_append_drop m bs
theorem opened_none {bs : List UInt8} {m : Nat} (hl : bs.length = m + 4) (h : bs.drop m ≠ le4 (crc (0#32) (bs.take m))) : opened bs = none := by
  unfold opened; rw [if_neg]; rintro ⟨_, h2⟩; exact h ((sealed_iff hl).1 h2)
theorem opened_some {bs : List UInt8} {m : Nat} (hl : bs.length = m + 4) (h : bs.drop m = le4 (crc (0#32) (bs.take m))) : opened bs = some (bs.take (bs.length - 4)) := by
  unfold opened; rw [if_pos ⟨by omega, (sealed_iff hl).2 h⟩]
def OpenPost (w : World) (bs : List UInt8) (e : Ending) (w' : World) : Prop :=
  (opened bs = none ∧ e = .returned (.tuple #[.slice none 0 0, .bool false]) ∧ Grow w w') ∨
  (opened bs = some (bs.take (bs.length - 4)) ∧ ∃ a' cap', e = .returned (.tuple #[.slice a' (bs.length - 4) cap', .bool true]) ∧ OwnBy w' w.heap.size 5 a' (bs.length - 4) cap' (bs.take (bs.length - 4)) ∧ Grow w w')

set_option maxHeartbeats 400000 in
theorem open_calls (a : Option Addr) (n cap : Nat) (bs : List UInt8) (w : World) (hp : By w a n cap bs) (hn : n ≤ 1000000) :
    Calls Try.prog 15 #[.slice a n cap] w (OpenPost w bs) := by
  have hc := hp.2.1
  have HL := Lib.hid hp.len
  have HP := Lib.hid hp
  clear hp
  by_cases h4 : n < 4
  · go_enter Try.func15, Try.ntmps15
    go_wp2
    go_ret2
    refine .inl ⟨?_, rfl, Grow.refl _⟩
    unfold opened; rw [if_neg (by have := HL.out; omega)]
  · obtain ⟨m, rfl⟩ : ∃ m, n = m + 4 := ⟨n - 4, by omega⟩
    have ht : (bs.take m).length = m := by have := HL.out; simp; omega
    have hm : By w a m cap (bs.take m) := HP.out.upto m (by omega)
    have Hm := Lib.hid hm
    have Ht := Lib.hid ht
    clear hm ht
    go_enter Try.func15, Try.ntmps15
    go_wp2_with (go_at_call 9; (refine (of_calls _ _ _ [bs.take m] _ (Parts.one Hm.out _)).mono ?_); rintro e w1 ⟨rfl, hg1⟩; (have hg : Grow w w1 := ((Grow.refl w).alloc _).trans hg1); clear hg1)
    have hd : By w1 (cutA a cap m 1) 4 (cap - m) (bs.drop m) := by
      have := (HP.out.grow hg).from m (by omega)
      rwa [Nat.add_sub_cancel_left] at this
    generalize cutA a cap m 1 = ca at *
    generalize hS : crc (0#32) (bs.take m) = S
    have HS := Lib.hid hS
    have HD := Lib.hid hd
    have Hg := Lib.hid hg
    have hdl : (bs.drop m).length = 4 := hd.len
    generalize hD : bs.drop m = ds at *
    have HDs := Lib.hid hD
    have HDL := Lib.hid hdl
    clear hS hd hg hD hdl
    go_loop [22] (fun i => ∃ (k : Nat), k ≤ 4 ∧ i = .int .i64 k ∧ ds.take k = (le4 S).take k) (fun i => 4 - (intOf i).toNat)
    case atStart => exact ⟨0, by omega, rfl, rfl⟩
    case round =>
      obtain ⟨k, hk, rfl, htk⟩ := hrel
      have Htk := Lib.hid htk
      clear htk
      by_cases hlt : k < 4
      · obtain ⟨b, o, rfl, hcs⟩ := HD.out.at hlt
        have hcell := hcs k hlt
        clear hcs
        generalize hx : ds.getD k 0 = x at hcell
        have HX := Lib.hid hx
        clear hx
        generalize hy : (le4 S).getD k 0 = y
        have hsh : N32 S / (2 : Int) ^ (8 * k) % 256 = (y.toNat : Int) := by rw [← hy]; exact le4_shift S k hlt
        have HY := Lib.hid hy
        clear hy
        by_cases hxy : x = y
        · have hd : ((x.toNat : Int) != (y.toNat : Int)) = false := by rw [hxy]; simp
          have HXY := Lib.hid hxy
          clear hxy
          go_wp2
          go_round
          case rel =>
            refine ⟨k + 1, by omega, by go_num, ?_⟩
            have hkd : k < ds.length := by have := HDL.out; omega
            exact take_eq_snoc Htk.out hkd hlt (by rw [← getD_lt ds k 0 hkd, HX.out, HXY.out, ← HY.out]; exact getD_lt _ _ _ hlt)
          case measure => simp [intOf]; omega
        · have hd : ((x.toNat : Int) != (y.toNat : Int)) = true := by
            simp; intro h; exact hxy (UInt8.toNat_inj.1 (by omega))
          have HXY := Lib.hid hxy
          clear hxy
          go_wp2
          go_ret2
          refine .inl ⟨?_, rfl, Hg.out⟩
          refine opened_none HL.out ?_
          rw [HS.out, HDs.out]
          intro e
          refine HXY.out ?_
          rw [← HX.out, ← HY.out, e]
      · have hke : k = 4 := by omega
        have hop : opened bs = some (bs.take (bs.length - 4)) := by
          refine opened_some HL.out ?_
          rw [HS.out, HDs.out]
          have := Htk.out
          rw [hke, List.take_of_length_le (by have := HDL.out; omega)] at this
          rw [this]; rfl
        have Hop := Lib.hid hop
        clear hop
        go_wp2_with (at_builtin; (refine append_own m byT (base := w1.heap.size) rfl (Own.nil _ _ _ _) rfl (Hm.out.grow Hg.out) (u8s_one _) (by omega) (by simp [maxLen]; omega) (Nat.le_refl _) (by omega) ?_); intro a' cap' w2 hown hg2)
        go_ret2
        refine .inr ⟨Hop.out, a', cap', ?_, ?_, Hg.out.grown hg2 (fun k e => by cases e)⟩
        · rw [show bs.length - 4 = m by have := HL.out; omega]; rfl
        · rw [show bs.length - 4 = m by have := HL.out; omega]
          exact hown.mono Hg.out.size
end Go.Proofs.Ytaecdikglfdfnaa
