/- The contracts of check.Extend, check.Of and of the reference's Extend and Of: the checksum of the plain law. -/
import Derived.Test.YtaecdikglfdfnaaCheckA
namespace Go.Proofs.Ytaecdikglfdfnaa
open Go.RowKit
def bv (bs : List UInt8) : List (BitVec 8) := bs.map UInt8.toBitVec
def crc (s : BitVec 32) (bs : List UInt8) : BitVec 32 := Crc.ext s (bv bs)
def reg (s : BitVec 32) (bs : List UInt8) : BitVec 32 := Crc.reg s (bv bs)

theorem take_snoc (p : List UInt8) (q : Nat) (h : q < p.length) : p.take (q + 1) = p.take q ++ [p[q]] := List.take_succ_eq_append_getElem h
theorem reg_append (r : BitVec 32) (a b : List UInt8) : reg r (a ++ b) = reg (reg r a) b := by simp [reg, bv, Crc.reg]
theorem reg_snoc (r : BitVec 32) (a : List UInt8) (c : UInt8) : reg r (a ++ [c]) = Crc.byte (reg r a) c.toBitVec := by simp [reg, bv, Crc.reg]
theorem lo_lt (y : BitVec 32) : 0 ≤ N32 (y &&& 15#32) ∧ N32 (y &&& 15#32) < 16 := by
  have : (y &&& 15#32).toNat ≤ 15 := by rw [BitVec.toNat_and]; exact Nat.and_le_right
  unfold N32; omega

set_option maxHeartbeats 400000 in
theorem extend_calls (s : BitVec 32) (a : Option Addr) (n cap : Nat) (ps : List (List UInt8)) (w : World) (hp : Parts w a n cap ps) :
    Calls Try.prog 11 #[U32 s, .slice a n cap] w fun e w' => e = .returned (U32 (crc s ps.flatten)) ∧ Grow w w' := by
  have hn := hp.lt63.1
  go_enter Try.func11, Try.ntmps11
  go_wp2_with (first | (go_at_call 20; (with_reducible refine (table_calls _).mono ?_); rintro e w1 ⟨rfl, hg1⟩) | ((refine store_row rfl _ _ _ rfl _ _ _ _ rfl rfl (heap_alloc_new _ _) (by rw [tab_size]; exact info16) (by rw [tab_size]; rfl) tab_one ?_); intro w2 hw2))
  have hg2 : Grow w w2 := hw2.grow (hg1.alloc _) hg1.size
  have hp2 := hp.grow hg2
  have Htab : Hid (∀ j, j < 16 → w2.cell? ⟨w1.heap.size, j, none⟩ = some (U32 (Crc.tab j))) := fun j hj => by
    rw [cell_of_row _ _ j _ _ _ hw2.at_]; simp [tabList, hj]
  have Hg2 := Lib.hid hg2
  clear hp hg1 hw2 hg2
  have hl := hp2.len
  go_loop [6, 16] (fun r i => ∃ (k : Nat), k ≤ n ∧ i = .int .i64 k ∧ r = U32 (reg (~~~s) (ps.take k).flatten)) (fun _ i => n - (intOf i).toNat)
  case atStart => exact ⟨0, by omega, rfl, rfl⟩
  case round =>
    obtain ⟨k, hk, rfl, rfl⟩ := hrel
    generalize hR : reg (~~~s) (ps.take k).flatten = R
    have HR := Lib.hid hR
    have HL := Lib.hid hl
    have HP := Lib.hid hp2
    clear hR hl hp2
    by_cases hlt : k < n
    · obtain ⟨b, o, rfl, hc⟩ := HP.out.at hlt
      obtain ⟨a', c', hcell, hby⟩ := hc k hlt
      clear hc
      have hq9 := hby.lt63.1
      generalize hP : ps.getD k [] = p at hcell hby hq9
      have HB := Lib.hid hby
      have HPk := Lib.hid hP
      clear hby hP
      go_wp2
      go_loop [6, 22] (fun r i => ∃ (q : Nat), q ≤ p.length ∧ i = .int .i64 q ∧ r = U32 (reg R (p.take q))) (fun _ i => p.length - (intOf i).toNat)
      case atStart => exact ⟨0, by omega, rfl, rfl⟩
      case round =>
        obtain ⟨q, hq, rfl, rfl⟩ := hrel
        generalize hX : reg R (p.take q) = X
        have HX := Lib.hid hX
        clear hX
        by_cases hqlt : q < p.length
        · obtain ⟨b2, o2, rfl, hc2⟩ := HB.out.at hqlt
          have hcell2 := hc2 q hqlt
          clear hc2
          generalize hC : p.getD q 0 = c at hcell2
          have HC := Lib.hid hC
          clear hC
          rw [U8_eq] at hcell2
          have hc8 := w8_le c
          have hlo : ∀ y : BitVec 32, 0 ≤ N32 (y &&& 15#32) ∧ N32 (y &&& 15#32) < 16 := lo_lt
          have hix : ∀ y : BitVec 32, w2.cell? ⟨w1.heap.size, (N32 (y &&& 15#32)).toNat, none⟩ = some (U32 (Crc.tab (y &&& 15#32).toNat)) := fun y => Htab.out _ (by have := lo_lt y; omega)
          go_wp2

          go_round
          case rel =>
            refine ⟨q + 1, by omega, by go_num, congrArg U32 ?_⟩
            rw [take_snoc p q hqlt, reg_snoc, HX.out]
            have := HC.out
            rw [getD_lt _ _ _ hqlt] at this
            rw [this]
            exact Crc.byte_nib X c.toBitVec
          case measure => simp [intOf]; omega
        · have hqe : q = p.length := by omega
          go_wp2
          go_round
          case rel =>
            refine ⟨k + 1, by omega, by go_num, congrArg U32 ?_⟩
            have := HPk.out
            rw [getD_lt _ _ _ (by have := HL.out; omega)] at this
            rw [List.take_succ_eq_append_getElem (by have := HL.out; omega), List.flatten_append, reg_append, HR.out, this]
            rw [← HX.out, hqe]; simp
          case measure => simp [intOf]; omega
    · have hke : k = n := by omega
      go_wp2
      go_ret
      refine ⟨congrArg (fun x => Ending.returned (U32 x)) ?_, Hg2.out⟩
      rw [← HR.out, hke, List.take_of_length_le (by have := HL.out; omega)]
      rfl
end Go.Proofs.Ytaecdikglfdfnaa
