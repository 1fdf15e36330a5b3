/- The contracts of check.table, check.Extend, check.Of and of the reference's Extend and Of: the checksum of the plain law. -/
import Derived.Test.YtaecdikglfdfnaaRows
import Derived.Test.YtaecdikglfdfnaaCrc
import Derived.Test.YtaecdikglfdfnaaBase
namespace Go.Proofs.Ytaecdikglfdfnaa
open Go.RowKit

@[go_sem] theorem N32_poly (x : BitVec 32) : bits .and .u32 3988292384 (N32 x) = N32 (Crc.poly &&& x) := N32_and Crc.poly x
theorem step_eq (y : BitVec 32) : y >>> 1 ^^^ (Crc.poly &&& -(y &&& 1#32)) = Crc.step y := rfl

def tabList : List Value := (List.range 16).map fun i => U32 (Crc.tab i)

theorem tab_one : tabList.toArray.all (·.oneCell') = true := by
  apply all_oneCell_toArray
  intro v hv
  simp only [tabList, List.mem_map] at hv
  obtain ⟨i, _, rfl⟩ := hv
  rfl
theorem tab_size : tabList.toArray.size = 16 := by simp [tabList]
theorem info16 : (Try.prog.info? 40).map (·.size) = some 16 := by kernel_rfl
theorem und16 : Try.prog.underlying 40 = some (.array 16 25) := by kernel_rfl

set_option maxHeartbeats 400000 in
theorem table_calls (w : World) :
    Calls Try.prog 20 #[] w fun e w' => e = .returned (.agg tabList.toArray) ∧ Grow w w' := by
  go_enter Try.func20, Try.ntmps20
  go_wp2
  go_loopw [4] (fun i wr => ∃ (k : Nat) (old cur : Array Value), k ≤ 16 ∧ i = .int .i64 k ∧ wr.heap[w.heap.size]? = some (.cells old 40 (0, 0)) ∧ old.size = 16 ∧ wr.heap[w.heap.size + 1]? = some (.cells cur 40 (0, 0)) ∧ cur.size = 16 ∧ (∀ j, j < k → cur[j]? = some (U32 (Crc.tab j))) ∧ Grow w wr) (fun i _ => 16 - (intOf i).toNat)
  case atStart =>
    exact ⟨0, _, _, by omega, rfl, heap_alloc2_old _ _ _, by simp, heap_alloc2_new _ _ _, by simp, fun j hj => by omega, ((Grow.refl _).alloc _).alloc _⟩
  case round =>
    obtain ⟨k, old, cur, hk, rfl, hold, hosz, hcur, hsz, htab, hb⟩ := hrel
    have Hold := Lib.hid hold
    have Hosz := Lib.hid hosz
    have Hsz := Lib.hid hsz
    have Htab := Lib.hid htab
    have Hcur := Lib.hid hcur
    clear hold hosz hsz htab hcur
    by_cases hlt : k < 16
    · go_wp2
      go_loop [3, 9] (fun x j => ∃ (q : Nat) (y : BitVec 32), q ≤ 4 ∧ j = .int .i64 q ∧ x = U32 y ∧ Crc.steps (4 - q) y = Crc.tab k) (fun _ i => 4 - (intOf i).toNat)
      case atStart => exact ⟨0, BitVec.ofNat 32 k, by omega, rfl, by simp [N32]; omega, rfl⟩
      case round =>
        obtain ⟨q, y, hq, rfl, rfl, hst⟩ := hrel
        have Hst := Lib.hid hst
        clear hst
        by_cases hqlt : q < 4
        · go_wp2
          go_round
          case rel => exact ⟨q + 1, Crc.step y, by omega, by go_num, rfl, by rw [← Hst.out, show 4 - q = (4 - (q + 1)) + 1 by omega]; rfl⟩
          case measure => simp [intOf]; omega
        · have hc : wr.cell? ⟨w.heap.size + 1, k, none⟩ = some (cur.getD k undef) := by
            rw [cell_of_row _ _ k _ _ _ Hcur.out]; have := Hsz.out; simp [this, hlt]
          have hf : wr.frozen? ⟨w.heap.size + 1, k, none⟩ = false := frozen_of_row _ _ k _ _ Hcur.out
          go_wp2
          go_roundw
          case rel =>
            have hwr := wrote_setCell wr _ k _ _ (U32 y) Hcur.out
            refine ⟨k + 1, old, cur.setIfInBounds k (U32 y), by omega, by go_num, hwr.other (by omega) Hold.out, Hosz.out, hwr.at_, by simp; exact Hsz.out, ?_, hwr.grow hb (by omega)⟩
            intro j hj
            rw [Array.getElem?_setIfInBounds]
            by_cases hjk : k = j
            · subst hjk
              rw [if_pos rfl, if_pos (by have := Hsz.out; omega)]
              have h4 : q = 4 := by omega
              have := Hst.out
              subst h4
              rw [← this]; rfl
            · rw [if_neg hjk]; exact Htab.out j (by omega)
          case measure => simp [intOf]; omega
    · obtain rfl : k = 16 := by omega
      have hcl : cur = tabList.toArray := by
        apply Array.ext_getElem?
        intro i
        by_cases hi : i < 16
        · rw [Htab.out i hi]; simp [tabList, hi]
        · rw [Array.getElem?_eq_none (by have := Hsz.out; omega), Array.getElem?_eq_none (by simp [tabList]; omega)]
      subst hcl
      go_wp2_with (first | (with_reducible refine wpList_load_row rfl _ _ rfl _ rfl _ _ _ _ Hcur.out und16 rfl (by rw [tab_size]; exact info16) ?_) | (((with_reducible refine store_row rfl _ _ _ rfl _ _ _ _ rfl rfl Hold.out (by rw [tab_size]; exact info16) (by rw [tab_size]; exact Hosz.out) tab_one ?_); intro w1 hw1)))
      exact bodyPost_ret (results_cell_row (d := .array 16 25) rfl _ _ _ _ _ _ rfl hw1.at_ und16 rfl (by rw [tab_size]; exact info16)) rfl ⟨rfl, hw1.grow hb (Nat.le_refl _)⟩
end Go.Proofs.Ytaecdikglfdfnaa
