/- The contract of slices.Equal on bytes. -/
import Derived.Test.YtaecdikglfdfnaaRows
import Derived.Test.YtaecdikglfdfnaaBase
namespace Go.Proofs.Ytaecdikglfdfnaa
open Go.RowKit

set_option maxHeartbeats 400000 in
theorem equal_calls (a1 : Option Addr) (n1 c1 : Nat) (xs : List UInt8) (a2 : Option Addr) (n2 c2 : Nat) (ys : List UInt8) (w : World)
    (h1 : By w a1 n1 c1 xs) (h2 : By w a2 n2 c2 ys) :
    Calls Try.prog 14 #[.slice a1 n1 c1, .slice a2 n2 c2] w fun e w' => e = .returned (.bool (decide (xs = ys))) ∧ Grow w w' := by
  have hn := h1.lt63.1
  have H1 := Lib.hid h1
  have H2 := Lib.hid h2
  have L1 := Lib.hid h1.len
  have L2 := Lib.hid h2.len
  clear h1 h2
  by_cases hne : n1 = n2
  · subst hne
    have hb : ((n1 : Int) != n1) = false := by simp
    go_enter Try.func14, Try.ntmps14
    go_wp2
    go_loopw [13] (fun i wr => ∃ (k : Nat), k ≤ n1 ∧ i = .int .i64 k ∧ xs.take k = ys.take k ∧ Grow w wr) (fun i _ => n1 - (intOf i).toNat)
    case atStart => exact ⟨0, by omega, rfl, rfl, Grow.refl _⟩
    case round =>
      obtain ⟨k, hk, rfl, htk, hg⟩ := hrel
      have Htk := Lib.hid htk
      have Hg := Lib.hid hg
      clear htk hg
      have hkx : k < n1 → k < xs.length := fun h => by have := L1.out; omega
      have hky : k < n1 → k < ys.length := fun h => by have := L2.out; omega
      have Hkx := Lib.hid hkx
      have Hky := Lib.hid hky
      clear hkx hky
      by_cases hlt : k < n1
      · obtain ⟨b1, o1, rfl, hc1⟩ := (H1.out.grow Hg.out).at hlt
        obtain ⟨b2, o2, rfl, hc2⟩ := (H2.out.grow Hg.out).at hlt
        have hcell1 := hc1 k hlt
        have hcell2 := hc2 k hlt
        clear hc1 hc2
        rw [getD_lt _ _ _ (Hkx.out hlt)] at hcell1
        rw [getD_lt _ _ _ (Hky.out hlt)] at hcell2
        generalize hx : xs[k]'(Hkx.out hlt) = x at hcell1
        generalize hy : ys[k]'(Hky.out hlt) = y at hcell2
        have HX := Lib.hid hx
        have HY := Lib.hid hy
        clear hx hy
        by_cases hxy : x = y
        · have hd : ((x.toNat : Int) != (y.toNat : Int)) = false := by rw [hxy]; simp
          have HXY := Lib.hid hxy
          clear hxy
          go_wp2
          go_quiet (fail)
          go_wp2
          go_roundw
          case rel => exact ⟨k + 1, by omega, by go_num, take_eq_snoc Htk.out (Hkx.out hlt) (Hky.out hlt) (by rw [HX.out, HY.out, HXY.out]), Hg.out.drewN _⟩
          case measure => simp [intOf]; omega
        · have hd : ((x.toNat : Int) != (y.toNat : Int)) = true := by
            simp; intro h; exact hxy (UInt8.toNat_inj.1 (by omega))
          have HXY := Lib.hid hxy
          clear hxy
          go_wp2
          go_quiet (fail)
          go_wp2
          go_ret
          refine ⟨ret_bool ?_, Hg.out.drewN _⟩
          rw [eq_comm, decide_eq_false_iff_not]
          intro e
          refine HXY.out ?_
          rw [← HX.out, ← HY.out]; subst e; rfl
      · have hke : k = n1 := by omega
        go_wp2
        go_ret
        refine ⟨ret_bool ?_, Hg.out⟩
        have e := Htk.out
        rw [hke, List.take_of_length_le (by have := L1.out; omega), List.take_of_length_le (by have := L2.out; omega)] at e
        simp [e]
  · have hb : ((n1 : Int) != n2) = true := by simp; omega
    go_enter Try.func14, Try.ntmps14
    go_wp2
    go_ret
    refine ⟨congrArg (fun b => Ending.returned (.bool b)) ?_, Grow.refl _⟩
    have := L1.out; have := L2.out
    rw [eq_comm, decide_eq_false_iff_not]; rintro rfl; omega
end Go.Proofs.Ytaecdikglfdfnaa
