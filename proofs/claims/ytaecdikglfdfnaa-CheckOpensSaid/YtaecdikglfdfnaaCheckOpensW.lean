/- The contract of graftlaw03.CheckOpens. -/
import Derived.Test.YtaecdikglfdfnaaCheckH
namespace Go.Proofs.Ytaecdikglfdfnaa
open Go.RowKit

set_option maxRecDepth 100000 in
set_option maxHeartbeats 400000 in
theorem checkOpens_calls (a : Option Addr) (n cap : Nat) (bs : List UInt8) (w : World) (hp : By w a n cap bs) :
    Calls Try.prog 6 #[.slice a n cap] w fun e w' => e = .returned (.bool true) ∧ Grow w w' := by
  have h63 := hp.lt63
  have HL := Lib.hid hp.len
  have HP := Lib.hid hp
  clear hp
  by_cases hn : 1000 < n
  · go_enter Try.func6, Try.ntmps6
    go_wp2_with (go_at_call 8; (refine (alive_calls _).mono ?_); rintro e w1 ⟨rfl, hg1⟩)
    go_ret
    exact ⟨rfl, hg1⟩
  · go_enter Try.func6, Try.ntmps6
    go_wp2_with fail
    refine (open_calls _ _ _ bs _ HP.out (by omega)).mono ?_
    rintro e w1 (⟨hno, rfl, hg1⟩ | ⟨hyes, a1, c1, rfl, ho1, hg1⟩)
    · have hr : openedLen bs = -1 := by unfold openedLen; rw [hno]; rfl
      have Hno := Lib.hid hno
      have Hg1 := Lib.hid hg1
      clear hno hg1
      go_wp2_with fail
      refine (refOpen_calls _ _ _ bs _ (HP.out.grow Hg1.out) (by omega)).mono ?_
      rintro e w2 ⟨rfl, hg2⟩
      rw [hr]
      have Hg2 := Lib.hid (Hg1.out.trans hg2)
      clear hr hg2
      go_wp2_with (go_at_call 8; (refine (alive_calls _).mono ?_); rintro e w3 ⟨rfl, hg3⟩)
      go_ret
      exact ⟨rfl, Hg2.out.trans hg3⟩
    · obtain ⟨m, rfl⟩ : ∃ m, n = m + 4 := ⟨n - 4, by
        have := HL.out
        have h4 : 4 ≤ bs.length := by
          refine Classical.byContradiction fun h => ?_
          unfold opened at hyes; rw [if_neg (fun k => h k.1)] at hyes; cases hyes
        omega⟩
      have hm : bs.length - 4 = m := by have := HL.out; omega
      have hr : openedLen bs = m := by unfold openedLen; rw [hyes]; simp [hm]
      rw [hm] at ho1
      rw [hm]
      have Ho1 := Lib.hid ho1
      have Hg1 := Lib.hid hg1
      clear hyes hg1 ho1 hm
      go_wp2_with fail
      refine (refOpen_calls _ _ _ bs _ (HP.out.grow Hg1.out) (by omega)).mono ?_
      rintro e w2 ⟨rfl, hg2⟩
      rw [hr]
      have Hg12 := Lib.hid hg2
      have Hg2 := Lib.hid (Hg1.out.trans hg2)
      clear hr hg2
      have hmc : m ≤ cap := by omega
      go_wp2_with (go_at_call 8; (refine (alive_calls _).mono ?_); rintro e w3 ⟨rfl, hg3⟩)
      refine (equal_calls _ _ _ (bs.take m) _ _ _ (bs.take m) _ ((Ho1.out.by.grow Hg12.out).grow hg3) (((HP.out.upto m (by omega)).grow Hg2.out).grow hg3)).mono ?_
      rintro e w4 ⟨rfl, hg4⟩
      rw [decide_eq_true (rfl : bs.take m = bs.take m)]
      go_wp2_with fail
      go_ret
      exact ⟨rfl, (Hg2.out.trans hg3).trans hg4⟩
end Go.Proofs.Ytaecdikglfdfnaa
