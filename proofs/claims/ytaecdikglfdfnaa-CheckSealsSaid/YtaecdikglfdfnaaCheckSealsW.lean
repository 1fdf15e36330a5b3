/- The contract of graftlaw03.CheckSeals. -/
import Derived.Test.YtaecdikglfdfnaaCheckH
namespace Go.Proofs.Ytaecdikglfdfnaa
open Go.RowKit

set_option maxRecDepth 100000 in
set_option maxHeartbeats 1000000 in
theorem checkSeals_calls (a : Option Addr) (n cap : Nat) (bs : List UInt8) (w : World) (hp : By w a n cap bs) :
    Calls Try.prog 5 #[.slice a n cap] w fun e w' => e = .returned (.bool true) ∧ Grow w w' := by
  have h63 := hp.lt63
  have HL := Lib.hid hp.len
  have HP := Lib.hid hp
  clear hp
  by_cases hn : 1000 < n
  · go_enter Try.func5, Try.ntmps5
    go_wp2_with (go_at_call 8; (refine (alive_calls _).mono ?_); rintro e w1 ⟨rfl, hg1⟩)
    go_ret
    exact ⟨rfl, hg1⟩
  · go_enter Try.func5, Try.ntmps5
    go_wp2_with (at_builtin; (refine append_own (d := some 15) n byT (base := w.heap.size) rfl (Own.lit _ #[] 0 (Nat.le_refl _) (by simp [maxLen]) rfl) rfl (HP.out.grow ((Grow.refl _).alloc _)) (u8s_one _) (by omega) (by simp [maxLen]; omega) (by simp) (by omega) ?_); intro a1 c1 w1 hown hg1)
    have Hg1 := Lib.hid (show Grow w w1 from ((Grow.refl w).alloc _).grown hg1 (fun k e => by cases e; exact Nat.le_refl _))
    have HO := Lib.hid (show By w1 a1 n c1 bs from Own.sl hown)
    clear hg1 hown
    refine (seal_calls _ _ _ bs _ HO.out (by omega)).mono ?_
    rintro e w2 ⟨a2, c2, rfl, ho2, hg2⟩
    have HS := Lib.hid ho2.by
    have HO2 := Lib.hid (HO.out.grow hg2)
    have Hg2 := Lib.hid (Hg1.out.trans hg2)
    clear hg2 ho2 HO Hg1
    go_wp2_with fail
    refine (refSeal_calls _ _ _ bs _ (HP.out.grow Hg2.out) (by omega)).mono ?_
    rintro e w3 ⟨a3, c3, rfl, ho3, hg3⟩
    have HW := Lib.hid ho3.by
    have HS3 := Lib.hid (HS.out.grow hg3)
    have HO3 := Lib.hid (HO2.out.grow hg3)
    have Hg3 := Lib.hid (Hg2.out.trans hg3)
    clear hg3 ho3 HS HO2 Hg2
    go_wp2_with fail
    refine (equal_calls _ _ _ (sealed bs) _ _ _ (sealed bs) _ HS3.out HW.out).mono ?_
    rintro e w4 ⟨rfl, hg4⟩
    rw [decide_eq_true (rfl : sealed bs = sealed bs)]
    have HW4 := Lib.hid (HW.out.grow hg4)
    have HS4 := Lib.hid (HS3.out.grow hg4)
    have HO4 := Lib.hid (HO3.out.grow hg4)
    have Hg4 := Lib.hid (Hg3.out.trans hg4)
    clear hg4 HW HS3 HO3 Hg3
    go_wp2_with fail
    refine (equal_calls _ _ _ bs _ _ _ bs _ HO4.out (HP.out.grow Hg4.out)).mono ?_
    rintro e w5 ⟨rfl, hg5⟩
    rw [decide_eq_true (rfl : bs = bs)]
    have HW5 := Lib.hid (HW4.out.grow hg5)
    have HS5 := Lib.hid (HS4.out.grow hg5)
    have Hg5 := Lib.hid (Hg4.out.trans hg5)
    clear hg5 HW4 HS4 HO4 Hg4
    go_wp2_with fail
    refine (open_calls _ _ _ (sealed bs) _ HS5.out (by omega)).mono ?_
    have hsl : (sealed bs).length - 4 = n := by have := HL.out; simp [sealed, le4]; omega
    have hst : (sealed bs).take n = bs := by have := HL.out; subst this; simp [sealed]
    rintro e w6 (⟨hno, _⟩ | ⟨_, a6, c6, rfl, ho6, hg6⟩)
    · rw [opened_sealed] at hno; cases hno
    rw [hsl, hst] at ho6
    rw [hsl]
    have HC := Lib.hid ho6
    have Hg56 := Lib.hid hg6
    clear hg6 ho6 hsl hst
    go_wp2_with fail
    refine (equal_calls _ _ _ bs _ _ _ bs _ HC.out.by (HP.out.grow (Hg5.out.trans Hg56.out))).mono ?_
    rintro e w7 ⟨rfl, hg7⟩
    rw [decide_eq_true (rfl : bs = bs)]
    have HC7 := Lib.hid (HC.out.grow hg7)
    have Hg57 := Lib.hid (Hg56.out.trans hg7)
    clear hg7 HC Hg56
    go_wp2_with fail
    go_loopw [45] (fun i wr => ∃ (k : Nat) (cs : List UInt8), k ≤ n ∧ i = .int .i64 k ∧ OwnBy wr w5.heap.size 5 a6 n c6 cs ∧ Grow w5 wr) (fun i _ => n - (intOf i).toNat)
    case atStart => exact ⟨0, bs, by omega, rfl, HC7.out, Hg57.out⟩
    case round =>
      obtain ⟨k, cs, hk, rfl, hown, hg⟩ := hrel
      have Hown := Lib.hid hown
      have Hg := Lib.hid hg
      clear hown hg
      by_cases hlt : k < n
      · obtain ⟨g, rfl, hgb, hgl⟩ := Hown.out.addr (by omega)
        have hcell := Hown.out.cell hlt
        have hfr := Hown.out.frozen k
        generalize cs.getD k 0 = c at hcell
        go_wp2
        go_roundw
        case rel =>
          have hst := Hown.out.store k (c + 1)
          have hv : (((c + 1).toNat : Nat) : Int) = ((c.toNat : Int) + 1) % 256 := by
            rw [UInt8.toNat_add]; simp
          have e : U8 (c + 1) = .int .u8 (((c.toNat : Int) + 1) % 256) := congrArg (Value.int .u8) hv
          rw [e] at hst
          exact ⟨k + 1, _, by omega, by go_num, hst.1, Hg.out.grown hst.2 (fun k e => by cases e; exact hgb)⟩
        case measure => simp [intOf]; omega
      · go_wp2_with (go_at_call 8; (refine (alive_calls _).mono ?_); rintro e w8 ⟨rfl, hg8⟩)
        refine (equal_calls _ _ _ (sealed bs) _ _ _ (sealed bs) _ ((HS5.out.grow Hg.out).grow hg8) ((HW5.out.grow Hg.out).grow hg8)).mono ?_
        rintro e w9 ⟨rfl, hg9⟩
        rw [decide_eq_true (rfl : sealed bs = sealed bs)]
        go_wp2_with fail
        go_ret
        exact ⟨rfl, ((Hg5.out.trans Hg.out).trans hg8).trans hg9⟩
end Go.Proofs.Ytaecdikglfdfnaa
