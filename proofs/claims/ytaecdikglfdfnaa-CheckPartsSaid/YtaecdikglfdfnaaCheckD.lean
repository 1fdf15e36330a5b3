/- The contracts of check.Seal, check.Open and of the reference's Seal and Open. -/
import Derived.Test.YtaecdikglfdfnaaCheckC
import Derived.Test.YtaecdikglfdfnaaBytesA
import Derived.Test.YtaecdikglfdfnaaTypes
namespace Go.Proofs.Ytaecdikglfdfnaa
open Go.RowKit
/-- A word as four bytes, the least significant one first. -/
def le4 (s : BitVec 32) : List UInt8 := [lo8 s, lo8 (s >>> 8), lo8 (s >>> 16), lo8 (s >>> 24)]
def sealed (bs : List UInt8) : List UInt8 := bs ++ le4 (crc (0#32) bs)

set_option maxHeartbeats 400000 in
theorem seal_calls (a : Option Addr) (n cap : Nat) (bs : List UInt8) (w : World) (hp : By w a n cap bs) (hn : n ≤ 1000000) :
    Calls Try.prog 12 #[.slice a n cap] w fun e w' => ∃ a' cap', e = .returned (.slice a' (n + 4) cap') ∧ OwnBy w' w.heap.size 5 a' (n + 4) cap' (sealed bs) ∧ Grow w w' := by
  have hc := hp.2.1
  have HP := Lib.hid hp
  clear hp
  go_enter Try.func12, Try.ntmps12
  go_wp2_with (first | (go_at_call 9; (refine (of_calls _ _ _ [bs] _ (Parts.one HP.out _)).mono ?_); rintro e w1 ⟨rfl, hg1⟩; (have hg : Grow w w1 := ((Grow.refl w).alloc _).trans hg1); clear hg1) | (at_builtin; (refine append_new (n + 4) byT rfl ((HP.out.full.grow hg).grow ((Grow.refl _).alloc _)) rfl (sl_lit _ 1 _ 4 _ (by simp [maxLen]) (by simp)) (u8s_one (le4 _)) (by omega) (by simp [maxLen]; omega) (by omega) rfl ?_); intro a' cap' w2 hown hg2))
  go_ret
  refine ⟨a', cap', rfl, ?_, hg.trans (((Grow.refl _).alloc _).trans hg2)⟩
  have h2 := hown.mono (b := w.heap.size) (Nat.le_trans hg.size (by simp))
  unfold sealed OwnBy
  rw [List.map_append]
  simpa [le4] using h2

set_option maxHeartbeats 400000 in
theorem refSeal_calls (a : Option Addr) (n cap : Nat) (bs : List UInt8) (w : World) (hp : By w a n cap bs) (hn : n ≤ 1000000) :
    Calls Try.prog 13 #[.slice a n cap] w fun e w' => ∃ a' cap', e = .returned (.slice a' (n + 4) cap') ∧ OwnBy w' w.heap.size 5 a' (n + 4) cap' (sealed bs) ∧ Grow w w' := by
  have hc := hp.2.1
  have HP := Lib.hid hp
  clear hp
  go_enter Try.func13, Try.ntmps13
  go_wp2_with (first | (go_at_call 10; (refine (refOf_calls _ _ _ bs _ HP.out).mono ?_); rintro e w1 ⟨rfl, rfl⟩) | (at_builtin; (refine append_own (d := some 8) n byT (base := w.heap.size) rfl (Own.lit _ #[] 0 (Nat.le_refl _) (by simp [maxLen]) rfl) rfl (HP.out.grow ((Grow.refl _).alloc _)) (u8s_one _) (by omega) (by simp [maxLen]; omega) (by simp) (by omega) ?_); intro a' cap' w2 hown hg2; (have hg : Grow w w2 := ((Grow.refl w).alloc _).grown hg2 (fun k e => by cases e; exact Nat.le_refl _)); clear hg2) | (at_builtin; (refine append_own (d := some 21) (n + 4) byT rfl (hown.grow ((Grow.refl _).alloc _)) rfl (sl_lit _ 1 _ 4 _ (by simp [maxLen]) (by simp)) (u8s_one (le4 _)) (by omega) (by simp [maxLen]; omega) (Nat.le_trans hg.size (by simp)) rfl ?_); intro a2 cap2 w3 hown3 hg3))
  go_ret
  refine ⟨a2, cap2, rfl, ?_, (hg.alloc _).grown hg3 (fun k e => (hown.block k e).1)⟩
  · unfold sealed OwnBy
    rw [List.map_append]
    simpa [le4] using hown3
end Go.Proofs.Ytaecdikglfdfnaa
