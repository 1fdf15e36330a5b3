/- The contract of graftlaw03.alive: the chapter's example holds. -/
import Derived.Test.YtaecdikglfdfnaaCheckF
import Derived.Test.YtaecdikglfdfnaaCheckG
namespace Go.Proofs.Ytaecdikglfdfnaa
open Go.RowKit
theorem opened_sealed (bs : List UInt8) : opened (sealed bs) = some bs := by
  have hl : (sealed bs).length = bs.length + 4 := by simp [sealed, le4]
  have ht : (sealed bs).take ((sealed bs).length - 4) = bs := by rw [hl]; simp [sealed]
  unfold opened
  rw [if_pos ⟨by omega, by rw [ht]⟩, ht]

theorem by_lit {w : World} {a : Option Addr} {n cap : Nat} {xs : List Value} (bs : List UInt8) (e : xs = bs.map U8) (h : Sl w 1 a n cap xs) : By w a n cap bs := by subst e; exact h

set_option maxHeartbeats 400000 in
theorem alive_calls (w : World) :
    Calls Try.prog 8 #[] w fun e w' => e = .returned (.bool true) ∧ Grow w w' := by
  have kc := fun (w : World) (C : Array Value) (n c : Nat) => Lib.run_convert_bytes_const (P := Try.prog) w 24 5 C n c byT.und und8
  go_enter Try.func8, Try.ntmps8
  go_wp2_with fail
  refine (seal_calls _ _ _ [97, 98] _ (by_lit [97, 98] rfl (sl_lit _ 1 _ 2 _ (by simp [maxLen]) (by simp))) (by omega)).mono ?_
  rintro e w1 ⟨a1, c1, rfl, ho1, hg1⟩
  have Hg1 := Lib.hid (((Grow.refl w).alloc _).trans hg1)
  clear hg1
  go_wp2_with fail
  refine (open_calls _ _ _ (sealed [97, 98]) _ ho1.by (by omega)).mono ?_
  have hl : (sealed [97, 98]).length - 4 = 2 := rfl
  have ht : (sealed [97, 98]).take 2 = [97, 98] := rfl
  rintro e w2 (⟨hno, _⟩ | ⟨_, a2, c2, rfl, ho2, hg2⟩)
  · rw [opened_sealed] at hno; cases hno
  rw [hl, ht] at ho2
  rw [hl]
  have Ho2 := Lib.hid ho2
  have Hg2 := Lib.hid (Hg1.out.trans hg2)
  clear hg2 ho1 ho2 hl ht
  go_wp2_with fail
  refine (of_calls _ _ _ [[49, 50, 51, 52, 53, 54, 55, 56, 57]] _ (Parts.one (by_lit [49, 50, 51, 52, 53, 54, 55, 56, 57] rfl (sl_lit _ 1 _ 9 _ (by simp [maxLen]) (by simp))) _)).mono ?_
  rintro e w3 ⟨rfl, hg3⟩
  have Hg3 := Lib.hid (((Hg2.out.alloc _).alloc _).trans hg3)
  have Ho3 := Lib.hid (Ho2.out.by.grow ((((Grow.refl _).alloc _).alloc _).trans hg3))
  clear hg3
  have hcrc : (N32 (crc (0#32) [[49, 50, 51, 52, 53, 54, 55, 56, 57]].flatten) == 3421780262) = true := by decide +kernel
  generalize crc (0#32) [[49, 50, 51, 52, 53, 54, 55, 56, 57]].flatten = C at *
  go_wp2_with fail
  refine (of_calls _ _ _ [] _ (Parts.nil _)).mono ?_
  rintro e w4 ⟨rfl, hg4⟩
  have hz : (N32 (crc (0#32) ([] : List (List UInt8)).flatten) == 0) = true := by decide +kernel
  generalize crc (0#32) ([] : List (List UInt8)).flatten = Z at *
  have hs4 := run_string_by (P := Try.prog) (src := 24) (dst := 9) byT.und und8 undS (Ho3.out.grow hg4)
  have Hg4 := Lib.hid (Hg3.out.trans hg4)
  clear hg4
  go_wp2_with fail
  go_ret
  exact ⟨rfl, Hg4.out⟩
end Go.Proofs.Ytaecdikglfdfnaa
