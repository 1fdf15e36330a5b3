/- Part of what the laws need: plain words, the walker and its laws, the program's functions. -/
import Derived.Test.YthhmandpjlggcaaZEvL
import Derived.Test.YthhmandpjlggcaaZET
namespace Go.Proofs.Ythhmandpjlggcaa
open Go.ChangeShapes Go.WideShapes Go.ChangeAt Go.RowKit G
namespace E
set_option maxRecDepth 100000 in
theorem op26 {H : Type} {enc : TypeId × Value → H} {W : World} {base : Nat} {spare : Nat → Bool} {held : Bool} : Opens enc Try.prog W base spare held (RK KT (.st 3)) G.Command.Ok 26 := by
  intro fuel cs x h
  obtain ⟨xs, n, _, _, hl, hlen, hf⟩ := DataW.trod_struct Try.underlying26 h
  have hl' : cs.length = 5 := hl.trans (by kernel_rfl)
  match xs, hlen with
  | [y0, y1, y2, y3, y4], _ =>
    have z0 : Try.prog.cellsOf 3 = 1 := by kernel_rfl
    have h0 : DataW.trod enc Try.prog W base spare held n 3 ((cs.drop 0).take (Try.prog.cellsOf 3)) = some y0 := hf 0 _ rfl
    rw [z0] at h0
    obtain ⟨_, v0, r0, k0⟩ := (num_opens Try.underlying3 (by kernel_rfl)) n _ y0 h0
    have z1 : Try.prog.cellsOf 3 = 1 := by kernel_rfl
    have h1 : DataW.trod enc Try.prog W base spare held n 3 ((cs.drop 1).take (Try.prog.cellsOf 3)) = some y1 := hf 1 _ rfl
    rw [z1] at h1
    obtain ⟨_, v1, r1, k1⟩ := (num_opens Try.underlying3 (by kernel_rfl)) n _ y1 h1
    have z2 : Try.prog.cellsOf 3 = 1 := by kernel_rfl
    have h2 : DataW.trod enc Try.prog W base spare held n 3 ((cs.drop 2).take (Try.prog.cellsOf 3)) = some y2 := hf 2 _ rfl
    rw [z2] at h2
    obtain ⟨_, v2, r2, k2⟩ := (num_opens Try.underlying3 (by kernel_rfl)) n _ y2 h2
    have z3 : Try.prog.cellsOf 3 = 1 := by kernel_rfl
    have h3 : DataW.trod enc Try.prog W base spare held n 3 ((cs.drop 3).take (Try.prog.cellsOf 3)) = some y3 := hf 3 _ rfl
    rw [z3] at h3
    obtain ⟨_, v3, r3, k3⟩ := (num_opens Try.underlying3 (by kernel_rfl)) n _ y3 h3
    have z4 : Try.prog.cellsOf 24 = 1 := by kernel_rfl
    have h4 : DataW.trod enc Try.prog W base spare held n 24 ((cs.drop 4).take (Try.prog.cellsOf 24)) = some y4 := hf 4 _ rfl
    rw [z4] at h4
    obtain ⟨_, v4, r4, k4⟩ := (sl_opens (sz := zK KT .u8) Try.underlying24 (by kernel_rfl) (by kernel_rfl) (Nat.le_of_ble_eq_true (by kernel_rfl)) (u8_opens Try.underlying5 (by kernel_rfl))) n _ y4 h4
    exact ⟨hl, (⟨v0, v1, v2, v3, v4⟩ : G.Command), (KT.spec 3 (Mem.all W) (⟨v0, v1, v2, v3, v4⟩ : G.Command) cs).2 ⟨_, _, cut_step cs 0 1 1 rfl, r0, _, _, cut_step cs 1 1 2 rfl, r1, _, _, cut_step cs 2 1 3 rfl, r2, _, _, cut_step cs 3 1 4 rfl, r3, _, _, cut_step cs 4 1 5 rfl, r4, cut_end cs 5 hl'⟩, ⟨(wf64 k0), (wf64 k1), (wf64 k2), (wf64 k3), k4.1⟩⟩
end E
end Go.Proofs.Ythhmandpjlggcaa
