/- graftlaw12.ConflictBack returns true for every input, and each argument reads afterwards as it read before. No conditions. -/
import Derived.Test.YthhmandpjlggcaaZPC7
import Derived.Test.YthhmandpjlggcaaZPC9
import Derived.Test.YthhmandpjlggcaaZEO
import Derived.Test.YthhmandpjlggcaaZEC
namespace Go.Proofs.Ythhmandpjlggcaa.conflictBack
open Go.ChangeShapes Go.WideShapes Go.ChangeAt Go.RowKit E
open Go.ChangeMaps (open_string shut_string)

set_option maxRecDepth 100000 in
theorem lifted (os : Os) (started : os.Started) (H : Type) (enc : TypeId × Value → H) :
    ReturnsInHanded {} Try.checked os 8 .any (Rows.conflictBackSpec.pre6 enc Try.prog Try.f8 Rows.conflictBackRow.domain false) (Rows.conflictBackSpec.post enc Try.prog Try.f8 false true false false) := by
  refine returnsInHanded_of_change (C := Try.checked) ownKnob_none started (by kernel_rfl) Try.func8
    (ChangeSpec.witness6 (enc := enc) (C := Try.checked) false ⟨#[], #[.slice none 0 0], []⟩ 8 (by kernel_rfl) (by kernel_rfl) (by kernel_rfl) (by kernel_rfl)) ?_
  intro W base args ds gs before hval0 hW hcnd _
  have hval : ∀ (j : Nat) t v, Try.f8.params[j]? = some t → args[j]? = some v → Value.okWide Try.prog W .any base t v := hval0
  have hW' := hW
  obtain ⟨p, q, hA0, hV, rfl, hfz, hnd⟩ := hW
  have hA : DataW.TrodAll enc Try.prog W 0 (fun _ => true) true Try.f8.params.toList args.toList ds p := hA0
  rw [Try.params8] at hA hval
  obtain ⟨v0, vs0, d0, ds0, p0, q0, hargs, rfl, rfl, h0, r0⟩ := trodAll_cons hA
  obtain ⟨rfl, rfl, rfl⟩ := trodAll_nil r0
  obtain rfl : args = #[v0] := by cases args; simp_all
  obtain ⟨rfl, rfl⟩ := trodVars_none hV
  have k0 := h0
  have lt0 : ∀ x ∈ p0, x.block < W.heap.size := by obtain ⟨m, hm⟩ := k0; exact DataW.trod_lt m _ _ _ hm
  obtain ⟨a0, n0, c0, rfl⟩ := okWide_slice Try.underlying22 (hval 0 22 v0 rfl rfl)
  obtain ⟨fuel0, hf0⟩ := h0
  obtain ⟨_, l0, R0, w0⟩ := (sl_opens (sz := zK KT (.st 3)) Try.underlying22 (by kernel_rfl) (by kernel_rfl) (Nat.le_of_ble_eq_true (by kernel_rfl)) op26) fuel0 _ _ hf0
  clear hA0 hval0
  refine (law_calls ?_).mono fun e W' ⟨he, bel⟩ => ?_
  · exact law_link (show KT.B (Mem.all W) from trivial) so_graftlaw12_ConflictBack rfl (l0) (G.graftlaw12_ConflictBack_true l0 ⟨w0.1, fun y hy => (w0.2 y hy)⟩) [.one (toCV (.sl (.st 3)) l0)] rfl ⟨_, _, rfl, arg_one (K := KT) (c := (.sl (.st 3))) rfl R0, rfl⟩
  subst he
  exact ⟨_, rfl, _, _, _, [], _, [], hW', trodAll_mk1 (shut_bool Try.underlying4 _), (trodAll_cons_mk (Below.trod laidOut (by kernel_rfl) (of_decide_eq_true (by kernel_rfl)) k0 bel lt0) trodAll_mk0), rfl, bel.frame _, fun h => by cases h⟩

theorem over : Rows.conflictBackRow.holds Try.pinned (OpenSpec.ofChange Rows.conflictBackSpec) :=
  OpenClaim.holds_of_wide 8 Try.f8 rfl rfl rfl rfl rfl rfl rfl ⟨rfl, rfl, rfl, rfl, rfl⟩ rfl rfl rfl rfl rfl (by kernel_rfl) Try.func8 (by kernel_rfl)
    (of_decide_eq_true (by kernel_rfl)) (by unfold Func.isWrapper; first | (rw [if_pos (by decide +kernel)]; kernel_rfl) | (rw [if_neg (by decide +kernel)]; exact ⟨rfl, rfl⟩))
    (fun os started H enc _ => lifted os started H enc)

/-- The given statement. -/
theorem proved : Rows.ConflictBackSaid := over
#print axioms proved
end Go.Proofs.Ythhmandpjlggcaa.conflictBack
