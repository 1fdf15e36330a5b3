/- graftlaw12.ConflictViolations returns true for every input, and each argument reads afterwards as it read before. No conditions. -/
import Derived.Test.YthhmandpjlggcaaZPC7
import Derived.Test.YthhmandpjlggcaaZPC9
import Derived.Test.YthhmandpjlggcaaZEO
import Derived.Test.YthhmandpjlggcaaZEC
namespace Go.Proofs.Ythhmandpjlggcaa.conflictViolations
open Go.ChangeShapes Go.WideShapes Go.ChangeAt Go.RowKit E
open Go.ChangeMaps (open_string shut_string)

set_option maxRecDepth 100000 in
theorem lifted (os : Os) (started : os.Started) (H : Type) (enc : TypeId × Value → H) :
    ReturnsInHanded {} Try.checked os 7 .any (Rows.conflictViolationsSpec.pre6 enc Try.prog Try.f7 Rows.conflictViolationsRow.domain false) (Rows.conflictViolationsSpec.post enc Try.prog Try.f7 false true false false) := by
  refine returnsInHanded_of_change (C := Try.checked) ownKnob_none started (by kernel_rfl) Try.func7
    (ChangeSpec.witness6 (enc := enc) (C := Try.checked) false ⟨#[], #[.slice none 0 0, .slice none 0 0], []⟩ 8 (by kernel_rfl) (by kernel_rfl) (by kernel_rfl) (by kernel_rfl)) ?_
  intro W base args ds gs before hval0 hW hcnd _
  have hval : ∀ (j : Nat) t v, Try.f7.params[j]? = some t → args[j]? = some v → Value.okWide Try.prog W .any base t v := hval0
  have hW' := hW
  obtain ⟨p, q, hA0, hV, rfl, hfz, hnd⟩ := hW
  have hA : DataW.TrodAll enc Try.prog W 0 (fun _ => true) true Try.f7.params.toList args.toList ds p := hA0
  rw [Try.params7] at hA hval
  obtain ⟨v0, vs0, d0, ds0, p0, q0, hargs, rfl, rfl, h0, r0⟩ := trodAll_cons hA
  obtain ⟨v1, vs1, d1, ds1, p1, q1, rfl, rfl, rfl, h1, r1⟩ := trodAll_cons r0
  obtain ⟨rfl, rfl, rfl⟩ := trodAll_nil r1
  obtain rfl : args = #[v0, v1] := by cases args; simp_all
  obtain ⟨rfl, rfl⟩ := trodVars_none hV
  have k0 := h0
  have lt0 : ∀ x ∈ p0, x.block < W.heap.size := by obtain ⟨m, hm⟩ := k0; exact DataW.trod_lt m _ _ _ hm
  obtain ⟨a0, n0, c0, rfl⟩ := okWide_slice Try.underlying22 (hval 0 22 v0 rfl rfl)
  obtain ⟨fuel0, hf0⟩ := h0
  obtain ⟨_, l0, R0, w0⟩ := (sl_opens (sz := zK KT (.st 3)) Try.underlying22 (by kernel_rfl) (by kernel_rfl) (Nat.le_of_ble_eq_true (by kernel_rfl)) op26) fuel0 _ _ hf0
  have k1 := h1
  have lt1 : ∀ x ∈ p1, x.block < W.heap.size := by obtain ⟨m, hm⟩ := k1; exact DataW.trod_lt m _ _ _ hm
  obtain ⟨a1, n1, c1, rfl⟩ := okWide_slice Try.underlying53 (hval 1 53 v1 rfl rfl)
  obtain ⟨fuel1, hf1⟩ := h1
  obtain ⟨_, l1, R1, w1⟩ := (sl_opens (sz := zK KT (.int .i64)) Try.underlying53 (by kernel_rfl) (by kernel_rfl) (Nat.le_of_ble_eq_true (by kernel_rfl)) (num_opens Try.underlying3 (by kernel_rfl))) fuel1 _ _ hf1
  clear hA0 hval0
  refine (law_calls ?_).mono fun e W' ⟨he, bel⟩ => ?_
  · exact law_link (show KT.B (Mem.all W) from trivial) so_graftlaw12_ConflictViolations rfl (l0, l1) (G.graftlaw12_ConflictViolations_true l0 l1 ⟨w0.1, fun y hy => (w0.2 y hy)⟩ ⟨w1.1, fun y hy => (wf64 (w1.2 y hy))⟩) [.one (toCV (.sl (.st 3)) l0), .one (toCV (.sl (.int .i64)) l1)] rfl ⟨_, _, rfl, arg_one (K := KT) (c := (.sl (.st 3))) rfl R0, _, _, rfl, arg_one (K := KT) (c := (.sl (.int .i64))) rfl R1, rfl⟩
  subst he
  exact ⟨_, rfl, _, _, _, [], _, [], hW', trodAll_mk1 (shut_bool Try.underlying4 _), (trodAll_cons_mk (Below.trod laidOut (by kernel_rfl) (of_decide_eq_true (by kernel_rfl)) k0 bel lt0) (trodAll_cons_mk (Below.trod laidOut (by kernel_rfl) (of_decide_eq_true (by kernel_rfl)) k1 bel lt1) trodAll_mk0)), rfl, bel.frame _, fun h => by cases h⟩

theorem over : Rows.conflictViolationsRow.holds Try.pinned (OpenSpec.ofChange Rows.conflictViolationsSpec) :=
  OpenClaim.holds_of_wide 7 Try.f7 rfl rfl rfl rfl rfl rfl rfl ⟨rfl, rfl, rfl, rfl, rfl⟩ rfl rfl rfl rfl rfl (by kernel_rfl) Try.func7 (by kernel_rfl)
    (of_decide_eq_true (by kernel_rfl)) (by unfold Func.isWrapper; first | (rw [if_pos (by decide +kernel)]; kernel_rfl) | (rw [if_neg (by decide +kernel)]; exact ⟨rfl, rfl⟩))
    (fun os started H enc _ => lifted os started H enc)

/-- The given statement. -/
theorem proved : Rows.ConflictViolationsSaid := over
#print axioms proved
end Go.Proofs.Ythhmandpjlggcaa.conflictViolations
