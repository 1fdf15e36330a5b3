/- The program computes the plain functions: graftref05_Valid. Printed by a program. -/
import Derived.Test.YtkalbidbhaalmaaProg
import Derived.Test.YtkalbidbhaalmaaGs
import Derived.Test.YtkalbidbhaalmaaRep
import Derived.Test.YtkalbidbhaalmaaL3
namespace Go.Proofs.Ytkalbidbhaalmaa
open Go.RowKit G
theorem ent24_4 : Enters Try.prog 24 := enters_of Try.func24 (by decide +kernel) (by decide +kernel)
set_option maxRecDepth 100000 in
set_option maxHeartbeats 1000000 in
theorem G.graftref05_Valid_spec {m : Mem} {a0 : G.Delta} {a0_commands_a : Option Addr} {a0_commands_c : Nat} (a0_commands_f : Els is_G_Command m 5 a0_commands_a a0_commands_c a0.commands) {r : Bool} (h : G.graftref05_Valid a0 = some r) :
  Spec Try.prog 27 #[.agg (G_Delta_cells a0 a0_commands_a a0_commands_c)] m [] fun v m' L => L = [] ∧ v = .bool r := by
 unfold G.graftref05_Valid at h
 refine enter (args := [_]) 12 Try.func27 rfl rfl (by simp) fun fr hK => ?_
 have hS := St.refl (Ow.nil m)
 replace hK : Kn 12 fr [(0, .agg (G_Delta_cells a0 a0_commands_a a0_commands_c))] := hK
 refine w_seq (w_region ?_)
 refine qo 1 hK (s_box hK.at_ hS rfl rfl ?_)
 clear hK fr hS; intro m1 b1 b1z l1 hS fr hK
 replace hS : St _ m m1 [.box b1 (G_Delta_cells a0 a0_commands_a a0_commands_c) 27] := hS
 refine qp 2 (.bool false) hK fun fr hK => ?_
 refine wpListIn_nil (then_n ?_)
 refine w_seq (w_region ?_)
 refine qo 6 hK (s_loadAll hK.at_ hS 0 rfl rfl rfl (by kernel_rfl) ?_)
 clear hK fr; intro fr hK
 replace a0_commands_f := Els.mono rep_G_Command a0_commands_f l1
 obtain ⟨y1, hy1, h⟩ := bind_some h
 refine qo 7 hK (s_call hK.at_ hS ent24_4 rfl rfl rfl rfl (G.graftref05_Check_spec a0_commands_f hy1) (by kernel_rfl) ?_)
 clear hK fr hS; rintro _ m2 _ l2 hS ⟨rfl, rfl⟩ fr hK
 replace hS : St _ m m2 [.box b1 (G_Delta_cells a0 a0_commands_a a0_commands_c) 27] := hS
 refine qp 5 (.tuple #[.int .i64 y1.1, .int .i64 y1.2]) hK fun fr hK => ?_
 refine qp 8 (.int .i64 y1.1) hK fun fr hK => ?_
 refine qp 9 (.int .i64 y1.2) hK fun fr hK => ?_
 refine qp 3 (.int .i64 y1.1) hK fun fr hK => ?_
 refine qp 4 (.int .i64 y1.2) hK fun fr hK => ?_
 refine wpListIn_nil (then_n ?_)
 refine w_seq (w_region ?_)
 refine qp 10 (.int .i64 y1.1) hK fun fr hK => ?_
 refine qp 11 (.bool (y1.1 == 0)) hK fun fr hK => ?_
 refine qp 2 (.bool (y1.1 == 0)) hK fun fr hK => ?_
 refine wpListIn_nil (then_n ?_)
 refine wpIn_ret ?_
 replace h := Option.some.inj h; subst h
 refine ret_of [.tmp 2] [.bool (y1.1 == 0)] rfl hK (.tmp rfl .nil) hS.dropAll ?_
 exact ⟨rfl, rfl⟩
end Go.Proofs.Ytkalbidbhaalmaa
