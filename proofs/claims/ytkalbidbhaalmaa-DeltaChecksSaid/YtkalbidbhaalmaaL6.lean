/- The program computes the plain functions: graftlaw05_DeltaChecks. Printed by a program. -/
import Derived.Test.YtkalbidbhaalmaaProg
import Derived.Test.YtkalbidbhaalmaaGs
import Derived.Test.YtkalbidbhaalmaaRep
import Derived.Test.YtkalbidbhaalmaaL0
import Derived.Test.YtkalbidbhaalmaaL2
import Derived.Test.YtkalbidbhaalmaaL3
namespace Go.Proofs.Ytkalbidbhaalmaa
open Go.RowKit G
theorem ent17_6 : Enters Try.prog 17 := enters_of Try.func17 (by decide +kernel) (by decide +kernel)
theorem ent23_6 : Enters Try.prog 23 := enters_of Try.func23 (by decide +kernel) (by decide +kernel)
theorem ent24_6 : Enters Try.prog 24 := enters_of Try.func24 (by decide +kernel) (by decide +kernel)
theorem ent25_6 : Enters Try.prog 25 := enters_of Try.func25 (by decide +kernel) (by decide +kernel)
theorem ent26_6 : Enters Try.prog 26 := enters_of Try.func26 (by decide +kernel) (by decide +kernel)
set_option maxRecDepth 100000 in
set_option maxHeartbeats 1000000 in
theorem G.graftlaw05_DeltaChecks_spec {m : Mem} {a0 : G.Delta} {a0_commands_a : Option Addr} {a0_commands_c : Nat} (a0_commands_f : Els is_G_Command m 5 a0_commands_a a0_commands_c a0.commands) {r : Bool} (h : G.graftlaw05_DeltaChecks a0 = some r) :
  Spec Try.prog 8 #[.agg (G_Delta_cells a0 a0_commands_a a0_commands_c)] m [] fun v m' L => L = [] ∧ v = .bool r := by
 unfold G.graftlaw05_DeltaChecks at h
 refine enter (args := [_]) 37 Try.func8 rfl rfl (by simp) fun fr hK => ?_
 have hS := St.refl (Ow.nil m)
 replace hK : Kn 37 fr [(0, .agg (G_Delta_cells a0 a0_commands_a a0_commands_c))] := hK
 refine w_seq (w_region ?_)
 refine qo 1 hK (s_box hK.at_ hS rfl rfl ?_)
 clear hK fr hS; intro m1 b1 b1z l1 hS fr hK
 replace hS : St _ m m1 [.box b1 (G_Delta_cells a0 a0_commands_a a0_commands_c) 27] := hS
 refine qp 2 (.bool false) hK fun fr hK => ?_
 refine wpListIn_nil (then_n ?_)
 refine w_seq ?_
 refine w_seq (w_region ?_)
 refine qo 6 hK (s_loadAll hK.at_ hS 0 rfl rfl rfl (by kernel_rfl) ?_)
 clear hK fr; intro fr hK
 replace a0_commands_f := Els.mono rep_G_Command a0_commands_f l1
 obtain ⟨y1, hy1, h⟩ := bind_some h
 refine qo 7 hK (s_call hK.at_ hS ent17_6 rfl rfl rfl rfl (G.graftref05_Few_spec a0_commands_f hy1) (by kernel_rfl) ?_)
 clear hK fr hS; rintro _ m2 _ l2 hS ⟨rfl, rfl⟩ fr hK
 replace hS : St _ m m2 [.box b1 (G_Delta_cells a0 a0_commands_a a0_commands_c) 27] := hS
 refine qp 8 (.bool (!y1)) hK fun fr hK => ?_
 refine wpListIn_nil (then_n ?_)
 refine w_cond hK rfl (fun hb1 => ?_) (fun hb1 => ?_)
 ·
  replace hK := hK.more (t := 8) (v' := .bool true) rfl (by rw [hb1])
  replace h := ite_t ((Bool.not_eq_true' _).mp hb1) h
  refine w_seq (w_region ?_)
  obtain ⟨y2, hy2, h⟩ := bind_some h
  refine qo 9 hK (s_call hK.at_ hS ent23_6 rfl rfl rfl rfl (G.graftlaw05_alive_spec hy2) (by kernel_rfl) ?_)
  clear hK fr hS; rintro _ m3 _ l3 hS ⟨rfl, rfl⟩ fr hK
  replace hS : St _ m m3 [.box b1 (G_Delta_cells a0 a0_commands_a a0_commands_c) 27] := hS
  refine qp 2 (.bool y2) hK fun fr hK => ?_
  refine wpListIn_nil (then_n ?_)
  refine wpIn_ret ?_
  refine then_r ?_
  replace h := Option.some.inj h; subst h
  refine ret_of [.tmp 2] [.bool y2] rfl hK (.tmp rfl .nil) hS.dropAll ?_
  exact ⟨rfl, rfl⟩
 ·
  replace hK := hK.more (t := 8) (v' := .bool false) rfl (by rw [hb1])
  replace h := ite_f (not_false_of ((Bool.not_eq_false' _).mp hb1)) h
  refine wpIn_skip ?_
  refine then_n ?_
  refine w_seq (w_region ?_)
  refine qo 11 hK (s_loadAll hK.at_ hS 0 rfl rfl rfl (by kernel_rfl) ?_)
  clear hK fr; intro fr hK
  replace a0_commands_f := Els.mono rep_G_Command a0_commands_f l2
  obtain ⟨y3, hy3, h⟩ := bind_some h
  refine qo 12 hK (s_call hK.at_ hS ent24_6 rfl rfl rfl rfl (G.graftref05_Check_spec a0_commands_f hy3) (by kernel_rfl) ?_)
  clear hK fr hS; rintro _ m4 _ l4 hS ⟨rfl, rfl⟩ fr hK
  replace hS : St _ m m4 [.box b1 (G_Delta_cells a0 a0_commands_a a0_commands_c) 27] := hS
  refine qp 10 (.tuple #[.int .i64 y3.1, .int .i64 y3.2]) hK fun fr hK => ?_
  refine qp 13 (.int .i64 y3.1) hK fun fr hK => ?_
  refine qp 14 (.int .i64 y3.2) hK fun fr hK => ?_
  refine qp 3 (.int .i64 y3.1) hK fun fr hK => ?_
  refine qp 4 (.int .i64 y3.2) hK fun fr hK => ?_
  refine wpListIn_nil (then_n ?_)
  refine w_seq (w_region ?_)
  refine qo 15 hK (s_loadAll hK.at_ hS 0 rfl rfl rfl (by kernel_rfl) ?_)
  clear hK fr; intro fr hK
  replace a0_commands_f := Els.mono rep_G_Command a0_commands_f l4
  obtain ⟨y4, hy4, h⟩ := bind_some h
  refine qo 16 hK (s_call hK.at_ hS ent25_6 rfl rfl rfl rfl (G.delta_Check_spec a0_commands_f hy4) (by kernel_rfl) ?_)
  clear hK fr hS; rintro _ m5 _ l5 hS ⟨rfl, rfl⟩ fr hK
  refine qo 5 hK (s_alloc (.agg #[.int .i64 0, .int .i64 0]) hK.at_ hS rfl (by kernel_rfl) ?_)
  clear hK fr hS; intro m6 b2 b2z l6 hS fr hK
  refine qo0 hK (s_storeAll hK.at_ 0 hS rfl rfl rfl rfl (by kernel_rfl) (by kernel_rfl) (by kernel_rfl) ?_)
  clear hK fr hS; intro m7 l7 hS fr hK
  replace hS : St _ m m7 [.box b2 #[.int .i64 y4.code, .int .i64 y4.at_] 30, .box b1 (G_Delta_cells a0 a0_commands_a a0_commands_c) 27] := hS
  refine wpListIn_nil (then_n ?_)
  refine w_seq (w_region ?_)
  obtain ⟨y5, hy5, h⟩ := bind_some h
  refine qo 17 hK (s_call hK.at_ hS ent23_6 rfl rfl rfl rfl (G.graftlaw05_alive_spec hy5) (by kernel_rfl) ?_)
  clear hK fr hS; rintro _ m8 _ l8 hS ⟨rfl, rfl⟩ fr hK
  replace hS : St _ m m8 [.box b2 #[.int .i64 y4.code, .int .i64 y4.at_] 30, .box b1 (G_Delta_cells a0 a0_commands_a a0_commands_c) 27] := hS
  refine qp 18 (.bool y5) hK fun fr hK => ?_
  refine split_b (x := y5) (fun hb2 => ?_) (fun hb2 => ?_)
  ·
   replace hK := hK.more (t := 18) (v' := .bool true) rfl (by rw [hb2])
   replace hK := hK.more (t := 17) (v' := .bool true) rfl (by rw [hb2])
   replace h := ite_t (hb2) h
   refine qp 19 (.pointer (some ⟨b2, 0, none⟩)) hK fun fr hK => ?_
   refine qo 20 hK (s_load hK.at_ hS 0 rfl rfl rfl rfl (by kernel_rfl) ?_)
   clear hK fr; intro fr hK
   refine qp 21 (.int .i64 y3.1) hK fun fr hK => ?_
   refine qp 22 (.bool (y4.code == y3.1)) hK fun fr hK => ?_
   refine qp 23 (.bool (y4.code == y3.1)) hK fun fr hK => ?_
   refine qp 24 (.bool (y4.code == y3.1)) hK fun fr hK => ?_
   refine split_b (x := (y4.code == y3.1)) (fun hb3 => ?_) (fun hb3 => ?_)
   ·
    replace hK := hK.more (t := 24) (v' := .bool true) rfl (by rw [hb3])
    replace hK := hK.more (t := 23) (v' := .bool true) rfl (by rw [hb3])
    replace hK := hK.more (t := 22) (v' := .bool true) rfl (by rw [hb3])
    replace h := ite_t (eq_of_beq hb3) h
    refine qp 25 (.pointer (some ⟨b2, 1, none⟩)) hK fun fr hK => ?_
    refine qo 26 hK (s_load hK.at_ hS 0 rfl rfl rfl rfl (by kernel_rfl) ?_)
    clear hK fr; intro fr hK
    refine qp 27 (.int .i64 y3.2) hK fun fr hK => ?_
    refine qp 28 (.bool (y4.at_ == y3.2)) hK fun fr hK => ?_
    refine qp 29 (.bool (y4.at_ == y3.2)) hK fun fr hK => ?_
    refine qp 30 (.bool (y4.at_ == y3.2)) hK fun fr hK => ?_
    refine split_b (x := (y4.at_ == y3.2)) (fun hb4 => ?_) (fun hb4 => ?_)
    ·
     replace hK := hK.more (t := 30) (v' := .bool true) rfl (by rw [hb4])
     replace hK := hK.more (t := 29) (v' := .bool true) rfl (by rw [hb4])
     replace hK := hK.more (t := 28) (v' := .bool true) rfl (by rw [hb4])
     replace h := ite_t (eq_of_beq hb4) h
     refine qo 31 hK (s_loadAll hK.at_ hS 1 rfl rfl rfl (by kernel_rfl) ?_)
     clear hK fr; intro fr hK
     replace a0_commands_f := Els.mono rep_G_Command a0_commands_f (l5.trans (l6.trans (l7.trans l8)))
     obtain ⟨y6, hy6, h⟩ := bind_some h
     refine qo 32 hK (s_call hK.at_ hS ent26_6 rfl rfl rfl rfl (G.delta_Valid_spec a0_commands_f hy6) (by kernel_rfl) ?_)
     clear hK fr hS; rintro _ m9 _ l9 hS ⟨rfl, rfl⟩ fr hK
     replace hS : St _ m m9 [.box b2 #[.int .i64 y4.code, .int .i64 y4.at_] 30, .box b1 (G_Delta_cells a0 a0_commands_a a0_commands_c) 27] := hS
     refine qp 33 (.int .i64 y3.1) hK fun fr hK => ?_
     refine qp 34 (.bool (y3.1 == 0)) hK fun fr hK => ?_
     refine qp 35 (.bool (y6 == (y3.1 == 0))) hK fun fr hK => ?_
     refine qp 36 (.bool (y6 == (y3.1 == 0))) hK fun fr hK => ?_
     refine qp 2 (.bool (y6 == (y3.1 == 0))) hK fun fr hK => ?_
     refine wpListIn_nil (then_n ?_)
     refine wpIn_ret ?_
     replace h := Option.some.inj h; subst h
     refine ret_of [.tmp 2] [.bool (y6 == (y3.1 == 0))] rfl hK (.tmp rfl .nil) hS.dropAll ?_
     exact ⟨rfl, rfl⟩
    ·
     replace hK := hK.more (t := 30) (v' := .bool false) rfl (by rw [hb4])
     replace hK := hK.more (t := 29) (v' := .bool false) rfl (by rw [hb4])
     replace hK := hK.more (t := 28) (v' := .bool false) rfl (by rw [hb4])
     replace h := ite_f (ne_of_beq_false hb4) h
     refine qs 31 hK ?_
     clear hK fr; intro fr hK
     refine qs 32 hK ?_
     clear hK fr; intro fr hK
     refine qs 33 hK ?_
     clear hK fr; intro fr hK
     refine qs 34 hK ?_
     clear hK fr; intro fr hK
     refine qs 35 hK ?_
     clear hK fr; intro fr hK
     refine qp 36 (.bool false) hK fun fr hK => ?_
     refine qp 2 (.bool false) hK fun fr hK => ?_
     refine wpListIn_nil (then_n ?_)
     refine wpIn_ret ?_
     replace h := Option.some.inj h; subst h
     refine ret_of [.tmp 2] [.bool false] rfl hK (.tmp rfl .nil) hS.dropAll ?_
     exact ⟨rfl, rfl⟩
   ·
    replace hK := hK.more (t := 24) (v' := .bool false) rfl (by rw [hb3])
    replace hK := hK.more (t := 23) (v' := .bool false) rfl (by rw [hb3])
    replace hK := hK.more (t := 22) (v' := .bool false) rfl (by rw [hb3])
    replace h := ite_f (ne_of_beq_false hb3) h
    refine qs 25 hK ?_
    clear hK fr; intro fr hK
    refine qs 26 hK ?_
    clear hK fr; intro fr hK
    refine qs 27 hK ?_
    clear hK fr; intro fr hK
    refine qs 28 hK ?_
    clear hK fr; intro fr hK
    refine qp 29 (.bool false) hK fun fr hK => ?_
    refine qp 30 (.bool false) hK fun fr hK => ?_
    refine qs 31 hK ?_
    clear hK fr; intro fr hK
    refine qs 32 hK ?_
    clear hK fr; intro fr hK
    refine qs 33 hK ?_
    clear hK fr; intro fr hK
    refine qs 34 hK ?_
    clear hK fr; intro fr hK
    refine qs 35 hK ?_
    clear hK fr; intro fr hK
    refine qp 36 (.bool false) hK fun fr hK => ?_
    refine qp 2 (.bool false) hK fun fr hK => ?_
    refine wpListIn_nil (then_n ?_)
    refine wpIn_ret ?_
    replace h := Option.some.inj h; subst h
    refine ret_of [.tmp 2] [.bool false] rfl hK (.tmp rfl .nil) hS.dropAll ?_
    exact ⟨rfl, rfl⟩
  ·
   replace hK := hK.more (t := 18) (v' := .bool false) rfl (by rw [hb2])
   replace hK := hK.more (t := 17) (v' := .bool false) rfl (by rw [hb2])
   replace h := ite_f (ne_true_of_eq_false hb2) h
   refine qs 19 hK ?_
   clear hK fr; intro fr hK
   refine qs 20 hK ?_
   clear hK fr; intro fr hK
   refine qs 21 hK ?_
   clear hK fr; intro fr hK
   refine qs 22 hK ?_
   clear hK fr; intro fr hK
   refine qp 23 (.bool false) hK fun fr hK => ?_
   refine qp 24 (.bool false) hK fun fr hK => ?_
   refine qs 25 hK ?_
   clear hK fr; intro fr hK
   refine qs 26 hK ?_
   clear hK fr; intro fr hK
   refine qs 27 hK ?_
   clear hK fr; intro fr hK
   refine qs 28 hK ?_
   clear hK fr; intro fr hK
   refine qp 29 (.bool false) hK fun fr hK => ?_
   refine qp 30 (.bool false) hK fun fr hK => ?_
   refine qs 31 hK ?_
   clear hK fr; intro fr hK
   refine qs 32 hK ?_
   clear hK fr; intro fr hK
   refine qs 33 hK ?_
   clear hK fr; intro fr hK
   refine qs 34 hK ?_
   clear hK fr; intro fr hK
   refine qs 35 hK ?_
   clear hK fr; intro fr hK
   refine qp 36 (.bool false) hK fun fr hK => ?_
   refine qp 2 (.bool false) hK fun fr hK => ?_
   refine wpListIn_nil (then_n ?_)
   refine wpIn_ret ?_
   replace h := Option.some.inj h; subst h
   refine ret_of [.tmp 2] [.bool false] rfl hK (.tmp rfl .nil) hS.dropAll ?_
   exact ⟨rfl, rfl⟩
end Go.Proofs.Ytkalbidbhaalmaa
