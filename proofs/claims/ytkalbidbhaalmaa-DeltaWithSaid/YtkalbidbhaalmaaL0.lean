/- The program computes the plain functions: graftref05_Few, extent_Valid, delta_inRange, command_of, command_Check, command_Source, extent_End, command_Target, delta_single, cmp_isNaN_int, cmp_Compare_int, delta_sorted_1, slices_insertionSortCmpFunc_int_v0_delta_sorted_1, slices_swapRangeCmpFunc_int_v0_delta_sorted_1, slices_rotateCmpFunc_int_v0_delta_sorted_1. Printed by a program. -/
import Derived.Test.YtkalbidbhaalmaaProg
import Derived.Test.YtkalbidbhaalmaaGs
import Derived.Test.YtkalbidbhaalmaaRep
namespace Go.Proofs.Ytkalbidbhaalmaa
open Go.RowKit G
theorem ent71_0 : Enters Try.prog 71 := enters_of Try.func71 (by decide +kernel) (by decide +kernel)
theorem ent88_0 : Enters Try.prog 88 := enters_of Try.func88 (by decide +kernel) (by decide +kernel)
theorem ent91_0 : Enters Try.prog 91 := enters_of Try.func91 (by decide +kernel) (by decide +kernel)
theorem ent92_0 : Enters Try.prog 92 := enters_of Try.func92 (by decide +kernel) (by decide +kernel)
theorem ent93_0 : Enters Try.prog 93 := enters_of Try.func93 (by decide +kernel) (by decide +kernel)
theorem ent96_0 : Enters Try.prog 96 := enters_of Try.func96 (by decide +kernel) (by decide +kernel)
theorem ent97_0 : Enters Try.prog 97 := enters_of Try.func97 (by decide +kernel) (by decide +kernel)
theorem ent103_0 : Enters Try.prog 103 := enters_of Try.func103 (by decide +kernel) (by decide +kernel)
theorem ent109_0 : Enters Try.prog 109 := enters_of Try.func109 (by decide +kernel) (by decide +kernel)
theorem ent115_0 : Enters Try.prog 115 := enters_of Try.func115 (by decide +kernel) (by decide +kernel)
theorem elT25_0 : ElemT Try.prog 25 50 (.agg #[.int .i64 0, .int .i64 0, .int .i64 0, .int .i64 0, .slice none 0 0]) 5 56 := ⟨by kernel_rfl, by kernel_rfl, by kernel_rfl, by decide⟩
theorem elT124_0 : ElemT Try.prog 124 3 (.int .i64 0) 1 8 := ⟨by kernel_rfl, by kernel_rfl, by kernel_rfl, by decide⟩
set_option maxRecDepth 100000 in
set_option maxHeartbeats 1000000 in
theorem G.graftref05_Few_spec {m : Mem} {a0 : G.Delta} {a0_commands_a : Option Addr} {a0_commands_c : Nat} (a0_commands_f : Els is_G_Command m 5 a0_commands_a a0_commands_c a0.commands) {r : Bool} (h : G.graftref05_Few a0 = some r) :
  Spec Try.prog 17 #[.agg (G_Delta_cells a0 a0_commands_a a0_commands_c)] m [] fun v m' L => L = [] ∧ v = .bool r := by
 unfold G.graftref05_Few at h
 refine enter (args := [_]) 23 Try.func17 rfl rfl (by simp) fun fr hK => ?_
 have hS := St.refl (Ow.nil m)
 replace hK : Kn 23 fr [(0, .agg (G_Delta_cells a0 a0_commands_a a0_commands_c))] := hK
 refine w_seq (w_region ?_)
 refine qo 1 hK (s_box hK.at_ hS rfl rfl ?_)
 clear hK fr hS; intro m1 b1 b1z l1 hS fr hK
 replace hS : St _ m m1 [.box b1 (G_Delta_cells a0 a0_commands_a a0_commands_c) 27] := hS
 refine qp 2 (.bool false) hK fun fr hK => ?_
 refine wpListIn_nil (then_n ?_)
 refine w_seq ?_
 refine w_seq (w_region ?_)
 refine qp 3 (.int .i64 0) hK fun fr hK => ?_
 refine wpListIn_nil (then_n ?_)
 obtain ⟨v1, hv1, hk1⟩ := bind_some h; clear h
 refine w_join (fun fr ww => ∃ u1, v1 = .inl u1 ∧ ∃ m2 : Mem, m2.w = ww ∧ Kn 23 fr [(1, .pointer (some ⟨b1, 0, none⟩))] ∧ Le m1 m2 ∧ St (blocksOf []) m m2 [.box b1 (G_Delta_cells a0 a0_commands_a a0_commands_c) 27]) ?_ ?_
 ·
  clear hK hS fr
  rintro fr _ ⟨u1, rfl, m2, rfl, hK, l2, hS⟩
  have h := join_in hk1
  refine then_n ?_
  refine w_seq (w_region ?_)
  refine qp 19 (.pointer (some ⟨b1, 66, none⟩)) hK fun fr hK => ?_
  refine qo 20 hK (s_load hK.at_ hS 0 rfl rfl rfl rfl (by kernel_rfl) ?_)
  clear hK fr; intro fr hK
  refine qp 21 (.int .i64 (a0.commands.length : Int)) hK fun fr hK => ?_
  refine qp 22 (.bool (decide ((a0.commands.length : Int) ≤ 40))) hK fun fr hK => ?_
  refine qp 2 (.bool (decide ((a0.commands.length : Int) ≤ 40))) hK fun fr hK => ?_
  refine wpListIn_nil (then_n ?_)
  refine wpIn_ret ?_
  replace h := Option.some.inj h; subst h
  refine ret_of [.tmp 2] [.bool (decide ((a0.commands.length : Int) ≤ 40))] rfl hK (.tmp rfl .nil) hS.dropAll ?_
  exact ⟨rfl, rfl⟩
 ·
  have h := hv1; clear hv1
  refine wpIn_block ?_
  replace hS : St _ m m1 [.box b1 (G_Delta_cells a0 a0_commands_a a0_commands_c) 27] := hS
  refine w_loopL h (fun (s1 : Int) fr ww => ∃ m3 : Mem, m3.w = ww ∧ Kn 23 fr [(1, .pointer (some ⟨b1, 0, none⟩)), (3, .int .i64 s1)] ∧ Le m1 m3 ∧ St (blocksOf []) m m3 [.box b1 (G_Delta_cells a0 a0_commands_a a0_commands_c) 27]) ?_ ?_
  · exact ⟨m1, rfl, hK.only [1, 3], Le.refl _, hS⟩
  clear hK hS fr h
  rintro k1 s1 x1 fr _ ⟨m3, rfl, hK, l3, hS⟩ h hn1
  unfold G.graftref05_Few_l1 at h
  refine w_seq ?_
  refine w_seq (w_region ?_)
  refine qp 4 (.int .i64 s1) hK fun fr hK => ?_
  refine qp 5 (.pointer (some ⟨b1, 66, none⟩)) hK fun fr hK => ?_
  refine qo 6 hK (s_load hK.at_ hS 0 rfl rfl rfl rfl (by kernel_rfl) ?_)
  clear hK fr; intro fr hK
  refine qp 7 (.int .i64 (a0.commands.length : Int)) hK fun fr hK => ?_
  refine qp 8 (.bool (decide (s1 < (a0.commands.length : Int)))) hK fun fr hK => ?_
  refine wpListIn_nil (then_n ?_)
  refine w_cond hK rfl (fun hb1 => ?_) (fun hb1 => ?_)
  ·
   replace hK := hK.more (t := 8) (v' := .bool true) rfl (by rw [hb1])
   replace h := ite_t (of_decide_eq_true hb1) h
   refine wpIn_skip ?_
   refine then_n ?_
   refine w_seq ?_
   refine wpIn_block ?_
   refine w_seq (w_region ?_)
   refine qp 11 (.pointer (some ⟨b1, 66, none⟩)) hK fun fr hK => ?_
   refine qo 12 hK (s_load hK.at_ hS 0 rfl rfl rfl rfl (by kernel_rfl) ?_)
   clear hK fr; intro fr hK
   refine qp 13 (.int .i64 s1) hK fun fr hK => ?_
   replace a0_commands_f := Els.mono rep_G_Command a0_commands_f (l1.trans l3)
   obtain ⟨x2, hy1, h⟩ := bind_some h
   refine qo 14 hK (s_idx elT25_0 a0_commands_f hy1 hK.at_ rfl rfl rfl ?_)
   clear hK fr; intro b2 p1 cs1 hR1 hA1 fr hK
   obtain ⟨e1_data_a, e1_data_c, rfl, e1_data_f⟩ := hR1
   refine qp 15 (.pointer (some ⟨b2, p1 + 4, none⟩)) hK fun fr hK => ?_
   refine qo 16 hK (s_loadAt hK.at_ hA1 4 rfl rfl rfl rfl (by kernel_rfl) ?_)
   clear hK fr; intro fr hK
   refine qp 17 (.int .i64 (x2.data.length : Int)) hK fun fr hK => ?_
   refine qp 18 (.bool (decide ((x2.data.length : Int) > 300))) hK fun fr hK => ?_
   refine wpListIn_nil (then_n ?_)
   refine w_cond hK rfl (fun hb2 => ?_) (fun hb2 => ?_)
   ·
    replace hK := hK.more (t := 18) (v' := .bool true) rfl (by rw [hb2])
    replace h := ite_t (of_decide_eq_true hb2) h
    refine w_seq (w_region ?_)
    refine qp 2 (.bool false) hK fun fr hK => ?_
    refine wpListIn_nil (then_n ?_)
    refine wpIn_ret ?_
    refine blk_r ?_
    refine then_r ?_
    refine then_r ?_
    refine blk_r ?_
    refine then_r ?_
    refine then_r ?_
    replace h := Option.some.inj h; subst h
    replace h := Option.some.inj (loop_out hn1); subst h
    replace h := Option.some.inj (join_out hk1); subst h
    refine ret_of [.tmp 2] [.bool false] rfl hK (.tmp rfl .nil) hS.dropAll ?_
    exact ⟨rfl, rfl⟩
   ·
    replace hK := hK.more (t := 18) (v' := .bool false) rfl (by rw [hb2])
    replace h := ite_f (of_decide_eq_false hb2) h
    refine wpIn_skip ?_
    refine blk_n ?_
    refine then_n ?_
    refine w_region ?_
    refine qp 9 (.int .i64 s1) hK fun fr hK => ?_
    refine qp 10 (.int .i64 (IntKind.i64.wrap (s1 + 1))) hK fun fr hK => ?_
    refine qp 3 (.int .i64 (IntKind.i64.wrap (s1 + 1))) hK fun fr hK => ?_
    refine wpListIn_nil (then_n ?_)
    replace hS : St _ m m3 [.box b1 (G_Delta_cells a0 a0_commands_a a0_commands_c) 27] := hS
    replace h := Option.some.inj h; subst h
    obtain ⟨kq, hk1, hk2⟩ := hn1
    exact ⟨kq, hk1, _, hk2, m3, rfl, hK.only [1, 3], l3, hS⟩
  ·
   replace hK := hK.more (t := 8) (v' := .bool false) rfl (by rw [hb1])
   replace h := ite_f (of_decide_eq_false hb1) h
   refine wpIn_exit ?_
   refine then_x ?_
   refine then_x ?_
   refine blk_e ?_
   refine then_n ?_
   replace hS : St _ m m3 [.box b1 (G_Delta_cells a0 a0_commands_a a0_commands_c) 27] := hS
   replace h := Option.some.inj h; subst h
   replace h := Option.some.inj (loop_out hn1); subst h
   exact ⟨_, rfl, m3, rfl, hK.only [1], l3, hS⟩
set_option maxRecDepth 100000 in
set_option maxHeartbeats 1000000 in
theorem G.extent_Valid_spec {m : Mem} {a0 : G.Extent} {r : Bool} (h : G.extent_Valid a0 = some r) :
  Spec Try.prog 91 #[.agg #[.int .i64 a0.off, .int .i64 a0.len]] m [] fun v m' L => L = [] ∧ v = .bool r := by
 unfold G.extent_Valid at h
 refine enter (args := [_]) 22 Try.func91 rfl rfl (by simp) fun fr hK => ?_
 have hS := St.refl (Ow.nil m)
 replace hK : Kn 22 fr [(0, .agg #[.int .i64 a0.off, .int .i64 a0.len])] := hK
 refine w_seq (w_region ?_)
 refine qo 1 hK (s_box hK.at_ hS rfl rfl ?_)
 clear hK fr hS; intro m1 b1 b1z l1 hS fr hK
 replace hS : St _ m m1 [.box b1 #[.int .i64 a0.off, .int .i64 a0.len] 91] := hS
 refine qp 2 (.bool false) hK fun fr hK => ?_
 refine wpListIn_nil (then_n ?_)
 refine w_seq (w_region ?_)
 refine qp 3 (.pointer (some ⟨b1, 0, none⟩)) hK fun fr hK => ?_
 refine qo 4 hK (s_load hK.at_ hS 0 rfl rfl rfl rfl (by kernel_rfl) ?_)
 clear hK fr; intro fr hK
 refine qp 5 (.pointer (some ⟨b1, 1, none⟩)) hK fun fr hK => ?_
 refine qo 6 hK (s_load hK.at_ hS 0 rfl rfl rfl rfl (by kernel_rfl) ?_)
 clear hK fr; intro fr hK
 refine qp 7 (.int .i64 (imin a0.off a0.len)) hK fun fr hK => ?_
 refine qp 8 (.bool (decide ((imin a0.off a0.len) ≥ 0))) hK fun fr hK => ?_
 refine qp 9 (.bool (decide ((imin a0.off a0.len) ≥ 0))) hK fun fr hK => ?_
 refine split_b (x := decide ((imin a0.off a0.len) ≥ 0)) (fun hb1 => ?_) (fun hb1 => ?_)
 ·
  replace hK := hK.more (t := 9) (v' := .bool true) rfl (by rw [hb1])
  replace hK := hK.more (t := 8) (v' := .bool true) rfl (by rw [hb1])
  replace h := ite_t (of_decide_eq_true hb1) h
  refine qp 10 (.pointer (some ⟨b1, 0, none⟩)) hK fun fr hK => ?_
  refine qo 11 hK (s_load hK.at_ hS 0 rfl rfl rfl rfl (by kernel_rfl) ?_)
  clear hK fr; intro fr hK
  refine qp 12 (.bool (decide (a0.off ≤ 4611686018427387903))) hK fun fr hK => ?_
  refine qp 13 (.bool (decide (a0.off ≤ 4611686018427387903))) hK fun fr hK => ?_
  refine qp 14 (.bool (decide (a0.off ≤ 4611686018427387903))) hK fun fr hK => ?_
  refine split_b (x := decide (a0.off ≤ 4611686018427387903)) (fun hb2 => ?_) (fun hb2 => ?_)
  ·
   replace hK := hK.more (t := 14) (v' := .bool true) rfl (by rw [hb2])
   replace hK := hK.more (t := 13) (v' := .bool true) rfl (by rw [hb2])
   replace hK := hK.more (t := 12) (v' := .bool true) rfl (by rw [hb2])
   replace h := ite_t (of_decide_eq_true hb2) h
   refine qp 15 (.pointer (some ⟨b1, 1, none⟩)) hK fun fr hK => ?_
   refine qo 16 hK (s_load hK.at_ hS 0 rfl rfl rfl rfl (by kernel_rfl) ?_)
   clear hK fr; intro fr hK
   refine qp 17 (.pointer (some ⟨b1, 0, none⟩)) hK fun fr hK => ?_
   refine qo 18 hK (s_load hK.at_ hS 0 rfl rfl rfl rfl (by kernel_rfl) ?_)
   clear hK fr; intro fr hK
   refine qp 19 (.int .i64 (IntKind.i64.wrap (4611686018427387903 - a0.off))) hK fun fr hK => ?_
   refine qp 20 (.bool (decide (a0.len ≤ (IntKind.i64.wrap (4611686018427387903 - a0.off))))) hK fun fr hK => ?_
   refine qp 21 (.bool (decide (a0.len ≤ (IntKind.i64.wrap (4611686018427387903 - a0.off))))) hK fun fr hK => ?_
   refine qp 2 (.bool (decide (a0.len ≤ (IntKind.i64.wrap (4611686018427387903 - a0.off))))) hK fun fr hK => ?_
   refine wpListIn_nil (then_n ?_)
   refine wpIn_ret ?_
   replace h := Option.some.inj h; subst h
   refine ret_of [.tmp 2] [.bool (decide (a0.len ≤ (IntKind.i64.wrap (4611686018427387903 - a0.off))))] rfl hK (.tmp rfl .nil) hS.dropAll ?_
   exact ⟨rfl, rfl⟩
  ·
   replace hK := hK.more (t := 14) (v' := .bool false) rfl (by rw [hb2])
   replace hK := hK.more (t := 13) (v' := .bool false) rfl (by rw [hb2])
   replace hK := hK.more (t := 12) (v' := .bool false) rfl (by rw [hb2])
   replace h := ite_f (of_decide_eq_false hb2) h
   refine qs 15 hK ?_
   clear hK fr; intro fr hK
   refine qs 16 hK ?_
   clear hK fr; intro fr hK
   refine qs 17 hK ?_
   clear hK fr; intro fr hK
   refine qs 18 hK ?_
   clear hK fr; intro fr hK
   refine qs 19 hK ?_
   clear hK fr; intro fr hK
   refine qs 20 hK ?_
   clear hK fr; intro fr hK
   refine qp 21 (.bool false) hK fun fr hK => ?_
   refine qp 2 (.bool false) hK fun fr hK => ?_
   refine wpListIn_nil (then_n ?_)
   refine wpIn_ret ?_
   replace h := Option.some.inj h; subst h
   refine ret_of [.tmp 2] [.bool false] rfl hK (.tmp rfl .nil) hS.dropAll ?_
   exact ⟨rfl, rfl⟩
 ·
  replace hK := hK.more (t := 9) (v' := .bool false) rfl (by rw [hb1])
  replace hK := hK.more (t := 8) (v' := .bool false) rfl (by rw [hb1])
  replace h := ite_f (of_decide_eq_false hb1) h
  refine qs 10 hK ?_
  clear hK fr; intro fr hK
  refine qs 11 hK ?_
  clear hK fr; intro fr hK
  refine qs 12 hK ?_
  clear hK fr; intro fr hK
  refine qp 13 (.bool false) hK fun fr hK => ?_
  refine qp 14 (.bool false) hK fun fr hK => ?_
  refine qs 15 hK ?_
  clear hK fr; intro fr hK
  refine qs 16 hK ?_
  clear hK fr; intro fr hK
  refine qs 17 hK ?_
  clear hK fr; intro fr hK
  refine qs 18 hK ?_
  clear hK fr; intro fr hK
  refine qs 19 hK ?_
  clear hK fr; intro fr hK
  refine qs 20 hK ?_
  clear hK fr; intro fr hK
  refine qp 21 (.bool false) hK fun fr hK => ?_
  refine qp 2 (.bool false) hK fun fr hK => ?_
  refine wpListIn_nil (then_n ?_)
  refine wpIn_ret ?_
  replace h := Option.some.inj h; subst h
  refine ret_of [.tmp 2] [.bool false] rfl hK (.tmp rfl .nil) hS.dropAll ?_
  exact ⟨rfl, rfl⟩
set_option maxRecDepth 100000 in
set_option maxHeartbeats 1000000 in
theorem G.delta_inRange_spec {m : Mem} {a0 : Int} {r : Bool} (h : G.delta_inRange a0 = some r) :
  Spec Try.prog 65 #[.int .i64 a0] m [] fun v m' L => L = [] ∧ v = .bool r := by
 unfold G.delta_inRange at h
 refine enter (args := [_]) 6 Try.func65 rfl rfl (by simp) fun fr hK => ?_
 have hS := St.refl (Ow.nil m)
 replace hK : Kn 6 fr [(0, .int .i64 a0)] := hK
 refine w_seq (w_region ?_)
 refine qp 2 (.bool false) hK fun fr hK => ?_
 refine wpListIn_nil (then_n ?_)
 refine w_seq (w_region ?_)
 refine qp 3 (.int .i64 a0) hK fun fr hK => ?_
 refine qp 4 (.agg #[.int .i64 0, .int .i64 a0]) hK fun fr hK => ?_
 obtain ⟨y1, hy1, h⟩ := bind_some h
 refine qo 5 hK (s_call hK.at_ hS ent91_0 rfl rfl rfl rfl (G.extent_Valid_spec hy1) (by kernel_rfl) ?_)
 clear hK fr hS; rintro _ m1 _ l1 hS ⟨rfl, rfl⟩ fr hK
 replace hS : St _ m m1 [] := hS
 refine qp 2 (.bool y1) hK fun fr hK => ?_
 refine wpListIn_nil (then_n ?_)
 refine wpIn_ret ?_
 replace h := Option.some.inj h; subst h
 refine ret_of [.tmp 2] [.bool y1] rfl hK (.tmp rfl .nil) hS.dropAll ?_
 exact ⟨rfl, rfl⟩
set_option maxRecDepth 100000 in
set_option maxHeartbeats 1000000 in
theorem G.command_of_spec {m : Mem} {a0 : G.Command} {a0_data_a : Option Addr} {a0_data_c : Nat} (a0_data_f : Els isU8 m 1 a0_data_a a0_data_c a0.data) {r : G.command_target} (h : G.command_of a0 = some r) :
  Spec Try.prog 103 #[.agg #[.int .i64 a0.kind, .int .i64 a0.to, .int .i64 a0.from_, .int .i64 a0.len, .slice a0_data_a a0.data.length a0_data_c]] m [] fun v m' L => L = [] ∧ v = .agg #[.int .i64 r.extent.off, .int .i64 r.extent.len] := by
 unfold G.command_of at h
 refine enter (args := [_]) 17 Try.func103 rfl rfl (by simp) fun fr hK => ?_
 have hS := St.refl (Ow.nil m)
 replace hK : Kn 17 fr [(0, .agg #[.int .i64 a0.kind, .int .i64 a0.to, .int .i64 a0.from_, .int .i64 a0.len, .slice a0_data_a a0.data.length a0_data_c])] := hK
 refine w_seq (w_region ?_)
 refine qo 1 hK (s_box hK.at_ hS rfl rfl ?_)
 clear hK fr hS; intro m1 b1 b1z l1 hS fr hK
 refine qo 2 hK (s_alloc (.agg #[.int .i64 0, .int .i64 0]) hK.at_ hS rfl (by kernel_rfl) ?_)
 clear hK fr hS; intro m2 b2 b2z l2 hS fr hK
 replace hS : St _ m m2 [.box b2 #[.int .i64 0, .int .i64 0] 133, .box b1 #[.int .i64 a0.kind, .int .i64 a0.to, .int .i64 a0.from_, .int .i64 a0.len, .slice a0_data_a a0.data.length a0_data_c] 50] := hS
 refine wpListIn_nil (then_n ?_)
 refine w_seq (w_region ?_)
 refine qp 4 (.pointer (some ⟨b1, 4, none⟩)) hK fun fr hK => ?_
 refine qo 5 hK (s_load hK.at_ hS 1 rfl rfl rfl rfl (by kernel_rfl) ?_)
 clear hK fr; intro fr hK
 refine qp 6 (.int .i64 (a0.data.length : Int)) hK fun fr hK => ?_
 refine qp 3 (.int .i64 (a0.data.length : Int)) hK fun fr hK => ?_
 refine wpListIn_nil (then_n ?_)
 refine w_seq ?_
 refine w_seq (w_region ?_)
 refine qp 7 (.pointer (some ⟨b1, 0, none⟩)) hK fun fr hK => ?_
 refine qo 8 hK (s_load hK.at_ hS 1 rfl rfl rfl rfl (by kernel_rfl) ?_)
 clear hK fr; intro fr hK
 refine qp 9 (.bool (a0.kind == 1)) hK fun fr hK => ?_
 refine wpListIn_nil (then_n ?_)
 obtain ⟨v1, hv1, h⟩ := bind_some h
 refine w_join (fun fr ww => ∃ m3 : Mem, m3.w = ww ∧ Kn 17 fr [(1, .pointer (some ⟨b1, 0, none⟩)), (2, .pointer (some ⟨b2, 0, none⟩)), (3, .int .i64 v1)] ∧ Le m2 m3 ∧ St (blocksOf []) m m3 [.box b2 #[.int .i64 0, .int .i64 0] 133, .box b1 #[.int .i64 a0.kind, .int .i64 a0.to, .int .i64 a0.from_, .int .i64 a0.len, .slice a0_data_a a0.data.length a0_data_c] 50]) ?_ ?_
 ·
  clear hK hS fr hv1
  rintro fr _ ⟨m3, rfl, hK, l3, hS⟩
  refine then_n ?_
  refine w_seq (w_region ?_)
  refine qp 12 (.pointer (some ⟨b1, 1, none⟩)) hK fun fr hK => ?_
  refine qo 13 hK (s_load hK.at_ hS 1 rfl rfl rfl rfl (by kernel_rfl) ?_)
  clear hK fr; intro fr hK
  refine qp 14 (.int .i64 v1) hK fun fr hK => ?_
  refine qp 15 (.agg #[.int .i64 a0.to, .int .i64 v1]) hK fun fr hK => ?_
  refine qp 16 (.agg #[.int .i64 a0.to, .int .i64 v1]) hK fun fr hK => ?_
  refine qo0 hK (s_storeAll hK.at_ 0 hS rfl rfl rfl rfl (by kernel_rfl) (by kernel_rfl) (by kernel_rfl) ?_)
  clear hK fr hS; intro m4 l4 hS fr hK
  replace hS : St _ m m4 [.box b2 #[.int .i64 a0.to, .int .i64 v1] 133, .box b1 #[.int .i64 a0.kind, .int .i64 a0.to, .int .i64 a0.from_, .int .i64 a0.len, .slice a0_data_a a0.data.length a0_data_c] 50] := hS
  refine wpListIn_nil (then_n ?_)
  refine wpIn_ret ?_
  replace h := Option.some.inj h; subst h
  refine ret_of [.cell 2 133] [.agg #[.int .i64 a0.to, .int .i64 v1]] rfl hK (ResL.box hS 0 rfl rfl (by kernel_rfl) .nil) hS.dropAll ?_
  exact ⟨rfl, rfl⟩
 ·
  replace h := hv1; clear hv1
  refine w_cond hK rfl (fun hb1 => ?_) (fun hb1 => ?_)
  ·
   replace hK := hK.more (t := 9) (v' := .bool true) rfl (by rw [hb1])
   replace h := ite_t (eq_of_beq hb1) h
   refine w_region ?_
   refine qp 10 (.pointer (some ⟨b1, 3, none⟩)) hK fun fr hK => ?_
   refine qo 11 hK (s_load hK.at_ hS 1 rfl rfl rfl rfl (by kernel_rfl) ?_)
   clear hK fr; intro fr hK
   refine qp 3 (.int .i64 a0.len) hK fun fr hK => ?_
   refine wpListIn_nil (then_n ?_)
   replace hS := hS.front 1 rfl
   replace hS := hS.front 1 rfl
   replace hS : St _ m m2 [.box b2 #[.int .i64 0, .int .i64 0] 133, .box b1 #[.int .i64 a0.kind, .int .i64 a0.to, .int .i64 a0.from_, .int .i64 a0.len, .slice a0_data_a a0.data.length a0_data_c] 50] := hS
   replace h := Option.some.inj h; subst h
   exact ⟨m2, rfl, hK.only [1, 2, 3], Le.refl _, hS⟩
  ·
   replace hK := hK.more (t := 9) (v' := .bool false) rfl (by rw [hb1])
   replace h := ite_f (ne_of_beq_false hb1) h
   refine wpIn_skip ?_
   refine then_n ?_
   replace hS := hS.front 1 rfl
   replace hS := hS.front 1 rfl
   replace hS : St _ m m2 [.box b2 #[.int .i64 0, .int .i64 0] 133, .box b1 #[.int .i64 a0.kind, .int .i64 a0.to, .int .i64 a0.from_, .int .i64 a0.len, .slice a0_data_a a0.data.length a0_data_c] 50] := hS
   replace h := Option.some.inj h; subst h
   exact ⟨m2, rfl, hK.only [1, 2, 3], Le.refl _, hS⟩
set_option maxRecDepth 100000 in
set_option maxHeartbeats 1000000 in
theorem G.command_Check_spec {m : Mem} {a0 : G.Command} {a0_data_a : Option Addr} {a0_data_c : Nat} (a0_data_f : Els isU8 m 1 a0_data_a a0_data_c a0.data) {r : Int} (h : G.command_Check a0 = some r) :
  Spec Try.prog 92 #[.agg #[.int .i64 a0.kind, .int .i64 a0.to, .int .i64 a0.from_, .int .i64 a0.len, .slice a0_data_a a0.data.length a0_data_c]] m [] fun v m' L => L = [] ∧ v = .int .i64 r := by
 unfold G.command_Check at h
 refine enter (args := [_]) 53 Try.func92 rfl rfl (by simp) fun fr hK => ?_
 have hS := St.refl (Ow.nil m)
 replace hK : Kn 53 fr [(0, .agg #[.int .i64 a0.kind, .int .i64 a0.to, .int .i64 a0.from_, .int .i64 a0.len, .slice a0_data_a a0.data.length a0_data_c])] := hK
 refine w_seq (w_region ?_)
 refine qo 1 hK (s_box hK.at_ hS rfl rfl ?_)
 clear hK fr hS; intro m1 b1 b1z l1 hS fr hK
 replace hS : St _ m m1 [.box b1 #[.int .i64 a0.kind, .int .i64 a0.to, .int .i64 a0.from_, .int .i64 a0.len, .slice a0_data_a a0.data.length a0_data_c] 50] := hS
 refine qp 2 (.int .i64 0) hK fun fr hK => ?_
 refine wpListIn_nil (then_n ?_)
 refine w_seq ?_
 refine w_seq ?_
 obtain ⟨v1, hv1, h⟩ := bind_some h
 refine w_join (fun fr ww => ∃ m2 : Mem, m2.w = ww ∧ Kn 53 fr [(1, .pointer (some ⟨b1, 0, none⟩)), (12, .bool v1)] ∧ Le m1 m2 ∧ St (blocksOf []) m m2 [.box b1 #[.int .i64 a0.kind, .int .i64 a0.to, .int .i64 a0.from_, .int .i64 a0.len, .slice a0_data_a a0.data.length a0_data_c] 50]) ?_ ?_
 ·
  clear hK hS fr hv1
  rintro fr _ ⟨m2, rfl, hK, l2, hS⟩
  refine then_n ?_
  refine w_cond hK rfl (fun hb1 => ?_) (fun hb1 => ?_)
  ·
   replace hK := hK.more (t := 12) (v' := .bool true) rfl (by rw [hb1])
   replace h := ite_t (hb1) h
   refine w_seq (w_region ?_)
   refine qp 2 (.int .i64 11) hK fun fr hK => ?_
   refine wpListIn_nil (then_n ?_)
   refine wpIn_ret ?_
   refine then_r ?_
   replace h := Option.some.inj h; subst h
   refine ret_of [.tmp 2] [.int .i64 11] rfl hK (.tmp rfl .nil) hS.dropAll ?_
   exact ⟨rfl, rfl⟩
  ·
   replace hK := hK.more (t := 12) (v' := .bool false) rfl (by rw [hb1])
   replace h := ite_f (ne_true_of_eq_false hb1) h
   refine wpIn_skip ?_
   refine then_n ?_
   refine w_seq (w_region ?_)
   refine qo 13 hK (s_loadAll hK.at_ hS 0 rfl rfl rfl (by kernel_rfl) ?_)
   clear hK fr; intro fr hK
   replace a0_data_f := Els.mono rep_U8 a0_data_f (l1.trans l2)
   obtain ⟨y1, hy1, h⟩ := bind_some h
   refine qo 14 hK (s_call hK.at_ hS ent103_0 rfl rfl rfl rfl (G.command_of_spec a0_data_f hy1) (by kernel_rfl) ?_)
   clear hK fr hS; rintro _ m3 _ l3 hS ⟨rfl, rfl⟩ fr hK
   refine qo 3 hK (s_alloc (.agg #[.int .i64 0, .int .i64 0]) hK.at_ hS rfl (by kernel_rfl) ?_)
   clear hK fr hS; intro m4 b2 b2z l4 hS fr hK
   refine qo0 hK (s_storeAll hK.at_ 0 hS rfl rfl rfl rfl (by kernel_rfl) (by kernel_rfl) (by kernel_rfl) ?_)
   clear hK fr hS; intro m5 l5 hS fr hK
   replace hS : St _ m m5 [.box b2 #[.int .i64 y1.extent.off, .int .i64 y1.extent.len] 133, .box b1 #[.int .i64 a0.kind, .int .i64 a0.to, .int .i64 a0.from_, .int .i64 a0.len, .slice a0_data_a a0.data.length a0_data_c] 50] := hS
   refine wpListIn_nil (then_n ?_)
   refine w_seq ?_
   refine w_seq (w_region ?_)
   refine qp 15 (.pointer (some ⟨b2, 0, none⟩)) hK fun fr hK => ?_
   refine qp 16 (.pointer (some ⟨b2, 1, none⟩)) hK fun fr hK => ?_
   refine qo 17 hK (s_load hK.at_ hS 0 rfl rfl rfl rfl (by kernel_rfl) ?_)
   clear hK fr; intro fr hK
   refine qp 18 (.bool (y1.extent.len == 0)) hK fun fr hK => ?_
   refine wpListIn_nil (then_n ?_)
   refine w_cond hK rfl (fun hb2 => ?_) (fun hb2 => ?_)
   ·
    replace hK := hK.more (t := 18) (v' := .bool true) rfl (by rw [hb2])
    replace h := ite_t (eq_of_beq hb2) h
    refine w_seq (w_region ?_)
    refine qp 2 (.int .i64 7) hK fun fr hK => ?_
    refine wpListIn_nil (then_n ?_)
    refine wpIn_ret ?_
    refine then_r ?_
    replace h := Option.some.inj h; subst h
    refine ret_of [.tmp 2] [.int .i64 7] rfl hK (.tmp rfl .nil) hS.dropAll ?_
    exact ⟨rfl, rfl⟩
   ·
    replace hK := hK.more (t := 18) (v' := .bool false) rfl (by rw [hb2])
    replace h := ite_f (ne_of_beq_false hb2) h
    refine wpIn_skip ?_
    refine then_n ?_
    refine w_seq (w_region ?_)
    refine qp 19 (.pointer (some ⟨b2, 0, none⟩)) hK fun fr hK => ?_
    refine qo 20 hK (s_loadAll hK.at_ hS 0 rfl rfl rfl (by kernel_rfl) ?_)
    clear hK fr; intro fr hK
    obtain ⟨y2, hy2, h⟩ := bind_some h
    refine qo 21 hK (s_call hK.at_ hS ent91_0 rfl rfl rfl rfl (G.extent_Valid_spec hy2) (by kernel_rfl) ?_)
    clear hK fr hS; rintro _ m6 _ l6 hS ⟨rfl, rfl⟩ fr hK
    replace hS : St _ m m6 [.box b2 #[.int .i64 y1.extent.off, .int .i64 y1.extent.len] 133, .box b1 #[.int .i64 a0.kind, .int .i64 a0.to, .int .i64 a0.from_, .int .i64 a0.len, .slice a0_data_a a0.data.length a0_data_c] 50] := hS
    refine qp 4 (.bool y2) hK fun fr hK => ?_
    refine wpListIn_nil (then_n ?_)
    refine w_seq ?_
    refine w_seq (w_region ?_)
    refine qp 22 (.pointer (some ⟨b1, 0, none⟩)) hK fun fr hK => ?_
    refine qo 23 hK (s_load hK.at_ hS 1 rfl rfl rfl rfl (by kernel_rfl) ?_)
    clear hK fr; intro fr hK
    refine qp 24 (.bool (a0.kind == 1)) hK fun fr hK => ?_
    refine wpListIn_nil (then_n ?_)
    obtain ⟨v2, hv2, h⟩ := bind_some h
    refine w_join (fun fr ww => ∃ m7 : Mem, m7.w = ww ∧ Kn 53 fr [(4, .bool v2)] ∧ Le m6 m7 ∧ St (blocksOf []) m m7 []) ?_ ?_
    ·
     clear hK hS fr hv2
     rintro fr _ ⟨m7, rfl, hK, l7, hS⟩
     refine then_n ?_
     refine w_seq ?_
     refine w_seq (w_region ?_)
     refine qp 51 (.bool v2) hK fun fr hK => ?_
     refine qp 52 (.bool (!v2)) hK fun fr hK => ?_
     refine wpListIn_nil (then_n ?_)
     refine w_cond hK rfl (fun hb3 => ?_) (fun hb3 => ?_)
     ·
      replace hK := hK.more (t := 52) (v' := .bool true) rfl (by rw [hb3])
      replace h := ite_t ((Bool.not_eq_true' _).mp hb3) h
      refine w_seq (w_region ?_)
      refine qp 2 (.int .i64 2) hK fun fr hK => ?_
      refine wpListIn_nil (then_n ?_)
      refine wpIn_ret ?_
      refine then_r ?_
      replace h := Option.some.inj h; subst h
      refine ret_of [.tmp 2] [.int .i64 2] rfl hK (.tmp rfl .nil) hS.dropAll ?_
      exact ⟨rfl, rfl⟩
     ·
      replace hK := hK.more (t := 52) (v' := .bool false) rfl (by rw [hb3])
      replace h := ite_f (not_false_of ((Bool.not_eq_false' _).mp hb3)) h
      refine wpIn_skip ?_
      refine then_n ?_
      refine w_seq (w_region ?_)
      refine qp 2 (.int .i64 0) hK fun fr hK => ?_
      refine wpListIn_nil (then_n ?_)
      refine wpIn_ret ?_
      replace h := Option.some.inj h; subst h
      refine ret_of [.tmp 2] [.int .i64 0] rfl hK (.tmp rfl .nil) hS.dropAll ?_
      exact ⟨rfl, rfl⟩
    ·
     replace h := hv2; clear hv2
     refine w_cond hK rfl (fun hb4 => ?_) (fun hb4 => ?_)
     ·
      replace hK := hK.more (t := 24) (v' := .bool true) rfl (by rw [hb4])
      replace h := ite_t (eq_of_beq hb4) h
      refine w_region ?_
      refine qp 25 (.bool y2) hK fun fr hK => ?_
      refine qp 26 (.bool y2) hK fun fr hK => ?_
      refine split_b (x := y2) (fun hb5 => ?_) (fun hb5 => ?_)
      ·
       replace hK := hK.more (t := 26) (v' := .bool true) rfl (by rw [hb5])
       replace hK := hK.more (t := 25) (v' := .bool true) rfl (by rw [hb5])
       replace hK := hK.more (t := 4) (v' := .bool true) rfl (by rw [hb5])
       replace hK := hK.more (t := 21) (v' := .bool true) rfl (by rw [hb5])
       replace h := ite_t (hb5) h
       refine qp 27 (.pointer (some ⟨b1, 4, none⟩)) hK fun fr hK => ?_
       refine qo 28 hK (s_load hK.at_ hS 1 rfl rfl rfl rfl (by kernel_rfl) ?_)
       clear hK fr; intro fr hK
       refine qp 29 (.int .i64 (a0.data.length : Int)) hK fun fr hK => ?_
       refine qp 30 (.bool ((a0.data.length : Int) == 0)) hK fun fr hK => ?_
       refine qp 31 (.bool ((a0.data.length : Int) == 0)) hK fun fr hK => ?_
       refine qp 32 (.bool ((a0.data.length : Int) == 0)) hK fun fr hK => ?_
       refine split_b (x := ((a0.data.length : Int) == 0)) (fun hb6 => ?_) (fun hb6 => ?_)
       ·
        replace hK := hK.more (t := 32) (v' := .bool true) rfl (by rw [hb6])
        replace hK := hK.more (t := 31) (v' := .bool true) rfl (by rw [hb6])
        replace hK := hK.more (t := 30) (v' := .bool true) rfl (by rw [hb6])
        replace h := ite_t (eq_of_beq hb6) h
        refine qp 33 (.pointer (some ⟨b1, 2, none⟩)) hK fun fr hK => ?_
        refine qo 34 hK (s_load hK.at_ hS 1 rfl rfl rfl rfl (by kernel_rfl) ?_)
        clear hK fr; intro fr hK
        refine qp 35 (.pointer (some ⟨b1, 3, none⟩)) hK fun fr hK => ?_
        refine qo 36 hK (s_load hK.at_ hS 1 rfl rfl rfl rfl (by kernel_rfl) ?_)
        clear hK fr; intro fr hK
        refine qp 37 (.agg #[.int .i64 a0.from_, .int .i64 a0.len]) hK fun fr hK => ?_
        obtain ⟨y3, hy3, h⟩ := bind_some h
        refine qo 38 hK (s_call hK.at_ hS ent91_0 rfl rfl rfl rfl (G.extent_Valid_spec hy3) (by kernel_rfl) ?_)
        clear hK fr hS; rintro _ m8 _ l8 hS ⟨rfl, rfl⟩ fr hK
        replace hS : St _ m m8 [.box b2 #[.int .i64 y1.extent.off, .int .i64 y1.extent.len] 133, .box b1 #[.int .i64 a0.kind, .int .i64 a0.to, .int .i64 a0.from_, .int .i64 a0.len, .slice a0_data_a a0.data.length a0_data_c] 50] := hS
        refine qp 39 (.bool y3) hK fun fr hK => ?_
        refine qp 4 (.bool y3) hK fun fr hK => ?_
        refine wpListIn_nil (then_n ?_)
        replace hS := St.keep (L := []) (R := [.box b2 #[.int .i64 y1.extent.off, .int .i64 y1.extent.len] 133, .box b1 #[.int .i64 a0.kind, .int .i64 a0.to, .int .i64 a0.from_, .int .i64 a0.len, .slice a0_data_a a0.data.length a0_data_c] 50]) hS
        replace h := Option.some.inj h; subst h
        exact ⟨m8, rfl, hK.only [4], l8, hS⟩
       ·
        replace hK := hK.more (t := 32) (v' := .bool false) rfl (by rw [hb6])
        replace hK := hK.more (t := 31) (v' := .bool false) rfl (by rw [hb6])
        replace hK := hK.more (t := 30) (v' := .bool false) rfl (by rw [hb6])
        replace h := ite_f (ne_of_beq_false hb6) h
        refine qs 33 hK ?_
        clear hK fr; intro fr hK
        refine qs 34 hK ?_
        clear hK fr; intro fr hK
        refine qs 35 hK ?_
        clear hK fr; intro fr hK
        refine qs 36 hK ?_
        clear hK fr; intro fr hK
        refine qs 37 hK ?_
        clear hK fr; intro fr hK
        refine qs 38 hK ?_
        clear hK fr; intro fr hK
        refine qp 39 (.bool false) hK fun fr hK => ?_
        refine qp 4 (.bool false) hK fun fr hK => ?_
        refine wpListIn_nil (then_n ?_)
        replace hS := St.keep (L := []) (R := [.box b2 #[.int .i64 y1.extent.off, .int .i64 y1.extent.len] 133, .box b1 #[.int .i64 a0.kind, .int .i64 a0.to, .int .i64 a0.from_, .int .i64 a0.len, .slice a0_data_a a0.data.length a0_data_c] 50]) hS
        replace h := Option.some.inj h; subst h
        exact ⟨m6, rfl, hK.only [4], Le.refl _, hS⟩
      ·
       replace hK := hK.more (t := 26) (v' := .bool false) rfl (by rw [hb5])
       replace hK := hK.more (t := 25) (v' := .bool false) rfl (by rw [hb5])
       replace hK := hK.more (t := 4) (v' := .bool false) rfl (by rw [hb5])
       replace hK := hK.more (t := 21) (v' := .bool false) rfl (by rw [hb5])
       replace h := ite_f (ne_true_of_eq_false hb5) h
       refine qs 27 hK ?_
       clear hK fr; intro fr hK
       refine qs 28 hK ?_
       clear hK fr; intro fr hK
       refine qs 29 hK ?_
       clear hK fr; intro fr hK
       refine qs 30 hK ?_
       clear hK fr; intro fr hK
       refine qp 31 (.bool false) hK fun fr hK => ?_
       refine qp 32 (.bool false) hK fun fr hK => ?_
       refine qs 33 hK ?_
       clear hK fr; intro fr hK
       refine qs 34 hK ?_
       clear hK fr; intro fr hK
       refine qs 35 hK ?_
       clear hK fr; intro fr hK
       refine qs 36 hK ?_
       clear hK fr; intro fr hK
       refine qs 37 hK ?_
       clear hK fr; intro fr hK
       refine qs 38 hK ?_
       clear hK fr; intro fr hK
       refine qp 39 (.bool false) hK fun fr hK => ?_
       refine qp 4 (.bool false) hK fun fr hK => ?_
       refine wpListIn_nil (then_n ?_)
       replace hS := St.keep (L := []) (R := [.box b2 #[.int .i64 y1.extent.off, .int .i64 y1.extent.len] 133, .box b1 #[.int .i64 a0.kind, .int .i64 a0.to, .int .i64 a0.from_, .int .i64 a0.len, .slice a0_data_a a0.data.length a0_data_c] 50]) hS
       replace h := Option.some.inj h; subst h
       exact ⟨m6, rfl, hK.only [4], Le.refl _, hS⟩
     ·
      replace hK := hK.more (t := 24) (v' := .bool false) rfl (by rw [hb4])
      replace h := ite_f (ne_of_beq_false hb4) h
      refine w_region ?_
      refine qp 40 (.bool y2) hK fun fr hK => ?_
      refine qp 41 (.bool y2) hK fun fr hK => ?_
      refine split_b (x := y2) (fun hb7 => ?_) (fun hb7 => ?_)
      ·
       replace hK := hK.more (t := 41) (v' := .bool true) rfl (by rw [hb7])
       replace hK := hK.more (t := 40) (v' := .bool true) rfl (by rw [hb7])
       replace hK := hK.more (t := 4) (v' := .bool true) rfl (by rw [hb7])
       replace hK := hK.more (t := 21) (v' := .bool true) rfl (by rw [hb7])
       replace h := ite_t (hb7) h
       refine qp 42 (.pointer (some ⟨b1, 2, none⟩)) hK fun fr hK => ?_
       refine qo 43 hK (s_load hK.at_ hS 1 rfl rfl rfl rfl (by kernel_rfl) ?_)
       clear hK fr; intro fr hK
       refine qp 44 (.bool (a0.from_ == 0)) hK fun fr hK => ?_
       refine qp 45 (.bool (a0.from_ == 0)) hK fun fr hK => ?_
       refine qp 46 (.bool (a0.from_ == 0)) hK fun fr hK => ?_
       refine split_b (x := (a0.from_ == 0)) (fun hb8 => ?_) (fun hb8 => ?_)
       ·
        replace hK := hK.more (t := 46) (v' := .bool true) rfl (by rw [hb8])
        replace hK := hK.more (t := 45) (v' := .bool true) rfl (by rw [hb8])
        replace hK := hK.more (t := 44) (v' := .bool true) rfl (by rw [hb8])
        replace h := ite_t (eq_of_beq hb8) h
        refine qp 47 (.pointer (some ⟨b1, 3, none⟩)) hK fun fr hK => ?_
        refine qo 48 hK (s_load hK.at_ hS 1 rfl rfl rfl rfl (by kernel_rfl) ?_)
        clear hK fr; intro fr hK
        refine qp 49 (.bool (a0.len == 0)) hK fun fr hK => ?_
        refine qp 50 (.bool (a0.len == 0)) hK fun fr hK => ?_
        refine qp 4 (.bool (a0.len == 0)) hK fun fr hK => ?_
        refine wpListIn_nil (then_n ?_)
        replace hS := St.keep (L := []) (R := [.box b2 #[.int .i64 y1.extent.off, .int .i64 y1.extent.len] 133, .box b1 #[.int .i64 a0.kind, .int .i64 a0.to, .int .i64 a0.from_, .int .i64 a0.len, .slice a0_data_a a0.data.length a0_data_c] 50]) hS
        replace h := Option.some.inj h; subst h
        exact ⟨m6, rfl, hK.only [4], Le.refl _, hS⟩
       ·
        replace hK := hK.more (t := 46) (v' := .bool false) rfl (by rw [hb8])
        replace hK := hK.more (t := 45) (v' := .bool false) rfl (by rw [hb8])
        replace hK := hK.more (t := 44) (v' := .bool false) rfl (by rw [hb8])
        replace h := ite_f (ne_of_beq_false hb8) h
        refine qs 47 hK ?_
        clear hK fr; intro fr hK
        refine qs 48 hK ?_
        clear hK fr; intro fr hK
        refine qs 49 hK ?_
        clear hK fr; intro fr hK
        refine qp 50 (.bool false) hK fun fr hK => ?_
        refine qp 4 (.bool false) hK fun fr hK => ?_
        refine wpListIn_nil (then_n ?_)
        replace hS := St.keep (L := []) (R := [.box b2 #[.int .i64 y1.extent.off, .int .i64 y1.extent.len] 133, .box b1 #[.int .i64 a0.kind, .int .i64 a0.to, .int .i64 a0.from_, .int .i64 a0.len, .slice a0_data_a a0.data.length a0_data_c] 50]) hS
        replace h := Option.some.inj h; subst h
        exact ⟨m6, rfl, hK.only [4], Le.refl _, hS⟩
      ·
       replace hK := hK.more (t := 41) (v' := .bool false) rfl (by rw [hb7])
       replace hK := hK.more (t := 40) (v' := .bool false) rfl (by rw [hb7])
       replace hK := hK.more (t := 4) (v' := .bool false) rfl (by rw [hb7])
       replace hK := hK.more (t := 21) (v' := .bool false) rfl (by rw [hb7])
       replace h := ite_f (ne_true_of_eq_false hb7) h
       refine qs 42 hK ?_
       clear hK fr; intro fr hK
       refine qs 43 hK ?_
       clear hK fr; intro fr hK
       refine qs 44 hK ?_
       clear hK fr; intro fr hK
       refine qp 45 (.bool false) hK fun fr hK => ?_
       refine qp 46 (.bool false) hK fun fr hK => ?_
       refine qs 47 hK ?_
       clear hK fr; intro fr hK
       refine qs 48 hK ?_
       clear hK fr; intro fr hK
       refine qs 49 hK ?_
       clear hK fr; intro fr hK
       refine qp 50 (.bool false) hK fun fr hK => ?_
       refine qp 4 (.bool false) hK fun fr hK => ?_
       refine wpListIn_nil (then_n ?_)
       replace hS := St.keep (L := []) (R := [.box b2 #[.int .i64 y1.extent.off, .int .i64 y1.extent.len] 133, .box b1 #[.int .i64 a0.kind, .int .i64 a0.to, .int .i64 a0.from_, .int .i64 a0.len, .slice a0_data_a a0.data.length a0_data_c] 50]) hS
       replace h := Option.some.inj h; subst h
       exact ⟨m6, rfl, hK.only [4], Le.refl _, hS⟩
 ·
  replace h := hv1; clear hv1
  refine w_region ?_
  refine qp 5 (.pointer (some ⟨b1, 0, none⟩)) hK fun fr hK => ?_
  refine qo 6 hK (s_load hK.at_ hS 0 rfl rfl rfl rfl (by kernel_rfl) ?_)
  clear hK fr; intro fr hK
  refine qp 7 (.bool (a0.kind != 1)) hK fun fr hK => ?_
  refine qp 8 (.bool (a0.kind != 1)) hK fun fr hK => ?_
  refine split_b (x := (a0.kind != 1)) (fun hb9 => ?_) (fun hb9 => ?_)
  ·
   replace hK := hK.more (t := 8) (v' := .bool true) rfl (by rw [hb9])
   replace hK := hK.more (t := 7) (v' := .bool true) rfl (by rw [hb9])
   replace h := ite_t (ne_of_bne hb9) h
   refine qp 9 (.pointer (some ⟨b1, 0, none⟩)) hK fun fr hK => ?_
   refine qo 10 hK (s_load hK.at_ hS 0 rfl rfl rfl rfl (by kernel_rfl) ?_)
   clear hK fr; intro fr hK
   refine qp 11 (.bool (a0.kind != 2)) hK fun fr hK => ?_
   refine qp 12 (.bool (a0.kind != 2)) hK fun fr hK => ?_
   refine wpListIn_nil (then_n ?_)
   replace hS : St _ m m1 [.box b1 #[.int .i64 a0.kind, .int .i64 a0.to, .int .i64 a0.from_, .int .i64 a0.len, .slice a0_data_a a0.data.length a0_data_c] 50] := hS
   replace h := Option.some.inj h; subst h
   exact ⟨m1, rfl, hK.only [1, 12], Le.refl _, hS⟩
  ·
   replace hK := hK.more (t := 8) (v' := .bool false) rfl (by rw [hb9])
   replace hK := hK.more (t := 7) (v' := .bool false) rfl (by rw [hb9])
   replace h := ite_f (not_not_intro (eq_of_bne hb9)) h
   refine qs 9 hK ?_
   clear hK fr; intro fr hK
   refine qs 10 hK ?_
   clear hK fr; intro fr hK
   refine qs 11 hK ?_
   clear hK fr; intro fr hK
   refine qp 12 (.bool false) hK fun fr hK => ?_
   refine wpListIn_nil (then_n ?_)
   replace hS : St _ m m1 [.box b1 #[.int .i64 a0.kind, .int .i64 a0.to, .int .i64 a0.from_, .int .i64 a0.len, .slice a0_data_a a0.data.length a0_data_c] 50] := hS
   replace h := Option.some.inj h; subst h
   exact ⟨m1, rfl, hK.only [1, 12], Le.refl _, hS⟩
set_option maxRecDepth 100000 in
set_option maxHeartbeats 1000000 in
theorem G.command_Source_spec {m : Mem} {a0 : G.Command} {a0_data_a : Option Addr} {a0_data_c : Nat} (a0_data_f : Els isU8 m 1 a0_data_a a0_data_c a0.data) {r : G.Extent × Bool} (h : G.command_Source a0 = some r) :
  Spec Try.prog 71 #[.agg #[.int .i64 a0.kind, .int .i64 a0.to, .int .i64 a0.from_, .int .i64 a0.len, .slice a0_data_a a0.data.length a0_data_c]] m [] fun v m' L => L = [] ∧ v = .tuple #[.agg #[.int .i64 r.1.off, .int .i64 r.1.len], .bool r.2] := by
 unfold G.command_Source at h
 refine enter (args := [_]) 13 Try.func71 rfl rfl (by simp) fun fr hK => ?_
 have hS := St.refl (Ow.nil m)
 replace hK : Kn 13 fr [(0, .agg #[.int .i64 a0.kind, .int .i64 a0.to, .int .i64 a0.from_, .int .i64 a0.len, .slice a0_data_a a0.data.length a0_data_c])] := hK
 refine w_seq (w_region ?_)
 refine qo 1 hK (s_box hK.at_ hS rfl rfl ?_)
 clear hK fr hS; intro m1 b1 b1z l1 hS fr hK
 refine qo 2 hK (s_alloc (.agg #[.int .i64 0, .int .i64 0]) hK.at_ hS rfl (by kernel_rfl) ?_)
 clear hK fr hS; intro m2 b2 b2z l2 hS fr hK
 replace hS : St _ m m2 [.box b2 #[.int .i64 0, .int .i64 0] 91, .box b1 #[.int .i64 a0.kind, .int .i64 a0.to, .int .i64 a0.from_, .int .i64 a0.len, .slice a0_data_a a0.data.length a0_data_c] 50] := hS
 refine qp 3 (.bool false) hK fun fr hK => ?_
 refine wpListIn_nil (then_n ?_)
 refine w_seq ?_
 refine w_seq (w_region ?_)
 refine qp 4 (.pointer (some ⟨b1, 0, none⟩)) hK fun fr hK => ?_
 refine qo 5 hK (s_load hK.at_ hS 1 rfl rfl rfl rfl (by kernel_rfl) ?_)
 clear hK fr; intro fr hK
 refine qp 6 (.bool (a0.kind != 1)) hK fun fr hK => ?_
 refine wpListIn_nil (then_n ?_)
 refine w_cond hK rfl (fun hb1 => ?_) (fun hb1 => ?_)
 ·
  replace hK := hK.more (t := 6) (v' := .bool true) rfl (by rw [hb1])
  replace h := ite_t (ne_of_bne hb1) h
  refine w_seq (w_region ?_)
  refine qp 7 (.agg #[.int .i64 0, .int .i64 0]) hK fun fr hK => ?_
  refine qo0 hK (s_storeAll hK.at_ 0 hS rfl rfl rfl rfl (by kernel_rfl) (by kernel_rfl) (by kernel_rfl) ?_)
  clear hK fr hS; intro m3 l3 hS fr hK
  replace hS : St _ m m3 [.box b2 #[.int .i64 0, .int .i64 0] 91, .box b1 #[.int .i64 a0.kind, .int .i64 a0.to, .int .i64 a0.from_, .int .i64 a0.len, .slice a0_data_a a0.data.length a0_data_c] 50] := hS
  refine qp 3 (.bool false) hK fun fr hK => ?_
  refine wpListIn_nil (then_n ?_)
  refine wpIn_ret ?_
  refine then_r ?_
  replace h := Option.some.inj h; subst h
  refine ret_of [.cell 2 91, .tmp 3] [.agg #[.int .i64 0, .int .i64 0], .bool false] rfl hK (ResL.box hS 0 rfl rfl (by kernel_rfl) (.tmp rfl .nil)) hS.dropAll ?_
  exact ⟨rfl, rfl⟩
 ·
  replace hK := hK.more (t := 6) (v' := .bool false) rfl (by rw [hb1])
  replace h := ite_f (not_not_intro (eq_of_bne hb1)) h
  refine wpIn_skip ?_
  refine then_n ?_
  refine w_seq (w_region ?_)
  refine qp 8 (.pointer (some ⟨b1, 2, none⟩)) hK fun fr hK => ?_
  refine qo 9 hK (s_load hK.at_ hS 1 rfl rfl rfl rfl (by kernel_rfl) ?_)
  clear hK fr; intro fr hK
  refine qp 10 (.pointer (some ⟨b1, 3, none⟩)) hK fun fr hK => ?_
  refine qo 11 hK (s_load hK.at_ hS 1 rfl rfl rfl rfl (by kernel_rfl) ?_)
  clear hK fr; intro fr hK
  refine qp 12 (.agg #[.int .i64 a0.from_, .int .i64 a0.len]) hK fun fr hK => ?_
  refine qo0 hK (s_storeAll hK.at_ 0 hS rfl rfl rfl rfl (by kernel_rfl) (by kernel_rfl) (by kernel_rfl) ?_)
  clear hK fr hS; intro m4 l4 hS fr hK
  replace hS : St _ m m4 [.box b2 #[.int .i64 a0.from_, .int .i64 a0.len] 91, .box b1 #[.int .i64 a0.kind, .int .i64 a0.to, .int .i64 a0.from_, .int .i64 a0.len, .slice a0_data_a a0.data.length a0_data_c] 50] := hS
  refine qp 3 (.bool true) hK fun fr hK => ?_
  refine wpListIn_nil (then_n ?_)
  refine wpIn_ret ?_
  replace h := Option.some.inj h; subst h
  refine ret_of [.cell 2 91, .tmp 3] [.agg #[.int .i64 a0.from_, .int .i64 a0.len], .bool true] rfl hK (ResL.box hS 0 rfl rfl (by kernel_rfl) (.tmp rfl .nil)) hS.dropAll ?_
  exact ⟨rfl, rfl⟩
set_option maxRecDepth 100000 in
set_option maxHeartbeats 1000000 in
theorem G.extent_End_spec {m : Mem} {a0 : G.Extent} {r : Int} (h : G.extent_End a0 = some r) :
  Spec Try.prog 93 #[.agg #[.int .i64 a0.off, .int .i64 a0.len]] m [] fun v m' L => L = [] ∧ v = .int .i64 r := by
 unfold G.extent_End at h
 refine enter (args := [_]) 8 Try.func93 rfl rfl (by simp) fun fr hK => ?_
 have hS := St.refl (Ow.nil m)
 replace hK : Kn 8 fr [(0, .agg #[.int .i64 a0.off, .int .i64 a0.len])] := hK
 refine w_seq (w_region ?_)
 refine qo 1 hK (s_box hK.at_ hS rfl rfl ?_)
 clear hK fr hS; intro m1 b1 b1z l1 hS fr hK
 replace hS : St _ m m1 [.box b1 #[.int .i64 a0.off, .int .i64 a0.len] 91] := hS
 refine qp 2 (.int .i64 0) hK fun fr hK => ?_
 refine wpListIn_nil (then_n ?_)
 refine w_seq (w_region ?_)
 refine qp 3 (.pointer (some ⟨b1, 0, none⟩)) hK fun fr hK => ?_
 refine qo 4 hK (s_load hK.at_ hS 0 rfl rfl rfl rfl (by kernel_rfl) ?_)
 clear hK fr; intro fr hK
 refine qp 5 (.pointer (some ⟨b1, 1, none⟩)) hK fun fr hK => ?_
 refine qo 6 hK (s_load hK.at_ hS 0 rfl rfl rfl rfl (by kernel_rfl) ?_)
 clear hK fr; intro fr hK
 refine qp 7 (.int .i64 (IntKind.i64.wrap (a0.off + a0.len))) hK fun fr hK => ?_
 refine qp 2 (.int .i64 (IntKind.i64.wrap (a0.off + a0.len))) hK fun fr hK => ?_
 refine wpListIn_nil (then_n ?_)
 refine wpIn_ret ?_
 replace h := Option.some.inj h; subst h
 refine ret_of [.tmp 2] [.int .i64 (IntKind.i64.wrap (a0.off + a0.len))] rfl hK (.tmp rfl .nil) hS.dropAll ?_
 exact ⟨rfl, rfl⟩
set_option maxRecDepth 100000 in
set_option maxHeartbeats 1000000 in
theorem G.command_Target_spec {m : Mem} {a0 : G.Command} {a0_data_a : Option Addr} {a0_data_c : Nat} (a0_data_f : Els isU8 m 1 a0_data_a a0_data_c a0.data) {r : G.Extent} (h : G.command_Target a0 = some r) :
  Spec Try.prog 88 #[.agg #[.int .i64 a0.kind, .int .i64 a0.to, .int .i64 a0.from_, .int .i64 a0.len, .slice a0_data_a a0.data.length a0_data_c]] m [] fun v m' L => L = [] ∧ v = .agg #[.int .i64 r.off, .int .i64 r.len] := by
 unfold G.command_Target at h
 refine enter (args := [_]) 6 Try.func88 rfl rfl (by simp) fun fr hK => ?_
 have hS := St.refl (Ow.nil m)
 replace hK : Kn 6 fr [(0, .agg #[.int .i64 a0.kind, .int .i64 a0.to, .int .i64 a0.from_, .int .i64 a0.len, .slice a0_data_a a0.data.length a0_data_c])] := hK
 refine w_seq (w_region ?_)
 refine qo 1 hK (s_box hK.at_ hS rfl rfl ?_)
 clear hK fr hS; intro m1 b1 b1z l1 hS fr hK
 refine qo 2 hK (s_alloc (.agg #[.int .i64 0, .int .i64 0]) hK.at_ hS rfl (by kernel_rfl) ?_)
 clear hK fr hS; intro m2 b2 b2z l2 hS fr hK
 replace hS : St _ m m2 [.box b2 #[.int .i64 0, .int .i64 0] 91, .box b1 #[.int .i64 a0.kind, .int .i64 a0.to, .int .i64 a0.from_, .int .i64 a0.len, .slice a0_data_a a0.data.length a0_data_c] 50] := hS
 refine wpListIn_nil (then_n ?_)
 refine w_seq (w_region ?_)
 refine qo 3 hK (s_loadAll hK.at_ hS 1 rfl rfl rfl (by kernel_rfl) ?_)
 clear hK fr; intro fr hK
 replace a0_data_f := Els.mono rep_U8 a0_data_f (l1.trans l2)
 obtain ⟨y1, hy1, h⟩ := bind_some h
 refine qo 4 hK (s_call hK.at_ hS ent103_0 rfl rfl rfl rfl (G.command_of_spec a0_data_f hy1) (by kernel_rfl) ?_)
 clear hK fr hS; rintro _ m3 _ l3 hS ⟨rfl, rfl⟩ fr hK
 refine qp 5 (.agg #[.int .i64 y1.extent.off, .int .i64 y1.extent.len]) hK fun fr hK => ?_
 refine qo0 hK (s_storeAll hK.at_ 0 hS rfl rfl rfl rfl (by kernel_rfl) (by kernel_rfl) (by kernel_rfl) ?_)
 clear hK fr hS; intro m4 l4 hS fr hK
 replace hS : St _ m m4 [.box b2 #[.int .i64 y1.extent.off, .int .i64 y1.extent.len] 91, .box b1 #[.int .i64 a0.kind, .int .i64 a0.to, .int .i64 a0.from_, .int .i64 a0.len, .slice a0_data_a a0.data.length a0_data_c] 50] := hS
 refine wpListIn_nil (then_n ?_)
 refine wpIn_ret ?_
 replace h := Option.some.inj h; subst h
 refine ret_of [.cell 2 91] [.agg #[.int .i64 y1.extent.off, .int .i64 y1.extent.len]] rfl hK (ResL.box hS 0 rfl rfl (by kernel_rfl) .nil) hS.dropAll ?_
 exact ⟨rfl, rfl⟩
set_option maxRecDepth 100000 in
set_option maxHeartbeats 1000000 in
theorem G.delta_single_spec {m : Mem} {a0 : G.Delta} {a0_commands_a : Option Addr} {a0_commands_c : Nat} {a1 : G.Command} {a1_data_a : Option Addr} {a1_data_c : Nat} (a0_commands_f : Els is_G_Command m 5 a0_commands_a a0_commands_c a0.commands) (a1_data_f : Els isU8 m 1 a1_data_a a1_data_c a1.data) {r : Int} (h : G.delta_single a0 a1 = some r) :
  Spec Try.prog 66 #[.agg (G_Delta_cells a0 a0_commands_a a0_commands_c), .agg #[.int .i64 a1.kind, .int .i64 a1.to, .int .i64 a1.from_, .int .i64 a1.len, .slice a1_data_a a1.data.length a1_data_c]] m [] fun v m' L => L = [] ∧ v = .int .i64 r := by
 unfold G.delta_single at h
 refine enter (args := [_, _]) 32 Try.func66 rfl rfl (by simp) fun fr hK => ?_
 have hS := St.refl (Ow.nil m)
 replace hK : Kn 32 fr [(0, .agg (G_Delta_cells a0 a0_commands_a a0_commands_c)), (1, .agg #[.int .i64 a1.kind, .int .i64 a1.to, .int .i64 a1.from_, .int .i64 a1.len, .slice a1_data_a a1.data.length a1_data_c])] := hK
 refine w_seq (w_region ?_)
 refine qo 2 hK (s_box hK.at_ hS rfl rfl ?_)
 clear hK fr hS; intro m1 b1 b1z l1 hS fr hK
 refine qo 3 hK (s_box hK.at_ hS rfl rfl ?_)
 clear hK fr hS; intro m2 b2 b2z l2 hS fr hK
 replace hS : St _ m m2 [.box b2 #[.int .i64 a1.kind, .int .i64 a1.to, .int .i64 a1.from_, .int .i64 a1.len, .slice a1_data_a a1.data.length a1_data_c] 50, .box b1 (G_Delta_cells a0 a0_commands_a a0_commands_c) 27] := hS
 refine qp 4 (.int .i64 0) hK fun fr hK => ?_
 refine wpListIn_nil (then_n ?_)
 refine w_seq ?_
 refine w_seq (w_region ?_)
 refine qo 8 hK (s_loadAll hK.at_ hS 0 rfl rfl rfl (by kernel_rfl) ?_)
 clear hK fr; intro fr hK
 replace a1_data_f := Els.mono rep_U8 a1_data_f (l1.trans l2)
 obtain ⟨y1, hy1, h⟩ := bind_some h
 refine qo 9 hK (s_call hK.at_ hS ent92_0 rfl rfl rfl rfl (G.command_Check_spec a1_data_f hy1) (by kernel_rfl) ?_)
 clear hK fr hS; rintro _ m3 _ l3 hS ⟨rfl, rfl⟩ fr hK
 replace hS : St _ m m3 [.box b2 #[.int .i64 a1.kind, .int .i64 a1.to, .int .i64 a1.from_, .int .i64 a1.len, .slice a1_data_a a1.data.length a1_data_c] 50, .box b1 (G_Delta_cells a0 a0_commands_a a0_commands_c) 27] := hS
 refine qp 5 (.int .i64 y1) hK fun fr hK => ?_
 refine wpListIn_nil (then_n ?_)
 refine w_seq (w_region ?_)
 refine qp 10 (.int .i64 y1) hK fun fr hK => ?_
 refine qp 11 (.bool (y1 != 0)) hK fun fr hK => ?_
 refine wpListIn_nil (then_n ?_)
 refine w_cond hK rfl (fun hb1 => ?_) (fun hb1 => ?_)
 ·
  replace hK := hK.more (t := 11) (v' := .bool true) rfl (by rw [hb1])
  replace h := ite_t (ne_of_bne hb1) h
  refine w_seq (w_region ?_)
  refine qp 12 (.int .i64 y1) hK fun fr hK => ?_
  refine qp 4 (.int .i64 y1) hK fun fr hK => ?_
  refine wpListIn_nil (then_n ?_)
  refine wpIn_ret ?_
  refine then_r ?_
  replace h := Option.some.inj h; subst h
  refine ret_of [.tmp 4] [.int .i64 y1] rfl hK (.tmp rfl .nil) hS.dropAll ?_
  exact ⟨rfl, rfl⟩
 ·
  replace hK := hK.more (t := 11) (v' := .bool false) rfl (by rw [hb1])
  replace h := ite_f (not_not_intro (eq_of_bne hb1)) h
  refine wpIn_skip ?_
  refine then_n ?_
  refine w_seq ?_
  refine w_seq (w_region ?_)
  refine qo 14 hK (s_loadAll hK.at_ hS 0 rfl rfl rfl (by kernel_rfl) ?_)
  clear hK fr; intro fr hK
  replace a1_data_f := Els.mono rep_U8 a1_data_f l3
  obtain ⟨y2, hy2, h⟩ := bind_some h
  refine qo 15 hK (s_call hK.at_ hS ent71_0 rfl rfl rfl rfl (G.command_Source_spec a1_data_f hy2) (by kernel_rfl) ?_)
  clear hK fr hS; rintro _ m4 _ l4 hS ⟨rfl, rfl⟩ fr hK
  refine qp 13 (.tuple #[.agg #[.int .i64 y2.1.off, .int .i64 y2.1.len], .bool y2.2]) hK fun fr hK => ?_
  refine qp 16 (.agg #[.int .i64 y2.1.off, .int .i64 y2.1.len]) hK fun fr hK => ?_
  refine qp 17 (.bool y2.2) hK fun fr hK => ?_
  refine qo 6 hK (s_alloc (.agg #[.int .i64 0, .int .i64 0]) hK.at_ hS rfl (by kernel_rfl) ?_)
  clear hK fr hS; intro m5 b3 b3z l5 hS fr hK
  refine qo0 hK (s_storeAll hK.at_ 0 hS rfl rfl rfl rfl (by kernel_rfl) (by kernel_rfl) (by kernel_rfl) ?_)
  clear hK fr hS; intro m6 l6 hS fr hK
  replace hS : St _ m m6 [.box b3 #[.int .i64 y2.1.off, .int .i64 y2.1.len] 91, .box b2 #[.int .i64 a1.kind, .int .i64 a1.to, .int .i64 a1.from_, .int .i64 a1.len, .slice a1_data_a a1.data.length a1_data_c] 50, .box b1 (G_Delta_cells a0 a0_commands_a a0_commands_c) 27] := hS
  refine qp 7 (.bool y2.2) hK fun fr hK => ?_
  refine wpListIn_nil (then_n ?_)
  refine w_seq ?_
  obtain ⟨v1, hv1, h⟩ := bind_some h
  refine w_join (fun fr ww => ∃ m7 : Mem, m7.w = ww ∧ Kn 32 fr [(2, .pointer (some ⟨b1, 0, none⟩)), (3, .pointer (some ⟨b2, 0, none⟩)), (25, .bool v1)] ∧ Le m6 m7 ∧ St (blocksOf []) m m7 [.box b2 #[.int .i64 a1.kind, .int .i64 a1.to, .int .i64 a1.from_, .int .i64 a1.len, .slice a1_data_a a1.data.length a1_data_c] 50, .box b1 (G_Delta_cells a0 a0_commands_a a0_commands_c) 27]) ?_ ?_
  ·
   clear hK hS fr hv1
   rintro fr _ ⟨m7, rfl, hK, l7, hS⟩
   refine then_n ?_
   refine w_cond hK rfl (fun hb2 => ?_) (fun hb2 => ?_)
   ·
    replace hK := hK.more (t := 25) (v' := .bool true) rfl (by rw [hb2])
    replace h := ite_t (hb2) h
    refine w_seq (w_region ?_)
    refine qp 4 (.int .i64 5) hK fun fr hK => ?_
    refine wpListIn_nil (then_n ?_)
    refine wpIn_ret ?_
    refine then_r ?_
    replace h := Option.some.inj h; subst h
    refine ret_of [.tmp 4] [.int .i64 5] rfl hK (.tmp rfl .nil) hS.dropAll ?_
    exact ⟨rfl, rfl⟩
   ·
    replace hK := hK.more (t := 25) (v' := .bool false) rfl (by rw [hb2])
    replace h := ite_f (ne_true_of_eq_false hb2) h
    refine wpIn_skip ?_
    refine then_n ?_
    refine w_seq ?_
    refine w_seq ?_
    replace a0_commands_f := Els.mono rep_G_Command a0_commands_f (l1.trans (l2.trans (l3.trans (l4.trans (l5.trans (l6.trans l7))))))
    replace a1_data_f := Els.mono rep_U8 a1_data_f (l4.trans (l5.trans (l6.trans l7)))
    obtain ⟨y3, hy3, h⟩ := bind_some h
    obtain ⟨y4, hy4, h⟩ := bind_some h
    have hlt0 : ∀ bq ∈ blocksOf [.box b2 #[.int .i64 a1.kind, .int .i64 a1.to, .int .i64 a1.from_, .int .i64 a1.len, .slice a1_data_a a1.data.length a1_data_c] 50, .box b1 (G_Delta_cells a0 a0_commands_a a0_commands_c) 27], bq < m7.w.heap.size := fun bq hbq => hS.ow.lt hbq
    refine D.wp_draw (Gr := D.GO m7 none) (S := D.SO none (blocksOf []) m m7 (fun _ => [.box b2 #[.int .i64 a1.kind, .int .i64 a1.to, .int .i64 a1.from_, .int .i64 a1.len, .slice a1_data_a a1.data.length a1_data_c] 50, .box b1 (G_Delta_cells a0 a0_commands_a a0_commands_c) 27]) (fun _ => True)) (N := 0) 5 [] [([(3, none)], 0, 0, false), ([(26, some 0)], 0, 0, false), ([(27, some 0)], 0, 0, false), ([(2, none)], 0, 0, false), ([(29, some 0)], 0, 0, false)] hK.size (by kernel_rfl) (by kernel_rfl) (by kernel_rfl) rfl (D.startO hS trivial) ?_
    refine D.on_det (D.GO_refl _ _) [(3, .pointer (some ⟨b2, 0, none⟩))] (.agg #[.int .i64 a1.kind, .int .i64 a1.to, .int .i64 a1.from_, .int .i64 a1.len, .slice a1_data_a a1.data.length a1_data_c]) (fun ac ww hk => (.cons (hk.1.trans (hK.at_ 3 _ rfl)) (.nil _))) (fun ac ww kk hb hKe Post hp => (fun hS => s_loadAll hKe hS 0 rfl rfl rfl (by kernel_rfl) hp) hb.2.1) ?_
    refine D.on_op (fun uu _ => uu = .agg #[.int .i64 y3.off, .int .i64 y3.len]) (fun _ _ _ h _ => h) (by
     intro ac ww kk hlo hhi hb hk
     obtain rfl : kk = 0 := by omega
     have h0 := hS; replace hS := hb.2.1
     have k26 : ac.eval (.tmp 26) = .agg #[.int .i64 a1.kind, .int .i64 a1.to, .int .i64 a1.from_, .int .i64 a1.len, .slice a1_data_a a1.data.length a1_data_c] := hk.1
     have hKe : Ke ac [(26, .agg #[.int .i64 a1.kind, .int .i64 a1.to, .int .i64 a1.from_, .int .i64 a1.len, .slice a1_data_a a1.data.length a1_data_c])] := (.cons k26 (.nil _))
     replace a1_data_f := Els.mono rep_U8 a1_data_f hb.1
     exact ⟨D.wanted0 rfl, D.callO h0 (fun bq hbq => hlt0 bq (by revert hbq; simp [blocksOf, Ent.box, rowOf, Ent.row]; try omega)) hb hKe ent88_0 rfl rfl rfl rfl (G.command_Target_spec a1_data_f hy3) (by kernel_rfl) (by rintro _ m' _ hg hn hl ⟨rfl, rfl⟩; exact rfl)⟩) ?_
    refine D.on_op (fun uu _ => uu = .int .i64 y4) (fun _ _ _ h _ => h) (by
     intro ac ww kk hlo hhi hb hk
     obtain rfl : kk = 0 := by omega
     have h0 := hS; replace hS := hb.2.1
     have k27 : ac.eval (.tmp 27) = .agg #[.int .i64 y3.off, .int .i64 y3.len] := hk.1
     have hKe : Ke ac [(27, .agg #[.int .i64 y3.off, .int .i64 y3.len])] := (.cons k27 (.nil _))
     exact ⟨D.wanted0 rfl, D.callO h0 (fun bq hbq => hlt0 bq (by revert hbq; simp [blocksOf, Ent.box, rowOf, Ent.row]; try omega)) hb hKe ent93_0 rfl rfl rfl rfl (G.extent_End_spec hy4) (by kernel_rfl) (by rintro _ m' _ hg hn hl ⟨rfl, rfl⟩; exact rfl)⟩) ?_
    refine D.on_pure (D.GO_refl _ _) [(2, .pointer (some ⟨b1, 0, none⟩))] (.pointer (some ⟨b1, 1, none⟩)) (fun ac ww hk => (.cons (hk.1.trans (hK.at_ 2 _ rfl)) (.nil _))) ?_
    refine D.on_det (D.GO_refl _ _) [(29, .pointer (some ⟨b1, 1, none⟩))] (.int .i64 a0.newLen) (fun ac ww hk => (.cons (hk.1) (.nil _))) (fun ac ww kk hb hKe Post hp => (fun hS => s_load hKe hS 1 rfl rfl rfl rfl (by kernel_rfl) hp) hb.2.1) ?_
    refine D.finO ?_
    intro fr2 m8 hm1 l8 hS2 hF2 hE
    replace hS2 : St _ m m8 [.box b2 #[.int .i64 a1.kind, .int .i64 a1.to, .int .i64 a1.from_, .int .i64 a1.len, .slice a1_data_a a1.data.length a1_data_c] 50, .box b1 (G_Delta_cells a0 a0_commands_a a0_commands_c) 27] := hS2
    have hK2 := D.kn_ends [(26, .agg #[.int .i64 a1.kind, .int .i64 a1.to, .int .i64 a1.from_, .int .i64 a1.len, .slice a1_data_a a1.data.length a1_data_c]), (27, .agg #[.int .i64 y3.off, .int .i64 y3.len]), (28, .int .i64 y4), (29, .pointer (some ⟨b1, 1, none⟩)), (30, .int .i64 a0.newLen)] hK hE rfl (by kernel_rfl) (.cons (hE.slots 26) (.cons (hE.slots 27) (.cons (hE.slots 28) (.cons (hE.slots 29) (.cons (hE.slots 30) (.nil _))))))
    replace hK2 : Kn 32 fr2 [(26, .agg #[.int .i64 a1.kind, .int .i64 a1.to, .int .i64 a1.from_, .int .i64 a1.len, .slice a1_data_a a1.data.length a1_data_c]), (27, .agg #[.int .i64 y3.off, .int .i64 y3.len]), (28, .int .i64 y4), (29, .pointer (some ⟨b1, 1, none⟩)), (30, .int .i64 a0.newLen), (25, .bool false), (2, .pointer (some ⟨b1, 0, none⟩)), (3, .pointer (some ⟨b2, 0, none⟩))] := hK2.only [26, 27, 28, 29, 30, 25, 2, 3]
    clear hE hK; revert hK2; clear hm1 hS hlt0; revert fr2; clear fr; intro fr hK; have hS := hS2; clear hS2
    replace hS : St _ m m8 [.box b2 #[.int .i64 a1.kind, .int .i64 a1.to, .int .i64 a1.from_, .int .i64 a1.len, .slice a1_data_a a1.data.length a1_data_c] 50, .box b1 (G_Delta_cells a0 a0_commands_a a0_commands_c) 27] := hS
    refine qp 31 (.bool (decide (y4 > a0.newLen))) hK fun fr hK => ?_
    refine wpListIn_nil (then_n ?_)
    refine w_cond hK rfl (fun hb3 => ?_) (fun hb3 => ?_)
    ·
     replace hK := hK.more (t := 31) (v' := .bool true) rfl (by rw [hb3])
     replace h := ite_t (of_decide_eq_true hb3) h
     refine w_seq (w_region ?_)
     refine qp 4 (.int .i64 6) hK fun fr hK => ?_
     refine wpListIn_nil (then_n ?_)
     refine wpIn_ret ?_
     refine then_r ?_
     replace h := Option.some.inj h; subst h
     refine ret_of [.tmp 4] [.int .i64 6] rfl hK (.tmp rfl .nil) hS.dropAll ?_
     exact ⟨rfl, rfl⟩
    ·
     replace hK := hK.more (t := 31) (v' := .bool false) rfl (by rw [hb3])
     replace h := ite_f (of_decide_eq_false hb3) h
     refine wpIn_skip ?_
     refine then_n ?_
     refine w_seq (w_region ?_)
     refine qp 4 (.int .i64 0) hK fun fr hK => ?_
     refine wpListIn_nil (then_n ?_)
     refine wpIn_ret ?_
     replace h := Option.some.inj h; subst h
     refine ret_of [.tmp 4] [.int .i64 0] rfl hK (.tmp rfl .nil) hS.dropAll ?_
     exact ⟨rfl, rfl⟩
  ·
   replace h := hv1; clear hv1
   replace a0_commands_f := Els.mono rep_G_Command a0_commands_f (l1.trans (l2.trans (l3.trans (l4.trans (l5.trans l6)))))
   replace a1_data_f := Els.mono rep_U8 a1_data_f (l4.trans (l5.trans l6))
   refine split_b (x := y2.2) (fun hb4 => ?_) (fun hb4 => ?_)
   ·
    replace hK := hK.more (t := 7) (v' := .bool true) rfl (by rw [hb4])
    replace hK := hK.more (t := 17) (v' := .bool true) rfl (by rw [hb4])
    replace h := ite_t (hb4) h
    obtain ⟨y5, hy5, h⟩ := bind_some h
    have hlt0 : ∀ bq ∈ blocksOf [.box b3 #[.int .i64 y2.1.off, .int .i64 y2.1.len] 91, .box b2 #[.int .i64 a1.kind, .int .i64 a1.to, .int .i64 a1.from_, .int .i64 a1.len, .slice a1_data_a a1.data.length a1_data_c] 50, .box b1 (G_Delta_cells a0 a0_commands_a a0_commands_c) 27], bq < m6.w.heap.size := fun bq hbq => hS.ow.lt hbq
    refine D.wp_draw (Gr := D.GO m6 none) (S := D.SO none (blocksOf []) m m6 (fun _ => [.box b3 #[.int .i64 y2.1.off, .int .i64 y2.1.len] 91, .box b2 #[.int .i64 a1.kind, .int .i64 a1.to, .int .i64 a1.from_, .int .i64 a1.len, .slice a1_data_a a1.data.length a1_data_c] 50, .box b1 (G_Delta_cells a0 a0_commands_a a0_commands_c) 27]) (fun _ => True)) (N := 0) 6 [] [([(7, none)], 0, 0, false), ([(18, some 0)], 0, 0, false), ([(6, none), (19, some 0)], 0, 0, false), ([(20, some 0), (19, some 1)], 0, 0, false), ([(2, none), (19, some 2)], 0, 0, false), ([(22, some 0), (19, some 3)], 0, 0, false)] hK.size (by kernel_rfl) (by kernel_rfl) (by kernel_rfl) rfl (D.startO hS trivial) ?_
    refine D.on_pure (D.GO_refl _ _) [(7, .bool true)] (.bool true) (fun ac ww hk => (.cons (hk.1.trans (hK.at_ 7 _ rfl)) (.nil _))) ?_
    refine D.on_pure (D.GO_refl _ _) [(18, .bool true)] (.bool true) (fun ac ww hk => (.cons (hk.1) (.nil _))) ?_
    refine D.on_det (D.GO_refl _ _) [(6, .pointer (some ⟨b3, 0, none⟩)), (19, .bool true)] (.agg #[.int .i64 y2.1.off, .int .i64 y2.1.len]) (fun ac ww hk => (.cons (hk.1.trans (hK.at_ 6 _ rfl)) (.cons (hk.2.1) (.nil _)))) (fun ac ww kk hb hKe Post hp => (fun hS => s_loadAll hKe hS 0 rfl rfl rfl (by kernel_rfl) hp) hb.2.1) ?_
    refine D.on_op (fun uu _ => uu = .int .i64 y5) (fun _ _ _ h _ => h) (by
     intro ac ww kk hlo hhi hb hk
     obtain rfl : kk = 0 := by omega
     have h0 := hS; replace hS := hb.2.1
     have k20 : ac.eval (.tmp 20) = .agg #[.int .i64 y2.1.off, .int .i64 y2.1.len] := hk.1
     have k19 : ac.eval (.tmp 19) = .bool true := hk.2.1
     have hKe : Ke ac [(20, .agg #[.int .i64 y2.1.off, .int .i64 y2.1.len]), (19, .bool true)] := (.cons k20 (.cons k19 (.nil _)))
     exact ⟨D.wantedE hKe (by kernel_rfl), D.callO h0 (fun bq hbq => hlt0 bq (by revert hbq; simp [blocksOf, Ent.box, rowOf, Ent.row]; try omega)) hb hKe ent93_0 rfl rfl rfl rfl (G.extent_End_spec hy5) (by kernel_rfl) (by rintro _ m' _ hg hn hl ⟨rfl, rfl⟩; exact rfl)⟩) ?_
    refine D.on_pure (D.GO_refl _ _) [(2, .pointer (some ⟨b1, 0, none⟩)), (19, .bool true)] (.pointer (some ⟨b1, 0, none⟩)) (fun ac ww hk => (.cons (hk.1.trans (hK.at_ 2 _ rfl)) (.cons (hk.2.1) (.nil _)))) ?_
    refine D.on_det (D.GO_refl _ _) [(22, .pointer (some ⟨b1, 0, none⟩)), (19, .bool true)] (.int .i64 a0.oldLen) (fun ac ww hk => (.cons (hk.1) (.cons (hk.2.1) (.nil _)))) (fun ac ww kk hb hKe Post hp => (fun hS => s_load hKe hS 2 rfl rfl rfl rfl (by kernel_rfl) hp) hb.2.1) ?_
    refine D.finO ?_
    intro fr2 m9 hm1 l9 hS2 hF2 hE
    replace hS2 : St _ m m9 [.box b3 #[.int .i64 y2.1.off, .int .i64 y2.1.len] 91, .box b2 #[.int .i64 a1.kind, .int .i64 a1.to, .int .i64 a1.from_, .int .i64 a1.len, .slice a1_data_a a1.data.length a1_data_c] 50, .box b1 (G_Delta_cells a0 a0_commands_a a0_commands_c) 27] := hS2
    have hK2 := D.kn_ends [(18, .bool true), (19, .bool true), (20, .agg #[.int .i64 y2.1.off, .int .i64 y2.1.len]), (21, .int .i64 y5), (22, .pointer (some ⟨b1, 0, none⟩)), (23, .int .i64 a0.oldLen)] hK hE rfl (by kernel_rfl) (.cons (hE.slots 18) (.cons (hE.slots 19) (.cons (hE.slots 20) (.cons (hE.slots 21) (.cons (hE.slots 22) (.cons (hE.slots 23) (.nil _)))))))
    replace hK2 : Kn 32 fr2 [(18, .bool true), (19, .bool true), (20, .agg #[.int .i64 y2.1.off, .int .i64 y2.1.len]), (21, .int .i64 y5), (22, .pointer (some ⟨b1, 0, none⟩)), (23, .int .i64 a0.oldLen), (17, .bool true), (7, .bool true), (6, .pointer (some ⟨b3, 0, none⟩)), (16, .agg #[.int .i64 y2.1.off, .int .i64 y2.1.len]), (13, .tuple #[.agg #[.int .i64 y2.1.off, .int .i64 y2.1.len], .bool y2.2]), (15, .tuple #[.agg #[.int .i64 y2.1.off, .int .i64 y2.1.len], .bool y2.2]), (14, .agg #[.int .i64 a1.kind, .int .i64 a1.to, .int .i64 a1.from_, .int .i64 a1.len, .slice a1_data_a a1.data.length a1_data_c]), (11, .bool false), (10, .int .i64 y1), (5, .int .i64 y1), (9, .int .i64 y1), (8, .agg #[.int .i64 a1.kind, .int .i64 a1.to, .int .i64 a1.from_, .int .i64 a1.len, .slice a1_data_a a1.data.length a1_data_c]), (4, .int .i64 0), (3, .pointer (some ⟨b2, 0, none⟩)), (2, .pointer (some ⟨b1, 0, none⟩)), (0, .agg (G_Delta_cells a0 a0_commands_a a0_commands_c)), (1, .agg #[.int .i64 a1.kind, .int .i64 a1.to, .int .i64 a1.from_, .int .i64 a1.len, .slice a1_data_a a1.data.length a1_data_c])] := hK2.only [18, 19, 20, 21, 22, 23, 17, 7, 6, 16, 13, 15, 14, 11, 10, 5, 9, 8, 4, 3, 2, 0, 1]
    clear hE hK; revert hK2; clear hm1 hS hlt0; revert fr2; clear fr; intro fr hK; have hS := hS2; clear hS2
    replace hS : St _ m m9 [.box b3 #[.int .i64 y2.1.off, .int .i64 y2.1.len] 91, .box b2 #[.int .i64 a1.kind, .int .i64 a1.to, .int .i64 a1.from_, .int .i64 a1.len, .slice a1_data_a a1.data.length a1_data_c] 50, .box b1 (G_Delta_cells a0 a0_commands_a a0_commands_c) 27] := hS
    refine qp 24 (.bool (decide (y5 > a0.oldLen))) hK fun fr hK => ?_
    refine qp 25 (.bool (decide (y5 > a0.oldLen))) hK fun fr hK => ?_
    refine wpListIn_nil (then_n ?_)
    replace hS := hS.front 2 rfl
    replace hS := hS.front 2 rfl
    replace hS := St.keep (L := [.box b2 #[.int .i64 a1.kind, .int .i64 a1.to, .int .i64 a1.from_, .int .i64 a1.len, .slice a1_data_a a1.data.length a1_data_c] 50, .box b1 (G_Delta_cells a0 a0_commands_a a0_commands_c) 27]) (R := [.box b3 #[.int .i64 y2.1.off, .int .i64 y2.1.len] 91]) hS
    replace h := Option.some.inj h; subst h
    exact ⟨m9, rfl, hK.only [2, 3, 25], l9, hS⟩
   ·
    replace hK := hK.more (t := 7) (v' := .bool false) rfl (by rw [hb4])
    replace hK := hK.more (t := 17) (v' := .bool false) rfl (by rw [hb4])
    replace h := ite_f (ne_true_of_eq_false hb4) h
    have hlt0 : ∀ bq ∈ blocksOf [.box b3 #[.int .i64 y2.1.off, .int .i64 y2.1.len] 91, .box b2 #[.int .i64 a1.kind, .int .i64 a1.to, .int .i64 a1.from_, .int .i64 a1.len, .slice a1_data_a a1.data.length a1_data_c] 50, .box b1 (G_Delta_cells a0 a0_commands_a a0_commands_c) 27], bq < m6.w.heap.size := fun bq hbq => hS.ow.lt hbq
    refine D.wp_draw (Gr := D.GO m6 none) (S := D.SO none (blocksOf []) m m6 (fun _ => [.box b3 #[.int .i64 y2.1.off, .int .i64 y2.1.len] 91, .box b2 #[.int .i64 a1.kind, .int .i64 a1.to, .int .i64 a1.from_, .int .i64 a1.len, .slice a1_data_a a1.data.length a1_data_c] 50, .box b1 (G_Delta_cells a0 a0_commands_a a0_commands_c) 27]) (fun _ => True)) (N := 0) 6 [] [([(7, none)], 0, 0, false), ([(18, some 0)], 0, 0, false), ([(6, none), (19, some 0)], 0, 0, false), ([(20, some 0), (19, some 1)], 0, 0, false), ([(2, none), (19, some 2)], 0, 0, false), ([(22, some 0), (19, some 3)], 0, 0, false)] hK.size (by kernel_rfl) (by kernel_rfl) (by kernel_rfl) rfl (D.startO hS trivial) ?_
    refine D.on_pure (D.GO_refl _ _) [(7, .bool false)] (.bool false) (fun ac ww hk => (.cons (hk.1.trans (hK.at_ 7 _ rfl)) (.nil _))) ?_
    refine D.on_pure (D.GO_refl _ _) [(18, .bool false)] (.bool false) (fun ac ww hk => (.cons (hk.1) (.nil _))) ?_
    refine D.on_no [(19, .bool false)] (fun ac ww hk => .cons (hk.2.1) (.nil _)) ?_
    refine D.on_no [(19, .bool false)] (fun ac ww hk => .cons (hk.2.1) (.nil _)) ?_
    refine D.on_no [(19, .bool false)] (fun ac ww hk => .cons (hk.2.1) (.nil _)) ?_
    refine D.on_no [(19, .bool false)] (fun ac ww hk => .cons (hk.2.1) (.nil _)) ?_
    refine D.finO ?_
    intro fr2 m10 hm1 l10 hS2 hF2 hE
    replace hS2 : St _ m m10 [.box b3 #[.int .i64 y2.1.off, .int .i64 y2.1.len] 91, .box b2 #[.int .i64 a1.kind, .int .i64 a1.to, .int .i64 a1.from_, .int .i64 a1.len, .slice a1_data_a a1.data.length a1_data_c] 50, .box b1 (G_Delta_cells a0 a0_commands_a a0_commands_c) 27] := hS2
    have hK2 := D.kn_ends [(18, .bool false), (19, .bool false), (20, undef), (21, undef), (22, undef), (23, undef)] hK hE rfl (by kernel_rfl) (.cons (hE.slots 18) (.cons (hE.slots 19) (.cons (hE.slots 20) (.cons (hE.slots 21) (.cons (hE.slots 22) (.cons (hE.slots 23) (.nil _)))))))
    replace hK2 : Kn 32 fr2 [(18, .bool false), (19, .bool false), (20, undef), (21, undef), (22, undef), (23, undef), (17, .bool false), (7, .bool false), (6, .pointer (some ⟨b3, 0, none⟩)), (16, .agg #[.int .i64 y2.1.off, .int .i64 y2.1.len]), (13, .tuple #[.agg #[.int .i64 y2.1.off, .int .i64 y2.1.len], .bool y2.2]), (15, .tuple #[.agg #[.int .i64 y2.1.off, .int .i64 y2.1.len], .bool y2.2]), (14, .agg #[.int .i64 a1.kind, .int .i64 a1.to, .int .i64 a1.from_, .int .i64 a1.len, .slice a1_data_a a1.data.length a1_data_c]), (11, .bool false), (10, .int .i64 y1), (5, .int .i64 y1), (9, .int .i64 y1), (8, .agg #[.int .i64 a1.kind, .int .i64 a1.to, .int .i64 a1.from_, .int .i64 a1.len, .slice a1_data_a a1.data.length a1_data_c]), (4, .int .i64 0), (3, .pointer (some ⟨b2, 0, none⟩)), (2, .pointer (some ⟨b1, 0, none⟩)), (0, .agg (G_Delta_cells a0 a0_commands_a a0_commands_c)), (1, .agg #[.int .i64 a1.kind, .int .i64 a1.to, .int .i64 a1.from_, .int .i64 a1.len, .slice a1_data_a a1.data.length a1_data_c])] := hK2.only [18, 19, 20, 21, 22, 23, 17, 7, 6, 16, 13, 15, 14, 11, 10, 5, 9, 8, 4, 3, 2, 0, 1]
    clear hE hK; revert hK2; clear hm1 hS hlt0; revert fr2; clear fr; intro fr hK; have hS := hS2; clear hS2
    replace hS : St _ m m10 [.box b3 #[.int .i64 y2.1.off, .int .i64 y2.1.len] 91, .box b2 #[.int .i64 a1.kind, .int .i64 a1.to, .int .i64 a1.from_, .int .i64 a1.len, .slice a1_data_a a1.data.length a1_data_c] 50, .box b1 (G_Delta_cells a0 a0_commands_a a0_commands_c) 27] := hS
    refine qs 24 hK ?_
    clear hK fr; intro fr hK
    refine qp 25 (.bool false) hK fun fr hK => ?_
    refine wpListIn_nil (then_n ?_)
    replace hS := hS.front 2 rfl
    replace hS := hS.front 2 rfl
    replace hS := St.keep (L := [.box b2 #[.int .i64 a1.kind, .int .i64 a1.to, .int .i64 a1.from_, .int .i64 a1.len, .slice a1_data_a a1.data.length a1_data_c] 50, .box b1 (G_Delta_cells a0 a0_commands_a a0_commands_c) 27]) (R := [.box b3 #[.int .i64 y2.1.off, .int .i64 y2.1.len] 91]) hS
    replace h := Option.some.inj h; subst h
    exact ⟨m10, rfl, hK.only [2, 3, 25], l10, hS⟩
set_option maxRecDepth 100000 in
set_option maxHeartbeats 1000000 in
theorem G.cmp_isNaN_int_spec {m : Mem} {a0 : Int} {r : Bool} (h : G.cmp_isNaN_int a0 = some r) :
  Spec Try.prog 109 #[.int .i64 a0] m [] fun v m' L => L = [] ∧ v = .bool r := by
 unfold G.cmp_isNaN_int at h
 refine enter (args := [_]) 6 Try.func109 rfl rfl (by simp) fun fr hK => ?_
 have hS := St.refl (Ow.nil m)
 replace hK : Kn 6 fr [(0, .int .i64 a0)] := hK
 refine w_seq (w_region ?_)
 refine qp 2 (.bool false) hK fun fr hK => ?_
 refine wpListIn_nil (then_n ?_)
 refine w_seq (w_region ?_)
 refine qp 3 (.int .i64 a0) hK fun fr hK => ?_
 refine qp 4 (.int .i64 a0) hK fun fr hK => ?_
 refine qp 5 (.bool (a0 != a0)) hK fun fr hK => ?_
 refine qp 2 (.bool (a0 != a0)) hK fun fr hK => ?_
 refine wpListIn_nil (then_n ?_)
 refine wpIn_ret ?_
 replace h := Option.some.inj h; subst h
 refine ret_of [.tmp 2] [.bool (a0 != a0)] rfl hK (.tmp rfl .nil) hS.dropAll ?_
 exact ⟨rfl, rfl⟩
set_option maxRecDepth 100000 in
set_option maxHeartbeats 1000000 in
theorem G.cmp_Compare_int_spec {m : Mem} {a0 : Int} {a1 : Int} {r : Int} (h : G.cmp_Compare_int a0 a1 = some r) :
  Spec Try.prog 97 #[.int .i64 a0, .int .i64 a1] m [] fun v m' L => L = [] ∧ v = .int .i64 r := by
 unfold G.cmp_Compare_int at h
 refine enter (args := [_, _]) 20 Try.func97 rfl rfl (by simp) fun fr hK => ?_
 have hS := St.refl (Ow.nil m)
 replace hK : Kn 20 fr [(0, .int .i64 a0), (1, .int .i64 a1)] := hK
 refine w_seq (w_region ?_)
 refine qp 4 (.int .i64 0) hK fun fr hK => ?_
 refine wpListIn_nil (then_n ?_)
 refine w_seq (w_region ?_)
 refine qp 7 (.int .i64 a0) hK fun fr hK => ?_
 obtain ⟨y1, hy1, h⟩ := bind_some h
 refine qo 8 hK (s_call hK.at_ hS ent109_0 rfl rfl rfl rfl (G.cmp_isNaN_int_spec hy1) (by kernel_rfl) ?_)
 clear hK fr hS; rintro _ m1 _ l1 hS ⟨rfl, rfl⟩ fr hK
 replace hS : St _ m m1 [] := hS
 refine qp 5 (.bool y1) hK fun fr hK => ?_
 refine wpListIn_nil (then_n ?_)
 refine w_seq (w_region ?_)
 refine qp 9 (.int .i64 a1) hK fun fr hK => ?_
 obtain ⟨y2, hy2, h⟩ := bind_some h
 refine qo 10 hK (s_call hK.at_ hS ent109_0 rfl rfl rfl rfl (G.cmp_isNaN_int_spec hy2) (by kernel_rfl) ?_)
 clear hK fr hS; rintro _ m2 _ l2 hS ⟨rfl, rfl⟩ fr hK
 replace hS : St _ m m2 [] := hS
 refine qp 6 (.bool y2) hK fun fr hK => ?_
 refine wpListIn_nil (then_n ?_)
 refine w_seq ?_
 refine w_seq (w_region ?_)
 refine qp 11 (.bool y1) hK fun fr hK => ?_
 refine wpListIn_nil (then_n ?_)
 refine w_cond hK rfl (fun hb1 => ?_) (fun hb1 => ?_)
 ·
  replace hK := hK.more (t := 11) (v' := .bool true) rfl (by rw [hb1])
  replace hK := hK.more (t := 5) (v' := .bool true) rfl (by rw [hb1])
  replace hK := hK.more (t := 8) (v' := .bool true) rfl (by rw [hb1])
  replace h := ite_t (hb1) h
  refine w_seq ?_
  refine w_seq (w_region ?_)
  refine qp 12 (.bool y2) hK fun fr hK => ?_
  refine wpListIn_nil (then_n ?_)
  refine w_cond hK rfl (fun hb2 => ?_) (fun hb2 => ?_)
  ·
   replace hK := hK.more (t := 12) (v' := .bool true) rfl (by rw [hb2])
   replace hK := hK.more (t := 6) (v' := .bool true) rfl (by rw [hb2])
   replace hK := hK.more (t := 10) (v' := .bool true) rfl (by rw [hb2])
   replace h := ite_t (hb2) h
   refine w_seq (w_region ?_)
   refine qp 4 (.int .i64 0) hK fun fr hK => ?_
   refine wpListIn_nil (then_n ?_)
   refine wpIn_ret ?_
   refine then_r ?_
   refine then_r ?_
   replace h := Option.some.inj h; subst h
   refine ret_of [.tmp 4] [.int .i64 0] rfl hK (.tmp rfl .nil) hS.dropAll ?_
   exact ⟨rfl, rfl⟩
  ·
   replace hK := hK.more (t := 12) (v' := .bool false) rfl (by rw [hb2])
   replace hK := hK.more (t := 6) (v' := .bool false) rfl (by rw [hb2])
   replace hK := hK.more (t := 10) (v' := .bool false) rfl (by rw [hb2])
   replace h := ite_f (ne_true_of_eq_false hb2) h
   refine wpIn_skip ?_
   refine then_n ?_
   refine w_seq (w_region ?_)
   refine qp 4 (.int .i64 (-1)) hK fun fr hK => ?_
   refine wpListIn_nil (then_n ?_)
   refine wpIn_ret ?_
   refine then_r ?_
   replace h := Option.some.inj h; subst h
   refine ret_of [.tmp 4] [.int .i64 (-1)] rfl hK (.tmp rfl .nil) hS.dropAll ?_
   exact ⟨rfl, rfl⟩
 ·
  replace hK := hK.more (t := 11) (v' := .bool false) rfl (by rw [hb1])
  replace hK := hK.more (t := 5) (v' := .bool false) rfl (by rw [hb1])
  replace hK := hK.more (t := 8) (v' := .bool false) rfl (by rw [hb1])
  replace h := ite_f (ne_true_of_eq_false hb1) h
  refine wpIn_skip ?_
  refine then_n ?_
  refine w_seq ?_
  refine w_seq (w_region ?_)
  refine qp 13 (.bool y2) hK fun fr hK => ?_
  refine wpListIn_nil (then_n ?_)
  refine w_cond hK rfl (fun hb3 => ?_) (fun hb3 => ?_)
  ·
   replace hK := hK.more (t := 13) (v' := .bool true) rfl (by rw [hb3])
   replace hK := hK.more (t := 6) (v' := .bool true) rfl (by rw [hb3])
   replace hK := hK.more (t := 10) (v' := .bool true) rfl (by rw [hb3])
   replace h := ite_t (hb3) h
   refine w_seq (w_region ?_)
   refine qp 4 (.int .i64 1) hK fun fr hK => ?_
   refine wpListIn_nil (then_n ?_)
   refine wpIn_ret ?_
   refine then_r ?_
   replace h := Option.some.inj h; subst h
   refine ret_of [.tmp 4] [.int .i64 1] rfl hK (.tmp rfl .nil) hS.dropAll ?_
   exact ⟨rfl, rfl⟩
  ·
   replace hK := hK.more (t := 13) (v' := .bool false) rfl (by rw [hb3])
   replace hK := hK.more (t := 6) (v' := .bool false) rfl (by rw [hb3])
   replace hK := hK.more (t := 10) (v' := .bool false) rfl (by rw [hb3])
   replace h := ite_f (ne_true_of_eq_false hb3) h
   refine wpIn_skip ?_
   refine then_n ?_
   refine w_seq ?_
   refine w_seq (w_region ?_)
   refine qp 14 (.int .i64 a0) hK fun fr hK => ?_
   refine qp 15 (.int .i64 a1) hK fun fr hK => ?_
   refine qp 16 (.bool (decide (a0 < a1))) hK fun fr hK => ?_
   refine wpListIn_nil (then_n ?_)
   refine w_cond hK rfl (fun hb4 => ?_) (fun hb4 => ?_)
   ·
    replace hK := hK.more (t := 16) (v' := .bool true) rfl (by rw [hb4])
    replace h := ite_t (of_decide_eq_true hb4) h
    refine w_seq (w_region ?_)
    refine qp 4 (.int .i64 (-1)) hK fun fr hK => ?_
    refine wpListIn_nil (then_n ?_)
    refine wpIn_ret ?_
    refine then_r ?_
    replace h := Option.some.inj h; subst h
    refine ret_of [.tmp 4] [.int .i64 (-1)] rfl hK (.tmp rfl .nil) hS.dropAll ?_
    exact ⟨rfl, rfl⟩
   ·
    replace hK := hK.more (t := 16) (v' := .bool false) rfl (by rw [hb4])
    replace h := ite_f (of_decide_eq_false hb4) h
    refine wpIn_skip ?_
    refine then_n ?_
    refine w_seq ?_
    refine w_seq (w_region ?_)
    refine qp 17 (.int .i64 a0) hK fun fr hK => ?_
    refine qp 18 (.int .i64 a1) hK fun fr hK => ?_
    refine qp 19 (.bool (decide (a0 > a1))) hK fun fr hK => ?_
    refine wpListIn_nil (then_n ?_)
    refine w_cond hK rfl (fun hb5 => ?_) (fun hb5 => ?_)
    ·
     replace hK := hK.more (t := 19) (v' := .bool true) rfl (by rw [hb5])
     replace h := ite_t (of_decide_eq_true hb5) h
     refine w_seq (w_region ?_)
     refine qp 4 (.int .i64 1) hK fun fr hK => ?_
     refine wpListIn_nil (then_n ?_)
     refine wpIn_ret ?_
     refine then_r ?_
     replace h := Option.some.inj h; subst h
     refine ret_of [.tmp 4] [.int .i64 1] rfl hK (.tmp rfl .nil) hS.dropAll ?_
     exact ⟨rfl, rfl⟩
    ·
     replace hK := hK.more (t := 19) (v' := .bool false) rfl (by rw [hb5])
     replace h := ite_f (of_decide_eq_false hb5) h
     refine wpIn_skip ?_
     refine then_n ?_
     refine w_seq (w_region ?_)
     refine qp 4 (.int .i64 0) hK fun fr hK => ?_
     refine wpListIn_nil (then_n ?_)
     refine wpIn_ret ?_
     replace h := Option.some.inj h; subst h
     refine ret_of [.tmp 4] [.int .i64 0] rfl hK (.tmp rfl .nil) hS.dropAll ?_
     exact ⟨rfl, rfl⟩
set_option maxRecDepth 100000 in
set_option maxHeartbeats 1000000 in
theorem G.delta_sorted_1_spec {m : Mem} {a0 : Int} {a1 : Int} {a2 : List G.Command} {a2_b : Nat} {a2_a : Option Addr} {a2_c : Nat} {a2_T : TypeId} (a2_f : Els is_G_Command m 5 a2_a a2_c a2) {r : Int} (h : G.delta_sorted_1 a0 a1 a2 = some r) (hO : Ow m [.box a2_b #[.slice a2_a a2.length a2_c] a2_T]) :
  Spec Try.prog 96 #[.int .i64 a0, .int .i64 a1, .pointer (some ⟨a2_b, 0, none⟩)] m [.box a2_b #[.slice a2_a a2.length a2_c] a2_T] fun v m' L => L = [.box a2_b #[.slice a2_a a2.length a2_c] a2_T] ∧ v = .int .i64 r := by
 unfold G.delta_sorted_1 at h
 refine enter (args := [_, _, _]) 17 Try.func96 rfl rfl (by simp) fun fr hK => ?_
 have hS := St.refl (hO)
 replace hK : Kn 17 fr [(0, .int .i64 a0), (1, .int .i64 a1), (2, .pointer (some ⟨a2_b, 0, none⟩))] := hK
 refine w_seq (w_region ?_)
 refine qp 5 (.int .i64 0) hK fun fr hK => ?_
 refine wpListIn_nil (then_n ?_)
 refine w_seq ?_
 obtain ⟨x1, hy1, h⟩ := bind_some h
 obtain ⟨x2, hy2, h⟩ := bind_some h
 have hlt0 : ∀ bq ∈ blocksOf [.box a2_b #[.slice a2_a a2.length a2_c] a2_T], bq < m.w.heap.size := fun bq hbq => hS.ow.lt hbq
 refine D.wp_draw (Gr := D.GO m none) (S := D.SO none (blocksOf [.box a2_b #[.slice a2_a a2.length a2_c] a2_T]) m m (fun _ => [.box a2_b #[.slice a2_a a2.length a2_c] a2_T]) (fun _ => True)) (N := 0) 10 [] [([(2, none)], 0, 0, false), ([(0, none)], 0, 0, false), ([(6, some 1), (7, some 0)], 0, 0, false), ([(8, some 0)], 0, 0, false), ([(9, some 0)], 0, 0, false), ([(2, none)], 0, 0, false), ([(1, none)], 0, 0, false), ([(11, some 1), (12, some 0)], 0, 0, false), ([(13, some 0)], 0, 0, false), ([(14, some 0)], 0, 0, false)] hK.size (by kernel_rfl) (by kernel_rfl) (by kernel_rfl) rfl (D.startO hS trivial) ?_
 refine D.on_det (D.GO_refl _ _) [(2, .pointer (some ⟨a2_b, 0, none⟩))] (.slice a2_a a2.length a2_c) (fun ac ww hk => (.cons (hk.1.trans (hK.at_ 2 _ rfl)) (.nil _))) (fun ac ww kk hb hKe Post hp => (fun hS => s_load hKe hS 0 rfl rfl rfl rfl (by kernel_rfl) hp) hb.2.1) ?_
 refine D.on_pure (D.GO_refl _ _) [(0, .int .i64 a0)] (.int .i64 a0) (fun ac ww hk => (.cons (hk.1.trans (hK.at_ 0 _ rfl)) (.nil _))) ?_
 refine D.on_op (fun uu ww => ∃ (b1 : Nat) (p1 : Nat) (e1_data_a : Option Addr) (e1_data_c : Nat), uu = .pointer (some ⟨b1, p1, none⟩) ∧ At (m.upO none ww) b1 p1 [.int .i64 x1.kind, .int .i64 x1.to, .int .i64 x1.from_, .int .i64 x1.len, .slice e1_data_a x1.data.length e1_data_c] ∧ Els isU8 (m.upO none ww) 1 e1_data_a e1_data_c x1.data) (fun _ _ _ ⟨b1, p1, e1_data_a, e1_data_c, e, hA1, e1_data_f⟩ g => ⟨b1, p1, e1_data_a, e1_data_c, e, hA1.mono g.1, Els.mono rep_U8 e1_data_f g.1⟩) (by
  intro ac ww kk hlo hhi hb hk
  obtain rfl : kk = 0 := by omega
  have h0 := hS; replace hS := hb.2.1
  have k6 : ac.eval (.tmp 6) = .slice a2_a a2.length a2_c := hk.1
  have k7 : ac.eval (.tmp 7) = .int .i64 a0 := hk.2.1
  have hKe : Ke ac [(6, .slice a2_a a2.length a2_c), (7, .int .i64 a0)] := (.cons k6 (.cons k7 (.nil _)))
  replace a2_f := Els.mono rep_G_Command a2_f hb.1
  exact ⟨D.wanted0 rfl, (s_idx elT25_0 a2_f hy1 hKe rfl rfl rfl (by
    intro b1 p1 cs1 hR1 hA1
    obtain ⟨e1_data_a, e1_data_c, rfl, e1_data_f⟩ := hR1
    exact ⟨⟨b1, p1, e1_data_a, e1_data_c, rfl, hA1, e1_data_f⟩, D.GO_refl _ _ _, hb⟩))⟩) ?_
 refine D.on_op (fun uu ww => ∃ (b1 : Nat) (p1 : Nat) (e1_data_a : Option Addr) (e1_data_c : Nat), uu = .pointer (some ⟨b1, p1 + 1, none⟩) ∧ At (m.upO none ww) b1 p1 [.int .i64 x1.kind, .int .i64 x1.to, .int .i64 x1.from_, .int .i64 x1.len, .slice e1_data_a x1.data.length e1_data_c] ∧ Els isU8 (m.upO none ww) 1 e1_data_a e1_data_c x1.data) (fun _ _ _ ⟨b1, p1, e1_data_a, e1_data_c, e, hA1, e1_data_f⟩ g => ⟨b1, p1, e1_data_a, e1_data_c, e, hA1.mono g.1, Els.mono rep_U8 e1_data_f g.1⟩) (by
  intro ac ww kk hlo hhi hb hk
  obtain rfl : kk = 0 := by omega
  have h0 := hS; replace hS := hb.2.1
  obtain ⟨b1, p1, e1_data_a, e1_data_c, k8, hA1, e1_data_f⟩ : ∃ (b1 : Nat) (p1 : Nat) (e1_data_a : Option Addr) (e1_data_c : Nat), ac.eval (.tmp 8) = .pointer (some ⟨b1, p1, none⟩) ∧ At (m.upO none ww) b1 p1 [.int .i64 x1.kind, .int .i64 x1.to, .int .i64 x1.from_, .int .i64 x1.len, .slice e1_data_a x1.data.length e1_data_c] ∧ Els isU8 (m.upO none ww) 1 e1_data_a e1_data_c x1.data := hk.1
  have hKe : Ke ac [(8, .pointer (some ⟨b1, p1, none⟩))] := (.cons k8 (.nil _))
  exact ⟨D.wanted0 rfl, D.valO hb (fun Post hp => s_pure (.pointer (some ⟨b1, p1 + 1, none⟩)) hKe (by kernel_rfl) (by kernel_rfl) hp) ⟨b1, p1, e1_data_a, e1_data_c, rfl, hA1, e1_data_f⟩⟩) ?_
 refine D.on_op (fun uu _ => uu = .int .i64 x1.to) (fun _ _ _ h _ => h) (by
  intro ac ww kk hlo hhi hb hk
  obtain rfl : kk = 0 := by omega
  have h0 := hS; replace hS := hb.2.1
  obtain ⟨b1, p1, e1_data_a, e1_data_c, k9, hA1, e1_data_f⟩ : ∃ (b1 : Nat) (p1 : Nat) (e1_data_a : Option Addr) (e1_data_c : Nat), ac.eval (.tmp 9) = .pointer (some ⟨b1, p1 + 1, none⟩) ∧ At (m.upO none ww) b1 p1 [.int .i64 x1.kind, .int .i64 x1.to, .int .i64 x1.from_, .int .i64 x1.len, .slice e1_data_a x1.data.length e1_data_c] ∧ Els isU8 (m.upO none ww) 1 e1_data_a e1_data_c x1.data := hk.1
  have hKe : Ke ac [(9, .pointer (some ⟨b1, p1 + 1, none⟩))] := (.cons k9 (.nil _))
  exact ⟨D.wanted0 rfl, D.valO (m := m) hb (fun Post hp => s_loadAt hKe hA1 1 rfl rfl rfl rfl (by kernel_rfl) hp) rfl⟩) ?_
 refine D.on_det (D.GO_refl _ _) [(2, .pointer (some ⟨a2_b, 0, none⟩))] (.slice a2_a a2.length a2_c) (fun ac ww hk => (.cons (hk.1.trans (hK.at_ 2 _ rfl)) (.nil _))) (fun ac ww kk hb hKe Post hp => (fun hS => s_load hKe hS 0 rfl rfl rfl rfl (by kernel_rfl) hp) hb.2.1) ?_
 refine D.on_pure (D.GO_refl _ _) [(1, .int .i64 a1)] (.int .i64 a1) (fun ac ww hk => (.cons (hk.1.trans (hK.at_ 1 _ rfl)) (.nil _))) ?_
 refine D.on_op (fun uu ww => ∃ (b2 : Nat) (p2 : Nat) (e2_data_a : Option Addr) (e2_data_c : Nat), uu = .pointer (some ⟨b2, p2, none⟩) ∧ At (m.upO none ww) b2 p2 [.int .i64 x2.kind, .int .i64 x2.to, .int .i64 x2.from_, .int .i64 x2.len, .slice e2_data_a x2.data.length e2_data_c] ∧ Els isU8 (m.upO none ww) 1 e2_data_a e2_data_c x2.data) (fun _ _ _ ⟨b2, p2, e2_data_a, e2_data_c, e, hA2, e2_data_f⟩ g => ⟨b2, p2, e2_data_a, e2_data_c, e, hA2.mono g.1, Els.mono rep_U8 e2_data_f g.1⟩) (by
  intro ac ww kk hlo hhi hb hk
  obtain rfl : kk = 0 := by omega
  have h0 := hS; replace hS := hb.2.1
  have k11 : ac.eval (.tmp 11) = .slice a2_a a2.length a2_c := hk.1
  have k12 : ac.eval (.tmp 12) = .int .i64 a1 := hk.2.1
  have hKe : Ke ac [(11, .slice a2_a a2.length a2_c), (12, .int .i64 a1)] := (.cons k11 (.cons k12 (.nil _)))
  replace a2_f := Els.mono rep_G_Command a2_f hb.1
  exact ⟨D.wanted0 rfl, (s_idx elT25_0 a2_f hy2 hKe rfl rfl rfl (by
    intro b2 p2 cs2 hR2 hA2
    obtain ⟨e2_data_a, e2_data_c, rfl, e2_data_f⟩ := hR2
    exact ⟨⟨b2, p2, e2_data_a, e2_data_c, rfl, hA2, e2_data_f⟩, D.GO_refl _ _ _, hb⟩))⟩) ?_
 refine D.on_op (fun uu ww => ∃ (b2 : Nat) (p2 : Nat) (e2_data_a : Option Addr) (e2_data_c : Nat), uu = .pointer (some ⟨b2, p2 + 1, none⟩) ∧ At (m.upO none ww) b2 p2 [.int .i64 x2.kind, .int .i64 x2.to, .int .i64 x2.from_, .int .i64 x2.len, .slice e2_data_a x2.data.length e2_data_c] ∧ Els isU8 (m.upO none ww) 1 e2_data_a e2_data_c x2.data) (fun _ _ _ ⟨b2, p2, e2_data_a, e2_data_c, e, hA2, e2_data_f⟩ g => ⟨b2, p2, e2_data_a, e2_data_c, e, hA2.mono g.1, Els.mono rep_U8 e2_data_f g.1⟩) (by
  intro ac ww kk hlo hhi hb hk
  obtain rfl : kk = 0 := by omega
  have h0 := hS; replace hS := hb.2.1
  obtain ⟨b2, p2, e2_data_a, e2_data_c, k13, hA2, e2_data_f⟩ : ∃ (b2 : Nat) (p2 : Nat) (e2_data_a : Option Addr) (e2_data_c : Nat), ac.eval (.tmp 13) = .pointer (some ⟨b2, p2, none⟩) ∧ At (m.upO none ww) b2 p2 [.int .i64 x2.kind, .int .i64 x2.to, .int .i64 x2.from_, .int .i64 x2.len, .slice e2_data_a x2.data.length e2_data_c] ∧ Els isU8 (m.upO none ww) 1 e2_data_a e2_data_c x2.data := hk.1
  have hKe : Ke ac [(13, .pointer (some ⟨b2, p2, none⟩))] := (.cons k13 (.nil _))
  exact ⟨D.wanted0 rfl, D.valO hb (fun Post hp => s_pure (.pointer (some ⟨b2, p2 + 1, none⟩)) hKe (by kernel_rfl) (by kernel_rfl) hp) ⟨b2, p2, e2_data_a, e2_data_c, rfl, hA2, e2_data_f⟩⟩) ?_
 refine D.on_op (fun uu _ => uu = .int .i64 x2.to) (fun _ _ _ h _ => h) (by
  intro ac ww kk hlo hhi hb hk
  obtain rfl : kk = 0 := by omega
  have h0 := hS; replace hS := hb.2.1
  obtain ⟨b2, p2, e2_data_a, e2_data_c, k14, hA2, e2_data_f⟩ : ∃ (b2 : Nat) (p2 : Nat) (e2_data_a : Option Addr) (e2_data_c : Nat), ac.eval (.tmp 14) = .pointer (some ⟨b2, p2 + 1, none⟩) ∧ At (m.upO none ww) b2 p2 [.int .i64 x2.kind, .int .i64 x2.to, .int .i64 x2.from_, .int .i64 x2.len, .slice e2_data_a x2.data.length e2_data_c] ∧ Els isU8 (m.upO none ww) 1 e2_data_a e2_data_c x2.data := hk.1
  have hKe : Ke ac [(14, .pointer (some ⟨b2, p2 + 1, none⟩))] := (.cons k14 (.nil _))
  exact ⟨D.wanted0 rfl, D.valO (m := m) hb (fun Post hp => s_loadAt hKe hA2 1 rfl rfl rfl rfl (by kernel_rfl) hp) rfl⟩) ?_
 refine D.finO ?_
 intro fr2 m1 hm1 l1 hS2 hF2 hE
 replace hS2 : St _ m m1 [.box a2_b #[.slice a2_a a2.length a2_c] a2_T] := hS2
 have hK2 := D.kn_ends [(6, .slice a2_a a2.length a2_c), (7, .int .i64 a0), (8, fr2.eval (.tmp 8)), (9, fr2.eval (.tmp 9)), (10, .int .i64 x1.to), (11, .slice a2_a a2.length a2_c), (12, .int .i64 a1), (13, fr2.eval (.tmp 13)), (14, fr2.eval (.tmp 14)), (15, .int .i64 x2.to)] hK hE rfl (by kernel_rfl) (.cons (hE.slots 6) (.cons (hE.slots 7) (.cons (rfl) (.cons (rfl) (.cons (hE.slots 10) (.cons (hE.slots 11) (.cons (hE.slots 12) (.cons (rfl) (.cons (rfl) (.cons (hE.slots 15) (.nil _)))))))))))
 replace hK2 : Kn 17 fr2 [(6, .slice a2_a a2.length a2_c), (7, .int .i64 a0), (10, .int .i64 x1.to), (11, .slice a2_a a2.length a2_c), (12, .int .i64 a1), (15, .int .i64 x2.to), (5, .int .i64 0), (0, .int .i64 a0), (1, .int .i64 a1), (2, .pointer (some ⟨a2_b, 0, none⟩))] := hK2.only [6, 7, 10, 11, 12, 15, 5, 0, 1, 2]
 clear hE hK; revert hK2; clear hm1 hS hlt0; revert fr2; clear fr; intro fr hK; have hS := hS2; clear hS2
 replace hS : St _ m m1 [.box a2_b #[.slice a2_a a2.length a2_c] a2_T] := hS
 obtain ⟨y1, hy3, h⟩ := bind_some h
 refine qo 16 hK (s_call hK.at_ hS ent97_0 rfl rfl rfl rfl (G.cmp_Compare_int_spec hy3) (by kernel_rfl) ?_)
 clear hK fr hS; rintro _ m2 _ l2 hS ⟨rfl, rfl⟩ fr hK
 replace hS : St _ m m2 [.box a2_b #[.slice a2_a a2.length a2_c] a2_T] := hS
 refine qp 5 (.int .i64 y1) hK fun fr hK => ?_
 refine wpListIn_nil (then_n ?_)
 refine wpIn_ret ?_
 replace h := Option.some.inj h; subst h
 replace hS : St _ m m2 [.box a2_b #[.slice a2_a a2.length a2_c] a2_T] := hS
 refine ret_of [.tmp 5] [.int .i64 y1] rfl hK (.tmp rfl .nil) hS ?_
 exact ⟨rfl, rfl⟩
set_option maxRecDepth 100000 in
set_option maxHeartbeats 1000000 in
theorem G.slices_insertionSortCmpFunc_int_v0_delta_sorted_1_spec {m : Mem} {a0 : List Int} {a0_b : Nat} {a0_T : TypeId} {a0_n : Nat} (a0_l : a0.length = a0_n) {a1 : Int} {a2 : Int} {a3 : (List G.Command)} {a3_0_b : Nat} {a3_0_a : Option Addr} {a3_0_c : Nat} {a3_0_T : TypeId} (a3_0_f : Els is_G_Command m 5 a3_0_a a3_0_c a3) {r : (List Int)} (h : G.slices_insertionSortCmpFunc_int_v0_delta_sorted_1 a0 a1 a2 a3 = some r) (hO : Ow m [.box a0_b (vecC (Value.int .i64) a0) a0_T, .box a3_0_b #[.slice a3_0_a a3.length a3_0_c] a3_0_T]) :
  Spec Try.prog 112 #[.slice (some ⟨a0_b, 0, none⟩) a0_n a0_n, .int .i64 a1, .int .i64 a2, .func (.func 96) #[] #[.pointer (some ⟨a3_0_b, 0, none⟩)]] m [.box a0_b (vecC (Value.int .i64) a0) a0_T, .box a3_0_b #[.slice a3_0_a a3.length a3_0_c] a3_0_T] fun v m' L => L = [.box a0_b (vecC (Value.int .i64) r) a0_T, .box a3_0_b #[.slice a3_0_a a3.length a3_0_c] a3_0_T] ∧ v = .tuple #[] ∧ r.length = a0_n := by
 subst a0_l
 unfold G.slices_insertionSortCmpFunc_int_v0_delta_sorted_1 at h
 refine enter (args := [_, _, _, _]) 53 Try.func112 rfl rfl (by simp) fun fr hK => ?_
 have hS := St.refl (hO)
 replace hK : Kn 53 fr [(0, .slice (some ⟨a0_b, 0, none⟩) a0.length a0.length), (1, .int .i64 a1), (2, .int .i64 a2), (3, .func (.func 96) #[] #[.pointer (some ⟨a3_0_b, 0, none⟩)])] := hK
 refine w_seq (w_region ?_)
 refine qp 10 (.int .i64 a1) hK fun fr hK => ?_
 refine qp 11 (.int .i64 (IntKind.i64.wrap (a1 + 1))) hK fun fr hK => ?_
 refine qp 8 (.int .i64 (IntKind.i64.wrap (a1 + 1))) hK fun fr hK => ?_
 refine wpListIn_nil (then_n ?_)
 refine wpIn_block ?_
 replace hS := hS.front 1 rfl
 replace hS : St _ m m [.box a3_0_b #[.slice a3_0_a a3.length a3_0_c] a3_0_T, .box a0_b (vecC (Value.int .i64) a0) a0_T] := hS
 refine w_loopL h (fun (s1 : Int × (List Int)) fr ww => ∃ m1 : Mem, m1.w = ww ∧ Kn 53 fr [(0, .slice (some ⟨a0_b, 0, none⟩) a0.length a0.length), (1, .int .i64 a1), (2, .int .i64 a2), (3, .func (.func 96) #[] #[.pointer (some ⟨a3_0_b, 0, none⟩)]), (8, .int .i64 s1.1)] ∧ Le m m1 ∧ St (blocksOf [.box a0_b (vecC (Value.int .i64) a0) a0_T, .box a3_0_b #[.slice a3_0_a a3.length a3_0_c] a3_0_T]) m m1 [.box a3_0_b #[.slice a3_0_a a3.length a3_0_c] a3_0_T, .box a0_b (vecC (Value.int .i64) s1.2) a0_T] ∧ s1.2.length = a0.length) ?_ ?_
 · exact ⟨m, rfl, hK.only [0, 1, 2, 3, 8], Le.refl _, hS, rfl⟩
 clear hK hS fr h
 rintro k1 s1 x1 fr _ ⟨m1, rfl, hK, l1, hS, hq1⟩ h hn1
 unfold G.slices_insertionSortCmpFunc_int_v0_delta_sorted_1_l1 at h
 refine w_seq ?_
 refine w_seq (w_region ?_)
 refine qp 12 (.int .i64 s1.1) hK fun fr hK => ?_
 refine qp 13 (.int .i64 a2) hK fun fr hK => ?_
 refine qp 14 (.bool (decide (s1.1 < a2))) hK fun fr hK => ?_
 refine wpListIn_nil (then_n ?_)
 refine w_cond hK rfl (fun hb1 => ?_) (fun hb1 => ?_)
 ·
  replace hK := hK.more (t := 14) (v' := .bool true) rfl (by rw [hb1])
  replace h := ite_t (of_decide_eq_true hb1) h
  refine wpIn_skip ?_
  refine then_n ?_
  refine w_seq ?_
  refine wpIn_block ?_
  refine w_seq (w_region ?_)
  refine qp 17 (.int .i64 s1.1) hK fun fr hK => ?_
  refine qp 9 (.int .i64 s1.1) hK fun fr hK => ?_
  refine wpListIn_nil (then_n ?_)
  refine wpIn_block ?_
  replace hS := hS.front 1 rfl
  replace hS := hS.front 1 rfl
  replace hS : St _ m m1 [.box a3_0_b #[.slice a3_0_a a3.length a3_0_c] a3_0_T, .box a0_b (vecC (Value.int .i64) s1.2) a0_T] := hS
  refine w_loopL h (fun (s2 : Int × (List Int)) fr ww => ∃ m2 : Mem, m2.w = ww ∧ Kn 53 fr [(0, .slice (some ⟨a0_b, 0, none⟩) a0.length a0.length), (1, .int .i64 a1), (2, .int .i64 a2), (3, .func (.func 96) #[] #[.pointer (some ⟨a3_0_b, 0, none⟩)]), (8, .int .i64 s1.1), (9, .int .i64 s2.1)] ∧ Le m1 m2 ∧ St (blocksOf [.box a0_b (vecC (Value.int .i64) a0) a0_T, .box a3_0_b #[.slice a3_0_a a3.length a3_0_c] a3_0_T]) m m2 [.box a3_0_b #[.slice a3_0_a a3.length a3_0_c] a3_0_T, .box a0_b (vecC (Value.int .i64) s2.2) a0_T] ∧ s2.2.length = a0.length) ?_ ?_
  · exact ⟨m1, rfl, hK.only [0, 1, 2, 3, 8, 9], Le.refl _, hS, hq1⟩
  clear hK hS fr h
  rintro k2 s2 x2 fr _ ⟨m2, rfl, hK, l2, hS, hq2⟩ h hn2
  unfold G.slices_insertionSortCmpFunc_int_v0_delta_sorted_1_l2 at h
  refine w_seq ?_
  refine w_seq ?_
  obtain ⟨v1, hv1, h⟩ := bind_some h
  refine w_join (fun fr ww => ∃ m3 : Mem, m3.w = ww ∧ Kn 53 fr [(0, .slice (some ⟨a0_b, 0, none⟩) a0.length a0.length), (1, .int .i64 a1), (2, .int .i64 a2), (3, .func (.func 96) #[] #[.pointer (some ⟨a3_0_b, 0, none⟩)]), (8, .int .i64 s1.1), (9, .int .i64 s2.1), (34, .bool v1)] ∧ Le m2 m3 ∧ St (blocksOf [.box a0_b (vecC (Value.int .i64) a0) a0_T, .box a3_0_b #[.slice a3_0_a a3.length a3_0_c] a3_0_T]) m m3 [.box a3_0_b #[.slice a3_0_a a3.length a3_0_c] a3_0_T, .box a0_b (vecC (Value.int .i64) s2.2) a0_T]) ?_ ?_
  ·
   clear hK hS fr hv1
   rintro fr _ ⟨m3, rfl, hK, l3, hS⟩
   refine then_n ?_
   refine w_cond hK rfl (fun hb2 => ?_) (fun hb2 => ?_)
   ·
    replace hK := hK.more (t := 34) (v' := .bool true) rfl (by rw [hb2])
    replace h := ite_t (hb2) h
    refine wpIn_skip ?_
    refine then_n ?_
    refine w_seq ?_
    refine wpIn_block ?_
    replace a3_0_f := Els.mono rep_G_Command a3_0_f (l1.trans (l2.trans l3))
    replace hS := hS.front 1 rfl
    obtain ⟨x3, hy1, h⟩ := bind_some h
    obtain ⟨j_x3, hj_x3, hl_x3, hx_x3⟩ := idx_ok hy1
    obtain ⟨x4, hy2, h⟩ := bind_some h
    obtain ⟨j_x4, hj_x4, hl_x4, hx_x4⟩ := idx_ok hy2
    obtain ⟨x5, hy3, h⟩ := bind_some h
    obtain ⟨j_x5, hj_x5, hl_x5, hx_x5⟩ := idx_ok hy3
    have hz1 : j_x5 = s2.1.toNat := by rw [hj_x5]; rfl
    have hz2 : (s2.2.set s2.1.toNat x3).length = a0.length := (List.length_set ..).trans hq2
    have hm0 : ∀ p ∈ ([(fun _ A _ => A = [.box a0_b (vecC (Value.int .i64) s2.2) a0_T]), (fun l A M => A = [.box a0_b (vecC (Value.int .i64) (s2.2.set s2.1.toNat x3)) a0_T])] : List D.Stage), D.MonoP p := D.allP_cons (fun _ _ _ _ h _ => h) (D.allP_cons (fun _ _ _ _ h _ => h) (D.allP_nil))
    have hCm := D.C1_mono [.box a3_0_b #[.slice a3_0_a a3.length a3_0_c] a3_0_T] hm0
    refine D.wp_drawM (m0 := m3) 16 [[15]] [([(0, none)], [(0, 0)], none), ([(9, none)], [(0, 0)], none), ([(0, none)], [(0, 1)], none), ([(9, none)], [(0, 1)], none), ([(40, some 0)], [(0, 1)], none), ([(0, none)], [(0, 0)], none), ([(9, none)], [(0, 0)], none), ([(43, some 0)], [(0, 0)], none), ([(42, some 2), (44, some 0)], [(0, 0)], none), ([(45, some 0)], [(0, 0)], none), ([(0, none)], [(0, 0)], none), ([(9, none)], [(0, 0)], none), ([(47, some 1), (48, some 0)], [(0, 0)], none), ([(49, some 0)], [(0, 0)], none), ([(37, some 13), (38, some 12)], [(0, 0)], none), ([(51, some 0), (46, some 5)], [(0, 0)], some 0)] (D.SM m3 m (blocksOf [.box a0_b (vecC (Value.int .i64) a0) a0_T, .box a3_0_b #[.slice a3_0_a a3.length a3_0_c] a3_0_T]) (D.C1 [(fun _ A _ => A = [.box a0_b (vecC (Value.int .i64) s2.2) a0_T]), (fun l A M => A = [.box a0_b (vecC (Value.int .i64) (s2.2.set s2.1.toNat x3)) a0_T])] [.box a3_0_b #[.slice a3_0_a a3.length a3_0_c] a3_0_T])) hK.size (by kernel_rfl) (by kernel_rfl) (by kernel_rfl) (D.start1 hS (fun _ => rfl)) ?_
    refine D.onP [(0, .slice (some ⟨a0_b, 0, none⟩) a0.length a0.length)] (.slice (some ⟨a0_b, 0, none⟩) a0.length a0.length) (fun ac MM hk => (.cons (hk.1.trans (hK.at_ 0 _ rfl)) (.nil _))) ?_
    refine D.onP [(9, .int .i64 s2.1)] (.int .i64 s2.1) (fun ac MM hk => (.cons (hk.1.trans (hK.at_ 9 _ rfl)) (.nil _))) ?_
    refine D.onP [(0, .slice (some ⟨a0_b, 0, none⟩) a0.length a0.length)] (.slice (some ⟨a0_b, 0, none⟩) a0.length a0.length) (fun ac MM hk => (.cons (hk.1.trans (hK.at_ 0 _ rfl)) (.nil _))) ?_
    refine D.onP [(9, .int .i64 s2.1)] (.int .i64 s2.1) (fun ac MM hk => (.cons (hk.1.trans (hK.at_ 9 _ rfl)) (.nil _))) ?_
    refine D.onP [(40, .int .i64 s2.1)] (.int .i64 (IntKind.i64.wrap (s2.1 - 1))) (fun ac MM hk => (.cons (hk.1) (.nil _))) ?_
    refine D.onP [(0, .slice (some ⟨a0_b, 0, none⟩) a0.length a0.length)] (.slice (some ⟨a0_b, 0, none⟩) a0.length a0.length) (fun ac MM hk => (.cons (hk.1.trans (hK.at_ 0 _ rfl)) (.nil _))) ?_
    refine D.onP [(9, .int .i64 s2.1)] (.int .i64 s2.1) (fun ac MM hk => (.cons (hk.1.trans (hK.at_ 9 _ rfl)) (.nil _))) ?_
    refine D.onP [(43, .int .i64 s2.1)] (.int .i64 (IntKind.i64.wrap (s2.1 - 1))) (fun ac MM hk => (.cons (hk.1) (.nil _))) ?_
    refine D.onD [(42, .slice (some ⟨a0_b, 0, none⟩) a0.length a0.length), (44, .int .i64 (IntKind.i64.wrap (s2.1 - 1)))] (.pointer (some ⟨a0_b, j_x3, none⟩)) (fun ac MM hk => (.cons (hk.1) (.cons (hk.2.1) (.nil _)))) (fun ac MM vs hbd hS hKe Post hp => s_indexV (m := MM) elT124_0 j_x3 hKe rfl rfl rfl hj_x3 (Nat.lt_of_lt_of_eq hl_x3 hq2) hp) ?_
    refine D.onA (fun uu _ => uu = .int .i64 x3) (fun _ _ _ h _ => h) (by
     intro ac MM vs hbd hcor hS00 hk; have hS0 := hS00
     obtain ⟨hle, LL, hC, hSt⟩ := hS0
     have hSt0 := hSt
     have hC0 := hC; obtain ⟨A0, h0, rfl⟩ := hC
     have hn := D.bd_eq hbd 0 0 rfl
     obtain rfl := D.CH.at h0 hn rfl
     replace hSt := hSt
     have k45 : ac.eval (.tmp 45) = .pointer (some ⟨a0_b, j_x3, none⟩) := hk.1
     have hKe : Ke ac [(45, .pointer (some ⟨a0_b, j_x3, none⟩))] := (.cons k45 (.nil _))
     have hS := hSt
     exact ⟨D.wanted0 rfl, s_load hKe hS 0 rfl rfl rfl (by rw [hx_x3]; exact vecC_get (Value.int .i64) hl_x3) (by kernel_rfl) ⟨MM, rfl, Le.refl _, rfl, hS00⟩⟩) ?_
    refine D.onP [(0, .slice (some ⟨a0_b, 0, none⟩) a0.length a0.length)] (.slice (some ⟨a0_b, 0, none⟩) a0.length a0.length) (fun ac MM hk => (.cons (hk.1.trans (hK.at_ 0 _ rfl)) (.nil _))) ?_
    refine D.onP [(9, .int .i64 s2.1)] (.int .i64 s2.1) (fun ac MM hk => (.cons (hk.1.trans (hK.at_ 9 _ rfl)) (.nil _))) ?_
    refine D.onD [(47, .slice (some ⟨a0_b, 0, none⟩) a0.length a0.length), (48, .int .i64 s2.1)] (.pointer (some ⟨a0_b, j_x4, none⟩)) (fun ac MM hk => (.cons (hk.1) (.cons (hk.2.1) (.nil _)))) (fun ac MM vs hbd hS hKe Post hp => s_indexV (m := MM) elT124_0 j_x4 hKe rfl rfl rfl hj_x4 (Nat.lt_of_lt_of_eq hl_x4 hq2) hp) ?_
    refine D.onA (fun uu _ => uu = .int .i64 x4) (fun _ _ _ h _ => h) (by
     intro ac MM vs hbd hcor hS00 hk; have hS0 := hS00
     obtain ⟨hle, LL, hC, hSt⟩ := hS0
     have hSt0 := hSt
     have hC0 := hC; obtain ⟨A0, h0, rfl⟩ := hC
     have hn := D.bd_eq hbd 0 0 rfl
     obtain rfl := D.CH.at h0 hn rfl
     replace hSt := hSt
     have k49 : ac.eval (.tmp 49) = .pointer (some ⟨a0_b, j_x4, none⟩) := hk.1
     have hKe : Ke ac [(49, .pointer (some ⟨a0_b, j_x4, none⟩))] := (.cons k49 (.nil _))
     have hS := hSt
     exact ⟨D.wanted0 rfl, s_load hKe hS 0 rfl rfl rfl (by rw [hx_x4]; exact vecC_get (Value.int .i64) hl_x4) (by kernel_rfl) ⟨MM, rfl, Le.refl _, rfl, hS00⟩⟩) ?_
    refine D.onD [(37, .slice (some ⟨a0_b, 0, none⟩) a0.length a0.length), (38, .int .i64 s2.1)] (.pointer (some ⟨a0_b, j_x5, none⟩)) (fun ac MM hk => (.cons (hk.1) (.cons (hk.2.1) (.nil _)))) (fun ac MM vs hbd hS hKe Post hp => s_indexV (m := MM) elT124_0 j_x5 hKe rfl rfl rfl hj_x5 (Nat.lt_of_lt_of_eq hl_x5 hq2) hp) ?_
    refine D.onA (fun _ _ => True) (fun _ _ _ h _ => h) (by
     intro ac MM vs hbd hcor hS00 hk; have hS0 := hS00
     obtain ⟨hle, LL, hC, hSt⟩ := hS0
     have hSt0 := hSt
     have hC0 := hC; obtain ⟨A0, h0, rfl⟩ := hC
     have hn := D.bd_eq hbd 0 0 rfl
     obtain rfl := D.CH.at h0 hn rfl
     replace hSt := hSt
     have k51 : ac.eval (.tmp 51) = .pointer (some ⟨a0_b, j_x5, none⟩) := hk.1
     have k46 : ac.eval (.tmp 46) = .int .i64 x3 := hk.2.1
     have hKe : Ke ac [(51, .pointer (some ⟨a0_b, j_x5, none⟩)), (46, .int .i64 x3)] := (.cons k51 (.cons k46 (.nil _)))
     exact ⟨D.wanted0 rfl, s_storeV (Value.int .i64) (l := s2.2) (j := j_x5) x3 hKe 0 hSt rfl rfl rfl rfl (by kernel_rfl) rfl hl_x5 (by
       intro M2 l2 hS2; rw [hz1] at hS2
       exact ⟨M2, rfl, l2, trivial, hle.trans l2, _, ⟨_, D.CH.push hn rfl rfl, rfl⟩, hS2⟩)⟩) ?_
    intro fr2 m4 vs hlen hcor hS2 hE; obtain ⟨l4, LL, hC, hS2⟩ := hS2
    obtain ⟨A0, h0, rfl⟩ := hC
    obtain ⟨rfl⟩ := D.CH.at h0 (hlen 0) rfl
    replace hS2 : St _ m m4 [.box a0_b (vecC (Value.int .i64) (s2.2.set s2.1.toNat x3)) a0_T, .box a3_0_b #[.slice a3_0_a a3.length a3_0_c] a3_0_T] := hS2
    have hK2 := D.kn_endsM [(37, .slice (some ⟨a0_b, 0, none⟩) a0.length a0.length), (38, .int .i64 s2.1), (39, .slice (some ⟨a0_b, 0, none⟩) a0.length a0.length), (40, .int .i64 s2.1), (41, .int .i64 (IntKind.i64.wrap (s2.1 - 1))), (42, .slice (some ⟨a0_b, 0, none⟩) a0.length a0.length), (43, .int .i64 s2.1), (44, .int .i64 (IntKind.i64.wrap (s2.1 - 1))), (45, .pointer (some ⟨a0_b, j_x3, none⟩)), (46, .int .i64 x3), (47, .slice (some ⟨a0_b, 0, none⟩) a0.length a0.length), (48, .int .i64 s2.1), (49, .pointer (some ⟨a0_b, j_x4, none⟩)), (50, .int .i64 x4), (51, .pointer (some ⟨a0_b, j_x5, none⟩))] hK hE rfl (by kernel_rfl) (.cons (hE.slots 37) (.cons (hE.slots 38) (.cons (hE.slots 39) (.cons (hE.slots 40) (.cons (hE.slots 41) (.cons (hE.slots 42) (.cons (hE.slots 43) (.cons (hE.slots 44) (.cons (hE.slots 45) (.cons (hE.slots 46) (.cons (hE.slots 47) (.cons (hE.slots 48) (.cons (hE.slots 49) (.cons (hE.slots 50) (.cons (hE.slots 51) (.nil _))))))))))))))))
    replace hK2 : Kn 53 fr2 [(37, .slice (some ⟨a0_b, 0, none⟩) a0.length a0.length), (38, .int .i64 s2.1), (39, .slice (some ⟨a0_b, 0, none⟩) a0.length a0.length), (40, .int .i64 s2.1), (41, .int .i64 (IntKind.i64.wrap (s2.1 - 1))), (42, .slice (some ⟨a0_b, 0, none⟩) a0.length a0.length), (43, .int .i64 s2.1), (44, .int .i64 (IntKind.i64.wrap (s2.1 - 1))), (45, .pointer (some ⟨a0_b, j_x3, none⟩)), (46, .int .i64 x3), (47, .slice (some ⟨a0_b, 0, none⟩) a0.length a0.length), (48, .int .i64 s2.1), (49, .pointer (some ⟨a0_b, j_x4, none⟩)), (50, .int .i64 x4), (51, .pointer (some ⟨a0_b, j_x5, none⟩)), (34, .bool true), (0, .slice (some ⟨a0_b, 0, none⟩) a0.length a0.length), (1, .int .i64 a1), (2, .int .i64 a2), (3, .func (.func 96) #[] #[.pointer (some ⟨a3_0_b, 0, none⟩)]), (8, .int .i64 s1.1), (9, .int .i64 s2.1)] := hK2.only [37, 38, 39, 40, 41, 42, 43, 44, 45, 46, 47, 48, 49, 50, 51, 34, 0, 1, 2, 3, 8, 9]
    clear hE hK hcor hlen h0; revert hK2; clear hS; revert fr2; clear fr; intro fr hK; have hS := hS2; clear hS2 hCm hm0
    replace hS : St _ m m4 [.box a0_b (vecC (Value.int .i64) (s2.2.set s2.1.toNat x3)) a0_T, .box a3_0_b #[.slice a3_0_a a3.length a3_0_c] a3_0_T] := hS
    obtain ⟨x6, hy4, h⟩ := bind_some h
    obtain ⟨j1, hj1, hl1, hx1⟩ := idx_ok hy4
    refine qo 52 hK (s_indexV elT124_0 j1 hK.at_ rfl rfl rfl hj1 (Nat.lt_of_lt_of_eq hl1 hz2) ?_)
    clear hK fr; intro fr hK
    refine qo0 hK (s_storeV (Value.int .i64) (l := (s2.2.set s2.1.toNat x3)) (j := j1) x4 hK.at_ 0 hS rfl rfl rfl rfl (by kernel_rfl) rfl hl1 ?_)
    clear hK fr hS; intro m5 l5 hS fr hK
    have hz3 : j1 = (IntKind.i64.wrap (s2.1 - 1)).toNat := by rw [hj1]; rfl
    have hz4 : ((s2.2.set s2.1.toNat x3).set (IntKind.i64.wrap (s2.1 - 1)).toNat x4).length = a0.length := (List.length_set ..).trans hz2
    replace hS : St (blocksOf [.box a0_b (vecC (Value.int .i64) a0) a0_T, .box a3_0_b #[.slice a3_0_a a3.length a3_0_c] a3_0_T]) m m5 [.box a0_b (vecC (Value.int .i64) ((s2.2.set s2.1.toNat x3).set (IntKind.i64.wrap (s2.1 - 1)).toNat x4)) a0_T, .box a3_0_b #[.slice a3_0_a a3.length a3_0_c] a3_0_T] := by rw [← hz3]; exact hS
    refine wpListIn_nil ?_
    refine blk_n ?_
    refine then_n ?_
    refine w_region ?_
    refine qp 35 (.int .i64 s2.1) hK fun fr hK => ?_
    refine qp 36 (.int .i64 (IntKind.i64.wrap (s2.1 - 1))) hK fun fr hK => ?_
    refine qp 9 (.int .i64 (IntKind.i64.wrap (s2.1 - 1))) hK fun fr hK => ?_
    refine wpListIn_nil (then_n ?_)
    replace hS := hS.front 1 rfl
    replace hS : St _ m m5 [.box a3_0_b #[.slice a3_0_a a3.length a3_0_c] a3_0_T, .box a0_b (vecC (Value.int .i64) ((s2.2.set s2.1.toNat x3).set (IntKind.i64.wrap (s2.1 - 1)).toNat x4)) a0_T] := hS
    replace h := Option.some.inj h; subst h
    obtain ⟨kq, hk1, hk2⟩ := hn2
    exact ⟨kq, hk1, _, hk2, m5, rfl, hK.only [0, 1, 2, 3, 8, 9], l2.trans (l3.trans (l4.trans l5)), hS, hz4⟩
   ·
    replace hK := hK.more (t := 34) (v' := .bool false) rfl (by rw [hb2])
    replace h := ite_f (ne_true_of_eq_false hb2) h
    refine wpIn_exit ?_
    refine then_x ?_
    refine then_x ?_
    refine blk_e ?_
    refine blk_n ?_
    refine then_n ?_
    refine w_region ?_
    refine qp 15 (.int .i64 s1.1) hK fun fr hK => ?_
    refine qp 16 (.int .i64 (IntKind.i64.wrap (s1.1 + 1))) hK fun fr hK => ?_
    refine qp 8 (.int .i64 (IntKind.i64.wrap (s1.1 + 1))) hK fun fr hK => ?_
    refine wpListIn_nil (then_n ?_)
    replace hS := hS.front 1 rfl
    replace hS := hS.front 1 rfl
    replace hS : St _ m m3 [.box a3_0_b #[.slice a3_0_a a3.length a3_0_c] a3_0_T, .box a0_b (vecC (Value.int .i64) s2.2) a0_T] := hS
    replace h := Option.some.inj h; subst h
    replace h := Option.some.inj (loop_out hn2); subst h
    obtain ⟨kq, hk1, hk2⟩ := hn1
    exact ⟨kq, hk1, _, hk2, m3, rfl, hK.only [0, 1, 2, 3, 8], l1.trans (l2.trans l3), hS, hq2⟩
  ·
   replace h := hv1; clear hv1
   replace a3_0_f := Els.mono rep_G_Command a3_0_f (l1.trans l2)
   refine split_b (x := decide (s2.1 > a1)) (fun hb3 => ?_) (fun hb3 => ?_)
   ·
    replace h := ite_t (of_decide_eq_true hb3) h
    obtain ⟨x7, hy5, h⟩ := bind_some h
    obtain ⟨j_x7, hj_x7, hl_x7, hx_x7⟩ := idx_ok hy5
    obtain ⟨x8, hy6, h⟩ := bind_some h
    obtain ⟨j_x8, hj_x8, hl_x8, hx_x8⟩ := idx_ok hy6
    have hlt0 : ∀ bq ∈ blocksOf [.box a3_0_b #[.slice a3_0_a a3.length a3_0_c] a3_0_T, .box a0_b (vecC (Value.int .i64) s2.2) a0_T], bq < m2.w.heap.size := fun bq hbq => hS.ow.lt hbq
    refine D.wp_draw (Gr := D.GO m2 none) (S := D.SO none (blocksOf [.box a0_b (vecC (Value.int .i64) a0) a0_T, .box a3_0_b #[.slice a3_0_a a3.length a3_0_c] a3_0_T]) m m2 (fun _ => [.box a3_0_b #[.slice a3_0_a a3.length a3_0_c] a3_0_T, .box a0_b (vecC (Value.int .i64) s2.2) a0_T]) (fun _ => True)) (N := 0) 14 [] [([(9, none)], 0, 0, false), ([(1, none)], 0, 0, false), ([(18, some 1), (19, some 0)], 0, 0, false), ([(20, some 0)], 0, 0, false), ([(3, none), (21, some 0)], 0, 0, false), ([(0, none), (21, some 1)], 0, 0, false), ([(9, none), (21, some 2)], 0, 0, false), ([(23, some 1), (24, some 0), (21, some 3)], 0, 0, false), ([(25, some 0), (21, some 4)], 0, 0, false), ([(0, none), (21, some 5)], 0, 0, false), ([(9, none), (21, some 6)], 0, 0, false), ([(28, some 0), (21, some 7)], 0, 0, false), ([(27, some 2), (29, some 0), (21, some 8)], 0, 0, false), ([(30, some 0), (21, some 9)], 0, 0, false)] hK.size (by kernel_rfl) (by kernel_rfl) (by kernel_rfl) rfl (D.startO hS trivial) ?_
    refine D.on_pure (D.GO_refl _ _) [(9, .int .i64 s2.1)] (.int .i64 s2.1) (fun ac ww hk => (.cons (hk.1.trans (hK.at_ 9 _ rfl)) (.nil _))) ?_
    refine D.on_pure (D.GO_refl _ _) [(1, .int .i64 a1)] (.int .i64 a1) (fun ac ww hk => (.cons (hk.1.trans (hK.at_ 1 _ rfl)) (.nil _))) ?_
    refine D.on_det (D.GO_refl _ _) [(18, .int .i64 s2.1), (19, .int .i64 a1)] (.bool true) (fun ac ww hk => (.cons (hk.1) (.cons (hk.2.1) (.nil _)))) (fun ac ww kk hb hKe Post hp => s_pureE (.bool true) (.bool (decide (s2.1 > a1))) hKe (by kernel_rfl) (by kernel_rfl) (by rw [hb3]) hp) ?_
    refine D.on_pure (D.GO_refl _ _) [(20, .bool true)] (.bool true) (fun ac ww hk => (.cons (hk.1) (.nil _))) ?_
    refine D.on_pure (D.GO_refl _ _) [(3, .func (.func 96) #[] #[.pointer (some ⟨a3_0_b, 0, none⟩)]), (21, .bool true)] (.func (.func 96) #[] #[.pointer (some ⟨a3_0_b, 0, none⟩)]) (fun ac ww hk => (.cons (hk.1.trans (hK.at_ 3 _ rfl)) (.cons (hk.2.1) (.nil _)))) ?_
    refine D.on_pure (D.GO_refl _ _) [(0, .slice (some ⟨a0_b, 0, none⟩) a0.length a0.length), (21, .bool true)] (.slice (some ⟨a0_b, 0, none⟩) a0.length a0.length) (fun ac ww hk => (.cons (hk.1.trans (hK.at_ 0 _ rfl)) (.cons (hk.2.1) (.nil _)))) ?_
    refine D.on_pure (D.GO_refl _ _) [(9, .int .i64 s2.1), (21, .bool true)] (.int .i64 s2.1) (fun ac ww hk => (.cons (hk.1.trans (hK.at_ 9 _ rfl)) (.cons (hk.2.1) (.nil _)))) ?_
    refine D.on_det (D.GO_refl _ _) [(23, .slice (some ⟨a0_b, 0, none⟩) a0.length a0.length), (24, .int .i64 s2.1), (21, .bool true)] (.pointer (some ⟨a0_b, j_x7, none⟩)) (fun ac ww hk => (.cons (hk.1) (.cons (hk.2.1) (.cons (hk.2.2.1) (.nil _))))) (fun ac ww kk hb hKe Post hp => s_indexV (m := (m2.upO none ww)) elT124_0 j_x7 hKe rfl rfl rfl hj_x7 (Nat.lt_of_lt_of_eq hl_x7 hq2) hp) ?_
    refine D.on_det (D.GO_refl _ _) [(25, .pointer (some ⟨a0_b, j_x7, none⟩)), (21, .bool true)] (.int .i64 x7) (fun ac ww hk => (.cons (hk.1) (.cons (hk.2.1) (.nil _)))) (fun ac ww kk hb hKe Post hp => (fun hS => s_load hKe hS 1 rfl rfl rfl (by rw [hx_x7]; exact vecC_get (Value.int .i64) hl_x7) (by kernel_rfl) hp) hb.2.1) ?_
    refine D.on_pure (D.GO_refl _ _) [(0, .slice (some ⟨a0_b, 0, none⟩) a0.length a0.length), (21, .bool true)] (.slice (some ⟨a0_b, 0, none⟩) a0.length a0.length) (fun ac ww hk => (.cons (hk.1.trans (hK.at_ 0 _ rfl)) (.cons (hk.2.1) (.nil _)))) ?_
    refine D.on_pure (D.GO_refl _ _) [(9, .int .i64 s2.1), (21, .bool true)] (.int .i64 s2.1) (fun ac ww hk => (.cons (hk.1.trans (hK.at_ 9 _ rfl)) (.cons (hk.2.1) (.nil _)))) ?_
    refine D.on_pure (D.GO_refl _ _) [(28, .int .i64 s2.1), (21, .bool true)] (.int .i64 (IntKind.i64.wrap (s2.1 - 1))) (fun ac ww hk => (.cons (hk.1) (.cons (hk.2.1) (.nil _)))) ?_
    refine D.on_det (D.GO_refl _ _) [(27, .slice (some ⟨a0_b, 0, none⟩) a0.length a0.length), (29, .int .i64 (IntKind.i64.wrap (s2.1 - 1))), (21, .bool true)] (.pointer (some ⟨a0_b, j_x8, none⟩)) (fun ac ww hk => (.cons (hk.1) (.cons (hk.2.1) (.cons (hk.2.2.1) (.nil _))))) (fun ac ww kk hb hKe Post hp => s_indexV (m := (m2.upO none ww)) elT124_0 j_x8 hKe rfl rfl rfl hj_x8 (Nat.lt_of_lt_of_eq hl_x8 hq2) hp) ?_
    refine D.on_det (D.GO_refl _ _) [(30, .pointer (some ⟨a0_b, j_x8, none⟩)), (21, .bool true)] (.int .i64 x8) (fun ac ww hk => (.cons (hk.1) (.cons (hk.2.1) (.nil _)))) (fun ac ww kk hb hKe Post hp => (fun hS => s_load hKe hS 1 rfl rfl rfl (by rw [hx_x8]; exact vecC_get (Value.int .i64) hl_x8) (by kernel_rfl) hp) hb.2.1) ?_
    refine D.finO ?_
    intro fr2 m6 hm1 l6 hS2 hF2 hE
    replace hS2 : St _ m m6 [.box a3_0_b #[.slice a3_0_a a3.length a3_0_c] a3_0_T, .box a0_b (vecC (Value.int .i64) s2.2) a0_T] := hS2
    have hK2 := D.kn_ends [(18, .int .i64 s2.1), (19, .int .i64 a1), (20, .bool true), (21, .bool true), (22, .func (.func 96) #[] #[.pointer (some ⟨a3_0_b, 0, none⟩)]), (23, .slice (some ⟨a0_b, 0, none⟩) a0.length a0.length), (24, .int .i64 s2.1), (25, .pointer (some ⟨a0_b, j_x7, none⟩)), (26, .int .i64 x7), (27, .slice (some ⟨a0_b, 0, none⟩) a0.length a0.length), (28, .int .i64 s2.1), (29, .int .i64 (IntKind.i64.wrap (s2.1 - 1))), (30, .pointer (some ⟨a0_b, j_x8, none⟩)), (31, .int .i64 x8)] hK hE rfl (by kernel_rfl) (.cons (hE.slots 18) (.cons (hE.slots 19) (.cons (hE.slots 20) (.cons (hE.slots 21) (.cons (hE.slots 22) (.cons (hE.slots 23) (.cons (hE.slots 24) (.cons (hE.slots 25) (.cons (hE.slots 26) (.cons (hE.slots 27) (.cons (hE.slots 28) (.cons (hE.slots 29) (.cons (hE.slots 30) (.cons (hE.slots 31) (.nil _)))))))))))))))
    replace hK2 : Kn 53 fr2 [(18, .int .i64 s2.1), (19, .int .i64 a1), (20, .bool true), (21, .bool true), (22, .func (.func 96) #[] #[.pointer (some ⟨a3_0_b, 0, none⟩)]), (23, .slice (some ⟨a0_b, 0, none⟩) a0.length a0.length), (24, .int .i64 s2.1), (25, .pointer (some ⟨a0_b, j_x7, none⟩)), (26, .int .i64 x7), (27, .slice (some ⟨a0_b, 0, none⟩) a0.length a0.length), (28, .int .i64 s2.1), (29, .int .i64 (IntKind.i64.wrap (s2.1 - 1))), (30, .pointer (some ⟨a0_b, j_x8, none⟩)), (31, .int .i64 x8), (0, .slice (some ⟨a0_b, 0, none⟩) a0.length a0.length), (1, .int .i64 a1), (2, .int .i64 a2), (3, .func (.func 96) #[] #[.pointer (some ⟨a3_0_b, 0, none⟩)]), (8, .int .i64 s1.1), (9, .int .i64 s2.1)] := hK2.only [18, 19, 20, 21, 22, 23, 24, 25, 26, 27, 28, 29, 30, 31, 0, 1, 2, 3, 8, 9]
    clear hE hK; revert hK2; clear hm1 hS hlt0; revert fr2; clear fr; intro fr hK; have hS := hS2; clear hS2
    replace hS : St _ m m6 [.box a3_0_b #[.slice a3_0_a a3.length a3_0_c] a3_0_T, .box a0_b (vecC (Value.int .i64) s2.2) a0_T] := hS
    replace a3_0_f := Els.mono rep_G_Command a3_0_f l6
    obtain ⟨y1, hy7, h⟩ := bind_some h
    replace hS : St _ m m6 [.box a3_0_b #[.slice a3_0_a a3.length a3_0_c] a3_0_T, .box a0_b (vecC (Value.int .i64) s2.2) a0_T] := hS
    refine qo 32 hK (s_callM (R := [.box a3_0_b #[.slice a3_0_a a3.length a3_0_c] a3_0_T]) (L := [.box a0_b (vecC (Value.int .i64) s2.2) a0_T]) hK.at_ hS ent96_0 rfl rfl rfl rfl (G.delta_sorted_1_spec a3_0_f hy7 (Ow.left (L := [.box a3_0_b #[.slice a3_0_a a3.length a3_0_c] a3_0_T]) hS.ow)) (by kernel_rfl) ?_)
    clear hK fr hS; rintro _ m7 _ l7 hS ⟨rfl, rfl⟩ fr hK
    replace hS : St _ m m7 [.box a3_0_b #[.slice a3_0_a a3.length a3_0_c] a3_0_T, .box a0_b (vecC (Value.int .i64) s2.2) a0_T] := hS
    refine qp 33 (.bool (decide (y1 < 0))) hK fun fr hK => ?_
    refine qp 34 (.bool (decide (y1 < 0))) hK fun fr hK => ?_
    refine wpListIn_nil (then_n ?_)
    replace hS := hS.front 1 rfl
    replace hS := hS.front 1 rfl
    replace hS : St _ m m7 [.box a3_0_b #[.slice a3_0_a a3.length a3_0_c] a3_0_T, .box a0_b (vecC (Value.int .i64) s2.2) a0_T] := hS
    replace h := Option.some.inj h; subst h
    exact ⟨m7, rfl, hK.only [0, 1, 2, 3, 8, 9, 34], l6.trans l7, hS⟩
   ·
    replace h := ite_f (of_decide_eq_false hb3) h
    have hlt0 : ∀ bq ∈ blocksOf [.box a3_0_b #[.slice a3_0_a a3.length a3_0_c] a3_0_T, .box a0_b (vecC (Value.int .i64) s2.2) a0_T], bq < m2.w.heap.size := fun bq hbq => hS.ow.lt hbq
    refine D.wp_draw (Gr := D.GO m2 none) (S := D.SO none (blocksOf [.box a0_b (vecC (Value.int .i64) a0) a0_T, .box a3_0_b #[.slice a3_0_a a3.length a3_0_c] a3_0_T]) m m2 (fun _ => [.box a3_0_b #[.slice a3_0_a a3.length a3_0_c] a3_0_T, .box a0_b (vecC (Value.int .i64) s2.2) a0_T]) (fun _ => True)) (N := 0) 14 [] [([(9, none)], 0, 0, false), ([(1, none)], 0, 0, false), ([(18, some 1), (19, some 0)], 0, 0, false), ([(20, some 0)], 0, 0, false), ([(3, none), (21, some 0)], 0, 0, false), ([(0, none), (21, some 1)], 0, 0, false), ([(9, none), (21, some 2)], 0, 0, false), ([(23, some 1), (24, some 0), (21, some 3)], 0, 0, false), ([(25, some 0), (21, some 4)], 0, 0, false), ([(0, none), (21, some 5)], 0, 0, false), ([(9, none), (21, some 6)], 0, 0, false), ([(28, some 0), (21, some 7)], 0, 0, false), ([(27, some 2), (29, some 0), (21, some 8)], 0, 0, false), ([(30, some 0), (21, some 9)], 0, 0, false)] hK.size (by kernel_rfl) (by kernel_rfl) (by kernel_rfl) rfl (D.startO hS trivial) ?_
    refine D.on_pure (D.GO_refl _ _) [(9, .int .i64 s2.1)] (.int .i64 s2.1) (fun ac ww hk => (.cons (hk.1.trans (hK.at_ 9 _ rfl)) (.nil _))) ?_
    refine D.on_pure (D.GO_refl _ _) [(1, .int .i64 a1)] (.int .i64 a1) (fun ac ww hk => (.cons (hk.1.trans (hK.at_ 1 _ rfl)) (.nil _))) ?_
    refine D.on_det (D.GO_refl _ _) [(18, .int .i64 s2.1), (19, .int .i64 a1)] (.bool false) (fun ac ww hk => (.cons (hk.1) (.cons (hk.2.1) (.nil _)))) (fun ac ww kk hb hKe Post hp => s_pureE (.bool false) (.bool (decide (s2.1 > a1))) hKe (by kernel_rfl) (by kernel_rfl) (by rw [hb3]) hp) ?_
    refine D.on_pure (D.GO_refl _ _) [(20, .bool false)] (.bool false) (fun ac ww hk => (.cons (hk.1) (.nil _))) ?_
    refine D.on_no [(21, .bool false)] (fun ac ww hk => .cons (hk.2.1) (.nil _)) ?_
    refine D.on_no [(21, .bool false)] (fun ac ww hk => .cons (hk.2.1) (.nil _)) ?_
    refine D.on_no [(21, .bool false)] (fun ac ww hk => .cons (hk.2.1) (.nil _)) ?_
    refine D.on_no [(21, .bool false)] (fun ac ww hk => .cons (hk.2.2.1) (.nil _)) ?_
    refine D.on_no [(21, .bool false)] (fun ac ww hk => .cons (hk.2.1) (.nil _)) ?_
    refine D.on_no [(21, .bool false)] (fun ac ww hk => .cons (hk.2.1) (.nil _)) ?_
    refine D.on_no [(21, .bool false)] (fun ac ww hk => .cons (hk.2.1) (.nil _)) ?_
    refine D.on_no [(21, .bool false)] (fun ac ww hk => .cons (hk.2.1) (.nil _)) ?_
    refine D.on_no [(21, .bool false)] (fun ac ww hk => .cons (hk.2.2.1) (.nil _)) ?_
    refine D.on_no [(21, .bool false)] (fun ac ww hk => .cons (hk.2.1) (.nil _)) ?_
    refine D.finO ?_
    intro fr2 m8 hm1 l8 hS2 hF2 hE
    replace hS2 : St _ m m8 [.box a3_0_b #[.slice a3_0_a a3.length a3_0_c] a3_0_T, .box a0_b (vecC (Value.int .i64) s2.2) a0_T] := hS2
    have hK2 := D.kn_ends [(18, .int .i64 s2.1), (19, .int .i64 a1), (20, .bool false), (21, .bool false), (22, undef), (23, undef), (24, undef), (25, undef), (26, undef), (27, undef), (28, undef), (29, undef), (30, undef), (31, undef)] hK hE rfl (by kernel_rfl) (.cons (hE.slots 18) (.cons (hE.slots 19) (.cons (hE.slots 20) (.cons (hE.slots 21) (.cons (hE.slots 22) (.cons (hE.slots 23) (.cons (hE.slots 24) (.cons (hE.slots 25) (.cons (hE.slots 26) (.cons (hE.slots 27) (.cons (hE.slots 28) (.cons (hE.slots 29) (.cons (hE.slots 30) (.cons (hE.slots 31) (.nil _)))))))))))))))
    replace hK2 : Kn 53 fr2 [(18, .int .i64 s2.1), (19, .int .i64 a1), (20, .bool false), (21, .bool false), (22, undef), (23, undef), (24, undef), (25, undef), (26, undef), (27, undef), (28, undef), (29, undef), (30, undef), (31, undef), (0, .slice (some ⟨a0_b, 0, none⟩) a0.length a0.length), (1, .int .i64 a1), (2, .int .i64 a2), (3, .func (.func 96) #[] #[.pointer (some ⟨a3_0_b, 0, none⟩)]), (8, .int .i64 s1.1), (9, .int .i64 s2.1)] := hK2.only [18, 19, 20, 21, 22, 23, 24, 25, 26, 27, 28, 29, 30, 31, 0, 1, 2, 3, 8, 9]
    clear hE hK; revert hK2; clear hm1 hS hlt0; revert fr2; clear fr; intro fr hK; have hS := hS2; clear hS2
    replace hS : St _ m m8 [.box a3_0_b #[.slice a3_0_a a3.length a3_0_c] a3_0_T, .box a0_b (vecC (Value.int .i64) s2.2) a0_T] := hS
    refine qs 32 hK ?_
    clear hK fr; intro fr hK
    refine qs 33 hK ?_
    clear hK fr; intro fr hK
    refine qp 34 (.bool false) hK fun fr hK => ?_
    refine wpListIn_nil (then_n ?_)
    replace hS := hS.front 1 rfl
    replace hS := hS.front 1 rfl
    replace hS : St _ m m8 [.box a3_0_b #[.slice a3_0_a a3.length a3_0_c] a3_0_T, .box a0_b (vecC (Value.int .i64) s2.2) a0_T] := hS
    replace h := Option.some.inj h; subst h
    exact ⟨m8, rfl, hK.only [0, 1, 2, 3, 8, 9, 34], l8, hS⟩
 ·
  replace hK := hK.more (t := 14) (v' := .bool false) rfl (by rw [hb1])
  replace h := ite_f (of_decide_eq_false hb1) h
  refine wpIn_exit ?_
  refine then_x ?_
  refine then_x ?_
  refine blk_e ?_
  replace h := Option.some.inj h; subst h
  replace h := Option.some.inj (loop_out hn1); subst h
  replace hS := hS.front 1 rfl
  replace hS : St _ m m1 [.box a0_b (vecC (Value.int .i64) s1.2) a0_T, .box a3_0_b #[.slice a3_0_a a3.length a3_0_c] a3_0_T] := hS
  refine end_of [] [] rfl hK .nil hS ?_
  exact ⟨rfl, rfl, hq1⟩
set_option maxRecDepth 100000 in
set_option maxHeartbeats 1000000 in
theorem G.slices_swapRangeCmpFunc_int_v0_delta_sorted_1_spec {m : Mem} {a0 : List Int} {a0_b : Nat} {a0_T : TypeId} {a0_n : Nat} (a0_l : a0.length = a0_n) {a1 : Int} {a2 : Int} {a3 : Int} {a4 : (List G.Command)} {a4_0_b : Nat} {a4_0_a : Option Addr} {a4_0_c : Nat} {a4_0_T : TypeId} (a4_0_f : Els is_G_Command m 5 a4_0_a a4_0_c a4) {r : (List Int)} (h : G.slices_swapRangeCmpFunc_int_v0_delta_sorted_1 a0 a1 a2 a3 a4 = some r) (hO : Ow m [.box a0_b (vecC (Value.int .i64) a0) a0_T, .box a4_0_b #[.slice a4_0_a a4.length a4_0_c] a4_0_T]) :
  Spec Try.prog 115 #[.slice (some ⟨a0_b, 0, none⟩) a0_n a0_n, .int .i64 a1, .int .i64 a2, .int .i64 a3, .func (.func 96) #[] #[.pointer (some ⟨a4_0_b, 0, none⟩)]] m [.box a0_b (vecC (Value.int .i64) a0) a0_T, .box a4_0_b #[.slice a4_0_a a4.length a4_0_c] a4_0_T] fun v m' L => L = [.box a0_b (vecC (Value.int .i64) r) a0_T, .box a4_0_b #[.slice a4_0_a a4.length a4_0_c] a4_0_T] ∧ v = .tuple #[] ∧ r.length = a0_n := by
 subst a0_l
 unfold G.slices_swapRangeCmpFunc_int_v0_delta_sorted_1 at h
 refine enter (args := [_, _, _, _, _]) 38 Try.func115 rfl rfl (by simp) fun fr hK => ?_
 have hS := St.refl (hO)
 replace hK : Kn 38 fr [(0, .slice (some ⟨a0_b, 0, none⟩) a0.length a0.length), (1, .int .i64 a1), (2, .int .i64 a2), (3, .int .i64 a3), (4, .func (.func 96) #[] #[.pointer (some ⟨a4_0_b, 0, none⟩)])] := hK
 refine w_seq (w_region ?_)
 refine qp 10 (.int .i64 0) hK fun fr hK => ?_
 refine wpListIn_nil (then_n ?_)
 refine wpIn_block ?_
 replace hS := hS.front 1 rfl
 replace hS : St _ m m [.box a4_0_b #[.slice a4_0_a a4.length a4_0_c] a4_0_T, .box a0_b (vecC (Value.int .i64) a0) a0_T] := hS
 refine w_loopL h (fun (s1 : Int × (List Int)) fr ww => ∃ m1 : Mem, m1.w = ww ∧ Kn 38 fr [(0, .slice (some ⟨a0_b, 0, none⟩) a0.length a0.length), (1, .int .i64 a1), (2, .int .i64 a2), (3, .int .i64 a3), (10, .int .i64 s1.1)] ∧ Le m m1 ∧ St (blocksOf [.box a0_b (vecC (Value.int .i64) a0) a0_T, .box a4_0_b #[.slice a4_0_a a4.length a4_0_c] a4_0_T]) m m1 [.box a4_0_b #[.slice a4_0_a a4.length a4_0_c] a4_0_T, .box a0_b (vecC (Value.int .i64) s1.2) a0_T] ∧ s1.2.length = a0.length) ?_ ?_
 · exact ⟨m, rfl, hK.only [0, 1, 2, 3, 10], Le.refl _, hS, rfl⟩
 clear hK hS fr h
 rintro k1 s1 x1 fr _ ⟨m1, rfl, hK, l1, hS, hq1⟩ h hn1
 unfold G.slices_swapRangeCmpFunc_int_v0_delta_sorted_1_l1 at h
 refine w_seq ?_
 refine w_seq (w_region ?_)
 refine qp 11 (.int .i64 s1.1) hK fun fr hK => ?_
 refine qp 12 (.int .i64 a3) hK fun fr hK => ?_
 refine qp 13 (.bool (decide (s1.1 < a3))) hK fun fr hK => ?_
 refine wpListIn_nil (then_n ?_)
 refine w_cond hK rfl (fun hb1 => ?_) (fun hb1 => ?_)
 ·
  replace hK := hK.more (t := 13) (v' := .bool true) rfl (by rw [hb1])
  replace h := ite_t (of_decide_eq_true hb1) h
  refine wpIn_skip ?_
  refine then_n ?_
  refine w_seq ?_
  refine wpIn_block ?_
  replace a4_0_f := Els.mono rep_G_Command a4_0_f l1
  replace hS := hS.front 1 rfl
  obtain ⟨x2, hy1, h⟩ := bind_some h
  obtain ⟨j_x2, hj_x2, hl_x2, hx_x2⟩ := idx_ok hy1
  obtain ⟨x3, hy2, h⟩ := bind_some h
  obtain ⟨j_x3, hj_x3, hl_x3, hx_x3⟩ := idx_ok hy2
  obtain ⟨x4, hy3, h⟩ := bind_some h
  obtain ⟨j_x4, hj_x4, hl_x4, hx_x4⟩ := idx_ok hy3
  have hz1 : j_x4 = (IntKind.i64.wrap (a1 + s1.1)).toNat := by rw [hj_x4]; rfl
  have hz2 : (s1.2.set (IntKind.i64.wrap (a1 + s1.1)).toNat x2).length = a0.length := (List.length_set ..).trans hq1
  have hm0 : ∀ p ∈ ([(fun _ A _ => A = [.box a0_b (vecC (Value.int .i64) s1.2) a0_T]), (fun l A M => A = [.box a0_b (vecC (Value.int .i64) (s1.2.set (IntKind.i64.wrap (a1 + s1.1)).toNat x2)) a0_T])] : List D.Stage), D.MonoP p := D.allP_cons (fun _ _ _ _ h _ => h) (D.allP_cons (fun _ _ _ _ h _ => h) (D.allP_nil))
  have hCm := D.C1_mono [.box a4_0_b #[.slice a4_0_a a4.length a4_0_c] a4_0_T] hm0
  refine D.wp_drawM (m0 := m1) 22 [[21]] [([(0, none)], [(0, 0)], none), ([(1, none)], [(0, 0)], none), ([(10, none)], [(0, 0)], none), ([(17, some 1), (18, some 0)], [(0, 0)], none), ([(0, none)], [(0, 1)], none), ([(2, none)], [(0, 1)], none), ([(10, none)], [(0, 1)], none), ([(21, some 1), (22, some 0)], [(0, 1)], none), ([(0, none)], [(0, 0)], none), ([(2, none)], [(0, 0)], none), ([(10, none)], [(0, 0)], none), ([(25, some 1), (26, some 0)], [(0, 0)], none), ([(24, some 3), (27, some 0)], [(0, 0)], none), ([(28, some 0)], [(0, 0)], none), ([(0, none)], [(0, 0)], none), ([(1, none)], [(0, 0)], none), ([(10, none)], [(0, 0)], none), ([(31, some 1), (32, some 0)], [(0, 0)], none), ([(30, some 3), (33, some 0)], [(0, 0)], none), ([(34, some 0)], [(0, 0)], none), ([(16, some 19), (19, some 16)], [(0, 0)], none), ([(36, some 0), (29, some 7)], [(0, 0)], some 0)] (D.SM m1 m (blocksOf [.box a0_b (vecC (Value.int .i64) a0) a0_T, .box a4_0_b #[.slice a4_0_a a4.length a4_0_c] a4_0_T]) (D.C1 [(fun _ A _ => A = [.box a0_b (vecC (Value.int .i64) s1.2) a0_T]), (fun l A M => A = [.box a0_b (vecC (Value.int .i64) (s1.2.set (IntKind.i64.wrap (a1 + s1.1)).toNat x2)) a0_T])] [.box a4_0_b #[.slice a4_0_a a4.length a4_0_c] a4_0_T])) hK.size (by kernel_rfl) (by kernel_rfl) (by kernel_rfl) (D.start1 hS (fun _ => rfl)) ?_
  refine D.onP [(0, .slice (some ⟨a0_b, 0, none⟩) a0.length a0.length)] (.slice (some ⟨a0_b, 0, none⟩) a0.length a0.length) (fun ac MM hk => (.cons (hk.1.trans (hK.at_ 0 _ rfl)) (.nil _))) ?_
  refine D.onP [(1, .int .i64 a1)] (.int .i64 a1) (fun ac MM hk => (.cons (hk.1.trans (hK.at_ 1 _ rfl)) (.nil _))) ?_
  refine D.onP [(10, .int .i64 s1.1)] (.int .i64 s1.1) (fun ac MM hk => (.cons (hk.1.trans (hK.at_ 10 _ rfl)) (.nil _))) ?_
  refine D.onP [(17, .int .i64 a1), (18, .int .i64 s1.1)] (.int .i64 (IntKind.i64.wrap (a1 + s1.1))) (fun ac MM hk => (.cons (hk.1) (.cons (hk.2.1) (.nil _)))) ?_
  refine D.onP [(0, .slice (some ⟨a0_b, 0, none⟩) a0.length a0.length)] (.slice (some ⟨a0_b, 0, none⟩) a0.length a0.length) (fun ac MM hk => (.cons (hk.1.trans (hK.at_ 0 _ rfl)) (.nil _))) ?_
  refine D.onP [(2, .int .i64 a2)] (.int .i64 a2) (fun ac MM hk => (.cons (hk.1.trans (hK.at_ 2 _ rfl)) (.nil _))) ?_
  refine D.onP [(10, .int .i64 s1.1)] (.int .i64 s1.1) (fun ac MM hk => (.cons (hk.1.trans (hK.at_ 10 _ rfl)) (.nil _))) ?_
  refine D.onP [(21, .int .i64 a2), (22, .int .i64 s1.1)] (.int .i64 (IntKind.i64.wrap (a2 + s1.1))) (fun ac MM hk => (.cons (hk.1) (.cons (hk.2.1) (.nil _)))) ?_
  refine D.onP [(0, .slice (some ⟨a0_b, 0, none⟩) a0.length a0.length)] (.slice (some ⟨a0_b, 0, none⟩) a0.length a0.length) (fun ac MM hk => (.cons (hk.1.trans (hK.at_ 0 _ rfl)) (.nil _))) ?_
  refine D.onP [(2, .int .i64 a2)] (.int .i64 a2) (fun ac MM hk => (.cons (hk.1.trans (hK.at_ 2 _ rfl)) (.nil _))) ?_
  refine D.onP [(10, .int .i64 s1.1)] (.int .i64 s1.1) (fun ac MM hk => (.cons (hk.1.trans (hK.at_ 10 _ rfl)) (.nil _))) ?_
  refine D.onP [(25, .int .i64 a2), (26, .int .i64 s1.1)] (.int .i64 (IntKind.i64.wrap (a2 + s1.1))) (fun ac MM hk => (.cons (hk.1) (.cons (hk.2.1) (.nil _)))) ?_
  refine D.onD [(24, .slice (some ⟨a0_b, 0, none⟩) a0.length a0.length), (27, .int .i64 (IntKind.i64.wrap (a2 + s1.1)))] (.pointer (some ⟨a0_b, j_x2, none⟩)) (fun ac MM hk => (.cons (hk.1) (.cons (hk.2.1) (.nil _)))) (fun ac MM vs hbd hS hKe Post hp => s_indexV (m := MM) elT124_0 j_x2 hKe rfl rfl rfl hj_x2 (Nat.lt_of_lt_of_eq hl_x2 hq1) hp) ?_
  refine D.onA (fun uu _ => uu = .int .i64 x2) (fun _ _ _ h _ => h) (by
   intro ac MM vs hbd hcor hS00 hk; have hS0 := hS00
   obtain ⟨hle, LL, hC, hSt⟩ := hS0
   have hSt0 := hSt
   have hC0 := hC; obtain ⟨A0, h0, rfl⟩ := hC
   have hn := D.bd_eq hbd 0 0 rfl
   obtain rfl := D.CH.at h0 hn rfl
   replace hSt := hSt
   have k28 : ac.eval (.tmp 28) = .pointer (some ⟨a0_b, j_x2, none⟩) := hk.1
   have hKe : Ke ac [(28, .pointer (some ⟨a0_b, j_x2, none⟩))] := (.cons k28 (.nil _))
   have hS := hSt
   exact ⟨D.wanted0 rfl, s_load hKe hS 0 rfl rfl rfl (by rw [hx_x2]; exact vecC_get (Value.int .i64) hl_x2) (by kernel_rfl) ⟨MM, rfl, Le.refl _, rfl, hS00⟩⟩) ?_
  refine D.onP [(0, .slice (some ⟨a0_b, 0, none⟩) a0.length a0.length)] (.slice (some ⟨a0_b, 0, none⟩) a0.length a0.length) (fun ac MM hk => (.cons (hk.1.trans (hK.at_ 0 _ rfl)) (.nil _))) ?_
  refine D.onP [(1, .int .i64 a1)] (.int .i64 a1) (fun ac MM hk => (.cons (hk.1.trans (hK.at_ 1 _ rfl)) (.nil _))) ?_
  refine D.onP [(10, .int .i64 s1.1)] (.int .i64 s1.1) (fun ac MM hk => (.cons (hk.1.trans (hK.at_ 10 _ rfl)) (.nil _))) ?_
  refine D.onP [(31, .int .i64 a1), (32, .int .i64 s1.1)] (.int .i64 (IntKind.i64.wrap (a1 + s1.1))) (fun ac MM hk => (.cons (hk.1) (.cons (hk.2.1) (.nil _)))) ?_
  refine D.onD [(30, .slice (some ⟨a0_b, 0, none⟩) a0.length a0.length), (33, .int .i64 (IntKind.i64.wrap (a1 + s1.1)))] (.pointer (some ⟨a0_b, j_x3, none⟩)) (fun ac MM hk => (.cons (hk.1) (.cons (hk.2.1) (.nil _)))) (fun ac MM vs hbd hS hKe Post hp => s_indexV (m := MM) elT124_0 j_x3 hKe rfl rfl rfl hj_x3 (Nat.lt_of_lt_of_eq hl_x3 hq1) hp) ?_
  refine D.onA (fun uu _ => uu = .int .i64 x3) (fun _ _ _ h _ => h) (by
   intro ac MM vs hbd hcor hS00 hk; have hS0 := hS00
   obtain ⟨hle, LL, hC, hSt⟩ := hS0
   have hSt0 := hSt
   have hC0 := hC; obtain ⟨A0, h0, rfl⟩ := hC
   have hn := D.bd_eq hbd 0 0 rfl
   obtain rfl := D.CH.at h0 hn rfl
   replace hSt := hSt
   have k34 : ac.eval (.tmp 34) = .pointer (some ⟨a0_b, j_x3, none⟩) := hk.1
   have hKe : Ke ac [(34, .pointer (some ⟨a0_b, j_x3, none⟩))] := (.cons k34 (.nil _))
   have hS := hSt
   exact ⟨D.wanted0 rfl, s_load hKe hS 0 rfl rfl rfl (by rw [hx_x3]; exact vecC_get (Value.int .i64) hl_x3) (by kernel_rfl) ⟨MM, rfl, Le.refl _, rfl, hS00⟩⟩) ?_
  refine D.onD [(16, .slice (some ⟨a0_b, 0, none⟩) a0.length a0.length), (19, .int .i64 (IntKind.i64.wrap (a1 + s1.1)))] (.pointer (some ⟨a0_b, j_x4, none⟩)) (fun ac MM hk => (.cons (hk.1) (.cons (hk.2.1) (.nil _)))) (fun ac MM vs hbd hS hKe Post hp => s_indexV (m := MM) elT124_0 j_x4 hKe rfl rfl rfl hj_x4 (Nat.lt_of_lt_of_eq hl_x4 hq1) hp) ?_
  refine D.onA (fun _ _ => True) (fun _ _ _ h _ => h) (by
   intro ac MM vs hbd hcor hS00 hk; have hS0 := hS00
   obtain ⟨hle, LL, hC, hSt⟩ := hS0
   have hSt0 := hSt
   have hC0 := hC; obtain ⟨A0, h0, rfl⟩ := hC
   have hn := D.bd_eq hbd 0 0 rfl
   obtain rfl := D.CH.at h0 hn rfl
   replace hSt := hSt
   have k36 : ac.eval (.tmp 36) = .pointer (some ⟨a0_b, j_x4, none⟩) := hk.1
   have k29 : ac.eval (.tmp 29) = .int .i64 x2 := hk.2.1
   have hKe : Ke ac [(36, .pointer (some ⟨a0_b, j_x4, none⟩)), (29, .int .i64 x2)] := (.cons k36 (.cons k29 (.nil _)))
   exact ⟨D.wanted0 rfl, s_storeV (Value.int .i64) (l := s1.2) (j := j_x4) x2 hKe 0 hSt rfl rfl rfl rfl (by kernel_rfl) rfl hl_x4 (by
     intro M2 l2 hS2; rw [hz1] at hS2
     exact ⟨M2, rfl, l2, trivial, hle.trans l2, _, ⟨_, D.CH.push hn rfl rfl, rfl⟩, hS2⟩)⟩) ?_
  intro fr2 m2 vs hlen hcor hS2 hE; obtain ⟨l2, LL, hC, hS2⟩ := hS2
  obtain ⟨A0, h0, rfl⟩ := hC
  obtain ⟨rfl⟩ := D.CH.at h0 (hlen 0) rfl
  replace hS2 : St _ m m2 [.box a0_b (vecC (Value.int .i64) (s1.2.set (IntKind.i64.wrap (a1 + s1.1)).toNat x2)) a0_T, .box a4_0_b #[.slice a4_0_a a4.length a4_0_c] a4_0_T] := hS2
  have hK2 := D.kn_endsM [(16, .slice (some ⟨a0_b, 0, none⟩) a0.length a0.length), (17, .int .i64 a1), (18, .int .i64 s1.1), (19, .int .i64 (IntKind.i64.wrap (a1 + s1.1))), (20, .slice (some ⟨a0_b, 0, none⟩) a0.length a0.length), (21, .int .i64 a2), (22, .int .i64 s1.1), (23, .int .i64 (IntKind.i64.wrap (a2 + s1.1))), (24, .slice (some ⟨a0_b, 0, none⟩) a0.length a0.length), (25, .int .i64 a2), (26, .int .i64 s1.1), (27, .int .i64 (IntKind.i64.wrap (a2 + s1.1))), (28, .pointer (some ⟨a0_b, j_x2, none⟩)), (29, .int .i64 x2), (30, .slice (some ⟨a0_b, 0, none⟩) a0.length a0.length), (31, .int .i64 a1), (32, .int .i64 s1.1), (33, .int .i64 (IntKind.i64.wrap (a1 + s1.1))), (34, .pointer (some ⟨a0_b, j_x3, none⟩)), (35, .int .i64 x3), (36, .pointer (some ⟨a0_b, j_x4, none⟩))] hK hE rfl (by kernel_rfl) (.cons (hE.slots 16) (.cons (hE.slots 17) (.cons (hE.slots 18) (.cons (hE.slots 19) (.cons (hE.slots 20) (.cons (hE.slots 21) (.cons (hE.slots 22) (.cons (hE.slots 23) (.cons (hE.slots 24) (.cons (hE.slots 25) (.cons (hE.slots 26) (.cons (hE.slots 27) (.cons (hE.slots 28) (.cons (hE.slots 29) (.cons (hE.slots 30) (.cons (hE.slots 31) (.cons (hE.slots 32) (.cons (hE.slots 33) (.cons (hE.slots 34) (.cons (hE.slots 35) (.cons (hE.slots 36) (.nil _))))))))))))))))))))))
  replace hK2 : Kn 38 fr2 [(16, .slice (some ⟨a0_b, 0, none⟩) a0.length a0.length), (17, .int .i64 a1), (18, .int .i64 s1.1), (19, .int .i64 (IntKind.i64.wrap (a1 + s1.1))), (20, .slice (some ⟨a0_b, 0, none⟩) a0.length a0.length), (21, .int .i64 a2), (22, .int .i64 s1.1), (23, .int .i64 (IntKind.i64.wrap (a2 + s1.1))), (24, .slice (some ⟨a0_b, 0, none⟩) a0.length a0.length), (25, .int .i64 a2), (26, .int .i64 s1.1), (27, .int .i64 (IntKind.i64.wrap (a2 + s1.1))), (28, .pointer (some ⟨a0_b, j_x2, none⟩)), (29, .int .i64 x2), (30, .slice (some ⟨a0_b, 0, none⟩) a0.length a0.length), (31, .int .i64 a1), (32, .int .i64 s1.1), (33, .int .i64 (IntKind.i64.wrap (a1 + s1.1))), (34, .pointer (some ⟨a0_b, j_x3, none⟩)), (35, .int .i64 x3), (36, .pointer (some ⟨a0_b, j_x4, none⟩)), (13, .bool true), (12, .int .i64 a3), (11, .int .i64 s1.1), (0, .slice (some ⟨a0_b, 0, none⟩) a0.length a0.length), (1, .int .i64 a1), (2, .int .i64 a2), (3, .int .i64 a3), (10, .int .i64 s1.1)] := hK2.only [16, 17, 18, 19, 20, 21, 22, 23, 24, 25, 26, 27, 28, 29, 30, 31, 32, 33, 34, 35, 36, 13, 12, 11, 0, 1, 2, 3, 10]
  clear hE hK hcor hlen h0; revert hK2; clear hS; revert fr2; clear fr; intro fr hK; have hS := hS2; clear hS2 hCm hm0
  replace hS : St _ m m2 [.box a0_b (vecC (Value.int .i64) (s1.2.set (IntKind.i64.wrap (a1 + s1.1)).toNat x2)) a0_T, .box a4_0_b #[.slice a4_0_a a4.length a4_0_c] a4_0_T] := hS
  obtain ⟨x5, hy4, h⟩ := bind_some h
  obtain ⟨j1, hj1, hl1, hx1⟩ := idx_ok hy4
  refine qo 37 hK (s_indexV elT124_0 j1 hK.at_ rfl rfl rfl hj1 (Nat.lt_of_lt_of_eq hl1 hz2) ?_)
  clear hK fr; intro fr hK
  refine qo0 hK (s_storeV (Value.int .i64) (l := (s1.2.set (IntKind.i64.wrap (a1 + s1.1)).toNat x2)) (j := j1) x3 hK.at_ 0 hS rfl rfl rfl rfl (by kernel_rfl) rfl hl1 ?_)
  clear hK fr hS; intro m3 l3 hS fr hK
  have hz3 : j1 = (IntKind.i64.wrap (a2 + s1.1)).toNat := by rw [hj1]; rfl
  have hz4 : ((s1.2.set (IntKind.i64.wrap (a1 + s1.1)).toNat x2).set (IntKind.i64.wrap (a2 + s1.1)).toNat x3).length = a0.length := (List.length_set ..).trans hz2
  replace hS : St (blocksOf [.box a0_b (vecC (Value.int .i64) a0) a0_T, .box a4_0_b #[.slice a4_0_a a4.length a4_0_c] a4_0_T]) m m3 [.box a0_b (vecC (Value.int .i64) ((s1.2.set (IntKind.i64.wrap (a1 + s1.1)).toNat x2).set (IntKind.i64.wrap (a2 + s1.1)).toNat x3)) a0_T, .box a4_0_b #[.slice a4_0_a a4.length a4_0_c] a4_0_T] := by rw [← hz3]; exact hS
  refine wpListIn_nil ?_
  refine blk_n ?_
  refine then_n ?_
  refine w_region ?_
  refine qp 14 (.int .i64 s1.1) hK fun fr hK => ?_
  refine qp 15 (.int .i64 (IntKind.i64.wrap (s1.1 + 1))) hK fun fr hK => ?_
  refine qp 10 (.int .i64 (IntKind.i64.wrap (s1.1 + 1))) hK fun fr hK => ?_
  refine wpListIn_nil (then_n ?_)
  replace hS := hS.front 1 rfl
  replace hS : St _ m m3 [.box a4_0_b #[.slice a4_0_a a4.length a4_0_c] a4_0_T, .box a0_b (vecC (Value.int .i64) ((s1.2.set (IntKind.i64.wrap (a1 + s1.1)).toNat x2).set (IntKind.i64.wrap (a2 + s1.1)).toNat x3)) a0_T] := hS
  replace h := Option.some.inj h; subst h
  obtain ⟨kq, hk1, hk2⟩ := hn1
  exact ⟨kq, hk1, _, hk2, m3, rfl, hK.only [0, 1, 2, 3, 10], l1.trans (l2.trans l3), hS, hz4⟩
 ·
  replace hK := hK.more (t := 13) (v' := .bool false) rfl (by rw [hb1])
  replace h := ite_f (of_decide_eq_false hb1) h
  refine wpIn_exit ?_
  refine then_x ?_
  refine then_x ?_
  refine blk_e ?_
  replace h := Option.some.inj h; subst h
  replace h := Option.some.inj (loop_out hn1); subst h
  replace hS := hS.front 1 rfl
  replace hS : St _ m m1 [.box a0_b (vecC (Value.int .i64) s1.2) a0_T, .box a4_0_b #[.slice a4_0_a a4.length a4_0_c] a4_0_T] := hS
  refine end_of [] [] rfl hK .nil hS ?_
  exact ⟨rfl, rfl, hq1⟩
set_option maxRecDepth 100000 in
set_option maxHeartbeats 1000000 in
theorem G.slices_rotateCmpFunc_int_v0_delta_sorted_1_spec {m : Mem} {a0 : List Int} {a0_b : Nat} {a0_T : TypeId} {a0_n : Nat} (a0_l : a0.length = a0_n) {a1 : Int} {a2 : Int} {a3 : Int} {a4 : (List G.Command)} {a4_0_b : Nat} {a4_0_a : Option Addr} {a4_0_c : Nat} {a4_0_T : TypeId} (a4_0_f : Els is_G_Command m 5 a4_0_a a4_0_c a4) {r : (List Int)} (h : G.slices_rotateCmpFunc_int_v0_delta_sorted_1 a0 a1 a2 a3 a4 = some r) (hO : Ow m [.box a0_b (vecC (Value.int .i64) a0) a0_T, .box a4_0_b #[.slice a4_0_a a4.length a4_0_c] a4_0_T]) :
  Spec Try.prog 114 #[.slice (some ⟨a0_b, 0, none⟩) a0_n a0_n, .int .i64 a1, .int .i64 a2, .int .i64 a3, .func (.func 96) #[] #[.pointer (some ⟨a4_0_b, 0, none⟩)]] m [.box a0_b (vecC (Value.int .i64) a0) a0_T, .box a4_0_b #[.slice a4_0_a a4.length a4_0_c] a4_0_T] fun v m' L => L = [.box a0_b (vecC (Value.int .i64) r) a0_T, .box a4_0_b #[.slice a4_0_a a4.length a4_0_c] a4_0_T] ∧ v = .tuple #[] ∧ r.length = a0_n := by
 subst a0_l
 unfold G.slices_rotateCmpFunc_int_v0_delta_sorted_1 at h
 refine enter (args := [_, _, _, _, _]) 58 Try.func114 rfl rfl (by simp) fun fr hK => ?_
 have hS := St.refl (hO)
 replace hK : Kn 58 fr [(0, .slice (some ⟨a0_b, 0, none⟩) a0.length a0.length), (1, .int .i64 a1), (2, .int .i64 a2), (3, .int .i64 a3), (4, .func (.func 96) #[] #[.pointer (some ⟨a4_0_b, 0, none⟩)])] := hK
 refine w_seq (w_region ?_)
 refine qp 12 (.int .i64 a2) hK fun fr hK => ?_
 refine qp 13 (.int .i64 a1) hK fun fr hK => ?_
 refine qp 14 (.int .i64 (IntKind.i64.wrap (a2 - a1))) hK fun fr hK => ?_
 refine qp 10 (.int .i64 (IntKind.i64.wrap (a2 - a1))) hK fun fr hK => ?_
 refine wpListIn_nil (then_n ?_)
 refine w_seq (w_region ?_)
 refine qp 15 (.int .i64 a3) hK fun fr hK => ?_
 refine qp 16 (.int .i64 a2) hK fun fr hK => ?_
 refine qp 17 (.int .i64 (IntKind.i64.wrap (a3 - a2))) hK fun fr hK => ?_
 refine qp 11 (.int .i64 (IntKind.i64.wrap (a3 - a2))) hK fun fr hK => ?_
 refine wpListIn_nil (then_n ?_)
 refine w_seq ?_
 obtain ⟨v1, hv1, h⟩ := bind_some h
 refine w_join (fun fr ww => ∃ m1 : Mem, m1.w = ww ∧ Kn 58 fr [(0, .slice (some ⟨a0_b, 0, none⟩) a0.length a0.length), (2, .int .i64 a2), (4, .func (.func 96) #[] #[.pointer (some ⟨a4_0_b, 0, none⟩)]), (10, .int .i64 v1.1)] ∧ Le m m1 ∧ St (blocksOf [.box a0_b (vecC (Value.int .i64) a0) a0_T, .box a4_0_b #[.slice a4_0_a a4.length a4_0_c] a4_0_T]) m m1 [.box a4_0_b #[.slice a4_0_a a4.length a4_0_c] a4_0_T, .box a0_b (vecC (Value.int .i64) v1.2) a0_T] ∧ v1.2.length = a0.length) ?_ ?_
 ·
  clear hK hS fr hv1
  rintro fr _ ⟨m1, rfl, hK, l1, hS, hq1⟩
  refine then_n ?_
  refine w_region ?_
  refine qp 50 (.slice (some ⟨a0_b, 0, none⟩) a0.length a0.length) hK fun fr hK => ?_
  refine qp 51 (.int .i64 a2) hK fun fr hK => ?_
  refine qp 52 (.int .i64 v1.1) hK fun fr hK => ?_
  refine qp 53 (.int .i64 (IntKind.i64.wrap (a2 - v1.1))) hK fun fr hK => ?_
  refine qp 54 (.int .i64 a2) hK fun fr hK => ?_
  refine qp 55 (.int .i64 v1.1) hK fun fr hK => ?_
  refine qp 56 (.func (.func 96) #[] #[.pointer (some ⟨a4_0_b, 0, none⟩)]) hK fun fr hK => ?_
  replace a4_0_f := Els.mono rep_G_Command a4_0_f l1
  obtain ⟨y1, hy1, h⟩ := bind_some h
  replace hS := hS.front 1 rfl
  replace hS : St _ m m1 [.box a0_b (vecC (Value.int .i64) v1.2) a0_T, .box a4_0_b #[.slice a4_0_a a4.length a4_0_c] a4_0_T] := hS
  refine qo 57 hK (s_callM (R := [.box a0_b (vecC (Value.int .i64) v1.2) a0_T, .box a4_0_b #[.slice a4_0_a a4.length a4_0_c] a4_0_T]) (L := []) hK.at_ hS ent115_0 rfl rfl rfl rfl (G.slices_swapRangeCmpFunc_int_v0_delta_sorted_1_spec hq1 a4_0_f hy1 (Ow.left (L := [.box a0_b (vecC (Value.int .i64) v1.2) a0_T, .box a4_0_b #[.slice a4_0_a a4.length a4_0_c] a4_0_T]) hS.ow)) (by kernel_rfl) ?_)
  clear hK fr hS; rintro _ m2 _ l2 hS ⟨rfl, rfl, c1re0⟩ fr hK
  replace hS : St _ m m2 [.box a0_b (vecC (Value.int .i64) y1) a0_T, .box a4_0_b #[.slice a4_0_a a4.length a4_0_c] a4_0_T] := hS
  refine wpListIn_nil ?_
  replace h := Option.some.inj h; subst h
  replace hS := hS.front 1 rfl
  replace hS := hS.front 1 rfl
  replace hS : St _ m m2 [.box a0_b (vecC (Value.int .i64) y1) a0_T, .box a4_0_b #[.slice a4_0_a a4.length a4_0_c] a4_0_T] := hS
  refine end_of [] [] rfl hK .nil hS ?_
  exact ⟨rfl, rfl, c1re0⟩
 ·
  replace h := hv1; clear hv1
  refine wpIn_block ?_
  replace hS := hS.front 1 rfl
  replace hS : St _ m m [.box a4_0_b #[.slice a4_0_a a4.length a4_0_c] a4_0_T, .box a0_b (vecC (Value.int .i64) a0) a0_T] := hS
  refine w_loopL h (fun (s1 : Int × Int × (List Int)) fr ww => ∃ m3 : Mem, m3.w = ww ∧ Kn 58 fr [(0, .slice (some ⟨a0_b, 0, none⟩) a0.length a0.length), (2, .int .i64 a2), (4, .func (.func 96) #[] #[.pointer (some ⟨a4_0_b, 0, none⟩)]), (10, .int .i64 s1.1), (11, .int .i64 s1.2.1)] ∧ Le m m3 ∧ St (blocksOf [.box a0_b (vecC (Value.int .i64) a0) a0_T, .box a4_0_b #[.slice a4_0_a a4.length a4_0_c] a4_0_T]) m m3 [.box a4_0_b #[.slice a4_0_a a4.length a4_0_c] a4_0_T, .box a0_b (vecC (Value.int .i64) s1.2.2) a0_T] ∧ s1.2.2.length = a0.length) ?_ ?_
  · exact ⟨m, rfl, hK.only [0, 2, 4, 10, 11], Le.refl _, hS, rfl⟩
  clear hK hS fr h
  rintro k1 s1 x1 fr _ ⟨m3, rfl, hK, l3, hS, hq2⟩ h hn1
  unfold G.slices_rotateCmpFunc_int_v0_delta_sorted_1_l1 at h
  refine w_seq ?_
  refine w_seq (w_region ?_)
  refine qp 18 (.int .i64 s1.1) hK fun fr hK => ?_
  refine qp 19 (.int .i64 s1.2.1) hK fun fr hK => ?_
  refine qp 20 (.bool (s1.1 != s1.2.1)) hK fun fr hK => ?_
  refine wpListIn_nil (then_n ?_)
  refine w_cond hK rfl (fun hb1 => ?_) (fun hb1 => ?_)
  ·
   replace hK := hK.more (t := 20) (v' := .bool true) rfl (by rw [hb1])
   replace h := ite_t (ne_of_bne hb1) h
   refine wpIn_skip ?_
   refine then_n ?_
   refine wpIn_block ?_
   refine w_seq (w_region ?_)
   refine qp 21 (.int .i64 s1.1) hK fun fr hK => ?_
   refine qp 22 (.int .i64 s1.2.1) hK fun fr hK => ?_
   refine qp 23 (.bool (decide (s1.1 > s1.2.1))) hK fun fr hK => ?_
   refine wpListIn_nil (then_n ?_)
   refine w_cond hK rfl (fun hb2 => ?_) (fun hb2 => ?_)
   ·
    replace hK := hK.more (t := 23) (v' := .bool true) rfl (by rw [hb2])
    replace h := ite_t (of_decide_eq_true hb2) h
    refine w_seq (w_region ?_)
    refine qp 24 (.slice (some ⟨a0_b, 0, none⟩) a0.length a0.length) hK fun fr hK => ?_
    refine qp 25 (.int .i64 a2) hK fun fr hK => ?_
    refine qp 26 (.int .i64 s1.1) hK fun fr hK => ?_
    refine qp 27 (.int .i64 (IntKind.i64.wrap (a2 - s1.1))) hK fun fr hK => ?_
    refine qp 28 (.int .i64 a2) hK fun fr hK => ?_
    refine qp 29 (.int .i64 s1.2.1) hK fun fr hK => ?_
    refine qp 30 (.func (.func 96) #[] #[.pointer (some ⟨a4_0_b, 0, none⟩)]) hK fun fr hK => ?_
    replace a4_0_f := Els.mono rep_G_Command a4_0_f l3
    obtain ⟨y2, hy2, h⟩ := bind_some h
    replace hS := hS.front 1 rfl
    replace hS : St _ m m3 [.box a0_b (vecC (Value.int .i64) s1.2.2) a0_T, .box a4_0_b #[.slice a4_0_a a4.length a4_0_c] a4_0_T] := hS
    refine qo 31 hK (s_callM (R := [.box a0_b (vecC (Value.int .i64) s1.2.2) a0_T, .box a4_0_b #[.slice a4_0_a a4.length a4_0_c] a4_0_T]) (L := []) hK.at_ hS ent115_0 rfl rfl rfl rfl (G.slices_swapRangeCmpFunc_int_v0_delta_sorted_1_spec hq2 a4_0_f hy2 (Ow.left (L := [.box a0_b (vecC (Value.int .i64) s1.2.2) a0_T, .box a4_0_b #[.slice a4_0_a a4.length a4_0_c] a4_0_T]) hS.ow)) (by kernel_rfl) ?_)
    clear hK fr hS; rintro _ m4 _ l4 hS ⟨rfl, rfl, c2re0⟩ fr hK
    replace hS : St _ m m4 [.box a0_b (vecC (Value.int .i64) y2) a0_T, .box a4_0_b #[.slice a4_0_a a4.length a4_0_c] a4_0_T] := hS
    refine wpListIn_nil (then_n ?_)
    refine w_region ?_
    refine qp 32 (.int .i64 s1.1) hK fun fr hK => ?_
    refine qp 33 (.int .i64 s1.2.1) hK fun fr hK => ?_
    refine qp 34 (.int .i64 (IntKind.i64.wrap (s1.1 - s1.2.1))) hK fun fr hK => ?_
    refine qp 10 (.int .i64 (IntKind.i64.wrap (s1.1 - s1.2.1))) hK fun fr hK => ?_
    refine wpListIn_nil ?_
    refine blk_n ?_
    refine then_n ?_
    replace hS := hS.front 1 rfl
    replace hS : St _ m m4 [.box a4_0_b #[.slice a4_0_a a4.length a4_0_c] a4_0_T, .box a0_b (vecC (Value.int .i64) y2) a0_T] := hS
    replace h := Option.some.inj h; subst h
    obtain ⟨kq, hk1, hk2⟩ := hn1
    exact ⟨kq, hk1, _, hk2, m4, rfl, hK.only [0, 2, 4, 10, 11], l3.trans l4, hS, c2re0⟩
   ·
    replace hK := hK.more (t := 23) (v' := .bool false) rfl (by rw [hb2])
    replace h := ite_f (of_decide_eq_false hb2) h
    refine w_seq (w_region ?_)
    refine qp 35 (.slice (some ⟨a0_b, 0, none⟩) a0.length a0.length) hK fun fr hK => ?_
    refine qp 36 (.int .i64 a2) hK fun fr hK => ?_
    refine qp 37 (.int .i64 s1.1) hK fun fr hK => ?_
    refine qp 38 (.int .i64 (IntKind.i64.wrap (a2 - s1.1))) hK fun fr hK => ?_
    refine qp 39 (.int .i64 a2) hK fun fr hK => ?_
    refine qp 40 (.int .i64 s1.2.1) hK fun fr hK => ?_
    refine qp 41 (.int .i64 (IntKind.i64.wrap (a2 + s1.2.1))) hK fun fr hK => ?_
    refine qp 42 (.int .i64 s1.1) hK fun fr hK => ?_
    refine qp 43 (.int .i64 (IntKind.i64.wrap ((IntKind.i64.wrap (a2 + s1.2.1)) - s1.1))) hK fun fr hK => ?_
    refine qp 44 (.int .i64 s1.1) hK fun fr hK => ?_
    refine qp 45 (.func (.func 96) #[] #[.pointer (some ⟨a4_0_b, 0, none⟩)]) hK fun fr hK => ?_
    replace a4_0_f := Els.mono rep_G_Command a4_0_f l3
    obtain ⟨y3, hy3, h⟩ := bind_some h
    replace hS := hS.front 1 rfl
    replace hS : St _ m m3 [.box a0_b (vecC (Value.int .i64) s1.2.2) a0_T, .box a4_0_b #[.slice a4_0_a a4.length a4_0_c] a4_0_T] := hS
    refine qo 46 hK (s_callM (R := [.box a0_b (vecC (Value.int .i64) s1.2.2) a0_T, .box a4_0_b #[.slice a4_0_a a4.length a4_0_c] a4_0_T]) (L := []) hK.at_ hS ent115_0 rfl rfl rfl rfl (G.slices_swapRangeCmpFunc_int_v0_delta_sorted_1_spec hq2 a4_0_f hy3 (Ow.left (L := [.box a0_b (vecC (Value.int .i64) s1.2.2) a0_T, .box a4_0_b #[.slice a4_0_a a4.length a4_0_c] a4_0_T]) hS.ow)) (by kernel_rfl) ?_)
    clear hK fr hS; rintro _ m5 _ l5 hS ⟨rfl, rfl, c3re0⟩ fr hK
    replace hS : St _ m m5 [.box a0_b (vecC (Value.int .i64) y3) a0_T, .box a4_0_b #[.slice a4_0_a a4.length a4_0_c] a4_0_T] := hS
    refine wpListIn_nil (then_n ?_)
    refine w_region ?_
    refine qp 47 (.int .i64 s1.2.1) hK fun fr hK => ?_
    refine qp 48 (.int .i64 s1.1) hK fun fr hK => ?_
    refine qp 49 (.int .i64 (IntKind.i64.wrap (s1.2.1 - s1.1))) hK fun fr hK => ?_
    refine qp 11 (.int .i64 (IntKind.i64.wrap (s1.2.1 - s1.1))) hK fun fr hK => ?_
    refine wpListIn_nil ?_
    refine blk_n ?_
    refine then_n ?_
    replace hS := hS.front 1 rfl
    replace hS : St _ m m5 [.box a4_0_b #[.slice a4_0_a a4.length a4_0_c] a4_0_T, .box a0_b (vecC (Value.int .i64) y3) a0_T] := hS
    replace h := Option.some.inj h; subst h
    obtain ⟨kq, hk1, hk2⟩ := hn1
    exact ⟨kq, hk1, _, hk2, m5, rfl, hK.only [0, 2, 4, 10, 11], l3.trans l5, hS, c3re0⟩
  ·
   replace hK := hK.more (t := 20) (v' := .bool false) rfl (by rw [hb1])
   replace h := ite_f (not_not_intro (eq_of_bne hb1)) h
   refine wpIn_exit ?_
   refine then_x ?_
   refine then_x ?_
   refine blk_e ?_
   refine then_n ?_
   replace hS := hS.front 1 rfl
   replace hS := hS.front 1 rfl
   replace hS : St _ m m3 [.box a4_0_b #[.slice a4_0_a a4.length a4_0_c] a4_0_T, .box a0_b (vecC (Value.int .i64) s1.2.2) a0_T] := hS
   replace h := Option.some.inj h; subst h
   replace h := Option.some.inj (loop_out hn1); subst h
   exact ⟨m3, rfl, hK.only [0, 2, 4, 10], l3, hS, hq2⟩
end Go.Proofs.Ytkalbidbhaalmaa
