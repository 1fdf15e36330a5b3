/- The program computes the plain functions: delta_Check, slices_Clone_byte_byte, command_Clone, delta_With, extent_Contains_1, slices_IndexFunc_api_Extent_api_Extent_extent_Contains_1, slices_ContainsFunc_api_Extent_api_Extent_extent_Contains_1, extent_Contains, delta_Find_1, slices_IndexFunc_api_Command_api_Command_delta_Find_1, delta_Find, delta_Valid, graftlaw05_alive. Printed by a program. -/
import Derived.Test.YtkalbidbhaalmaaProg
import Derived.Test.YtkalbidbhaalmaaGs
import Derived.Test.YtkalbidbhaalmaaRep
import Derived.Test.YtkalbidbhaalmaaL0
import Derived.Test.YtkalbidbhaalmaaL1
namespace Go.Proofs.Ytkalbidbhaalmaa
open Go.RowKit G
theorem ent25_2 : Enters Try.prog 25 := enters_of Try.func25 (by decide +kernel) (by decide +kernel)
theorem ent26_2 : Enters Try.prog 26 := enters_of Try.func26 (by decide +kernel) (by decide +kernel)
theorem ent28_2 : Enters Try.prog 28 := enters_of Try.func28 (by decide +kernel) (by decide +kernel)
theorem ent59_2 : Enters Try.prog 59 := enters_of Try.func59 (by decide +kernel) (by decide +kernel)
theorem ent65_2 : Enters Try.prog 65 := enters_of Try.func65 (by decide +kernel) (by decide +kernel)
theorem ent66_2 : Enters Try.prog 66 := enters_of Try.func66 (by decide +kernel) (by decide +kernel)
theorem ent67_2 : Enters Try.prog 67 := enters_of Try.func67 (by decide +kernel) (by decide +kernel)
theorem ent68_2 : Enters Try.prog 68 := enters_of Try.func68 (by decide +kernel) (by decide +kernel)
theorem ent69_2 : Enters Try.prog 69 := enters_of Try.func69 (by decide +kernel) (by decide +kernel)
theorem ent75_2 : Enters Try.prog 75 := enters_of Try.func75 (by decide +kernel) (by decide +kernel)
theorem ent85_2 : Enters Try.prog 85 := enters_of Try.func85 (by decide +kernel) (by decide +kernel)
theorem ent86_2 : Enters Try.prog 86 := enters_of Try.func86 (by decide +kernel) (by decide +kernel)
theorem ent87_2 : Enters Try.prog 87 := enters_of Try.func87 (by decide +kernel) (by decide +kernel)
theorem ent88_2 : Enters Try.prog 88 := enters_of Try.func88 (by decide +kernel) (by decide +kernel)
theorem ent93_2 : Enters Try.prog 93 := enters_of Try.func93 (by decide +kernel) (by decide +kernel)
theorem ent101_2 : Enters Try.prog 101 := enters_of Try.func101 (by decide +kernel) (by decide +kernel)
theorem ent102_2 : Enters Try.prog 102 := enters_of Try.func102 (by decide +kernel) (by decide +kernel)
theorem ent110_2 : Enters Try.prog 110 := enters_of Try.func110 (by decide +kernel) (by decide +kernel)
theorem elT22_2 : ElemT Try.prog 22 5 (.int .u8 0) 1 1 := ⟨by kernel_rfl, by kernel_rfl, by kernel_rfl, by decide⟩
theorem elT25_2 : ElemT Try.prog 25 50 (.agg #[.int .i64 0, .int .i64 0, .int .i64 0, .int .i64 0, .slice none 0 0]) 5 56 := ⟨by kernel_rfl, by kernel_rfl, by kernel_rfl, by decide⟩
theorem elT130_2 : ElemT Try.prog 130 91 (.agg #[.int .i64 0, .int .i64 0]) 2 16 := ⟨by kernel_rfl, by kernel_rfl, by kernel_rfl, by decide⟩
theorem eqT30_2 (x0 x1 y0 y1 : Int) (w : World) : (binOp .eql 30 (.agg #[.int .i64 x0, .int .i64 x1]) (.agg #[.int .i64 y0, .int .i64 y1])).run Try.prog w = .ok (.bool (decide (x0 = y0 ∧ x1 = y1))) w := by
  simp [go_sem]; repeat' split
  all_goals simp_all
theorem eqT30n_2 (x0 x1 y0 y1 : Int) (w : World) : (binOp .neq 30 (.agg #[.int .i64 x0, .int .i64 x1]) (.agg #[.int .i64 y0, .int .i64 y1])).run Try.prog w = .ok (.bool (!decide (x0 = y0 ∧ x1 = y1))) w := by
  simp [go_sem]; repeat' split
  all_goals simp_all
set_option maxRecDepth 100000 in
set_option maxHeartbeats 1000000 in
theorem G.delta_Check_spec {m : Mem} {a0 : G.Delta} {a0_commands_a : Option Addr} {a0_commands_c : Nat} (a0_commands_f : Els is_G_Command m 5 a0_commands_a a0_commands_c a0.commands) {r : G.Fault} (h : G.delta_Check a0 = some r) :
  Spec Try.prog 25 #[.agg (G_Delta_cells a0 a0_commands_a a0_commands_c)] m [] fun v m' L => L = [] ∧ v = .agg #[.int .i64 r.code, .int .i64 r.at_] := by
 unfold G.delta_Check at h
 refine enter (args := [_]) 54 Try.func25 rfl rfl (by simp) fun fr hK => ?_
 have hS := St.refl (Ow.nil m)
 replace hK : Kn 54 fr [(0, .agg (G_Delta_cells a0 a0_commands_a a0_commands_c))] := hK
 refine w_seq (w_region ?_)
 refine qo 1 hK (s_box hK.at_ hS rfl rfl ?_)
 clear hK fr hS; intro m1 b1 b1z l1 hS fr hK
 refine qo 2 hK (s_alloc (.agg #[.int .i64 0, .int .i64 0]) hK.at_ hS rfl (by kernel_rfl) ?_)
 clear hK fr hS; intro m2 b2 b2z l2 hS fr hK
 replace hS : St _ m m2 [.box b2 #[.int .i64 0, .int .i64 0] 30, .box b1 (G_Delta_cells a0 a0_commands_a a0_commands_c) 27] := hS
 refine wpListIn_nil (then_n ?_)
 refine w_seq ?_
 refine w_seq ?_
 obtain ⟨v1, hv1, h⟩ := bind_some h
 refine w_join (fun fr ww => ∃ m3 : Mem, m3.w = ww ∧ Kn 54 fr [(1, .pointer (some ⟨b1, 0, none⟩)), (2, .pointer (some ⟨b2, 0, none⟩)), (17, .bool v1)] ∧ Le m2 m3 ∧ St (blocksOf []) m m3 [.box b2 #[.int .i64 0, .int .i64 0] 30, .box b1 (G_Delta_cells a0 a0_commands_a a0_commands_c) 27]) ?_ ?_
 ·
  clear hK hS fr hv1
  rintro fr _ ⟨m3, rfl, hK, l3, hS⟩
  refine then_n ?_
  refine w_cond hK rfl (fun hb1 => ?_) (fun hb1 => ?_)
  ·
   replace hK := hK.more (t := 17) (v' := .bool true) rfl (by rw [hb1])
   replace h := ite_t (hb1) h
   refine w_seq (w_region ?_)
   refine qp 18 (.agg #[.int .i64 2, .int .i64 (-1)]) hK fun fr hK => ?_
   refine qo0 hK (s_storeAll hK.at_ 0 hS rfl rfl rfl rfl (by kernel_rfl) (by kernel_rfl) (by kernel_rfl) ?_)
   clear hK fr hS; intro m4 l4 hS fr hK
   replace hS : St _ m m4 [.box b2 #[.int .i64 2, .int .i64 (-1)] 30, .box b1 (G_Delta_cells a0 a0_commands_a a0_commands_c) 27] := hS
   refine wpListIn_nil (then_n ?_)
   refine wpIn_ret ?_
   refine then_r ?_
   replace h := Option.some.inj h; subst h
   refine ret_of [.cell 2 30] [.agg #[.int .i64 2, .int .i64 (-1)]] rfl hK (ResL.box hS 0 rfl rfl (by kernel_rfl) .nil) hS.dropAll ?_
   exact ⟨rfl, rfl⟩
  ·
   replace hK := hK.more (t := 17) (v' := .bool false) rfl (by rw [hb1])
   replace h := ite_f (ne_true_of_eq_false hb1) h
   refine wpIn_skip ?_
   refine then_n ?_
   refine w_seq ?_
   refine w_seq (w_region ?_)
   refine qp 19 (.pointer (some ⟨b1, 66, none⟩)) hK fun fr hK => ?_
   refine qo 20 hK (s_load hK.at_ hS 1 rfl rfl rfl rfl (by kernel_rfl) ?_)
   clear hK fr; intro fr hK
   refine qp 21 (.int .i64 (a0.commands.length : Int)) hK fun fr hK => ?_
   refine qp 22 (.int .i64 0) hK fun fr hK => ?_
   refine wpListIn_nil (then_n ?_)
   obtain ⟨v2, hv2, hk1⟩ := bind_some h; clear h
   refine w_join (fun fr ww => ∃ u1, v2 = .inl u1 ∧ ∃ m5 : Mem, m5.w = ww ∧ Kn 54 fr [(1, .pointer (some ⟨b1, 0, none⟩)), (2, .pointer (some ⟨b2, 0, none⟩))] ∧ Le m3 m5 ∧ St (blocksOf []) m m5 [.box b2 #[.int .i64 0, .int .i64 0] 30, .box b1 (G_Delta_cells a0 a0_commands_a a0_commands_c) 27]) ?_ ?_
   ·
    clear hK hS fr
    rintro fr _ ⟨u1, rfl, m5, rfl, hK, l5, hS⟩
    have h := join_in hk1
    refine then_n ?_
    refine w_seq (w_region ?_)
    refine qp 37 (.pointer (some ⟨b1, 66, none⟩)) hK fun fr hK => ?_
    refine qo 38 hK (s_load hK.at_ hS 1 rfl rfl rfl rfl (by kernel_rfl) ?_)
    clear hK fr; intro fr hK
    replace a0_commands_f := Els.mono rep_G_Command a0_commands_f (l1.trans (l2.trans (l3.trans l5)))
    obtain ⟨y1, hy1, h⟩ := bind_some h
    refine qo 39 hK (s_call hK.at_ hS ent67_2 rfl rfl rfl rfl (G.delta_tiles_spec a0_commands_f hy1) (by kernel_rfl) ?_)
    clear hK fr hS; rintro _ m6 _ l6 hS ⟨rfl, rfl⟩ fr hK
    replace hS : St _ m m6 [.box b2 #[.int .i64 0, .int .i64 0] 30, .box b1 (G_Delta_cells a0 a0_commands_a a0_commands_c) 27] := hS
    refine qp 36 (.tuple #[.int .i64 y1.1, .bool y1.2]) hK fun fr hK => ?_
    refine qp 40 (.int .i64 y1.1) hK fun fr hK => ?_
    refine qp 41 (.bool y1.2) hK fun fr hK => ?_
    refine qp 6 (.int .i64 y1.1) hK fun fr hK => ?_
    refine qp 7 (.bool y1.2) hK fun fr hK => ?_
    refine wpListIn_nil (then_n ?_)
    refine w_seq ?_
    refine w_seq (w_region ?_)
    refine qp 42 (.bool y1.2) hK fun fr hK => ?_
    refine wpListIn_nil (then_n ?_)
    refine w_cond hK rfl (fun hb2 => ?_) (fun hb2 => ?_)
    ·
     replace hK := hK.more (t := 42) (v' := .bool true) rfl (by rw [hb2])
     replace hK := hK.more (t := 7) (v' := .bool true) rfl (by rw [hb2])
     replace hK := hK.more (t := 41) (v' := .bool true) rfl (by rw [hb2])
     replace h := ite_t (hb2) h
     refine w_seq (w_region ?_)
     refine qp 43 (.pointer (some ⟨b1, 66, none⟩)) hK fun fr hK => ?_
     refine qo 44 hK (s_load hK.at_ hS 1 rfl rfl rfl rfl (by kernel_rfl) ?_)
     clear hK fr; intro fr hK
     replace a0_commands_f := Els.mono rep_G_Command a0_commands_f l6
     obtain ⟨y2, hy2, h⟩ := bind_some h
     refine qo 45 hK (s_call hK.at_ hS ent68_2 rfl rfl rfl rfl (G.delta_overlap_spec a0_commands_f hy2) (by kernel_rfl) ?_)
     clear hK fr hS; rintro _ m7 _ l7 hS ⟨rfl, rfl⟩ fr hK
     refine qp 46 (.agg #[.int .i64 4, .int .i64 y2]) hK fun fr hK => ?_
     refine qo0 hK (s_storeAll hK.at_ 0 hS rfl rfl rfl rfl (by kernel_rfl) (by kernel_rfl) (by kernel_rfl) ?_)
     clear hK fr hS; intro m8 l8 hS fr hK
     replace hS : St _ m m8 [.box b2 #[.int .i64 4, .int .i64 y2] 30, .box b1 (G_Delta_cells a0 a0_commands_a a0_commands_c) 27] := hS
     refine wpListIn_nil (then_n ?_)
     refine wpIn_ret ?_
     refine then_r ?_
     replace h := Option.some.inj h; subst h
     refine ret_of [.cell 2 30] [.agg #[.int .i64 4, .int .i64 y2]] rfl hK (ResL.box hS 0 rfl rfl (by kernel_rfl) .nil) hS.dropAll ?_
     exact ⟨rfl, rfl⟩
    ·
     replace hK := hK.more (t := 42) (v' := .bool false) rfl (by rw [hb2])
     replace hK := hK.more (t := 7) (v' := .bool false) rfl (by rw [hb2])
     replace hK := hK.more (t := 41) (v' := .bool false) rfl (by rw [hb2])
     replace h := ite_f (ne_true_of_eq_false hb2) h
     refine wpIn_skip ?_
     refine then_n ?_
     refine w_seq ?_
     refine w_seq (w_region ?_)
     refine qp 47 (.int .i64 y1.1) hK fun fr hK => ?_
     refine qp 48 (.pointer (some ⟨b1, 1, none⟩)) hK fun fr hK => ?_
     refine qo 49 hK (s_load hK.at_ hS 1 rfl rfl rfl rfl (by kernel_rfl) ?_)
     clear hK fr; intro fr hK
     refine qp 50 (.bool (decide (y1.1 < a0.newLen))) hK fun fr hK => ?_
     refine wpListIn_nil (then_n ?_)
     refine w_cond hK rfl (fun hb3 => ?_) (fun hb3 => ?_)
     ·
      replace hK := hK.more (t := 50) (v' := .bool true) rfl (by rw [hb3])
      replace h := ite_t (of_decide_eq_true hb3) h
      refine w_seq (w_region ?_)
      refine qp 51 (.int .i64 y1.1) hK fun fr hK => ?_
      refine qp 52 (.agg #[.int .i64 3, .int .i64 y1.1]) hK fun fr hK => ?_
      refine qo0 hK (s_storeAll hK.at_ 0 hS rfl rfl rfl rfl (by kernel_rfl) (by kernel_rfl) (by kernel_rfl) ?_)
      clear hK fr hS; intro m9 l9 hS fr hK
      replace hS : St _ m m9 [.box b2 #[.int .i64 3, .int .i64 y1.1] 30, .box b1 (G_Delta_cells a0 a0_commands_a a0_commands_c) 27] := hS
      refine wpListIn_nil (then_n ?_)
      refine wpIn_ret ?_
      refine then_r ?_
      replace h := Option.some.inj h; subst h
      refine ret_of [.cell 2 30] [.agg #[.int .i64 3, .int .i64 y1.1]] rfl hK (ResL.box hS 0 rfl rfl (by kernel_rfl) .nil) hS.dropAll ?_
      exact ⟨rfl, rfl⟩
     ·
      replace hK := hK.more (t := 50) (v' := .bool false) rfl (by rw [hb3])
      replace h := ite_f (of_decide_eq_false hb3) h
      refine wpIn_skip ?_
      refine then_n ?_
      refine w_seq (w_region ?_)
      refine qp 53 (.agg #[.int .i64 0, .int .i64 0]) hK fun fr hK => ?_
      refine qo0 hK (s_storeAll hK.at_ 0 hS rfl rfl rfl rfl (by kernel_rfl) (by kernel_rfl) (by kernel_rfl) ?_)
      clear hK fr hS; intro m10 l10 hS fr hK
      replace hS : St _ m m10 [.box b2 #[.int .i64 0, .int .i64 0] 30, .box b1 (G_Delta_cells a0 a0_commands_a a0_commands_c) 27] := hS
      refine wpListIn_nil (then_n ?_)
      refine wpIn_ret ?_
      replace h := Option.some.inj h; subst h
      refine ret_of [.cell 2 30] [.agg #[.int .i64 0, .int .i64 0]] rfl hK (ResL.box hS 0 rfl rfl (by kernel_rfl) .nil) hS.dropAll ?_
      exact ⟨rfl, rfl⟩
   ·
    have h := hv2; clear hv2
    refine wpIn_block ?_
    replace hS := hS.front 1 rfl
    replace hS := hS.front 1 rfl
    replace hS : St _ m m3 [.box b2 #[.int .i64 0, .int .i64 0] 30, .box b1 (G_Delta_cells a0 a0_commands_a a0_commands_c) 27] := hS
    refine w_loopL h (fun (s1 : Int) fr ww => ∃ m11 : Mem, m11.w = ww ∧ Kn 54 fr [(1, .pointer (some ⟨b1, 0, none⟩)), (2, .pointer (some ⟨b2, 0, none⟩)), (20, .slice a0_commands_a a0.commands.length a0_commands_c), (21, .int .i64 (a0.commands.length : Int)), (22, .int .i64 s1)] ∧ Le m3 m11 ∧ St (blocksOf []) m m11 [.box b2 #[.int .i64 0, .int .i64 0] 30, .box b1 (G_Delta_cells a0 a0_commands_a a0_commands_c) 27]) ?_ ?_
    · exact ⟨m3, rfl, hK.only [1, 2, 20, 21, 22], Le.refl _, hS⟩
    clear hK hS fr h
    rintro k1 s1 x1 fr _ ⟨m11, rfl, hK, l11, hS⟩ h hn1
    unfold G.delta_Check_l1 at h
    refine w_seq (w_region ?_)
    refine qp 23 (.bool (decide (s1 < (a0.commands.length : Int)))) hK fun fr hK => ?_
    refine wpListIn_nil (then_n ?_)
    refine w_seq ?_
    refine w_cond hK rfl (fun hb4 => ?_) (fun hb4 => ?_)
    ·
     replace hK := hK.more (t := 23) (v' := .bool true) rfl (by rw [hb4])
     replace h := ite_t (of_decide_eq_true hb4) h
     refine wpIn_skip ?_
     refine then_n ?_
     refine w_seq ?_
     refine wpIn_block ?_
     refine w_seq (w_region ?_)
     refine qp 24 (.int .i64 s1) hK fun fr hK => ?_
     replace a0_commands_f := Els.mono rep_G_Command a0_commands_f (l1.trans (l2.trans (l3.trans l11)))
     obtain ⟨x2, hy3, h⟩ := bind_some h
     refine qo 25 hK (s_idx elT25_2 a0_commands_f hy3 hK.at_ rfl rfl rfl ?_)
     clear hK fr; intro b3 p1 cs1 hR1 hA1 fr hK
     obtain ⟨e1_data_a, e1_data_c, rfl, e1_data_f⟩ := hR1
     refine qo 26 hK (s_loadAtN [.int .i64 x2.kind, .int .i64 x2.to, .int .i64 x2.from_, .int .i64 x2.len, .slice e1_data_a x2.data.length e1_data_c] hK.at_ hA1 0 rfl rfl rfl (by kernel_rfl) (by kernel_rfl) ?_)
     clear hK fr; intro fr hK
     refine qo 4 hK (s_alloc (.agg #[.int .i64 0, .int .i64 0, .int .i64 0, .int .i64 0, .slice none 0 0]) hK.at_ hS rfl (by kernel_rfl) ?_)
     clear hK fr hS; intro m12 b4 b4z l12 hS fr hK
     refine qp 3 (.int .i64 s1) hK fun fr hK => ?_
     refine qo0 hK (s_storeAll hK.at_ 0 hS rfl rfl rfl rfl (by kernel_rfl) (by kernel_rfl) (by kernel_rfl) ?_)
     clear hK fr hS; intro m13 l13 hS fr hK
     replace hS : St _ m m13 [.box b4 #[.int .i64 x2.kind, .int .i64 x2.to, .int .i64 x2.from_, .int .i64 x2.len, .slice e1_data_a x2.data.length e1_data_c] 50, .box b2 #[.int .i64 0, .int .i64 0] 30, .box b1 (G_Delta_cells a0 a0_commands_a a0_commands_c) 27] := hS
     refine wpListIn_nil (then_n ?_)
     refine w_seq (w_region ?_)
     refine qo 27 hK (s_loadAll hK.at_ hS 2 rfl rfl rfl (by kernel_rfl) ?_)
     clear hK fr; intro fr hK
     refine qo 28 hK (s_loadAll hK.at_ hS 0 rfl rfl rfl (by kernel_rfl) ?_)
     clear hK fr; intro fr hK
     replace a0_commands_f := Els.mono rep_G_Command a0_commands_f (l12.trans l13)
     replace e1_data_f := Els.mono rep_U8 e1_data_f (l12.trans l13)
     obtain ⟨y3, hy4, h⟩ := bind_some h
     refine qo 29 hK (s_call hK.at_ hS ent66_2 rfl rfl rfl rfl (G.delta_single_spec a0_commands_f e1_data_f hy4) (by kernel_rfl) ?_)
     clear hK fr hS; rintro _ m14 _ l14 hS ⟨rfl, rfl⟩ fr hK
     replace hS : St _ m m14 [.box b4 #[.int .i64 x2.kind, .int .i64 x2.to, .int .i64 x2.from_, .int .i64 x2.len, .slice e1_data_a x2.data.length e1_data_c] 50, .box b2 #[.int .i64 0, .int .i64 0] 30, .box b1 (G_Delta_cells a0 a0_commands_a a0_commands_c) 27] := hS
     refine qp 5 (.int .i64 y3) hK fun fr hK => ?_
     refine wpListIn_nil (then_n ?_)
     refine w_seq (w_region ?_)
     refine qp 30 (.int .i64 y3) hK fun fr hK => ?_
     refine qp 31 (.bool (y3 != 0)) hK fun fr hK => ?_
     refine wpListIn_nil (then_n ?_)
     refine w_cond hK rfl (fun hb5 => ?_) (fun hb5 => ?_)
     ·
      replace hK := hK.more (t := 31) (v' := .bool true) rfl (by rw [hb5])
      replace h := ite_t (ne_of_bne hb5) h
      refine w_seq (w_region ?_)
      refine qp 32 (.int .i64 y3) hK fun fr hK => ?_
      refine qp 33 (.int .i64 s1) hK fun fr hK => ?_
      refine qp 34 (.agg #[.int .i64 y3, .int .i64 s1]) hK fun fr hK => ?_
      refine qo0 hK (s_storeAll hK.at_ 1 hS rfl rfl rfl rfl (by kernel_rfl) (by kernel_rfl) (by kernel_rfl) ?_)
      clear hK fr hS; intro m15 l15 hS fr hK
      replace hS : St _ m m15 [.box b2 #[.int .i64 y3, .int .i64 s1] 30, .box b4 #[.int .i64 x2.kind, .int .i64 x2.to, .int .i64 x2.from_, .int .i64 x2.len, .slice e1_data_a x2.data.length e1_data_c] 50, .box b1 (G_Delta_cells a0 a0_commands_a a0_commands_c) 27] := hS
      refine wpListIn_nil (then_n ?_)
      refine wpIn_ret ?_
      refine blk_r ?_
      refine then_r ?_
      refine then_r ?_
      refine blk_r ?_
      refine then_r ?_
      refine then_r ?_
      replace h := Option.some.inj h; subst h
      replace h := Option.some.inj (loop_out hn1); subst h
      replace h := Option.some.inj (join_out hk1); subst h
      refine ret_of [.cell 2 30] [.agg #[.int .i64 y3, .int .i64 s1]] rfl hK (ResL.box hS 0 rfl rfl (by kernel_rfl) .nil) hS.dropAll ?_
      exact ⟨rfl, rfl⟩
     ·
      replace hK := hK.more (t := 31) (v' := .bool false) rfl (by rw [hb5])
      replace h := ite_f (not_not_intro (eq_of_bne hb5)) h
      refine wpIn_skip ?_
      refine blk_n ?_
      refine then_n ?_
      refine w_region ?_
      refine qp 35 (.int .i64 (IntKind.i64.wrap (s1 + 1))) hK fun fr hK => ?_
      refine qp 22 (.int .i64 (IntKind.i64.wrap (s1 + 1))) hK fun fr hK => ?_
      refine wpListIn_nil (then_n ?_)
      replace hS := hS.front 2 rfl
      replace hS := hS.front 2 rfl
      replace hS := St.keep (L := [.box b2 #[.int .i64 0, .int .i64 0] 30, .box b1 (G_Delta_cells a0 a0_commands_a a0_commands_c) 27]) (R := [.box b4 #[.int .i64 x2.kind, .int .i64 x2.to, .int .i64 x2.from_, .int .i64 x2.len, .slice e1_data_a x2.data.length e1_data_c] 50]) hS
      replace h := Option.some.inj h; subst h
      obtain ⟨kq, hk1, hk2⟩ := hn1
      exact ⟨kq, hk1, _, hk2, m14, rfl, hK.only [1, 2, 20, 21, 22], l11.trans (l12.trans (l13.trans l14)), hS⟩
    ·
     replace hK := hK.more (t := 23) (v' := .bool false) rfl (by rw [hb4])
     replace h := ite_f (of_decide_eq_false hb4) h
     refine wpIn_exit ?_
     refine then_x ?_
     refine then_x ?_
     refine blk_e ?_
     refine then_n ?_
     replace hS := hS.front 1 rfl
     replace hS := hS.front 1 rfl
     replace hS : St _ m m11 [.box b2 #[.int .i64 0, .int .i64 0] 30, .box b1 (G_Delta_cells a0 a0_commands_a a0_commands_c) 27] := hS
     replace h := Option.some.inj h; subst h
     replace h := Option.some.inj (loop_out hn1); subst h
     exact ⟨_, rfl, m11, rfl, hK.only [1, 2], l11, hS⟩
 ·
  replace h := hv1; clear hv1
  refine w_region ?_
  refine qp 8 (.pointer (some ⟨b1, 0, none⟩)) hK fun fr hK => ?_
  refine qo 9 hK (s_load hK.at_ hS 1 rfl rfl rfl rfl (by kernel_rfl) ?_)
  clear hK fr; intro fr hK
  obtain ⟨y4, hy5, h⟩ := bind_some h
  refine qo 10 hK (s_call hK.at_ hS ent65_2 rfl rfl rfl rfl (G.delta_inRange_spec hy5) (by kernel_rfl) ?_)
  clear hK fr hS; rintro _ m16 _ l16 hS ⟨rfl, rfl⟩ fr hK
  replace hS : St _ m m16 [.box b2 #[.int .i64 0, .int .i64 0] 30, .box b1 (G_Delta_cells a0 a0_commands_a a0_commands_c) 27] := hS
  refine qp 11 (.bool (!y4)) hK fun fr hK => ?_
  refine qp 12 (.bool (!y4)) hK fun fr hK => ?_
  refine split_b (x := (!y4)) (fun hb6 => ?_) (fun hb6 => ?_)
  ·
   replace hK := hK.more (t := 12) (v' := .bool true) rfl (by rw [hb6])
   replace hK := hK.more (t := 11) (v' := .bool true) rfl (by rw [hb6])
   replace h := ite_t ((Bool.not_eq_true' _).mp hb6) h
   refine qs 13 hK ?_
   clear hK fr; intro fr hK
   refine qs 14 hK ?_
   clear hK fr; intro fr hK
   refine qs 15 hK ?_
   clear hK fr; intro fr hK
   refine qs 16 hK ?_
   clear hK fr; intro fr hK
   refine qp 17 (.bool true) hK fun fr hK => ?_
   refine wpListIn_nil (then_n ?_)
   replace hS := hS.front 1 rfl
   replace hS := hS.front 1 rfl
   replace hS : St _ m m16 [.box b2 #[.int .i64 0, .int .i64 0] 30, .box b1 (G_Delta_cells a0 a0_commands_a a0_commands_c) 27] := hS
   replace h := Option.some.inj h; subst h
   exact ⟨m16, rfl, hK.only [1, 2, 17], l16, hS⟩
  ·
   replace hK := hK.more (t := 12) (v' := .bool false) rfl (by rw [hb6])
   replace hK := hK.more (t := 11) (v' := .bool false) rfl (by rw [hb6])
   replace h := ite_f (not_false_of ((Bool.not_eq_false' _).mp hb6)) h
   refine qp 13 (.pointer (some ⟨b1, 1, none⟩)) hK fun fr hK => ?_
   refine qo 14 hK (s_load hK.at_ hS 1 rfl rfl rfl rfl (by kernel_rfl) ?_)
   clear hK fr; intro fr hK
   obtain ⟨y5, hy6, h⟩ := bind_some h
   refine qo 15 hK (s_call hK.at_ hS ent65_2 rfl rfl rfl rfl (G.delta_inRange_spec hy6) (by kernel_rfl) ?_)
   clear hK fr hS; rintro _ m17 _ l17 hS ⟨rfl, rfl⟩ fr hK
   replace hS : St _ m m17 [.box b2 #[.int .i64 0, .int .i64 0] 30, .box b1 (G_Delta_cells a0 a0_commands_a a0_commands_c) 27] := hS
   refine qp 16 (.bool (!y5)) hK fun fr hK => ?_
   refine qp 17 (.bool (!y5)) hK fun fr hK => ?_
   refine wpListIn_nil (then_n ?_)
   replace hS := hS.front 1 rfl
   replace hS := hS.front 1 rfl
   replace hS : St _ m m17 [.box b2 #[.int .i64 0, .int .i64 0] 30, .box b1 (G_Delta_cells a0 a0_commands_a a0_commands_c) 27] := hS
   replace h := Option.some.inj h; subst h
   exact ⟨m17, rfl, hK.only [1, 2, 17], l16.trans l17, hS⟩
set_option maxRecDepth 100000 in
set_option maxHeartbeats 1000000 in
theorem G.slices_Clone_byte_byte_spec {m : Mem} {a0 : List UInt8} {a0_a : Option Addr} {a0_c : Nat} (a0_f : Els isU8 m 1 a0_a a0_c a0) {r : (List UInt8)} (h : G.slices_Clone_byte_byte a0 = some r) :
  Spec Try.prog 75 #[.slice a0_a a0.length a0_c] m [] fun v m' L => ∃ (r0_g : Option Nat) (r0_c : Nat), L = [rowOf 5 1 r0_g r0_c r] ∧ v = .slice (adr r0_g) r.length r0_c ∧ Els isU8 m' 1 (adr r0_g) r0_c r := by
 unfold G.slices_Clone_byte_byte at h
 refine enter (args := [_]) 8 Try.func75 rfl rfl (by simp) fun fr hK => ?_
 have hS := St.refl (Ow.nil m)
 replace hK : Kn 8 fr [(0, .slice a0_a a0.length a0_c)] := hK
 refine w_seq (w_region ?_)
 refine qp 2 (.slice none 0 0) hK fun fr hK => ?_
 refine wpListIn_nil (then_n ?_)
 refine w_seq ?_
 refine w_seq (w_region ?_)
 refine qp 3 (.slice a0_a a0.length a0_c) hK fun fr hK => ?_
 refine qr 4 (.bool (Option.isNone a0_a)) hK (by exact run_nilEq rfl rfl rfl Try.underlying22) ?_
 clear hK fr; intro fr hK
 refine wpListIn_nil (then_n ?_)
 refine w_cond hK rfl (fun hb1 => ?_) (fun hb1 => ?_)
 ·
  replace hK := hK.more (t := 4) (v' := .bool true) rfl (by rw [hb1])
  replace h : some ([] : List UInt8) = some r := by have e0 := Els.isNone_nil a0_f hb1; rw [e0] at h; simpa [app] using h
  refine w_seq (w_region ?_)
  refine qp 2 (.slice none 0 0) hK fun fr hK => ?_
  refine wpListIn_nil (then_n ?_)
  refine wpIn_ret ?_
  refine then_r ?_
  replace hS := hS.addRow (α := UInt8) 5 1
  replace h := Option.some.inj h; subst h
  replace hS : St _ m m [rowOf 5 1 none 0 ([] : List UInt8)] := hS
  refine ret_of [.tmp 2] [.slice none 0 0] rfl hK (.tmp rfl .nil) hS ?_
  exact ⟨none, 0, rfl, rfl, (Els.nil _ _)⟩
 ·
  replace hK := hK.more (t := 4) (v' := .bool false) rfl (by rw [hb1])
  refine wpIn_skip ?_
  refine then_n ?_
  refine w_seq (w_region ?_)
  refine qo 5 hK (s_buildRow (elem := 5) #[] hK.at_ hS rfl (by kernel_rfl) (by kernel_rfl) ?_)
  clear hK fr hS; intro m1 b1 l1 hS hA1 fr hK
  have f1 : Els isU8 m1 1 (some ⟨b1, 0, none⟩) 0 ([] : List UInt8) := els_lit rep_U8 [] hA1 (by simp) (by decide) .nil
  replace hS : St _ m m1 [rowOf 5 1 (some b1) 0 ([] : List UInt8)] := hS
  replace hK : Kn 8 fr [(5, .slice (adr (some b1)) (([] : List UInt8).length) 0), (4, .bool false), (3, .slice a0_a a0.length a0_c), (2, .slice none 0 0), (0, .slice a0_a a0.length a0_c)] := hK.only [5, 4, 3, 2, 0]
  refine qp 6 (.slice a0_a a0.length a0_c) hK fun fr hK => ?_
  replace a0_f := Els.mono rep_U8 a0_f l1
  obtain ⟨x1, hy1, h⟩ := bind_some h
  refine qo 7 hK (s_app elT22_2 rep_U8 hy1 hK.at_ 0 hS rfl f1 a0_f rfl rfl rfl (by decide) ?_)
  clear hK fr hS; intro m2 g1 cp1 l2 hS f2 fr hK
  replace hS : St _ m m2 [rowOf 5 1 g1 cp1 x1] := hS
  refine qp 2 (.slice (adr g1) x1.length cp1) hK fun fr hK => ?_
  refine wpListIn_nil (then_n ?_)
  refine wpIn_ret ?_
  replace h := Option.some.inj h; subst h
  replace hS : St _ m m2 [rowOf 5 1 g1 cp1 x1] := hS
  refine ret_of [.tmp 2] [.slice (adr g1) x1.length cp1] rfl hK (.tmp rfl .nil) hS ?_
  exact ⟨g1, cp1, rfl, rfl, f2⟩
set_option maxRecDepth 100000 in
set_option maxHeartbeats 1000000 in
theorem G.command_Clone_spec {m : Mem} {a0 : G.Command} {a0_data_a : Option Addr} {a0_data_c : Nat} (a0_data_f : Els isU8 m 1 a0_data_a a0_data_c a0.data) {r : G.Command} (h : G.command_Clone a0 = some r) :
  Spec Try.prog 69 #[.agg #[.int .i64 a0.kind, .int .i64 a0.to, .int .i64 a0.from_, .int .i64 a0.len, .slice a0_data_a a0.data.length a0_data_c]] m [] fun v m' L => ∃ (r0_data_g : Option Nat) (r0_data_c : Nat), L = [rowOf 5 1 r0_data_g r0_data_c r.data] ∧ v = .agg #[.int .i64 r.kind, .int .i64 r.to, .int .i64 r.from_, .int .i64 r.len, .slice (adr r0_data_g) r.data.length r0_data_c] ∧ Els isU8 m' 1 (adr r0_data_g) r0_data_c r.data := by
 unfold G.command_Clone at h
 refine enter (args := [_]) 8 Try.func69 rfl rfl (by simp) fun fr hK => ?_
 have hS := St.refl (Ow.nil m)
 replace hK : Kn 8 fr [(0, .agg #[.int .i64 a0.kind, .int .i64 a0.to, .int .i64 a0.from_, .int .i64 a0.len, .slice a0_data_a a0.data.length a0_data_c])] := hK
 refine w_seq (w_region ?_)
 refine qo 1 hK (s_box hK.at_ hS rfl rfl ?_)
 clear hK fr hS; intro m1 b1 b1z l1 hS fr hK
 refine qo 2 hK (s_alloc (.agg #[.int .i64 0, .int .i64 0, .int .i64 0, .int .i64 0, .slice none 0 0]) hK.at_ hS rfl (by kernel_rfl) ?_)
 clear hK fr hS; intro m2 b2 b2z l2 hS fr hK
 replace hS : St _ m m2 [.box b2 #[.int .i64 0, .int .i64 0, .int .i64 0, .int .i64 0, .slice none 0 0] 50, .box b1 #[.int .i64 a0.kind, .int .i64 a0.to, .int .i64 a0.from_, .int .i64 a0.len, .slice a0_data_a a0.data.length a0_data_c] 50] := hS
 refine wpListIn_nil (then_n ?_)
 refine w_seq (w_region ?_)
 refine qp 3 (.pointer (some ⟨b1, 4, none⟩)) hK fun fr hK => ?_
 refine qo 4 hK (s_load hK.at_ hS 1 rfl rfl rfl rfl (by kernel_rfl) ?_)
 clear hK fr; intro fr hK
 replace a0_data_f := Els.mono rep_U8 a0_data_f (l1.trans l2)
 obtain ⟨y1, hy1, h⟩ := bind_some h
 refine qo 5 hK (s_call hK.at_ hS ent75_2 rfl rfl rfl rfl (G.slices_Clone_byte_byte_spec a0_data_f hy1) (by kernel_rfl) ?_)
 clear hK fr hS; rintro _ m3 _ l3 hS ⟨c1r0_g, c1r0_c, rfl, rfl, c1r0_f⟩ fr hK
 replace hS : St _ m m3 [rowOf 5 1 c1r0_g c1r0_c y1, .box b2 #[.int .i64 0, .int .i64 0, .int .i64 0, .int .i64 0, .slice none 0 0] 50, .box b1 #[.int .i64 a0.kind, .int .i64 a0.to, .int .i64 a0.from_, .int .i64 a0.len, .slice a0_data_a a0.data.length a0_data_c] 50] := hS
 refine qp 6 (.pointer (some ⟨b1, 4, none⟩)) hK fun fr hK => ?_
 refine qo0 hK (s_store hK.at_ 2 hS rfl rfl rfl rfl (by kernel_rfl) (by kernel_rfl) (by kernel_rfl) ?_)
 clear hK fr hS; intro m4 l4 hS fr hK
 replace hS : St _ m m4 [.box b1 #[.int .i64 a0.kind, .int .i64 a0.to, .int .i64 a0.from_, .int .i64 a0.len, .slice (adr c1r0_g) y1.length c1r0_c] 50, rowOf 5 1 c1r0_g c1r0_c y1, .box b2 #[.int .i64 0, .int .i64 0, .int .i64 0, .int .i64 0, .slice none 0 0] 50] := hS
 refine wpListIn_nil (then_n ?_)
 refine w_seq (w_region ?_)
 refine qo 7 hK (s_loadAll hK.at_ hS 0 rfl rfl rfl (by kernel_rfl) ?_)
 clear hK fr; intro fr hK
 refine qo0 hK (s_storeAll hK.at_ 2 hS rfl rfl rfl rfl (by kernel_rfl) (by kernel_rfl) (by kernel_rfl) ?_)
 clear hK fr hS; intro m5 l5 hS fr hK
 replace hS : St _ m m5 [.box b2 #[.int .i64 a0.kind, .int .i64 a0.to, .int .i64 a0.from_, .int .i64 a0.len, .slice (adr c1r0_g) y1.length c1r0_c] 50, .box b1 #[.int .i64 a0.kind, .int .i64 a0.to, .int .i64 a0.from_, .int .i64 a0.len, .slice (adr c1r0_g) y1.length c1r0_c] 50, rowOf 5 1 c1r0_g c1r0_c y1] := hS
 refine wpListIn_nil (then_n ?_)
 refine wpIn_ret ?_
 replace c1r0_f := Els.mono rep_U8 c1r0_f (l4.trans l5)
 replace h := Option.some.inj h; subst h
 replace hS := hS.front 2 rfl
 replace hS : St _ m m5 [rowOf 5 1 c1r0_g c1r0_c y1, .box b2 #[.int .i64 a0.kind, .int .i64 a0.to, .int .i64 a0.from_, .int .i64 a0.len, .slice (adr c1r0_g) y1.length c1r0_c] 50, .box b1 #[.int .i64 a0.kind, .int .i64 a0.to, .int .i64 a0.from_, .int .i64 a0.len, .slice (adr c1r0_g) y1.length c1r0_c] 50] := hS
 refine ret_of [.cell 2 50] [.agg #[.int .i64 a0.kind, .int .i64 a0.to, .int .i64 a0.from_, .int .i64 a0.len, .slice (adr c1r0_g) y1.length c1r0_c]] rfl hK (ResL.box hS 1 rfl rfl (by kernel_rfl) .nil) (St.keep (L := [rowOf 5 1 c1r0_g c1r0_c y1]) (R := [.box b2 #[.int .i64 a0.kind, .int .i64 a0.to, .int .i64 a0.from_, .int .i64 a0.len, .slice (adr c1r0_g) y1.length c1r0_c] 50, .box b1 #[.int .i64 a0.kind, .int .i64 a0.to, .int .i64 a0.from_, .int .i64 a0.len, .slice (adr c1r0_g) y1.length c1r0_c] 50]) hS) ?_
 exact ⟨c1r0_g, c1r0_c, rfl, rfl, c1r0_f⟩
set_option maxRecDepth 100000 in
set_option maxHeartbeats 1000000 in
theorem G.delta_With_spec {m : Mem} {a0 : G.Delta} {a0_commands_a : Option Addr} {a0_commands_c : Nat} {a1 : List G.Command} {a1_a : Option Addr} {a1_c : Nat} (a0_commands_f : Els is_G_Command m 5 a0_commands_a a0_commands_c a0.commands) (a1_f : Els is_G_Command m 5 a1_a a1_c a1) {r : G.Delta} (h : G.delta_With a0 a1 = some r) :
  Spec Try.prog 28 #[.agg (G_Delta_cells a0 a0_commands_a a0_commands_c), .slice a1_a a1.length a1_c] m [] fun v m' L => ∃ (r0_commands_g : Option Nat) (r0_commands_c : Nat), L = [rowOf 50 5 r0_commands_g r0_commands_c r.commands] ∧ v = .agg (G_Delta_cells r (adr r0_commands_g) r0_commands_c) ∧ Els is_G_Command m' 5 (adr r0_commands_g) r0_commands_c r.commands := by
 unfold G.delta_With at h
 refine enter (args := [_, _]) 23 Try.func28 rfl rfl (by simp) fun fr hK => ?_
 have hS := St.refl (Ow.nil m)
 replace hK : Kn 23 fr [(0, .agg (G_Delta_cells a0 a0_commands_a a0_commands_c)), (1, .slice a1_a a1.length a1_c)] := hK
 refine w_seq (w_region ?_)
 refine qo 2 hK (s_box hK.at_ hS rfl rfl ?_)
 clear hK fr hS; intro m1 b1 b1z l1 hS fr hK
 refine qo 4 hK (s_alloc (.agg #[.int .i64 0, .int .i64 0, .int .u8 0, .int .u8 0, .int .u8 0, .int .u8 0, .int .u8 0, .int .u8 0, .int .u8 0, .int .u8 0, .int .u8 0, .int .u8 0, .int .u8 0, .int .u8 0, .int .u8 0, .int .u8 0, .int .u8 0, .int .u8 0, .int .u8 0, .int .u8 0, .int .u8 0, .int .u8 0, .int .u8 0, .int .u8 0, .int .u8 0, .int .u8 0, .int .u8 0, .int .u8 0, .int .u8 0, .int .u8 0, .int .u8 0, .int .u8 0, .int .u8 0, .int .u8 0, .int .u8 0, .int .u8 0, .int .u8 0, .int .u8 0, .int .u8 0, .int .u8 0, .int .u8 0, .int .u8 0, .int .u8 0, .int .u8 0, .int .u8 0, .int .u8 0, .int .u8 0, .int .u8 0, .int .u8 0, .int .u8 0, .int .u8 0, .int .u8 0, .int .u8 0, .int .u8 0, .int .u8 0, .int .u8 0, .int .u8 0, .int .u8 0, .int .u8 0, .int .u8 0, .int .u8 0, .int .u8 0, .int .u8 0, .int .u8 0, .int .u8 0, .int .u8 0, .slice none 0 0]) hK.at_ hS rfl (by kernel_rfl) ?_)
 clear hK fr hS; intro m2 b2 b2z l2 hS fr hK
 replace hS : St _ m m2 [.box b2 (G_Delta_cells (⟨0, 0, (fun _ => (0 : UInt8)), (fun _ => (0 : UInt8)), ([] : List G.Command)⟩ : G.Delta) none 0) 27, .box b1 (G_Delta_cells a0 a0_commands_a a0_commands_c) 27] := hS
 refine wpListIn_nil (then_n ?_)
 refine w_seq (w_region ?_)
 refine qp 7 (.pointer (some ⟨b1, 66, none⟩)) hK fun fr hK => ?_
 refine qo0 hK (s_store hK.at_ 1 hS rfl rfl rfl rfl (by kernel_rfl) (by kernel_rfl) (by kernel_rfl) ?_)
 clear hK fr hS; intro m3 l3 hS fr hK
 have hf1 : putAt (G_Delta_cells a0 a0_commands_a a0_commands_c) 66 [.slice none 0 0] = G_Delta_cells (⟨a0.oldLen, a0.newLen, a0.oldHash, a0.newHash, ([] : List G.Command)⟩ : G.Delta) none 0 := by kernel_rfl
 replace hS : St _ m m3 [.box b1 (putAt (G_Delta_cells a0 a0_commands_a a0_commands_c) 66 [.slice none 0 0]) 27, .box b2 (G_Delta_cells (⟨0, 0, (fun _ => (0 : UInt8)), (fun _ => (0 : UInt8)), ([] : List G.Command)⟩ : G.Delta) none 0) 27] := hS
 rw [hf1] at hS
 replace hS : St _ m m3 [.box b1 (G_Delta_cells (⟨a0.oldLen, a0.newLen, a0.oldHash, a0.newHash, ([] : List G.Command)⟩ : G.Delta) none 0) 27, .box b2 (G_Delta_cells (⟨0, 0, (fun _ => (0 : UInt8)), (fun _ => (0 : UInt8)), ([] : List G.Command)⟩ : G.Delta) none 0) 27] := hS
 refine wpListIn_nil (then_n ?_)
 refine w_seq ?_
 refine w_seq (w_region ?_)
 refine qp 8 (.slice a1_a a1.length a1_c) hK fun fr hK => ?_
 refine qp 9 (.int .i64 (a1.length : Int)) hK fun fr hK => ?_
 refine qp 10 (.int .i64 0) hK fun fr hK => ?_
 refine wpListIn_nil (then_n ?_)
 refine wpIn_block ?_
 replace hS := hS.addRow (α := G.Command) 50 5
 replace hS := hS.front 2 rfl
 replace hS := hS.front 1 rfl
 replace hS := hS.front 2 rfl
 replace hS : St _ m m3 [.box b1 (G_Delta_cells (⟨a0.oldLen, a0.newLen, a0.oldHash, a0.newHash, ([] : List G.Command)⟩ : G.Delta) none 0) 27, rowOf 50 5 none 0 ([] : List G.Command), .box b2 (G_Delta_cells (⟨0, 0, (fun _ => (0 : UInt8)), (fun _ => (0 : UInt8)), ([] : List G.Command)⟩ : G.Delta) none 0) 27] := hS
 refine w_loopL h (fun (s1 : (List G.Command) × Int) fr ww => ∃ (g1 : Option Nat), ∃ (g2 : Nat), ∃ m4 : Mem, m4.w = ww ∧ Kn 23 fr [(2, .pointer (some ⟨b1, 0, none⟩)), (4, .pointer (some ⟨b2, 0, none⟩)), (8, .slice a1_a a1.length a1_c), (9, .int .i64 (a1.length : Int)), (10, .int .i64 s1.2)] ∧ Le m3 m4 ∧ St (blocksOf []) m m4 [.box b1 (G_Delta_cells (⟨a0.oldLen, a0.newLen, a0.oldHash, a0.newHash, s1.1⟩ : G.Delta) (adr g1) (g2)) 27, rowOf 50 5 g1 g2 s1.1, .box b2 (G_Delta_cells (⟨0, 0, (fun _ => (0 : UInt8)), (fun _ => (0 : UInt8)), ([] : List G.Command)⟩ : G.Delta) none 0) 27] ∧ Els is_G_Command m4 5 (adr g1) g2 s1.1) ?_ ?_
 · exact ⟨none, 0, m3, rfl, hK.only [2, 4, 8, 9, 10], Le.refl _, hS, (Els.nil _ _)⟩
 clear hK hS fr h
 rintro k1 s1 x1 fr _ ⟨g1, g2, m4, rfl, hK, l4, hS, f1⟩ h hn1
 unfold G.delta_With_l1 at h
 refine w_seq (w_region ?_)
 refine qp 11 (.bool (decide (s1.2 < (a1.length : Int)))) hK fun fr hK => ?_
 refine wpListIn_nil (then_n ?_)
 refine w_seq ?_
 refine w_cond hK rfl (fun hb1 => ?_) (fun hb1 => ?_)
 ·
  replace hK := hK.more (t := 11) (v' := .bool true) rfl (by rw [hb1])
  replace h := ite_t (of_decide_eq_true hb1) h
  refine wpIn_skip ?_
  refine then_n ?_
  refine w_seq ?_
  refine wpIn_block ?_
  refine w_seq (w_region ?_)
  replace a1_f := Els.mono rep_G_Command a1_f (l1.trans (l2.trans (l3.trans l4)))
  obtain ⟨x2, hy1, h⟩ := bind_some h
  refine qo 12 hK (s_idx elT25_2 a1_f hy1 hK.at_ rfl rfl rfl ?_)
  clear hK fr; intro b3 p1 cs1 hR1 hA1 fr hK
  obtain ⟨e1_data_a, e1_data_c, rfl, e1_data_f⟩ := hR1
  refine qo 13 hK (s_loadAtN [.int .i64 x2.kind, .int .i64 x2.to, .int .i64 x2.from_, .int .i64 x2.len, .slice e1_data_a x2.data.length e1_data_c] hK.at_ hA1 0 rfl rfl rfl (by kernel_rfl) (by kernel_rfl) ?_)
  clear hK fr; intro fr hK
  refine qo 6 hK (s_alloc (.agg #[.int .i64 0, .int .i64 0, .int .i64 0, .int .i64 0, .slice none 0 0]) hK.at_ hS rfl (by kernel_rfl) ?_)
  clear hK fr hS; intro m5 b4 b4z l5 hS fr hK
  refine qo0 hK (s_storeAll hK.at_ 0 hS rfl rfl rfl rfl (by kernel_rfl) (by kernel_rfl) (by kernel_rfl) ?_)
  clear hK fr hS; intro m6 l6 hS fr hK
  replace hS : St _ m m6 [.box b4 #[.int .i64 x2.kind, .int .i64 x2.to, .int .i64 x2.from_, .int .i64 x2.len, .slice e1_data_a x2.data.length e1_data_c] 50, .box b1 (G_Delta_cells (⟨a0.oldLen, a0.newLen, a0.oldHash, a0.newHash, s1.1⟩ : G.Delta) (adr g1) (g2)) 27, rowOf 50 5 g1 g2 s1.1, .box b2 (G_Delta_cells (⟨0, 0, (fun _ => (0 : UInt8)), (fun _ => (0 : UInt8)), ([] : List G.Command)⟩ : G.Delta) none 0) 27] := hS
  refine wpListIn_nil (then_n ?_)
  replace a1_f := Els.mono rep_G_Command a1_f (l5.trans l6)
  replace f1 := Els.mono rep_G_Command f1 (l5.trans l6)
  replace e1_data_f := Els.mono rep_U8 e1_data_f (l5.trans l6)
  replace hA1 := hA1.mono (l5.trans l6)
  obtain ⟨y1, hy2, h⟩ := bind_some h
  have hm0 : ∀ p ∈ ([(fun _ A _ => A = []), (fun l A M => ∃ (b5 : Nat), l[0]? = some (.slice (adr (some b5)) (([y1] : List G.Command).length) 1) ∧ A = [rowOf 50 5 (some b5) 1 ([y1] : List G.Command)] ∧ Els is_G_Command M 5 (adr (some b5)) 1 ([y1] : List G.Command))] : List D.Stage), D.MonoP p := D.allP_cons (fun _ _ _ _ h _ => h) (D.allP_cons (fun _ _ _ _ ⟨b5, el0, eA, f2⟩ hl => ⟨b5, el0, eA, Els.mono rep_G_Command f2 hl⟩) (D.allP_nil))
  have hCm := D.C1_mono [.box b4 #[.int .i64 x2.kind, .int .i64 x2.to, .int .i64 x2.from_, .int .i64 x2.len, .slice e1_data_a x2.data.length e1_data_c] 50, .box b1 (G_Delta_cells (⟨a0.oldLen, a0.newLen, a0.oldHash, a0.newHash, s1.1⟩ : G.Delta) (adr g1) (g2)) 27, rowOf 50 5 g1 g2 s1.1, .box b2 (G_Delta_cells (⟨0, 0, (fun _ => (0 : UInt8)), (fun _ => (0 : UInt8)), ([] : List G.Command)⟩ : G.Delta) none 0) 27] hm0
  refine D.wp_drawM (m0 := m6) 5 [[4]] [([(2, none)], [(0, 1)], none), ([(14, some 0)], [(0, 1)], none), ([(6, none)], [(0, 0)], none), ([(16, some 0)], [(0, 0)], none), ([(17, some 0)], [(0, 0)], some 0)] (D.SM m6 m (blocksOf []) (D.C1 [(fun _ A _ => A = []), (fun l A M => ∃ (b5 : Nat), l[0]? = some (.slice (adr (some b5)) (([y1] : List G.Command).length) 1) ∧ A = [rowOf 50 5 (some b5) 1 ([y1] : List G.Command)] ∧ Els is_G_Command M 5 (adr (some b5)) 1 ([y1] : List G.Command))] [.box b4 #[.int .i64 x2.kind, .int .i64 x2.to, .int .i64 x2.from_, .int .i64 x2.len, .slice e1_data_a x2.data.length e1_data_c] 50, .box b1 (G_Delta_cells (⟨a0.oldLen, a0.newLen, a0.oldHash, a0.newHash, s1.1⟩ : G.Delta) (adr g1) (g2)) 27, rowOf 50 5 g1 g2 s1.1, .box b2 (G_Delta_cells (⟨0, 0, (fun _ => (0 : UInt8)), (fun _ => (0 : UInt8)), ([] : List G.Command)⟩ : G.Delta) none 0) 27])) hK.size (by kernel_rfl) (by kernel_rfl) (by kernel_rfl) (D.start1 hS (fun _ => rfl)) ?_
  refine D.onP [(2, .pointer (some ⟨b1, 0, none⟩))] (.pointer (some ⟨b1, 66, none⟩)) (fun ac MM hk => (.cons (hk.1.trans (hK.at_ 2 _ rfl)) (.nil _))) ?_
  refine D.onA (fun uu _ => uu = .slice (adr g1) s1.1.length g2) (fun _ _ _ h _ => h) (by
   intro ac MM vs hbd hcor hS00 hk; have hS0 := hS00
   obtain ⟨hle, LL, hC, hSt⟩ := hS0
   have hSt0 := hSt
   have hC0 := hC; obtain ⟨A0, h0, rfl⟩ := hC
   have hS := D.St_right (hSt)
   have k14 : ac.eval (.tmp 14) = .pointer (some ⟨b1, 66, none⟩) := hk.1
   have hKe : Ke ac [(14, .pointer (some ⟨b1, 66, none⟩))] := (.cons k14 (.nil _))
   exact ⟨D.wanted0 rfl, s_load hKe hS 1 rfl rfl rfl rfl (by kernel_rfl) ⟨MM, rfl, Le.refl _, rfl, hS00⟩⟩) ?_
  refine D.onA (fun uu _ => uu = .agg #[.int .i64 x2.kind, .int .i64 x2.to, .int .i64 x2.from_, .int .i64 x2.len, .slice e1_data_a x2.data.length e1_data_c]) (fun _ _ _ h _ => h) (by
   intro ac MM vs hbd hcor hS00 hk; have hS0 := hS00
   obtain ⟨hle, LL, hC, hSt⟩ := hS0
   have hSt0 := hSt
   have hC0 := hC; obtain ⟨A0, h0, rfl⟩ := hC
   have hS := D.St_right (hSt)
   have k6 : ac.eval (.tmp 6) = .pointer (some ⟨b4, 0, none⟩) := hk.1.trans (hK.at_ 6 _ rfl)
   have hKe : Ke ac [(6, .pointer (some ⟨b4, 0, none⟩))] := (.cons k6 (.nil _))
   exact ⟨D.wanted0 rfl, s_loadAll hKe hS 0 rfl rfl rfl (by kernel_rfl) ⟨MM, rfl, Le.refl _, rfl, hS00⟩⟩) ?_
  refine D.onA (fun uu MM => ∃ (c1r0_data_g : Option Nat) (c1r0_data_c : Nat), uu = .agg #[.int .i64 y1.kind, .int .i64 y1.to, .int .i64 y1.from_, .int .i64 y1.len, .slice (adr c1r0_data_g) y1.data.length c1r0_data_c] ∧ Els isU8 MM 1 (adr c1r0_data_g) c1r0_data_c y1.data) (fun _ _ _ ⟨c1r0_data_g, c1r0_data_c, e, c1r0_data_f⟩ g => ⟨c1r0_data_g, c1r0_data_c, e, Els.mono rep_U8 c1r0_data_f g⟩) (by
   intro ac MM vs hbd hcor hS00 hk; have hS0 := hS00
   obtain ⟨hle, LL, hC, hSt⟩ := hS0
   have hSt0 := hSt
   have hC0 := hC; obtain ⟨A0, h0, rfl⟩ := hC
   have hS := D.St_right (hSt)
   have k16 : ac.eval (.tmp 16) = .agg #[.int .i64 x2.kind, .int .i64 x2.to, .int .i64 x2.from_, .int .i64 x2.len, .slice e1_data_a x2.data.length e1_data_c] := hk.1
   have hKe : Ke ac [(16, .agg #[.int .i64 x2.kind, .int .i64 x2.to, .int .i64 x2.from_, .int .i64 x2.len, .slice e1_data_a x2.data.length e1_data_c])] := (.cons k16 (.nil _))
   replace e1_data_f := Els.mono rep_U8 e1_data_f hle
   exact ⟨D.wanted0 rfl, D.stepCall hCm hS00 hKe ent69_2 rfl rfl rfl rfl (G.command_Clone_spec e1_data_f hy2) (by kernel_rfl) (by rintro _ M2 _ hl ⟨c1r0_data_g, c1r0_data_c, rfl, rfl, c1r0_data_f⟩; exact ⟨c1r0_data_g, c1r0_data_c, rfl, c1r0_data_f⟩)⟩) ?_
  refine D.onA (fun uu MM => ∃ (b5 : Nat), uu = .slice (adr (some b5)) (([y1] : List G.Command).length) 1 ∧ Els is_G_Command MM 5 (adr (some b5)) 1 ([y1] : List G.Command)) (fun _ _ _ ⟨b5, e, f2⟩ g => ⟨b5, e, Els.mono rep_G_Command f2 g⟩) (by
   intro ac MM vs hbd hcor hS00 hk; have hS0 := hS00
   obtain ⟨hle, LL, hC, hSt⟩ := hS0
   have hSt0 := hSt
   have hC0 := hC; obtain ⟨A0, h0, rfl⟩ := hC
   have hn := D.bd_eq hbd 0 0 rfl
   obtain rfl := D.CH.at h0 hn rfl
   replace hSt := hSt
   obtain ⟨c1r0_data_g, c1r0_data_c, k17, c1r0_data_f⟩ : ∃ (c1r0_data_g : Option Nat) (c1r0_data_c : Nat), ac.eval (.tmp 17) = .agg #[.int .i64 y1.kind, .int .i64 y1.to, .int .i64 y1.from_, .int .i64 y1.len, .slice (adr c1r0_data_g) y1.data.length c1r0_data_c] ∧ Els isU8 MM 1 (adr c1r0_data_g) c1r0_data_c y1.data := hk.1
   have hKe : Ke ac [(17, .agg #[.int .i64 y1.kind, .int .i64 y1.to, .int .i64 y1.from_, .int .i64 y1.len, .slice (adr c1r0_data_g) y1.data.length c1r0_data_c])] := (.cons k17 (.nil _))
   exact ⟨D.wanted0 rfl, s_buildRow (elem := 50) #[.int .i64 y1.kind, .int .i64 y1.to, .int .i64 y1.from_, .int .i64 y1.len, .slice (adr c1r0_data_g) y1.data.length c1r0_data_c] hKe hSt rfl (by kernel_rfl) (by kernel_rfl) (by
     intro M2 b5 l2 hS2 hA2
     replace c1r0_data_f := Els.mono rep_U8 c1r0_data_f l2
     have f2 : Els is_G_Command M2 5 (some ⟨b5, 0, none⟩) 1 ([y1] : List G.Command) := els_lit rep_G_Command [[.int .i64 y1.kind, .int .i64 y1.to, .int .i64 y1.from_, .int .i64 y1.len, .slice (adr c1r0_data_g) y1.data.length c1r0_data_c]] hA2 (by simp) (by decide) (.cons ⟨(adr c1r0_data_g), c1r0_data_c, rfl, c1r0_data_f⟩ .nil)
     exact ⟨M2, rfl, l2, ⟨b5, rfl, f2⟩, hle.trans l2, _, ⟨_, D.CH.push hn rfl ⟨b5, D.get_push hn, rfl, f2⟩, rfl⟩, hS2⟩)⟩) ?_
  intro fr2 m7 vs hlen hcor hS2 hE; obtain ⟨l7, LL, hC, hS2⟩ := hS2
  obtain ⟨A0, h0, rfl⟩ := hC
  obtain ⟨b5, el0_0, rfl, f2⟩ := D.CH.at h0 (hlen 0) rfl
  replace hS2 : St _ m m7 [rowOf 50 5 (some b5) 1 ([y1] : List G.Command), .box b4 #[.int .i64 x2.kind, .int .i64 x2.to, .int .i64 x2.from_, .int .i64 x2.len, .slice e1_data_a x2.data.length e1_data_c] 50, .box b1 (G_Delta_cells (⟨a0.oldLen, a0.newLen, a0.oldHash, a0.newHash, s1.1⟩ : G.Delta) (adr g1) (g2)) 27, rowOf 50 5 g1 g2 s1.1, .box b2 (G_Delta_cells (⟨0, 0, (fun _ => (0 : UInt8)), (fun _ => (0 : UInt8)), ([] : List G.Command)⟩ : G.Delta) none 0) 27] := hS2
  have kl18 : fr2.eval (.tmp 18) = .slice (adr (some b5)) (([y1] : List G.Command).length) 1 := hcor 0 0 _ _ _ _ rfl rfl rfl el0_0
  have hK2 := D.kn_endsM [(14, .pointer (some ⟨b1, 66, none⟩)), (15, .slice (adr g1) s1.1.length g2), (16, .agg #[.int .i64 x2.kind, .int .i64 x2.to, .int .i64 x2.from_, .int .i64 x2.len, .slice e1_data_a x2.data.length e1_data_c]), (17, fr2.eval (.tmp 17)), (18, .slice (adr (some b5)) (([y1] : List G.Command).length) 1)] hK hE rfl (by kernel_rfl) (.cons (hE.slots 14) (.cons (hE.slots 15) (.cons (hE.slots 16) (.cons (rfl) (.cons (kl18) (.nil _))))))
  replace hK2 : Kn 23 fr2 [(14, .pointer (some ⟨b1, 66, none⟩)), (15, .slice (adr g1) s1.1.length g2), (16, .agg #[.int .i64 x2.kind, .int .i64 x2.to, .int .i64 x2.from_, .int .i64 x2.len, .slice e1_data_a x2.data.length e1_data_c]), (18, .slice (adr (some b5)) (([y1] : List G.Command).length) 1), (6, .pointer (some ⟨b4, 0, none⟩)), (13, .agg #[.int .i64 x2.kind, .int .i64 x2.to, .int .i64 x2.from_, .int .i64 x2.len, .slice e1_data_a x2.data.length e1_data_c]), (12, .pointer (some ⟨b3, p1, none⟩)), (11, .bool true), (2, .pointer (some ⟨b1, 0, none⟩)), (4, .pointer (some ⟨b2, 0, none⟩)), (8, .slice a1_a a1.length a1_c), (9, .int .i64 (a1.length : Int)), (10, .int .i64 s1.2)] := hK2.only [14, 15, 16, 18, 6, 13, 12, 11, 2, 4, 8, 9, 10]
  clear hE hK hcor hlen kl18 h0 el0_0; revert hK2; clear hS; revert fr2; clear fr; intro fr hK; have hS := hS2; clear hS2 hCm hm0
  replace hS : St _ m m7 [rowOf 50 5 (some b5) 1 ([y1] : List G.Command), .box b4 #[.int .i64 x2.kind, .int .i64 x2.to, .int .i64 x2.from_, .int .i64 x2.len, .slice e1_data_a x2.data.length e1_data_c] 50, .box b1 (G_Delta_cells (⟨a0.oldLen, a0.newLen, a0.oldHash, a0.newHash, s1.1⟩ : G.Delta) (adr g1) (g2)) 27, rowOf 50 5 g1 g2 s1.1, .box b2 (G_Delta_cells (⟨0, 0, (fun _ => (0 : UInt8)), (fun _ => (0 : UInt8)), ([] : List G.Command)⟩ : G.Delta) none 0) 27] := hS
  replace f1 := Els.mono rep_G_Command f1 l7
  obtain ⟨x3, hy3, h⟩ := bind_some h
  refine qo 19 hK (s_app elT25_2 rep_G_Command hy3 hK.at_ 3 hS rfl f1 f2 rfl rfl rfl (by decide) ?_)
  clear hK fr hS; intro m8 g3 cp1 l8 hS f3 fr hK
  replace hS : St _ m m8 [rowOf 50 5 g3 cp1 x3, rowOf 50 5 (some b5) 1 ([y1] : List G.Command), .box b4 #[.int .i64 x2.kind, .int .i64 x2.to, .int .i64 x2.from_, .int .i64 x2.len, .slice e1_data_a x2.data.length e1_data_c] 50, .box b1 (G_Delta_cells (⟨a0.oldLen, a0.newLen, a0.oldHash, a0.newHash, s1.1⟩ : G.Delta) (adr g1) (g2)) 27, .box b2 (G_Delta_cells (⟨0, 0, (fun _ => (0 : UInt8)), (fun _ => (0 : UInt8)), ([] : List G.Command)⟩ : G.Delta) none 0) 27] := hS
  refine qp 20 (.pointer (some ⟨b1, 66, none⟩)) hK fun fr hK => ?_
  refine qo0 hK (s_store hK.at_ 3 hS rfl rfl rfl rfl (by kernel_rfl) (by kernel_rfl) (by kernel_rfl) ?_)
  clear hK fr hS; intro m9 l9 hS fr hK
  have hf2 : putAt (G_Delta_cells (⟨a0.oldLen, a0.newLen, a0.oldHash, a0.newHash, s1.1⟩ : G.Delta) (adr g1) (g2)) 66 [.slice (adr g3) x3.length cp1] = G_Delta_cells (⟨a0.oldLen, a0.newLen, a0.oldHash, a0.newHash, x3⟩ : G.Delta) (adr g3) cp1 := by kernel_rfl
  replace hS : St _ m m9 [.box b1 (putAt (G_Delta_cells (⟨a0.oldLen, a0.newLen, a0.oldHash, a0.newHash, s1.1⟩ : G.Delta) (adr g1) (g2)) 66 [.slice (adr g3) x3.length cp1]) 27, rowOf 50 5 g3 cp1 x3, rowOf 50 5 (some b5) 1 ([y1] : List G.Command), .box b4 #[.int .i64 x2.kind, .int .i64 x2.to, .int .i64 x2.from_, .int .i64 x2.len, .slice e1_data_a x2.data.length e1_data_c] 50, .box b2 (G_Delta_cells (⟨0, 0, (fun _ => (0 : UInt8)), (fun _ => (0 : UInt8)), ([] : List G.Command)⟩ : G.Delta) none 0) 27] := hS
  rw [hf2] at hS
  replace hS : St _ m m9 [.box b1 (G_Delta_cells (⟨a0.oldLen, a0.newLen, a0.oldHash, a0.newHash, x3⟩ : G.Delta) (adr g3) cp1) 27, rowOf 50 5 g3 cp1 x3, rowOf 50 5 (some b5) 1 ([y1] : List G.Command), .box b4 #[.int .i64 x2.kind, .int .i64 x2.to, .int .i64 x2.from_, .int .i64 x2.len, .slice e1_data_a x2.data.length e1_data_c] 50, .box b2 (G_Delta_cells (⟨0, 0, (fun _ => (0 : UInt8)), (fun _ => (0 : UInt8)), ([] : List G.Command)⟩ : G.Delta) none 0) 27] := hS
  refine wpListIn_nil ?_
  refine blk_n ?_
  refine then_n ?_
  refine w_region ?_
  refine qp 21 (.int .i64 (IntKind.i64.wrap (s1.2 + 1))) hK fun fr hK => ?_
  refine qp 10 (.int .i64 (IntKind.i64.wrap (s1.2 + 1))) hK fun fr hK => ?_
  refine wpListIn_nil (then_n ?_)
  replace f3 := Els.mono rep_G_Command f3 l9
  replace hS := hS.front 4 rfl
  replace hS := hS.front 2 rfl
  replace hS := hS.front 2 rfl
  replace hS := St.keep (L := [.box b1 (G_Delta_cells (⟨a0.oldLen, a0.newLen, a0.oldHash, a0.newHash, x3⟩ : G.Delta) (adr g3) cp1) 27, rowOf 50 5 g3 cp1 x3, .box b2 (G_Delta_cells (⟨0, 0, (fun _ => (0 : UInt8)), (fun _ => (0 : UInt8)), ([] : List G.Command)⟩ : G.Delta) none 0) 27]) (R := [rowOf 50 5 (some b5) 1 ([y1] : List G.Command), .box b4 #[.int .i64 x2.kind, .int .i64 x2.to, .int .i64 x2.from_, .int .i64 x2.len, .slice e1_data_a x2.data.length e1_data_c] 50]) hS
  replace h := Option.some.inj h; subst h
  obtain ⟨kq, hk1, hk2⟩ := hn1
  exact ⟨kq, hk1, _, hk2, g3, cp1, m9, rfl, hK.only [2, 4, 8, 9, 10], l4.trans (l5.trans (l6.trans (l7.trans (l8.trans l9)))), hS, f3⟩
 ·
  replace hK := hK.more (t := 11) (v' := .bool false) rfl (by rw [hb1])
  replace h := ite_f (of_decide_eq_false hb1) h
  refine wpIn_exit ?_
  refine then_x ?_
  refine then_x ?_
  refine blk_e ?_
  refine then_n ?_
  refine w_seq (w_region ?_)
  refine qo 22 hK (s_loadAll hK.at_ hS 0 rfl rfl rfl (by kernel_rfl) ?_)
  clear hK fr; intro fr hK
  refine qo0 hK (s_storeAll hK.at_ 2 hS rfl rfl rfl rfl (by kernel_rfl) (by kernel_rfl) (by kernel_rfl) ?_)
  clear hK fr hS; intro m10 l10 hS fr hK
  replace hS : St _ m m10 [.box b2 (G_Delta_cells (⟨a0.oldLen, a0.newLen, a0.oldHash, a0.newHash, s1.1⟩ : G.Delta) (adr g1) (g2)) 27, .box b1 (G_Delta_cells (⟨a0.oldLen, a0.newLen, a0.oldHash, a0.newHash, s1.1⟩ : G.Delta) (adr g1) (g2)) 27, rowOf 50 5 g1 g2 s1.1] := hS
  refine wpListIn_nil (then_n ?_)
  refine wpIn_ret ?_
  replace f1 := Els.mono rep_G_Command f1 l10
  replace h := Option.some.inj h; subst h
  replace h := Option.some.inj (loop_out hn1); subst h
  replace hS := hS.front 2 rfl
  replace hS : St _ m m10 [rowOf 50 5 g1 g2 s1.1, .box b2 (G_Delta_cells (⟨a0.oldLen, a0.newLen, a0.oldHash, a0.newHash, s1.1⟩ : G.Delta) (adr g1) (g2)) 27, .box b1 (G_Delta_cells (⟨a0.oldLen, a0.newLen, a0.oldHash, a0.newHash, s1.1⟩ : G.Delta) (adr g1) (g2)) 27] := hS
  refine ret_of [.cell 4 27] [.agg (G_Delta_cells (⟨a0.oldLen, a0.newLen, a0.oldHash, a0.newHash, s1.1⟩ : G.Delta) (adr g1) (g2))] rfl hK (ResL.box hS 1 rfl rfl (by kernel_rfl) .nil) (St.keep (L := [rowOf 50 5 g1 g2 s1.1]) (R := [.box b2 (G_Delta_cells (⟨a0.oldLen, a0.newLen, a0.oldHash, a0.newHash, s1.1⟩ : G.Delta) (adr g1) (g2)) 27, .box b1 (G_Delta_cells (⟨a0.oldLen, a0.newLen, a0.oldHash, a0.newHash, s1.1⟩ : G.Delta) (adr g1) (g2)) 27]) hS) ?_
  exact ⟨g1, g2, rfl, rfl, f1⟩
set_option maxRecDepth 100000 in
set_option maxHeartbeats 1000000 in
theorem G.extent_Contains_1_spec {m : Mem} {a0 : G.Extent} {a1 : G.Extent} {a1_b : Nat} {a1_T : TypeId} {r : Bool} (h : G.extent_Contains_1 a0 a1 = some r) (hO : Ow m [.box a1_b #[.int .i64 a1.off, .int .i64 a1.len] a1_T]) :
  Spec Try.prog 102 #[.agg #[.int .i64 a0.off, .int .i64 a0.len], .pointer (some ⟨a1_b, 0, none⟩)] m [.box a1_b #[.int .i64 a1.off, .int .i64 a1.len] a1_T] fun v m' L => L = [.box a1_b #[.int .i64 a1.off, .int .i64 a1.len] a1_T] ∧ v = .bool r := by
 unfold G.extent_Contains_1 at h
 refine enter (args := [_, _]) 16 Try.func102 rfl rfl (by simp) fun fr hK => ?_
 have hS := St.refl (hO)
 replace hK : Kn 16 fr [(0, .agg #[.int .i64 a0.off, .int .i64 a0.len]), (1, .pointer (some ⟨a1_b, 0, none⟩))] := hK
 refine w_seq (w_region ?_)
 refine qo 2 hK (s_box hK.at_ hS rfl rfl ?_)
 clear hK fr hS; intro m1 b1 b1z l1 hS fr hK
 replace hS : St _ m m1 [.box b1 #[.int .i64 a0.off, .int .i64 a0.len] 91, .box a1_b #[.int .i64 a1.off, .int .i64 a1.len] a1_T] := hS
 refine qp 3 (.bool false) hK fun fr hK => ?_
 refine wpListIn_nil (then_n ?_)
 refine w_seq ?_
 refine split_b (x := decide (a0.off < a1.off)) (fun hb1 => ?_) (fun hb1 => ?_)
 ·
  replace h := ite_t (of_decide_eq_true hb1) h
  have hlt0 : ∀ bq ∈ blocksOf [.box b1 #[.int .i64 a0.off, .int .i64 a0.len] 91, .box a1_b #[.int .i64 a1.off, .int .i64 a1.len] a1_T], bq < m1.w.heap.size := fun bq hbq => hS.ow.lt hbq
  refine D.wp_draw (Gr := D.GO m1 none) (S := D.SO none (blocksOf [.box a1_b #[.int .i64 a1.off, .int .i64 a1.len] a1_T]) m m1 (fun _ => [.box b1 #[.int .i64 a0.off, .int .i64 a0.len] 91, .box a1_b #[.int .i64 a1.off, .int .i64 a1.len] a1_T]) (fun _ => True)) (N := 0) 9 [] [([(2, none)], 0, 0, false), ([(4, some 0)], 0, 0, false), ([(1, none)], 0, 0, false), ([(6, some 0)], 0, 0, false), ([(5, some 2), (7, some 0)], 0, 0, false), ([(8, some 0)], 0, 0, false), ([(2, none), (9, some 0)], 0, 0, false), ([(10, some 0), (9, some 1)], 0, 0, false), ([(1, none), (9, some 2)], 0, 0, false)] hK.size (by kernel_rfl) (by kernel_rfl) (by kernel_rfl) rfl (D.startO hS trivial) ?_
  refine D.on_pure (D.GO_refl _ _) [(2, .pointer (some ⟨b1, 0, none⟩))] (.pointer (some ⟨b1, 0, none⟩)) (fun ac ww hk => (.cons (hk.1.trans (hK.at_ 2 _ rfl)) (.nil _))) ?_
  refine D.on_det (D.GO_refl _ _) [(4, .pointer (some ⟨b1, 0, none⟩))] (.int .i64 a0.off) (fun ac ww hk => (.cons (hk.1) (.nil _))) (fun ac ww kk hb hKe Post hp => (fun hS => s_load hKe hS 0 rfl rfl rfl rfl (by kernel_rfl) hp) hb.2.1) ?_
  refine D.on_pure (D.GO_refl _ _) [(1, .pointer (some ⟨a1_b, 0, none⟩))] (.pointer (some ⟨a1_b, 0, none⟩)) (fun ac ww hk => (.cons (hk.1.trans (hK.at_ 1 _ rfl)) (.nil _))) ?_
  refine D.on_det (D.GO_refl _ _) [(6, .pointer (some ⟨a1_b, 0, none⟩))] (.int .i64 a1.off) (fun ac ww hk => (.cons (hk.1) (.nil _))) (fun ac ww kk hb hKe Post hp => (fun hS => s_load hKe hS 1 rfl rfl rfl rfl (by kernel_rfl) hp) hb.2.1) ?_
  refine D.on_det (D.GO_refl _ _) [(5, .int .i64 a0.off), (7, .int .i64 a1.off)] (.bool true) (fun ac ww hk => (.cons (hk.1) (.cons (hk.2.1) (.nil _)))) (fun ac ww kk hb hKe Post hp => s_pureE (.bool true) (.bool (decide (a0.off < a1.off))) hKe (by kernel_rfl) (by kernel_rfl) (by rw [hb1]) hp) ?_
  refine D.on_pure (D.GO_refl _ _) [(8, .bool true)] (.bool true) (fun ac ww hk => (.cons (hk.1) (.nil _))) ?_
  refine D.on_no [(9, .bool true)] (fun ac ww hk => .cons (hk.2.1) (.nil _)) ?_
  refine D.on_no [(9, .bool true)] (fun ac ww hk => .cons (hk.2.1) (.nil _)) ?_
  refine D.on_no [(9, .bool true)] (fun ac ww hk => .cons (hk.2.1) (.nil _)) ?_
  refine D.finO ?_
  intro fr2 m2 hm1 l2 hS2 hF2 hE
  replace hS2 : St _ m m2 [.box b1 #[.int .i64 a0.off, .int .i64 a0.len] 91, .box a1_b #[.int .i64 a1.off, .int .i64 a1.len] a1_T] := hS2
  have hK2 := D.kn_ends [(4, .pointer (some ⟨b1, 0, none⟩)), (5, .int .i64 a0.off), (6, .pointer (some ⟨a1_b, 0, none⟩)), (7, .int .i64 a1.off), (8, .bool true), (9, .bool true), (10, undef), (11, undef), (12, undef)] hK hE rfl (by kernel_rfl) (.cons (hE.slots 4) (.cons (hE.slots 5) (.cons (hE.slots 6) (.cons (hE.slots 7) (.cons (hE.slots 8) (.cons (hE.slots 9) (.cons (hE.slots 10) (.cons (hE.slots 11) (.cons (hE.slots 12) (.nil _))))))))))
  replace hK2 : Kn 16 fr2 [(4, .pointer (some ⟨b1, 0, none⟩)), (5, .int .i64 a0.off), (6, .pointer (some ⟨a1_b, 0, none⟩)), (7, .int .i64 a1.off), (8, .bool true), (9, .bool true), (10, undef), (11, undef), (12, undef), (3, .bool false), (2, .pointer (some ⟨b1, 0, none⟩)), (0, .agg #[.int .i64 a0.off, .int .i64 a0.len]), (1, .pointer (some ⟨a1_b, 0, none⟩))] := hK2.only [4, 5, 6, 7, 8, 9, 10, 11, 12, 3, 2, 0, 1]
  clear hE hK; revert hK2; clear hm1 hS hlt0; revert fr2; clear fr; intro fr hK; have hS := hS2; clear hS2
  replace hS : St _ m m2 [.box b1 #[.int .i64 a0.off, .int .i64 a0.len] 91, .box a1_b #[.int .i64 a1.off, .int .i64 a1.len] a1_T] := hS
  refine qs 13 hK ?_
  clear hK fr; intro fr hK
  refine qs 14 hK ?_
  clear hK fr; intro fr hK
  refine qp 15 (.bool true) hK fun fr hK => ?_
  refine qp 3 (.bool true) hK fun fr hK => ?_
  refine wpListIn_nil (then_n ?_)
  refine wpIn_ret ?_
  replace h := Option.some.inj h; subst h
  replace hS := hS.front 1 rfl
  replace hS : St _ m m2 [.box a1_b #[.int .i64 a1.off, .int .i64 a1.len] a1_T, .box b1 #[.int .i64 a0.off, .int .i64 a0.len] 91] := hS
  refine ret_of [.tmp 3] [.bool true] rfl hK (.tmp rfl .nil) (St.keep (L := [.box a1_b #[.int .i64 a1.off, .int .i64 a1.len] a1_T]) (R := [.box b1 #[.int .i64 a0.off, .int .i64 a0.len] 91]) hS) ?_
  exact ⟨rfl, rfl⟩
 ·
  replace h := ite_f (of_decide_eq_false hb1) h
  obtain ⟨y1, hy1, h⟩ := bind_some h
  have hlt0 : ∀ bq ∈ blocksOf [.box b1 #[.int .i64 a0.off, .int .i64 a0.len] 91, .box a1_b #[.int .i64 a1.off, .int .i64 a1.len] a1_T], bq < m1.w.heap.size := fun bq hbq => hS.ow.lt hbq
  refine D.wp_draw (Gr := D.GO m1 none) (S := D.SO none (blocksOf [.box a1_b #[.int .i64 a1.off, .int .i64 a1.len] a1_T]) m m1 (fun _ => [.box b1 #[.int .i64 a0.off, .int .i64 a0.len] 91, .box a1_b #[.int .i64 a1.off, .int .i64 a1.len] a1_T]) (fun _ => True)) (N := 0) 9 [] [([(2, none)], 0, 0, false), ([(4, some 0)], 0, 0, false), ([(1, none)], 0, 0, false), ([(6, some 0)], 0, 0, false), ([(5, some 2), (7, some 0)], 0, 0, false), ([(8, some 0)], 0, 0, false), ([(2, none), (9, some 0)], 0, 0, false), ([(10, some 0), (9, some 1)], 0, 0, false), ([(1, none), (9, some 2)], 0, 0, false)] hK.size (by kernel_rfl) (by kernel_rfl) (by kernel_rfl) rfl (D.startO hS trivial) ?_
  refine D.on_pure (D.GO_refl _ _) [(2, .pointer (some ⟨b1, 0, none⟩))] (.pointer (some ⟨b1, 0, none⟩)) (fun ac ww hk => (.cons (hk.1.trans (hK.at_ 2 _ rfl)) (.nil _))) ?_
  refine D.on_det (D.GO_refl _ _) [(4, .pointer (some ⟨b1, 0, none⟩))] (.int .i64 a0.off) (fun ac ww hk => (.cons (hk.1) (.nil _))) (fun ac ww kk hb hKe Post hp => (fun hS => s_load hKe hS 0 rfl rfl rfl rfl (by kernel_rfl) hp) hb.2.1) ?_
  refine D.on_pure (D.GO_refl _ _) [(1, .pointer (some ⟨a1_b, 0, none⟩))] (.pointer (some ⟨a1_b, 0, none⟩)) (fun ac ww hk => (.cons (hk.1.trans (hK.at_ 1 _ rfl)) (.nil _))) ?_
  refine D.on_det (D.GO_refl _ _) [(6, .pointer (some ⟨a1_b, 0, none⟩))] (.int .i64 a1.off) (fun ac ww hk => (.cons (hk.1) (.nil _))) (fun ac ww kk hb hKe Post hp => (fun hS => s_load hKe hS 1 rfl rfl rfl rfl (by kernel_rfl) hp) hb.2.1) ?_
  refine D.on_det (D.GO_refl _ _) [(5, .int .i64 a0.off), (7, .int .i64 a1.off)] (.bool false) (fun ac ww hk => (.cons (hk.1) (.cons (hk.2.1) (.nil _)))) (fun ac ww kk hb hKe Post hp => s_pureE (.bool false) (.bool (decide (a0.off < a1.off))) hKe (by kernel_rfl) (by kernel_rfl) (by rw [hb1]) hp) ?_
  refine D.on_pure (D.GO_refl _ _) [(8, .bool false)] (.bool false) (fun ac ww hk => (.cons (hk.1) (.nil _))) ?_
  refine D.on_det (D.GO_refl _ _) [(2, .pointer (some ⟨b1, 0, none⟩)), (9, .bool false)] (.agg #[.int .i64 a0.off, .int .i64 a0.len]) (fun ac ww hk => (.cons (hk.1.trans (hK.at_ 2 _ rfl)) (.cons (hk.2.1) (.nil _)))) (fun ac ww kk hb hKe Post hp => (fun hS => s_loadAll hKe hS 0 rfl rfl rfl (by kernel_rfl) hp) hb.2.1) ?_
  refine D.on_op (fun uu _ => uu = .int .i64 y1) (fun _ _ _ h _ => h) (by
   intro ac ww kk hlo hhi hb hk
   obtain rfl : kk = 0 := by omega
   have h0 := hS; replace hS := hb.2.1
   have k10 : ac.eval (.tmp 10) = .agg #[.int .i64 a0.off, .int .i64 a0.len] := hk.1
   have k9 : ac.eval (.tmp 9) = .bool false := hk.2.1
   have hKe : Ke ac [(10, .agg #[.int .i64 a0.off, .int .i64 a0.len]), (9, .bool false)] := (.cons k10 (.cons k9 (.nil _)))
   exact ⟨D.wantedE hKe (by kernel_rfl), D.callO h0 (fun bq hbq => hlt0 bq (by revert hbq; simp [blocksOf, Ent.box, rowOf, Ent.row]; try omega)) hb hKe ent93_2 rfl rfl rfl rfl (G.extent_End_spec hy1) (by kernel_rfl) (by rintro _ m' _ hg hn hl ⟨rfl, rfl⟩; exact rfl)⟩) ?_
  refine D.on_det (D.GO_refl _ _) [(1, .pointer (some ⟨a1_b, 0, none⟩)), (9, .bool false)] (.agg #[.int .i64 a1.off, .int .i64 a1.len]) (fun ac ww hk => (.cons (hk.1.trans (hK.at_ 1 _ rfl)) (.cons (hk.2.1) (.nil _)))) (fun ac ww kk hb hKe Post hp => (fun hS => s_loadAll hKe hS 1 rfl rfl rfl (by kernel_rfl) hp) hb.2.1) ?_
  refine D.finO ?_
  intro fr2 m3 hm1 l3 hS2 hF2 hE
  replace hS2 : St _ m m3 [.box b1 #[.int .i64 a0.off, .int .i64 a0.len] 91, .box a1_b #[.int .i64 a1.off, .int .i64 a1.len] a1_T] := hS2
  have hK2 := D.kn_ends [(4, .pointer (some ⟨b1, 0, none⟩)), (5, .int .i64 a0.off), (6, .pointer (some ⟨a1_b, 0, none⟩)), (7, .int .i64 a1.off), (8, .bool false), (9, .bool false), (10, .agg #[.int .i64 a0.off, .int .i64 a0.len]), (11, .int .i64 y1), (12, .agg #[.int .i64 a1.off, .int .i64 a1.len])] hK hE rfl (by kernel_rfl) (.cons (hE.slots 4) (.cons (hE.slots 5) (.cons (hE.slots 6) (.cons (hE.slots 7) (.cons (hE.slots 8) (.cons (hE.slots 9) (.cons (hE.slots 10) (.cons (hE.slots 11) (.cons (hE.slots 12) (.nil _))))))))))
  replace hK2 : Kn 16 fr2 [(4, .pointer (some ⟨b1, 0, none⟩)), (5, .int .i64 a0.off), (6, .pointer (some ⟨a1_b, 0, none⟩)), (7, .int .i64 a1.off), (8, .bool false), (9, .bool false), (10, .agg #[.int .i64 a0.off, .int .i64 a0.len]), (11, .int .i64 y1), (12, .agg #[.int .i64 a1.off, .int .i64 a1.len]), (3, .bool false), (2, .pointer (some ⟨b1, 0, none⟩)), (0, .agg #[.int .i64 a0.off, .int .i64 a0.len]), (1, .pointer (some ⟨a1_b, 0, none⟩))] := hK2.only [4, 5, 6, 7, 8, 9, 10, 11, 12, 3, 2, 0, 1]
  clear hE hK; revert hK2; clear hm1 hS hlt0; revert fr2; clear fr; intro fr hK; have hS := hS2; clear hS2
  replace hS : St _ m m3 [.box b1 #[.int .i64 a0.off, .int .i64 a0.len] 91, .box a1_b #[.int .i64 a1.off, .int .i64 a1.len] a1_T] := hS
  obtain ⟨y2, hy2, h⟩ := bind_some h
  refine qo 13 hK (s_call hK.at_ hS ent93_2 rfl rfl rfl rfl (G.extent_End_spec hy2) (by kernel_rfl) ?_)
  clear hK fr hS; rintro _ m4 _ l4 hS ⟨rfl, rfl⟩ fr hK
  replace hS : St _ m m4 [.box b1 #[.int .i64 a0.off, .int .i64 a0.len] 91, .box a1_b #[.int .i64 a1.off, .int .i64 a1.len] a1_T] := hS
  refine qp 14 (.bool (decide (y1 > y2))) hK fun fr hK => ?_
  refine qp 15 (.bool (decide (y1 > y2))) hK fun fr hK => ?_
  refine qp 3 (.bool (decide (y1 > y2))) hK fun fr hK => ?_
  refine wpListIn_nil (then_n ?_)
  refine wpIn_ret ?_
  replace h := Option.some.inj h; subst h
  replace hS := hS.front 1 rfl
  replace hS : St _ m m4 [.box a1_b #[.int .i64 a1.off, .int .i64 a1.len] a1_T, .box b1 #[.int .i64 a0.off, .int .i64 a0.len] 91] := hS
  refine ret_of [.tmp 3] [.bool (decide (y1 > y2))] rfl hK (.tmp rfl .nil) (St.keep (L := [.box a1_b #[.int .i64 a1.off, .int .i64 a1.len] a1_T]) (R := [.box b1 #[.int .i64 a0.off, .int .i64 a0.len] 91]) hS) ?_
  exact ⟨rfl, rfl⟩
set_option maxRecDepth 100000 in
set_option maxHeartbeats 1000000 in
theorem G.slices_IndexFunc_api_Extent_api_Extent_extent_Contains_1_spec {m : Mem} {a0 : List G.Extent} {a0_a : Option Addr} {a0_c : Nat} {a1 : G.Extent} {a1_0_b : Nat} {a1_0_T : TypeId} (a0_f : Els is_G_Extent m 2 a0_a a0_c a0) {r : Int} (h : G.slices_IndexFunc_api_Extent_api_Extent_extent_Contains_1 a0 a1 = some r) (hO : Ow m [.box a1_0_b #[.int .i64 a1.off, .int .i64 a1.len] a1_0_T]) :
  Spec Try.prog 110 #[.slice a0_a a0.length a0_c, .func (.func 102) #[] #[.pointer (some ⟨a1_0_b, 0, none⟩)]] m [.box a1_0_b #[.int .i64 a1.off, .int .i64 a1.len] a1_0_T] fun v m' L => L = [.box a1_0_b #[.int .i64 a1.off, .int .i64 a1.len] a1_0_T] ∧ v = .int .i64 r := by
 unfold G.slices_IndexFunc_api_Extent_api_Extent_extent_Contains_1 at h
 refine enter (args := [_, _]) 19 Try.func110 rfl rfl (by simp) fun fr hK => ?_
 have hS := St.refl (hO)
 replace hK : Kn 19 fr [(0, .slice a0_a a0.length a0_c), (1, .func (.func 102) #[] #[.pointer (some ⟨a1_0_b, 0, none⟩)])] := hK
 refine w_seq (w_region ?_)
 refine qp 4 (.int .i64 0) hK fun fr hK => ?_
 refine wpListIn_nil (then_n ?_)
 refine w_seq ?_
 refine w_seq (w_region ?_)
 refine qp 6 (.slice a0_a a0.length a0_c) hK fun fr hK => ?_
 refine qp 7 (.int .i64 (a0.length : Int)) hK fun fr hK => ?_
 refine qp 8 (.int .i64 0) hK fun fr hK => ?_
 refine wpListIn_nil (then_n ?_)
 refine wpIn_block ?_
 replace hS : St _ m m [.box a1_0_b #[.int .i64 a1.off, .int .i64 a1.len] a1_0_T] := hS
 refine w_loopL h (fun (s1 : Int) fr ww => ∃ m1 : Mem, m1.w = ww ∧ Kn 19 fr [(0, .slice a0_a a0.length a0_c), (1, .func (.func 102) #[] #[.pointer (some ⟨a1_0_b, 0, none⟩)]), (7, .int .i64 (a0.length : Int)), (8, .int .i64 s1)] ∧ Le m m1 ∧ St (blocksOf [.box a1_0_b #[.int .i64 a1.off, .int .i64 a1.len] a1_0_T]) m m1 [.box a1_0_b #[.int .i64 a1.off, .int .i64 a1.len] a1_0_T]) ?_ ?_
 · exact ⟨m, rfl, hK.only [0, 1, 7, 8], Le.refl _, hS⟩
 clear hK hS fr h
 rintro k1 s1 x1 fr _ ⟨m1, rfl, hK, l1, hS⟩ h hn1
 unfold G.slices_IndexFunc_api_Extent_api_Extent_extent_Contains_1_l1 at h
 refine w_seq (w_region ?_)
 refine qp 9 (.bool (decide (s1 < (a0.length : Int)))) hK fun fr hK => ?_
 refine wpListIn_nil (then_n ?_)
 refine w_seq ?_
 refine w_cond hK rfl (fun hb1 => ?_) (fun hb1 => ?_)
 ·
  replace hK := hK.more (t := 9) (v' := .bool true) rfl (by rw [hb1])
  replace h := ite_t (of_decide_eq_true hb1) h
  refine wpIn_skip ?_
  refine then_n ?_
  refine w_seq ?_
  refine wpIn_block ?_
  refine w_seq (w_region ?_)
  refine qp 10 (.int .i64 s1) hK fun fr hK => ?_
  refine qp 5 (.int .i64 s1) hK fun fr hK => ?_
  refine wpListIn_nil (then_n ?_)
  refine w_seq (w_region ?_)
  refine qp 11 (.func (.func 102) #[] #[.pointer (some ⟨a1_0_b, 0, none⟩)]) hK fun fr hK => ?_
  refine qp 12 (.slice a0_a a0.length a0_c) hK fun fr hK => ?_
  refine qp 13 (.int .i64 s1) hK fun fr hK => ?_
  replace a0_f := Els.mono rep_G_Extent a0_f l1
  obtain ⟨x2, hy1, h⟩ := bind_some h
  refine qo 14 hK (s_idx elT130_2 a0_f hy1 hK.at_ rfl rfl rfl ?_)
  clear hK fr; intro b1 p1 cs1 hR1 hA1 fr hK
  obtain rfl := hR1
  refine qo 15 hK (s_loadAtN [.int .i64 x2.off, .int .i64 x2.len] hK.at_ hA1 0 rfl rfl rfl (by kernel_rfl) (by kernel_rfl) ?_)
  clear hK fr; intro fr hK
  obtain ⟨y1, hy2, h⟩ := bind_some h
  replace hS : St _ m m1 [.box a1_0_b #[.int .i64 a1.off, .int .i64 a1.len] a1_0_T] := hS
  refine qo 16 hK (s_callM (R := [.box a1_0_b #[.int .i64 a1.off, .int .i64 a1.len] a1_0_T]) (L := []) hK.at_ hS ent102_2 rfl rfl rfl rfl (G.extent_Contains_1_spec hy2 (Ow.left (L := [.box a1_0_b #[.int .i64 a1.off, .int .i64 a1.len] a1_0_T]) hS.ow)) (by kernel_rfl) ?_)
  clear hK fr hS; rintro _ m2 _ l2 hS ⟨rfl, rfl⟩ fr hK
  replace hS : St _ m m2 [.box a1_0_b #[.int .i64 a1.off, .int .i64 a1.len] a1_0_T] := hS
  refine wpListIn_nil (then_n ?_)
  refine w_cond hK rfl (fun hb2 => ?_) (fun hb2 => ?_)
  ·
   replace hK := hK.more (t := 16) (v' := .bool true) rfl (by rw [hb2])
   replace h := ite_t (hb2) h
   refine w_seq (w_region ?_)
   refine qp 17 (.int .i64 s1) hK fun fr hK => ?_
   refine qp 4 (.int .i64 s1) hK fun fr hK => ?_
   refine wpListIn_nil (then_n ?_)
   refine wpIn_ret ?_
   refine blk_r ?_
   refine then_r ?_
   refine then_r ?_
   refine blk_r ?_
   refine then_r ?_
   replace h := Option.some.inj h; subst h
   replace h := Option.some.inj (loop_out hn1); subst h
   replace hS : St _ m m2 [.box a1_0_b #[.int .i64 a1.off, .int .i64 a1.len] a1_0_T] := hS
   refine ret_of [.tmp 4] [.int .i64 s1] rfl hK (.tmp rfl .nil) hS ?_
   exact ⟨rfl, rfl⟩
  ·
   replace hK := hK.more (t := 16) (v' := .bool false) rfl (by rw [hb2])
   replace h := ite_f (ne_true_of_eq_false hb2) h
   refine wpIn_skip ?_
   refine blk_n ?_
   refine then_n ?_
   refine w_region ?_
   refine qp 18 (.int .i64 (IntKind.i64.wrap (s1 + 1))) hK fun fr hK => ?_
   refine qp 8 (.int .i64 (IntKind.i64.wrap (s1 + 1))) hK fun fr hK => ?_
   refine wpListIn_nil (then_n ?_)
   replace hS : St _ m m2 [.box a1_0_b #[.int .i64 a1.off, .int .i64 a1.len] a1_0_T] := hS
   replace h := Option.some.inj h; subst h
   obtain ⟨kq, hk1, hk2⟩ := hn1
   exact ⟨kq, hk1, _, hk2, m2, rfl, hK.only [0, 1, 7, 8], l1.trans l2, hS⟩
 ·
  replace hK := hK.more (t := 9) (v' := .bool false) rfl (by rw [hb1])
  replace h := ite_f (of_decide_eq_false hb1) h
  refine wpIn_exit ?_
  refine then_x ?_
  refine then_x ?_
  refine blk_e ?_
  refine then_n ?_
  refine w_seq (w_region ?_)
  refine qp 4 (.int .i64 (-1)) hK fun fr hK => ?_
  refine wpListIn_nil (then_n ?_)
  refine wpIn_ret ?_
  replace h := Option.some.inj h; subst h
  replace h := Option.some.inj (loop_out hn1); subst h
  replace hS : St _ m m1 [.box a1_0_b #[.int .i64 a1.off, .int .i64 a1.len] a1_0_T] := hS
  refine ret_of [.tmp 4] [.int .i64 (-1)] rfl hK (.tmp rfl .nil) hS ?_
  exact ⟨rfl, rfl⟩
set_option maxRecDepth 100000 in
set_option maxHeartbeats 1000000 in
theorem G.slices_ContainsFunc_api_Extent_api_Extent_extent_Contains_1_spec {m : Mem} {a0 : List G.Extent} {a0_a : Option Addr} {a0_c : Nat} {a1 : G.Extent} {a1_0_b : Nat} {a1_0_T : TypeId} (a0_f : Els is_G_Extent m 2 a0_a a0_c a0) {r : Bool} (h : G.slices_ContainsFunc_api_Extent_api_Extent_extent_Contains_1 a0 a1 = some r) (hO : Ow m [.box a1_0_b #[.int .i64 a1.off, .int .i64 a1.len] a1_0_T]) :
  Spec Try.prog 101 #[.slice a0_a a0.length a0_c, .func (.func 102) #[] #[.pointer (some ⟨a1_0_b, 0, none⟩)]] m [.box a1_0_b #[.int .i64 a1.off, .int .i64 a1.len] a1_0_T] fun v m' L => L = [.box a1_0_b #[.int .i64 a1.off, .int .i64 a1.len] a1_0_T] ∧ v = .bool r := by
 unfold G.slices_ContainsFunc_api_Extent_api_Extent_extent_Contains_1 at h
 refine enter (args := [_, _]) 9 Try.func101 rfl rfl (by simp) fun fr hK => ?_
 have hS := St.refl (hO)
 replace hK : Kn 9 fr [(0, .slice a0_a a0.length a0_c), (1, .func (.func 102) #[] #[.pointer (some ⟨a1_0_b, 0, none⟩)])] := hK
 refine w_seq (w_region ?_)
 refine qp 4 (.bool false) hK fun fr hK => ?_
 refine wpListIn_nil (then_n ?_)
 refine w_seq (w_region ?_)
 refine qp 5 (.slice a0_a a0.length a0_c) hK fun fr hK => ?_
 refine qp 6 (.func (.func 102) #[] #[.pointer (some ⟨a1_0_b, 0, none⟩)]) hK fun fr hK => ?_
 obtain ⟨y1, hy1, h⟩ := bind_some h
 replace hS : St _ m m [.box a1_0_b #[.int .i64 a1.off, .int .i64 a1.len] a1_0_T] := hS
 refine qo 7 hK (s_callM (R := [.box a1_0_b #[.int .i64 a1.off, .int .i64 a1.len] a1_0_T]) (L := []) hK.at_ hS ent110_2 rfl rfl rfl rfl (G.slices_IndexFunc_api_Extent_api_Extent_extent_Contains_1_spec a0_f hy1 (Ow.left (L := [.box a1_0_b #[.int .i64 a1.off, .int .i64 a1.len] a1_0_T]) hS.ow)) (by kernel_rfl) ?_)
 clear hK fr hS; rintro _ m1 _ l1 hS ⟨rfl, rfl⟩ fr hK
 replace hS : St _ m m1 [.box a1_0_b #[.int .i64 a1.off, .int .i64 a1.len] a1_0_T] := hS
 refine qp 8 (.bool (decide (y1 ≥ 0))) hK fun fr hK => ?_
 refine qp 4 (.bool (decide (y1 ≥ 0))) hK fun fr hK => ?_
 refine wpListIn_nil (then_n ?_)
 refine wpIn_ret ?_
 replace h := Option.some.inj h; subst h
 replace hS : St _ m m1 [.box a1_0_b #[.int .i64 a1.off, .int .i64 a1.len] a1_0_T] := hS
 refine ret_of [.tmp 4] [.bool (decide (y1 ≥ 0))] rfl hK (.tmp rfl .nil) hS ?_
 exact ⟨rfl, rfl⟩
set_option maxRecDepth 100000 in
set_option maxHeartbeats 1000000 in
theorem G.extent_Contains_spec {m : Mem} {a0 : G.Extent} {a1 : List G.Extent} {a1_a : Option Addr} {a1_c : Nat} (a1_f : Els is_G_Extent m 2 a1_a a1_c a1) {r : Bool} (h : G.extent_Contains a0 a1 = some r) :
  Spec Try.prog 87 #[.agg #[.int .i64 a0.off, .int .i64 a0.len], .slice a1_a a1.length a1_c] m [] fun v m' L => L = [] ∧ v = .bool r := by
 unfold G.extent_Contains at h
 refine enter (args := [_, _]) 9 Try.func87 rfl rfl (by simp) fun fr hK => ?_
 have hS := St.refl (Ow.nil m)
 replace hK : Kn 9 fr [(0, .agg #[.int .i64 a0.off, .int .i64 a0.len]), (1, .slice a1_a a1.length a1_c)] := hK
 refine w_seq (w_region ?_)
 refine qo 2 hK (s_box hK.at_ hS rfl rfl ?_)
 clear hK fr hS; intro m1 b1 b1z l1 hS fr hK
 replace hS : St _ m m1 [.box b1 #[.int .i64 a0.off, .int .i64 a0.len] 91] := hS
 refine qp 4 (.bool false) hK fun fr hK => ?_
 refine wpListIn_nil (then_n ?_)
 refine w_seq (w_region ?_)
 refine qp 5 (.slice a1_a a1.length a1_c) hK fun fr hK => ?_
 refine qp 6 (.func (.func 102) #[] #[.pointer (some ⟨b1, 0, none⟩)]) hK fun fr hK => ?_
 replace a1_f := Els.mono rep_G_Extent a1_f l1
 obtain ⟨y1, hy1, h⟩ := bind_some h
 replace hS : St _ m m1 [.box b1 #[.int .i64 a0.off, .int .i64 a0.len] 91] := hS
 refine qo 7 hK (s_callM (R := [.box b1 #[.int .i64 a0.off, .int .i64 a0.len] 91]) (L := []) hK.at_ hS ent101_2 rfl rfl rfl rfl (G.slices_ContainsFunc_api_Extent_api_Extent_extent_Contains_1_spec a1_f hy1 (Ow.left (L := [.box b1 #[.int .i64 a0.off, .int .i64 a0.len] 91]) hS.ow)) (by kernel_rfl) ?_)
 clear hK fr hS; rintro _ m2 _ l2 hS ⟨rfl, rfl⟩ fr hK
 replace hS : St _ m m2 [.box b1 #[.int .i64 a0.off, .int .i64 a0.len] 91] := hS
 refine qp 8 (.bool (!y1)) hK fun fr hK => ?_
 refine qp 4 (.bool (!y1)) hK fun fr hK => ?_
 refine wpListIn_nil (then_n ?_)
 refine wpIn_ret ?_
 replace h := Option.some.inj h; subst h
 refine ret_of [.tmp 4] [.bool (!y1)] rfl hK (.tmp rfl .nil) hS.dropAll ?_
 exact ⟨rfl, rfl⟩
set_option maxRecDepth 100000 in
set_option maxHeartbeats 1000000 in
theorem G.delta_Find_1_spec {m : Mem} {a0 : G.Command} {a0_data_a : Option Addr} {a0_data_c : Nat} {a1 : Int} {a1_b : Nat} {a1_T : TypeId} (a0_data_f : Els isU8 m 1 a0_data_a a0_data_c a0.data) {r : Bool} (h : G.delta_Find_1 a0 a1 = some r) (hO : Ow m [.box a1_b #[.int .i64 a1] a1_T]) :
  Spec Try.prog 86 #[.agg #[.int .i64 a0.kind, .int .i64 a0.to, .int .i64 a0.from_, .int .i64 a0.len, .slice a0_data_a a0.data.length a0_data_c], .pointer (some ⟨a1_b, 0, none⟩)] m [.box a1_b #[.int .i64 a1] a1_T] fun v m' L => L = [.box a1_b #[.int .i64 a1] a1_T] ∧ v = .bool r := by
 unfold G.delta_Find_1 at h
 refine enter (args := [_, _]) 10 Try.func86 rfl rfl (by simp) fun fr hK => ?_
 have hS := St.refl (hO)
 replace hK : Kn 10 fr [(0, .agg #[.int .i64 a0.kind, .int .i64 a0.to, .int .i64 a0.from_, .int .i64 a0.len, .slice a0_data_a a0.data.length a0_data_c]), (1, .pointer (some ⟨a1_b, 0, none⟩))] := hK
 refine w_seq (w_region ?_)
 refine qo 2 hK (s_box hK.at_ hS rfl rfl ?_)
 clear hK fr hS; intro m1 b1 b1z l1 hS fr hK
 replace hS : St _ m m1 [.box b1 #[.int .i64 a0.kind, .int .i64 a0.to, .int .i64 a0.from_, .int .i64 a0.len, .slice a0_data_a a0.data.length a0_data_c] 50, .box a1_b #[.int .i64 a1] a1_T] := hS
 refine qp 3 (.bool false) hK fun fr hK => ?_
 refine wpListIn_nil (then_n ?_)
 refine w_seq ?_
 replace a0_data_f := Els.mono rep_U8 a0_data_f l1
 obtain ⟨y1, hy1, h⟩ := bind_some h
 have hlt0 : ∀ bq ∈ blocksOf [.box b1 #[.int .i64 a0.kind, .int .i64 a0.to, .int .i64 a0.from_, .int .i64 a0.len, .slice a0_data_a a0.data.length a0_data_c] 50, .box a1_b #[.int .i64 a1] a1_T], bq < m1.w.heap.size := fun bq hbq => hS.ow.lt hbq
 refine D.wp_draw (Gr := D.GO m1 none) (S := D.SO none (blocksOf [.box a1_b #[.int .i64 a1] a1_T]) m m1 (fun _ => [.box b1 #[.int .i64 a0.kind, .int .i64 a0.to, .int .i64 a0.from_, .int .i64 a0.len, .slice a0_data_a a0.data.length a0_data_c] 50, .box a1_b #[.int .i64 a1] a1_T]) (fun _ => True)) (N := 0) 5 [] [([(2, none)], 0, 0, false), ([(4, some 0)], 0, 0, false), ([(1, none)], 0, 0, false), ([(6, some 0)], 0, 0, false), ([(7, some 0)], 0, 0, false)] hK.size (by kernel_rfl) (by kernel_rfl) (by kernel_rfl) rfl (D.startO hS trivial) ?_
 refine D.on_det (D.GO_refl _ _) [(2, .pointer (some ⟨b1, 0, none⟩))] (.agg #[.int .i64 a0.kind, .int .i64 a0.to, .int .i64 a0.from_, .int .i64 a0.len, .slice a0_data_a a0.data.length a0_data_c]) (fun ac ww hk => (.cons (hk.1.trans (hK.at_ 2 _ rfl)) (.nil _))) (fun ac ww kk hb hKe Post hp => (fun hS => s_loadAll hKe hS 0 rfl rfl rfl (by kernel_rfl) hp) hb.2.1) ?_
 refine D.on_op (fun uu _ => uu = .agg #[.int .i64 y1.off, .int .i64 y1.len]) (fun _ _ _ h _ => h) (by
  intro ac ww kk hlo hhi hb hk
  obtain rfl : kk = 0 := by omega
  have h0 := hS; replace hS := hb.2.1
  have k4 : ac.eval (.tmp 4) = .agg #[.int .i64 a0.kind, .int .i64 a0.to, .int .i64 a0.from_, .int .i64 a0.len, .slice a0_data_a a0.data.length a0_data_c] := hk.1
  have hKe : Ke ac [(4, .agg #[.int .i64 a0.kind, .int .i64 a0.to, .int .i64 a0.from_, .int .i64 a0.len, .slice a0_data_a a0.data.length a0_data_c])] := (.cons k4 (.nil _))
  replace a0_data_f := Els.mono rep_U8 a0_data_f hb.1
  exact ⟨D.wanted0 rfl, D.callO h0 (fun bq hbq => hlt0 bq (by revert hbq; simp [blocksOf, Ent.box, rowOf, Ent.row]; try omega)) hb hKe ent88_2 rfl rfl rfl rfl (G.command_Target_spec a0_data_f hy1) (by kernel_rfl) (by rintro _ m' _ hg hn hl ⟨rfl, rfl⟩; exact rfl)⟩) ?_
 refine D.on_det (D.GO_refl _ _) [(1, .pointer (some ⟨a1_b, 0, none⟩))] (.int .i64 a1) (fun ac ww hk => (.cons (hk.1.trans (hK.at_ 1 _ rfl)) (.nil _))) (fun ac ww kk hb hKe Post hp => (fun hS => s_load hKe hS 1 rfl rfl rfl rfl (by kernel_rfl) hp) hb.2.1) ?_
 refine D.on_pure (D.GO_refl _ _) [(6, .int .i64 a1)] (.agg #[.int .i64 a1, .int .i64 1]) (fun ac ww hk => (.cons (hk.1) (.nil _))) ?_
 refine D.on_op (fun uu ww => ∃ (b2 : Nat), uu = .slice (some ⟨b2, 0, none⟩) (([(⟨a1, 1⟩ : G.Extent)] : List G.Extent).length) 1 ∧ Els is_G_Extent (m1.upO none ww) 2 (some ⟨b2, 0, none⟩) 1 ([(⟨a1, 1⟩ : G.Extent)] : List G.Extent)) (fun _ _ _ ⟨b2, e, f1⟩ g => ⟨b2, e, Els.mono rep_G_Extent f1 g.1⟩) (by
  intro ac ww kk hlo hhi hb hk
  obtain rfl : kk = 0 := by omega
  have h0 := hS; replace hS := hb.2.1
  have k7 : ac.eval (.tmp 7) = .agg #[.int .i64 a1, .int .i64 1] := hk.1
  have hKe : Ke ac [(7, .agg #[.int .i64 a1, .int .i64 1])] := (.cons k7 (.nil _))
  exact ⟨D.wanted0 rfl, D.litO (m := m1) (elem := 91) #[.int .i64 a1, .int .i64 1] h0 (fun bq hbq => hlt0 bq (by revert hbq; simp [blocksOf, Ent.box, rowOf, Ent.row]; try omega)) hb hKe rfl (by kernel_rfl) (by kernel_rfl) (by decide) (by
    intro w2 b2 hl2 hA1
    have f1 : Els is_G_Extent (m1.upO none w2) 2 (some ⟨b2, 0, none⟩) 1 ([(⟨a1, 1⟩ : G.Extent)] : List G.Extent) := els_lit rep_G_Extent [[.int .i64 a1, .int .i64 1]] hA1 (by simp) (by decide) (.cons rfl .nil)
    exact ⟨b2, rfl, f1⟩)⟩) ?_
 refine D.finO ?_
 intro fr2 m2 hm1 l2 hS2 hF2 hE
 replace hS2 : St _ m m2 [.box b1 #[.int .i64 a0.kind, .int .i64 a0.to, .int .i64 a0.from_, .int .i64 a0.len, .slice a0_data_a a0.data.length a0_data_c] 50, .box a1_b #[.int .i64 a1] a1_T] := hS2
 obtain ⟨b2, k8, f1⟩ : ∃ (b2 : Nat), fr2.eval (.tmp 8) = .slice (some ⟨b2, 0, none⟩) (([(⟨a1, 1⟩ : G.Extent)] : List G.Extent).length) 1 ∧ Els is_G_Extent (m1.upO none m2.w) 2 (some ⟨b2, 0, none⟩) 1 ([(⟨a1, 1⟩ : G.Extent)] : List G.Extent) := hE.slots 8
 rw [hm1] at f1
 have hK2 := D.kn_ends [(4, .agg #[.int .i64 a0.kind, .int .i64 a0.to, .int .i64 a0.from_, .int .i64 a0.len, .slice a0_data_a a0.data.length a0_data_c]), (5, .agg #[.int .i64 y1.off, .int .i64 y1.len]), (6, .int .i64 a1), (7, .agg #[.int .i64 a1, .int .i64 1]), (8, .slice (some ⟨b2, 0, none⟩) (([(⟨a1, 1⟩ : G.Extent)] : List G.Extent).length) 1)] hK hE rfl (by kernel_rfl) (.cons (hE.slots 4) (.cons (hE.slots 5) (.cons (hE.slots 6) (.cons (hE.slots 7) (.cons (k8) (.nil _))))))
 replace hK2 : Kn 10 fr2 [(4, .agg #[.int .i64 a0.kind, .int .i64 a0.to, .int .i64 a0.from_, .int .i64 a0.len, .slice a0_data_a a0.data.length a0_data_c]), (5, .agg #[.int .i64 y1.off, .int .i64 y1.len]), (6, .int .i64 a1), (7, .agg #[.int .i64 a1, .int .i64 1]), (8, .slice (some ⟨b2, 0, none⟩) (([(⟨a1, 1⟩ : G.Extent)] : List G.Extent).length) 1), (3, .bool false), (2, .pointer (some ⟨b1, 0, none⟩)), (0, .agg #[.int .i64 a0.kind, .int .i64 a0.to, .int .i64 a0.from_, .int .i64 a0.len, .slice a0_data_a a0.data.length a0_data_c]), (1, .pointer (some ⟨a1_b, 0, none⟩))] := hK2.only [4, 5, 6, 7, 8, 3, 2, 0, 1]
 clear hE hK k8; revert hK2; clear hm1 hS hlt0; revert fr2; clear fr; intro fr hK; have hS := hS2; clear hS2
 replace hS : St _ m m2 [.box b1 #[.int .i64 a0.kind, .int .i64 a0.to, .int .i64 a0.from_, .int .i64 a0.len, .slice a0_data_a a0.data.length a0_data_c] 50, .box a1_b #[.int .i64 a1] a1_T] := hS
 obtain ⟨y2, hy2, h⟩ := bind_some h
 refine qo 9 hK (s_call hK.at_ hS ent87_2 rfl rfl rfl rfl (G.extent_Contains_spec f1 hy2) (by kernel_rfl) ?_)
 clear hK fr hS; rintro _ m3 _ l3 hS ⟨rfl, rfl⟩ fr hK
 replace hS : St _ m m3 [.box b1 #[.int .i64 a0.kind, .int .i64 a0.to, .int .i64 a0.from_, .int .i64 a0.len, .slice a0_data_a a0.data.length a0_data_c] 50, .box a1_b #[.int .i64 a1] a1_T] := hS
 refine qp 3 (.bool y2) hK fun fr hK => ?_
 refine wpListIn_nil (then_n ?_)
 refine wpIn_ret ?_
 replace h := Option.some.inj h; subst h
 replace hS := hS.front 1 rfl
 replace hS : St _ m m3 [.box a1_b #[.int .i64 a1] a1_T, .box b1 #[.int .i64 a0.kind, .int .i64 a0.to, .int .i64 a0.from_, .int .i64 a0.len, .slice a0_data_a a0.data.length a0_data_c] 50] := hS
 refine ret_of [.tmp 3] [.bool y2] rfl hK (.tmp rfl .nil) (St.keep (L := [.box a1_b #[.int .i64 a1] a1_T]) (R := [.box b1 #[.int .i64 a0.kind, .int .i64 a0.to, .int .i64 a0.from_, .int .i64 a0.len, .slice a0_data_a a0.data.length a0_data_c] 50]) hS) ?_
 exact ⟨rfl, rfl⟩
set_option maxRecDepth 100000 in
set_option maxHeartbeats 1000000 in
theorem G.slices_IndexFunc_api_Command_api_Command_delta_Find_1_spec {m : Mem} {a0 : List G.Command} {a0_a : Option Addr} {a0_c : Nat} {a1 : Int} {a1_0_b : Nat} {a1_0_T : TypeId} (a0_f : Els is_G_Command m 5 a0_a a0_c a0) {r : Int} (h : G.slices_IndexFunc_api_Command_api_Command_delta_Find_1 a0 a1 = some r) (hO : Ow m [.box a1_0_b #[.int .i64 a1] a1_0_T]) :
  Spec Try.prog 85 #[.slice a0_a a0.length a0_c, .func (.func 86) #[] #[.pointer (some ⟨a1_0_b, 0, none⟩)]] m [.box a1_0_b #[.int .i64 a1] a1_0_T] fun v m' L => L = [.box a1_0_b #[.int .i64 a1] a1_0_T] ∧ v = .int .i64 r := by
 unfold G.slices_IndexFunc_api_Command_api_Command_delta_Find_1 at h
 refine enter (args := [_, _]) 19 Try.func85 rfl rfl (by simp) fun fr hK => ?_
 have hS := St.refl (hO)
 replace hK : Kn 19 fr [(0, .slice a0_a a0.length a0_c), (1, .func (.func 86) #[] #[.pointer (some ⟨a1_0_b, 0, none⟩)])] := hK
 refine w_seq (w_region ?_)
 refine qp 4 (.int .i64 0) hK fun fr hK => ?_
 refine wpListIn_nil (then_n ?_)
 refine w_seq ?_
 refine w_seq (w_region ?_)
 refine qp 6 (.slice a0_a a0.length a0_c) hK fun fr hK => ?_
 refine qp 7 (.int .i64 (a0.length : Int)) hK fun fr hK => ?_
 refine qp 8 (.int .i64 0) hK fun fr hK => ?_
 refine wpListIn_nil (then_n ?_)
 refine wpIn_block ?_
 replace hS : St _ m m [.box a1_0_b #[.int .i64 a1] a1_0_T] := hS
 refine w_loopL h (fun (s1 : Int) fr ww => ∃ m1 : Mem, m1.w = ww ∧ Kn 19 fr [(0, .slice a0_a a0.length a0_c), (1, .func (.func 86) #[] #[.pointer (some ⟨a1_0_b, 0, none⟩)]), (7, .int .i64 (a0.length : Int)), (8, .int .i64 s1)] ∧ Le m m1 ∧ St (blocksOf [.box a1_0_b #[.int .i64 a1] a1_0_T]) m m1 [.box a1_0_b #[.int .i64 a1] a1_0_T]) ?_ ?_
 · exact ⟨m, rfl, hK.only [0, 1, 7, 8], Le.refl _, hS⟩
 clear hK hS fr h
 rintro k1 s1 x1 fr _ ⟨m1, rfl, hK, l1, hS⟩ h hn1
 unfold G.slices_IndexFunc_api_Command_api_Command_delta_Find_1_l1 at h
 refine w_seq (w_region ?_)
 refine qp 9 (.bool (decide (s1 < (a0.length : Int)))) hK fun fr hK => ?_
 refine wpListIn_nil (then_n ?_)
 refine w_seq ?_
 refine w_cond hK rfl (fun hb1 => ?_) (fun hb1 => ?_)
 ·
  replace hK := hK.more (t := 9) (v' := .bool true) rfl (by rw [hb1])
  replace h := ite_t (of_decide_eq_true hb1) h
  refine wpIn_skip ?_
  refine then_n ?_
  refine w_seq ?_
  refine wpIn_block ?_
  refine w_seq (w_region ?_)
  refine qp 10 (.int .i64 s1) hK fun fr hK => ?_
  refine qp 5 (.int .i64 s1) hK fun fr hK => ?_
  refine wpListIn_nil (then_n ?_)
  refine w_seq (w_region ?_)
  refine qp 11 (.func (.func 86) #[] #[.pointer (some ⟨a1_0_b, 0, none⟩)]) hK fun fr hK => ?_
  refine qp 12 (.slice a0_a a0.length a0_c) hK fun fr hK => ?_
  refine qp 13 (.int .i64 s1) hK fun fr hK => ?_
  replace a0_f := Els.mono rep_G_Command a0_f l1
  obtain ⟨x2, hy1, h⟩ := bind_some h
  refine qo 14 hK (s_idx elT25_2 a0_f hy1 hK.at_ rfl rfl rfl ?_)
  clear hK fr; intro b1 p1 cs1 hR1 hA1 fr hK
  obtain ⟨e1_data_a, e1_data_c, rfl, e1_data_f⟩ := hR1
  refine qo 15 hK (s_loadAtN [.int .i64 x2.kind, .int .i64 x2.to, .int .i64 x2.from_, .int .i64 x2.len, .slice e1_data_a x2.data.length e1_data_c] hK.at_ hA1 0 rfl rfl rfl (by kernel_rfl) (by kernel_rfl) ?_)
  clear hK fr; intro fr hK
  obtain ⟨y1, hy2, h⟩ := bind_some h
  replace hS : St _ m m1 [.box a1_0_b #[.int .i64 a1] a1_0_T] := hS
  refine qo 16 hK (s_callM (R := [.box a1_0_b #[.int .i64 a1] a1_0_T]) (L := []) hK.at_ hS ent86_2 rfl rfl rfl rfl (G.delta_Find_1_spec e1_data_f hy2 (Ow.left (L := [.box a1_0_b #[.int .i64 a1] a1_0_T]) hS.ow)) (by kernel_rfl) ?_)
  clear hK fr hS; rintro _ m2 _ l2 hS ⟨rfl, rfl⟩ fr hK
  replace hS : St _ m m2 [.box a1_0_b #[.int .i64 a1] a1_0_T] := hS
  refine wpListIn_nil (then_n ?_)
  refine w_cond hK rfl (fun hb2 => ?_) (fun hb2 => ?_)
  ·
   replace hK := hK.more (t := 16) (v' := .bool true) rfl (by rw [hb2])
   replace h := ite_t (hb2) h
   refine w_seq (w_region ?_)
   refine qp 17 (.int .i64 s1) hK fun fr hK => ?_
   refine qp 4 (.int .i64 s1) hK fun fr hK => ?_
   refine wpListIn_nil (then_n ?_)
   refine wpIn_ret ?_
   refine blk_r ?_
   refine then_r ?_
   refine then_r ?_
   refine blk_r ?_
   refine then_r ?_
   replace h := Option.some.inj h; subst h
   replace h := Option.some.inj (loop_out hn1); subst h
   replace hS : St _ m m2 [.box a1_0_b #[.int .i64 a1] a1_0_T] := hS
   refine ret_of [.tmp 4] [.int .i64 s1] rfl hK (.tmp rfl .nil) hS ?_
   exact ⟨rfl, rfl⟩
  ·
   replace hK := hK.more (t := 16) (v' := .bool false) rfl (by rw [hb2])
   replace h := ite_f (ne_true_of_eq_false hb2) h
   refine wpIn_skip ?_
   refine blk_n ?_
   refine then_n ?_
   refine w_region ?_
   refine qp 18 (.int .i64 (IntKind.i64.wrap (s1 + 1))) hK fun fr hK => ?_
   refine qp 8 (.int .i64 (IntKind.i64.wrap (s1 + 1))) hK fun fr hK => ?_
   refine wpListIn_nil (then_n ?_)
   replace hS : St _ m m2 [.box a1_0_b #[.int .i64 a1] a1_0_T] := hS
   replace h := Option.some.inj h; subst h
   obtain ⟨kq, hk1, hk2⟩ := hn1
   exact ⟨kq, hk1, _, hk2, m2, rfl, hK.only [0, 1, 7, 8], l1.trans l2, hS⟩
 ·
  replace hK := hK.more (t := 9) (v' := .bool false) rfl (by rw [hb1])
  replace h := ite_f (of_decide_eq_false hb1) h
  refine wpIn_exit ?_
  refine then_x ?_
  refine then_x ?_
  refine blk_e ?_
  refine then_n ?_
  refine w_seq (w_region ?_)
  refine qp 4 (.int .i64 (-1)) hK fun fr hK => ?_
  refine wpListIn_nil (then_n ?_)
  refine wpIn_ret ?_
  replace h := Option.some.inj h; subst h
  replace h := Option.some.inj (loop_out hn1); subst h
  replace hS : St _ m m1 [.box a1_0_b #[.int .i64 a1] a1_0_T] := hS
  refine ret_of [.tmp 4] [.int .i64 (-1)] rfl hK (.tmp rfl .nil) hS ?_
  exact ⟨rfl, rfl⟩
set_option maxRecDepth 100000 in
set_option maxHeartbeats 1000000 in
theorem G.delta_Find_spec {m : Mem} {a0 : G.Delta} {a0_commands_a : Option Addr} {a0_commands_c : Nat} {a1 : Int} (a0_commands_f : Els is_G_Command m 5 a0_commands_a a0_commands_c a0.commands) {r : Int} (h : G.delta_Find a0 a1 = some r) :
  Spec Try.prog 59 #[.agg (G_Delta_cells a0 a0_commands_a a0_commands_c), .int .i64 a1] m [] fun v m' L => L = [] ∧ v = .int .i64 r := by
 unfold G.delta_Find at h
 refine enter (args := [_, _]) 9 Try.func59 rfl rfl (by simp) fun fr hK => ?_
 have hS := St.refl (Ow.nil m)
 replace hK : Kn 9 fr [(0, .agg (G_Delta_cells a0 a0_commands_a a0_commands_c)), (1, .int .i64 a1)] := hK
 refine w_seq (w_region ?_)
 refine qo 2 hK (s_box hK.at_ hS rfl rfl ?_)
 clear hK fr hS; intro m1 b1 b1z l1 hS fr hK
 refine qo 3 hK (s_box hK.at_ hS rfl rfl ?_)
 clear hK fr hS; intro m2 b2 b2z l2 hS fr hK
 replace hS : St _ m m2 [.box b2 #[.int .i64 a1] 3, .box b1 (G_Delta_cells a0 a0_commands_a a0_commands_c) 27] := hS
 refine qp 4 (.int .i64 0) hK fun fr hK => ?_
 refine wpListIn_nil (then_n ?_)
 refine w_seq (w_region ?_)
 refine qp 5 (.pointer (some ⟨b1, 66, none⟩)) hK fun fr hK => ?_
 refine qo 6 hK (s_load hK.at_ hS 1 rfl rfl rfl rfl (by kernel_rfl) ?_)
 clear hK fr; intro fr hK
 refine qp 7 (.func (.func 86) #[] #[.pointer (some ⟨b2, 0, none⟩)]) hK fun fr hK => ?_
 replace a0_commands_f := Els.mono rep_G_Command a0_commands_f (l1.trans l2)
 obtain ⟨y1, hy1, h⟩ := bind_some h
 replace hS : St _ m m2 [.box b2 #[.int .i64 a1] 3, .box b1 (G_Delta_cells a0 a0_commands_a a0_commands_c) 27] := hS
 refine qo 8 hK (s_callM (R := [.box b2 #[.int .i64 a1] 3]) (L := [.box b1 (G_Delta_cells a0 a0_commands_a a0_commands_c) 27]) hK.at_ hS ent85_2 rfl rfl rfl rfl (G.slices_IndexFunc_api_Command_api_Command_delta_Find_1_spec a0_commands_f hy1 (Ow.left (L := [.box b2 #[.int .i64 a1] 3]) hS.ow)) (by kernel_rfl) ?_)
 clear hK fr hS; rintro _ m3 _ l3 hS ⟨rfl, rfl⟩ fr hK
 replace hS : St _ m m3 [.box b2 #[.int .i64 a1] 3, .box b1 (G_Delta_cells a0 a0_commands_a a0_commands_c) 27] := hS
 refine qp 4 (.int .i64 y1) hK fun fr hK => ?_
 refine wpListIn_nil (then_n ?_)
 refine wpIn_ret ?_
 replace h := Option.some.inj h; subst h
 refine ret_of [.tmp 4] [.int .i64 y1] rfl hK (.tmp rfl .nil) hS.dropAll ?_
 exact ⟨rfl, rfl⟩
set_option maxRecDepth 100000 in
set_option maxHeartbeats 1000000 in
theorem G.delta_Valid_spec {m : Mem} {a0 : G.Delta} {a0_commands_a : Option Addr} {a0_commands_c : Nat} (a0_commands_f : Els is_G_Command m 5 a0_commands_a a0_commands_c a0.commands) {r : Bool} (h : G.delta_Valid a0 = some r) :
  Spec Try.prog 26 #[.agg (G_Delta_cells a0 a0_commands_a a0_commands_c)] m [] fun v m' L => L = [] ∧ v = .bool r := by
 unfold G.delta_Valid at h
 refine enter (args := [_]) 7 Try.func26 rfl rfl (by simp) fun fr hK => ?_
 have hS := St.refl (Ow.nil m)
 replace hK : Kn 7 fr [(0, .agg (G_Delta_cells a0 a0_commands_a a0_commands_c))] := hK
 refine w_seq (w_region ?_)
 refine qo 1 hK (s_box hK.at_ hS rfl rfl ?_)
 clear hK fr hS; intro m1 b1 b1z l1 hS fr hK
 replace hS : St _ m m1 [.box b1 (G_Delta_cells a0 a0_commands_a a0_commands_c) 27] := hS
 refine qp 2 (.bool false) hK fun fr hK => ?_
 refine wpListIn_nil (then_n ?_)
 refine w_seq (w_region ?_)
 refine qo 3 hK (s_loadAll hK.at_ hS 0 rfl rfl rfl (by kernel_rfl) ?_)
 clear hK fr; intro fr hK
 replace a0_commands_f := Els.mono rep_G_Command a0_commands_f l1
 obtain ⟨y1, hy1, h⟩ := bind_some h
 refine qo 4 hK (s_call hK.at_ hS ent25_2 rfl rfl rfl rfl (G.delta_Check_spec a0_commands_f hy1) (by kernel_rfl) ?_)
 clear hK fr hS; rintro _ m2 _ l2 hS ⟨rfl, rfl⟩ fr hK
 replace hS : St _ m m2 [.box b1 (G_Delta_cells a0 a0_commands_a a0_commands_c) 27] := hS
 refine qp 5 (.agg #[.int .i64 0, .int .i64 0]) hK fun fr hK => ?_
 refine qr 6 (.bool (decide (y1.code = 0 ∧ y1.at_ = 0))) hK (by exact run_binAgg rfl rfl rfl (by kernel_rfl) (eqT30_2 _ _ _ _ _)) ?_
 clear hK fr; intro fr hK
 refine qp 2 (.bool (decide (y1.code = 0 ∧ y1.at_ = 0))) hK fun fr hK => ?_
 refine wpListIn_nil (then_n ?_)
 refine wpIn_ret ?_
 replace h := Option.some.inj h; subst h
 refine ret_of [.tmp 2] [.bool (decide (y1.code = 0 ∧ y1.at_ = 0))] rfl hK (.tmp rfl .nil) hS.dropAll ?_
 exact ⟨rfl, rfl⟩
set_option maxRecDepth 100000 in
set_option maxHeartbeats 1000000 in
theorem G.graftlaw05_alive_spec {m : Mem} {r : Bool} (h : G.graftlaw05_alive = some r) :
  Spec Try.prog 23 #[] m [] fun v m' L => L = [] ∧ v = .bool r := by
 unfold G.graftlaw05_alive at h
 refine enter (args := []) 34 Try.func23 rfl rfl (by simp) fun fr hK => ?_
 have hS := St.refl (Ow.nil m)
 replace hK : Kn 34 fr [] := hK
 refine w_seq (w_region ?_)
 refine qp 0 (.bool false) hK fun fr hK => ?_
 refine wpListIn_nil (then_n ?_)
 refine w_seq (w_region ?_)
 refine qp 4 (.agg #[.int .i64 1, .int .i64 2, .int .i64 0, .int .i64 4, .slice none 0 0]) hK fun fr hK => ?_
 refine qo 1 hK (s_alloc (.agg #[.int .i64 0, .int .i64 0, .int .i64 0, .int .i64 0, .slice none 0 0]) hK.at_ hS rfl (by kernel_rfl) ?_)
 clear hK fr hS; intro m1 b1 b1z l1 hS fr hK
 refine qo0 hK (s_storeAll hK.at_ 0 hS rfl rfl rfl rfl (by kernel_rfl) (by kernel_rfl) (by kernel_rfl) ?_)
 clear hK fr hS; intro m2 l2 hS fr hK
 replace hS : St _ m m2 [.box b1 #[.int .i64 1, .int .i64 2, .int .i64 0, .int .i64 4, .slice none 0 0] 50] := hS
 refine wpListIn_nil (then_n ?_)
 refine w_seq (w_region ?_)
 refine qo 5 hK (s_buildRow (elem := 5) #[.int .u8 97, .int .u8 98] hK.at_ hS rfl (by kernel_rfl) (by kernel_rfl) ?_)
 clear hK fr hS; intro m3 b2 l3 hS hA1 fr hK
 have f1 : Els isU8 m3 1 (some ⟨b2, 0, none⟩) 2 ([(97 : UInt8), (98 : UInt8)] : List UInt8) := els_lit rep_U8 [[.int .u8 97], [.int .u8 98]] hA1 (by simp) (by decide) (.cons rfl (.cons rfl .nil))
 replace hS : St _ m m3 [rowOf 5 1 (some b2) 2 ([(97 : UInt8), (98 : UInt8)] : List UInt8), .box b1 #[.int .i64 1, .int .i64 2, .int .i64 0, .int .i64 4, .slice none 0 0] 50] := hS
 replace hK : Kn 34 fr [(5, .slice (adr (some b2)) (([(97 : UInt8), (98 : UInt8)] : List UInt8).length) 2), (1, .pointer (some ⟨b1, 0, none⟩)), (4, .agg #[.int .i64 1, .int .i64 2, .int .i64 0, .int .i64 4, .slice none 0 0]), (0, .bool false)] := hK.only [5, 1, 4, 0]
 refine qo 6 hK (s_stringishRow hK.at_ hS rfl rfl Try.underlying22 Try.underlying5 ?_)
 clear hK fr hS; intro m4 l4 hS fr hK
 refine qp 7 (.agg #[.int .i64 2, .int .i64 0, .int .i64 0, .int .i64 0, .slice (adr (some b2)) (([(97 : UInt8), (98 : UInt8)] : List UInt8).length) 2]) hK fun fr hK => ?_
 refine qo 2 hK (s_alloc (.agg #[.int .i64 0, .int .i64 0, .int .i64 0, .int .i64 0, .slice none 0 0]) hK.at_ hS rfl (by kernel_rfl) ?_)
 clear hK fr hS; intro m5 b3 b3z l5 hS fr hK
 refine qo0 hK (s_storeAll hK.at_ 0 hS rfl rfl rfl rfl (by kernel_rfl) (by kernel_rfl) (by kernel_rfl) ?_)
 clear hK fr hS; intro m6 l6 hS fr hK
 replace hS : St _ m m6 [.box b3 #[.int .i64 2, .int .i64 0, .int .i64 0, .int .i64 0, .slice (adr (some b2)) (([(97 : UInt8), (98 : UInt8)] : List UInt8).length) 2] 50, .box b1 #[.int .i64 1, .int .i64 2, .int .i64 0, .int .i64 4, .slice none 0 0] 50] := hS
 refine wpListIn_nil (then_n ?_)
 refine w_seq (w_region ?_)
 refine qo 8 hK (s_loadAll hK.at_ hS 1 rfl rfl rfl (by kernel_rfl) ?_)
 clear hK fr; intro fr hK
 refine qo 9 hK (s_loadAll hK.at_ hS 0 rfl rfl rfl (by kernel_rfl) ?_)
 clear hK fr; intro fr hK
 refine qo 10 hK (s_buildSlice (elem := 50) #[.int .i64 1, .int .i64 2, .int .i64 0, .int .i64 4, .slice none 0 0, .int .i64 2, .int .i64 0, .int .i64 0, .int .i64 0, .slice (adr (some b2)) (([(97 : UInt8), (98 : UInt8)] : List UInt8).length) 2] hK.at_ hS rfl (by kernel_rfl) (by kernel_rfl) ?_)
 clear hK fr hS; intro m7 b4 b4z b4n l7 hS hA2 fr hK
 replace hS : St _ m m7 [.box b3 #[.int .i64 2, .int .i64 0, .int .i64 0, .int .i64 0, .slice (adr (some b2)) (([(97 : UInt8), (98 : UInt8)] : List UInt8).length) 2] 50, .box b1 #[.int .i64 1, .int .i64 2, .int .i64 0, .int .i64 4, .slice none 0 0] 50] := hS
 replace f1 := Els.mono rep_U8 f1 (l4.trans (l5.trans (l6.trans l7)))
 have f2 : Els is_G_Command m7 5 (some ⟨b4, 0, none⟩) 2 ([(⟨1, 2, 0, 4, ([] : List UInt8)⟩ : G.Command), (⟨2, 0, 0, 0, ([(97 : UInt8), (98 : UInt8)] : List UInt8)⟩ : G.Command)] : List G.Command) := els_lit rep_G_Command [[.int .i64 1, .int .i64 2, .int .i64 0, .int .i64 4, .slice none 0 0], [.int .i64 2, .int .i64 0, .int .i64 0, .int .i64 0, .slice (adr (some b2)) (([(97 : UInt8), (98 : UInt8)] : List UInt8).length) 2]] hA2 (by simp) (by decide) (.cons ⟨none, 0, rfl, (Els.nil m7 1)⟩ (.cons ⟨(adr (some b2)), 2, rfl, f1⟩ .nil))
 replace hK : Kn 34 fr [(10, .slice (some ⟨b4, 0, none⟩) (([(⟨1, 2, 0, 4, ([] : List UInt8)⟩ : G.Command), (⟨2, 0, 0, 0, ([(97 : UInt8), (98 : UInt8)] : List UInt8)⟩ : G.Command)] : List G.Command).length) 2), (9, .agg #[.int .i64 2, .int .i64 0, .int .i64 0, .int .i64 0, .slice (adr (some b2)) (([(97 : UInt8), (98 : UInt8)] : List UInt8).length) 2]), (8, .agg #[.int .i64 1, .int .i64 2, .int .i64 0, .int .i64 4, .slice none 0 0]), (2, .pointer (some ⟨b3, 0, none⟩)), (7, .agg #[.int .i64 2, .int .i64 0, .int .i64 0, .int .i64 0, .slice (adr (some b2)) (([(97 : UInt8), (98 : UInt8)] : List UInt8).length) 2]), (6, .slice (adr (some b2)) (([(97 : UInt8), (98 : UInt8)] : List UInt8).length) 2), (5, .slice (adr (some b2)) (([(97 : UInt8), (98 : UInt8)] : List UInt8).length) 2), (1, .pointer (some ⟨b1, 0, none⟩)), (4, .agg #[.int .i64 1, .int .i64 2, .int .i64 0, .int .i64 4, .slice none 0 0]), (0, .bool false)] := hK.only [10, 9, 8, 2, 7, 6, 5, 1, 4, 0]
 refine qp 11 (.agg (G_Delta_cells (⟨4, 6, (fun _ => (0 : UInt8)), (fun _ => (0 : UInt8)), ([(⟨1, 2, 0, 4, ([] : List UInt8)⟩ : G.Command), (⟨2, 0, 0, 0, ([(97 : UInt8), (98 : UInt8)] : List UInt8)⟩ : G.Command)] : List G.Command)⟩ : G.Delta) (some ⟨b4, 0, none⟩) 2)) hK fun fr hK => ?_
 refine qo 3 hK (s_alloc (.agg #[.int .i64 0, .int .i64 0, .int .u8 0, .int .u8 0, .int .u8 0, .int .u8 0, .int .u8 0, .int .u8 0, .int .u8 0, .int .u8 0, .int .u8 0, .int .u8 0, .int .u8 0, .int .u8 0, .int .u8 0, .int .u8 0, .int .u8 0, .int .u8 0, .int .u8 0, .int .u8 0, .int .u8 0, .int .u8 0, .int .u8 0, .int .u8 0, .int .u8 0, .int .u8 0, .int .u8 0, .int .u8 0, .int .u8 0, .int .u8 0, .int .u8 0, .int .u8 0, .int .u8 0, .int .u8 0, .int .u8 0, .int .u8 0, .int .u8 0, .int .u8 0, .int .u8 0, .int .u8 0, .int .u8 0, .int .u8 0, .int .u8 0, .int .u8 0, .int .u8 0, .int .u8 0, .int .u8 0, .int .u8 0, .int .u8 0, .int .u8 0, .int .u8 0, .int .u8 0, .int .u8 0, .int .u8 0, .int .u8 0, .int .u8 0, .int .u8 0, .int .u8 0, .int .u8 0, .int .u8 0, .int .u8 0, .int .u8 0, .int .u8 0, .int .u8 0, .int .u8 0, .int .u8 0, .slice none 0 0]) hK.at_ hS rfl (by kernel_rfl) ?_)
 clear hK fr hS; intro m8 b5 b5z l8 hS fr hK
 refine qo0 hK (s_storeAll hK.at_ 0 hS rfl rfl rfl rfl (by kernel_rfl) (by kernel_rfl) (by kernel_rfl) ?_)
 clear hK fr hS; intro m9 l9 hS fr hK
 replace hS : St _ m m9 [.box b5 (G_Delta_cells (⟨4, 6, (fun _ => (0 : UInt8)), (fun _ => (0 : UInt8)), ([(⟨1, 2, 0, 4, ([] : List UInt8)⟩ : G.Command), (⟨2, 0, 0, 0, ([(97 : UInt8), (98 : UInt8)] : List UInt8)⟩ : G.Command)] : List G.Command)⟩ : G.Delta) (some ⟨b4, 0, none⟩) 2) 27, .box b3 #[.int .i64 2, .int .i64 0, .int .i64 0, .int .i64 0, .slice (adr (some b2)) (([(97 : UInt8), (98 : UInt8)] : List UInt8).length) 2] 50, .box b1 #[.int .i64 1, .int .i64 2, .int .i64 0, .int .i64 4, .slice none 0 0] 50] := hS
 refine wpListIn_nil (then_n ?_)
 refine w_seq (w_region ?_)
 refine qo 12 hK (s_loadAll hK.at_ hS 0 rfl rfl rfl (by kernel_rfl) ?_)
 clear hK fr; intro fr hK
 replace f2 := Els.mono rep_G_Command f2 (l8.trans l9)
 obtain ⟨y1, hy1, h⟩ := bind_some h
 refine qo 13 hK (s_call hK.at_ hS ent25_2 rfl rfl rfl rfl (G.delta_Check_spec f2 hy1) (by kernel_rfl) ?_)
 clear hK fr hS; rintro _ m10 _ l10 hS ⟨rfl, rfl⟩ fr hK
 replace hS : St _ m m10 [.box b5 (G_Delta_cells (⟨4, 6, (fun _ => (0 : UInt8)), (fun _ => (0 : UInt8)), ([(⟨1, 2, 0, 4, ([] : List UInt8)⟩ : G.Command), (⟨2, 0, 0, 0, ([(97 : UInt8), (98 : UInt8)] : List UInt8)⟩ : G.Command)] : List G.Command)⟩ : G.Delta) (some ⟨b4, 0, none⟩) 2) 27, .box b3 #[.int .i64 2, .int .i64 0, .int .i64 0, .int .i64 0, .slice (adr (some b2)) (([(97 : UInt8), (98 : UInt8)] : List UInt8).length) 2] 50, .box b1 #[.int .i64 1, .int .i64 2, .int .i64 0, .int .i64 4, .slice none 0 0] 50] := hS
 refine qp 14 (.agg #[.int .i64 0, .int .i64 0]) hK fun fr hK => ?_
 refine qr 15 (.bool (decide (y1.code = 0 ∧ y1.at_ = 0))) hK (by exact run_binAgg rfl rfl rfl (by kernel_rfl) (eqT30_2 _ _ _ _ _)) ?_
 clear hK fr; intro fr hK
 refine qp 16 (.bool (decide (y1.code = 0 ∧ y1.at_ = 0))) hK fun fr hK => ?_
 refine split_b (x := decide (y1.code = 0 ∧ y1.at_ = 0)) (fun hb1 => ?_) (fun hb1 => ?_)
 ·
  replace hK := hK.more (t := 16) (v' := .bool true) rfl (by rw [hb1])
  replace hK := hK.more (t := 15) (v' := .bool true) rfl (by rw [hb1])
  replace h := ite_t (of_decide_eq_true hb1) h
  refine qo 17 hK (s_loadAll hK.at_ hS 0 rfl rfl rfl (by kernel_rfl) ?_)
  clear hK fr; intro fr hK
  refine qo 18 hK (s_loadAll hK.at_ hS 2 rfl rfl rfl (by kernel_rfl) ?_)
  clear hK fr; intro fr hK
  refine qo 19 hK (s_buildSlice (elem := 50) #[.int .i64 1, .int .i64 2, .int .i64 0, .int .i64 4, .slice none 0 0] hK.at_ hS rfl (by kernel_rfl) (by kernel_rfl) ?_)
  clear hK fr hS; intro m11 b6 b6z b6n l11 hS hA3 fr hK
  replace hS : St _ m m11 [.box b5 (G_Delta_cells (⟨4, 6, (fun _ => (0 : UInt8)), (fun _ => (0 : UInt8)), ([(⟨1, 2, 0, 4, ([] : List UInt8)⟩ : G.Command), (⟨2, 0, 0, 0, ([(97 : UInt8), (98 : UInt8)] : List UInt8)⟩ : G.Command)] : List G.Command)⟩ : G.Delta) (some ⟨b4, 0, none⟩) 2) 27, .box b3 #[.int .i64 2, .int .i64 0, .int .i64 0, .int .i64 0, .slice (adr (some b2)) (([(97 : UInt8), (98 : UInt8)] : List UInt8).length) 2] 50, .box b1 #[.int .i64 1, .int .i64 2, .int .i64 0, .int .i64 4, .slice none 0 0] 50] := hS
  have f3 : Els is_G_Command m11 5 (some ⟨b6, 0, none⟩) 1 ([(⟨1, 2, 0, 4, ([] : List UInt8)⟩ : G.Command)] : List G.Command) := els_lit rep_G_Command [[.int .i64 1, .int .i64 2, .int .i64 0, .int .i64 4, .slice none 0 0]] hA3 (by simp) (by decide) (.cons ⟨none, 0, rfl, (Els.nil m11 1)⟩ .nil)
  replace hK : Kn 34 fr [(19, .slice (some ⟨b6, 0, none⟩) (([(⟨1, 2, 0, 4, ([] : List UInt8)⟩ : G.Command)] : List G.Command).length) 1), (18, .agg #[.int .i64 1, .int .i64 2, .int .i64 0, .int .i64 4, .slice none 0 0]), (17, .agg (G_Delta_cells (⟨4, 6, (fun _ => (0 : UInt8)), (fun _ => (0 : UInt8)), ([(⟨1, 2, 0, 4, ([] : List UInt8)⟩ : G.Command), (⟨2, 0, 0, 0, ([(97 : UInt8), (98 : UInt8)] : List UInt8)⟩ : G.Command)] : List G.Command)⟩ : G.Delta) (some ⟨b4, 0, none⟩) 2)), (15, .bool true), (16, .bool true), (14, .agg #[.int .i64 0, .int .i64 0]), (13, .agg #[.int .i64 y1.code, .int .i64 y1.at_]), (12, .agg (G_Delta_cells (⟨4, 6, (fun _ => (0 : UInt8)), (fun _ => (0 : UInt8)), ([(⟨1, 2, 0, 4, ([] : List UInt8)⟩ : G.Command), (⟨2, 0, 0, 0, ([(97 : UInt8), (98 : UInt8)] : List UInt8)⟩ : G.Command)] : List G.Command)⟩ : G.Delta) (some ⟨b4, 0, none⟩) 2)), (3, .pointer (some ⟨b5, 0, none⟩)), (11, .agg (G_Delta_cells (⟨4, 6, (fun _ => (0 : UInt8)), (fun _ => (0 : UInt8)), ([(⟨1, 2, 0, 4, ([] : List UInt8)⟩ : G.Command), (⟨2, 0, 0, 0, ([(97 : UInt8), (98 : UInt8)] : List UInt8)⟩ : G.Command)] : List G.Command)⟩ : G.Delta) (some ⟨b4, 0, none⟩) 2)), (10, .slice (some ⟨b4, 0, none⟩) (([(⟨1, 2, 0, 4, ([] : List UInt8)⟩ : G.Command), (⟨2, 0, 0, 0, ([(97 : UInt8), (98 : UInt8)] : List UInt8)⟩ : G.Command)] : List G.Command).length) 2), (9, .agg #[.int .i64 2, .int .i64 0, .int .i64 0, .int .i64 0, .slice (adr (some b2)) (([(97 : UInt8), (98 : UInt8)] : List UInt8).length) 2]), (8, .agg #[.int .i64 1, .int .i64 2, .int .i64 0, .int .i64 4, .slice none 0 0]), (2, .pointer (some ⟨b3, 0, none⟩)), (7, .agg #[.int .i64 2, .int .i64 0, .int .i64 0, .int .i64 0, .slice (adr (some b2)) (([(97 : UInt8), (98 : UInt8)] : List UInt8).length) 2]), (6, .slice (adr (some b2)) (([(97 : UInt8), (98 : UInt8)] : List UInt8).length) 2), (5, .slice (adr (some b2)) (([(97 : UInt8), (98 : UInt8)] : List UInt8).length) 2), (1, .pointer (some ⟨b1, 0, none⟩)), (4, .agg #[.int .i64 1, .int .i64 2, .int .i64 0, .int .i64 4, .slice none 0 0]), (0, .bool false)] := hK.only [19, 18, 17, 15, 16, 14, 13, 12, 3, 11, 10, 9, 8, 2, 7, 6, 5, 1, 4, 0]
  replace f2 := Els.mono rep_G_Command f2 (l10.trans l11)
  obtain ⟨y2, hy2, h⟩ := bind_some h
  refine qo 20 hK (s_call hK.at_ hS ent28_2 rfl rfl rfl rfl (G.delta_With_spec f2 f3 hy2) (by kernel_rfl) ?_)
  clear hK fr hS; rintro _ m12 _ l12 hS ⟨c2r0_commands_g, c2r0_commands_c, rfl, rfl, c2r0_commands_f⟩ fr hK
  replace hS : St _ m m12 [rowOf 50 5 c2r0_commands_g c2r0_commands_c y2.commands, .box b5 (G_Delta_cells (⟨4, 6, (fun _ => (0 : UInt8)), (fun _ => (0 : UInt8)), ([(⟨1, 2, 0, 4, ([] : List UInt8)⟩ : G.Command), (⟨2, 0, 0, 0, ([(97 : UInt8), (98 : UInt8)] : List UInt8)⟩ : G.Command)] : List G.Command)⟩ : G.Delta) (some ⟨b4, 0, none⟩) 2) 27, .box b3 #[.int .i64 2, .int .i64 0, .int .i64 0, .int .i64 0, .slice (adr (some b2)) (([(97 : UInt8), (98 : UInt8)] : List UInt8).length) 2] 50, .box b1 #[.int .i64 1, .int .i64 2, .int .i64 0, .int .i64 4, .slice none 0 0] 50] := hS
  obtain ⟨y3, hy3, h⟩ := bind_some h
  refine qo 21 hK (s_call hK.at_ hS ent25_2 rfl rfl rfl rfl (G.delta_Check_spec c2r0_commands_f hy3) (by kernel_rfl) ?_)
  clear hK fr hS; rintro _ m13 _ l13 hS ⟨rfl, rfl⟩ fr hK
  replace hS : St _ m m13 [rowOf 50 5 c2r0_commands_g c2r0_commands_c y2.commands, .box b5 (G_Delta_cells (⟨4, 6, (fun _ => (0 : UInt8)), (fun _ => (0 : UInt8)), ([(⟨1, 2, 0, 4, ([] : List UInt8)⟩ : G.Command), (⟨2, 0, 0, 0, ([(97 : UInt8), (98 : UInt8)] : List UInt8)⟩ : G.Command)] : List G.Command)⟩ : G.Delta) (some ⟨b4, 0, none⟩) 2) 27, .box b3 #[.int .i64 2, .int .i64 0, .int .i64 0, .int .i64 0, .slice (adr (some b2)) (([(97 : UInt8), (98 : UInt8)] : List UInt8).length) 2] 50, .box b1 #[.int .i64 1, .int .i64 2, .int .i64 0, .int .i64 4, .slice none 0 0] 50] := hS
  refine qp 22 (.agg #[.int .i64 3, .int .i64 0]) hK fun fr hK => ?_
  refine qr 23 (.bool (decide (y3.code = 3 ∧ y3.at_ = 0))) hK (by exact run_binAgg rfl rfl rfl (by kernel_rfl) (eqT30_2 _ _ _ _ _)) ?_
  clear hK fr; intro fr hK
  refine qp 24 (.bool (decide (y3.code = 3 ∧ y3.at_ = 0))) hK fun fr hK => ?_
  refine qp 25 (.bool (decide (y3.code = 3 ∧ y3.at_ = 0))) hK fun fr hK => ?_
  refine split_b (x := decide (y3.code = 3 ∧ y3.at_ = 0)) (fun hb2 => ?_) (fun hb2 => ?_)
  ·
   replace hK := hK.more (t := 25) (v' := .bool true) rfl (by rw [hb2])
   replace hK := hK.more (t := 24) (v' := .bool true) rfl (by rw [hb2])
   replace hK := hK.more (t := 23) (v' := .bool true) rfl (by rw [hb2])
   replace h := ite_t (of_decide_eq_true hb2) h
   refine qo 26 hK (s_loadAll hK.at_ hS 1 rfl rfl rfl (by kernel_rfl) ?_)
   clear hK fr; intro fr hK
   replace f2 := Els.mono rep_G_Command f2 (l12.trans l13)
   obtain ⟨y4, hy4, h⟩ := bind_some h
   refine qo 27 hK (s_call hK.at_ hS ent59_2 rfl rfl rfl rfl (G.delta_Find_spec f2 hy4) (by kernel_rfl) ?_)
   clear hK fr hS; rintro _ m14 _ l14 hS ⟨rfl, rfl⟩ fr hK
   replace hS : St _ m m14 [rowOf 50 5 c2r0_commands_g c2r0_commands_c y2.commands, .box b5 (G_Delta_cells (⟨4, 6, (fun _ => (0 : UInt8)), (fun _ => (0 : UInt8)), ([(⟨1, 2, 0, 4, ([] : List UInt8)⟩ : G.Command), (⟨2, 0, 0, 0, ([(97 : UInt8), (98 : UInt8)] : List UInt8)⟩ : G.Command)] : List G.Command)⟩ : G.Delta) (some ⟨b4, 0, none⟩) 2) 27, .box b3 #[.int .i64 2, .int .i64 0, .int .i64 0, .int .i64 0, .slice (adr (some b2)) (([(97 : UInt8), (98 : UInt8)] : List UInt8).length) 2] 50, .box b1 #[.int .i64 1, .int .i64 2, .int .i64 0, .int .i64 4, .slice none 0 0] 50] := hS
   refine qp 28 (.bool (y4 == 1)) hK fun fr hK => ?_
   refine qp 29 (.bool (y4 == 1)) hK fun fr hK => ?_
   refine qp 30 (.bool (y4 == 1)) hK fun fr hK => ?_
   refine split_b (x := (y4 == 1)) (fun hb3 => ?_) (fun hb3 => ?_)
   ·
    replace hK := hK.more (t := 30) (v' := .bool true) rfl (by rw [hb3])
    replace hK := hK.more (t := 29) (v' := .bool true) rfl (by rw [hb3])
    replace hK := hK.more (t := 28) (v' := .bool true) rfl (by rw [hb3])
    replace h := ite_t (eq_of_beq hb3) h
    refine qo 31 hK (s_loadAll hK.at_ hS 1 rfl rfl rfl (by kernel_rfl) ?_)
    clear hK fr; intro fr hK
    replace f2 := Els.mono rep_G_Command f2 l14
    obtain ⟨y5, hy5, h⟩ := bind_some h
    refine qo 32 hK (s_call hK.at_ hS ent26_2 rfl rfl rfl rfl (G.delta_Valid_spec f2 hy5) (by kernel_rfl) ?_)
    clear hK fr hS; rintro _ m15 _ l15 hS ⟨rfl, rfl⟩ fr hK
    replace hS : St _ m m15 [rowOf 50 5 c2r0_commands_g c2r0_commands_c y2.commands, .box b5 (G_Delta_cells (⟨4, 6, (fun _ => (0 : UInt8)), (fun _ => (0 : UInt8)), ([(⟨1, 2, 0, 4, ([] : List UInt8)⟩ : G.Command), (⟨2, 0, 0, 0, ([(97 : UInt8), (98 : UInt8)] : List UInt8)⟩ : G.Command)] : List G.Command)⟩ : G.Delta) (some ⟨b4, 0, none⟩) 2) 27, .box b3 #[.int .i64 2, .int .i64 0, .int .i64 0, .int .i64 0, .slice (adr (some b2)) (([(97 : UInt8), (98 : UInt8)] : List UInt8).length) 2] 50, .box b1 #[.int .i64 1, .int .i64 2, .int .i64 0, .int .i64 4, .slice none 0 0] 50] := hS
    refine qp 33 (.bool y5) hK fun fr hK => ?_
    refine qp 0 (.bool y5) hK fun fr hK => ?_
    refine wpListIn_nil (then_n ?_)
    refine wpIn_ret ?_
    replace h := Option.some.inj h; subst h
    refine ret_of [.tmp 0] [.bool y5] rfl hK (.tmp rfl .nil) hS.dropAll ?_
    exact ⟨rfl, rfl⟩
   ·
    replace hK := hK.more (t := 30) (v' := .bool false) rfl (by rw [hb3])
    replace hK := hK.more (t := 29) (v' := .bool false) rfl (by rw [hb3])
    replace hK := hK.more (t := 28) (v' := .bool false) rfl (by rw [hb3])
    replace h := ite_f (ne_of_beq_false hb3) h
    refine qs 31 hK ?_
    clear hK fr; intro fr hK
    refine qs 32 hK ?_
    clear hK fr; intro fr hK
    refine qp 33 (.bool false) hK fun fr hK => ?_
    refine qp 0 (.bool false) hK fun fr hK => ?_
    refine wpListIn_nil (then_n ?_)
    refine wpIn_ret ?_
    replace h := Option.some.inj h; subst h
    refine ret_of [.tmp 0] [.bool false] rfl hK (.tmp rfl .nil) hS.dropAll ?_
    exact ⟨rfl, rfl⟩
  ·
   replace hK := hK.more (t := 25) (v' := .bool false) rfl (by rw [hb2])
   replace hK := hK.more (t := 24) (v' := .bool false) rfl (by rw [hb2])
   replace hK := hK.more (t := 23) (v' := .bool false) rfl (by rw [hb2])
   replace h := ite_f (of_decide_eq_false hb2) h
   refine qs 26 hK ?_
   clear hK fr; intro fr hK
   refine qs 27 hK ?_
   clear hK fr; intro fr hK
   refine qs 28 hK ?_
   clear hK fr; intro fr hK
   refine qp 29 (.bool false) hK fun fr hK => ?_
   refine qp 30 (.bool false) hK fun fr hK => ?_
   refine qs 31 hK ?_
   clear hK fr; intro fr hK
   refine qs 32 hK ?_
   clear hK fr; intro fr hK
   refine qp 33 (.bool false) hK fun fr hK => ?_
   refine qp 0 (.bool false) hK fun fr hK => ?_
   refine wpListIn_nil (then_n ?_)
   refine wpIn_ret ?_
   replace h := Option.some.inj h; subst h
   refine ret_of [.tmp 0] [.bool false] rfl hK (.tmp rfl .nil) hS.dropAll ?_
   exact ⟨rfl, rfl⟩
 ·
  replace hK := hK.more (t := 16) (v' := .bool false) rfl (by rw [hb1])
  replace hK := hK.more (t := 15) (v' := .bool false) rfl (by rw [hb1])
  replace h := ite_f (of_decide_eq_false hb1) h
  refine qs 17 hK ?_
  clear hK fr; intro fr hK
  refine qs 18 hK ?_
  clear hK fr; intro fr hK
  refine qs 19 hK ?_
  clear hK fr; intro fr hK
  refine qs 20 hK ?_
  clear hK fr; intro fr hK
  refine qs 21 hK ?_
  clear hK fr; intro fr hK
  refine qs 22 hK ?_
  clear hK fr; intro fr hK
  refine qs 23 hK ?_
  clear hK fr; intro fr hK
  refine qp 24 (.bool false) hK fun fr hK => ?_
  refine qp 25 (.bool false) hK fun fr hK => ?_
  refine qs 26 hK ?_
  clear hK fr; intro fr hK
  refine qs 27 hK ?_
  clear hK fr; intro fr hK
  refine qs 28 hK ?_
  clear hK fr; intro fr hK
  refine qp 29 (.bool false) hK fun fr hK => ?_
  refine qp 30 (.bool false) hK fun fr hK => ?_
  refine qs 31 hK ?_
  clear hK fr; intro fr hK
  refine qs 32 hK ?_
  clear hK fr; intro fr hK
  refine qp 33 (.bool false) hK fun fr hK => ?_
  refine qp 0 (.bool false) hK fun fr hK => ?_
  refine wpListIn_nil (then_n ?_)
  refine wpIn_ret ?_
  replace h := Option.some.inj h; subst h
  refine ret_of [.tmp 0] [.bool false] rfl hK (.tmp rfl .nil) hS.dropAll ?_
  exact ⟨rfl, rfl⟩
end Go.Proofs.Ytkalbidbhaalmaa
