/- The program computes the plain functions: graftlaw07_FormatCuts. Printed by a program. -/
import Derived.Test.YtkalbidbhaalmaaProg
import Derived.Test.YtkalbidbhaalmaaGs
import Derived.Test.YtkalbidbhaalmaaRep
import Derived.Test.YtkalbidbhaalmaaL2
import Derived.Test.YtkalbidbhaalmaaL3
import Derived.Test.YtkalbidbhaalmaaL4
namespace Go.Proofs.Ytkalbidbhaalmaa
open Go.RowKit G
theorem ent13_9 : Enters Try.prog 13 := enters_of Try.func13 (by decide +kernel) (by decide +kernel)
theorem ent14_9 : Enters Try.prog 14 := enters_of Try.func14 (by decide +kernel) (by decide +kernel)
theorem ent16_9 : Enters Try.prog 16 := enters_of Try.func16 (by decide +kernel) (by decide +kernel)
theorem ent17_9 : Enters Try.prog 17 := enters_of Try.func17 (by decide +kernel) (by decide +kernel)
theorem ent18_9 : Enters Try.prog 18 := enters_of Try.func18 (by decide +kernel) (by decide +kernel)
theorem ent20_9 : Enters Try.prog 20 := enters_of Try.func20 (by decide +kernel) (by decide +kernel)
theorem elT22_9 : ElemT Try.prog 22 5 (.int .u8 0) 1 1 := ⟨by kernel_rfl, by kernel_rfl, by kernel_rfl, by decide⟩
theorem eqT30_9 (x0 x1 y0 y1 : Int) (w : World) : (binOp .eql 30 (.agg #[.int .i64 x0, .int .i64 x1]) (.agg #[.int .i64 y0, .int .i64 y1])).run Try.prog w = .ok (.bool (decide (x0 = y0 ∧ x1 = y1))) w := by
  simp [go_sem]; repeat' split
  all_goals simp_all
theorem eqT30n_9 (x0 x1 y0 y1 : Int) (w : World) : (binOp .neq 30 (.agg #[.int .i64 x0, .int .i64 x1]) (.agg #[.int .i64 y0, .int .i64 y1])).run Try.prog w = .ok (.bool (!decide (x0 = y0 ∧ x1 = y1))) w := by
  simp [go_sem]; repeat' split
  all_goals simp_all
set_option maxRecDepth 100000 in
set_option maxHeartbeats 1000000 in
theorem G.graftlaw07_FormatCuts_spec {m : Mem} {a0 : G.Delta} {a0_commands_a : Option Addr} {a0_commands_c : Nat} {a1 : Int} (a0_commands_f : Els is_G_Command m 5 a0_commands_a a0_commands_c a0.commands) {r : Bool} (h : G.graftlaw07_FormatCuts a0 a1 = some r) :
  Spec Try.prog 5 #[.agg (G_Delta_cells a0 a0_commands_a a0_commands_c), .int .u16 a1] m [] fun v m' L => L = [] ∧ v = .bool r := by
 unfold G.graftlaw07_FormatCuts at h
 refine enter (args := [_, _]) 44 Try.func5 rfl rfl (by simp) fun fr hK => ?_
 have hS := St.refl (Ow.nil m)
 replace hK : Kn 44 fr [(0, .agg (G_Delta_cells a0 a0_commands_a a0_commands_c)), (1, .int .u16 a1)] := hK
 refine w_seq (w_region ?_)
 refine qo 2 hK (s_box hK.at_ hS rfl rfl ?_)
 clear hK fr hS; intro m1 b1 b1z l1 hS fr hK
 replace hS : St _ m m1 [.box b1 (G_Delta_cells a0 a0_commands_a a0_commands_c) 27] := hS
 refine qp 4 (.bool false) hK fun fr hK => ?_
 refine wpList_nil (then_n ?_)
 refine w_seq ?_
 refine w_seq ?_
 obtain ⟨v1, hv1, h⟩ := bind_some h
 refine w_join (fun fr ww => ∃ m2 : Mem, m2.w = ww ∧ Kn 44 fr [(1, .int .u16 a1), (2, .pointer (some ⟨b1, 0, none⟩)), (16, .bool v1)] ∧ Le m1 m2 ∧ St (blocksOf []) m m2 [.box b1 (G_Delta_cells a0 a0_commands_a a0_commands_c) 27]) ?_ ?_
 ·
  clear hK hS fr hv1
  rintro fr _ ⟨m2, rfl, hK, l2, hS⟩
  refine then_n ?_
  refine w_cond hK rfl (fun hb1 => ?_) (fun hb1 => ?_)
  ·
   replace hK := hK.more (t := 16) (v' := .bool true) rfl (by rw [hb1])
   replace h := ite_t (hb1) h
   refine w_seq (w_region ?_)
   obtain ⟨y1, hy1, h⟩ := bind_some h
   refine qo 17 hK (s_call hK.at_ hS ent13_9 rfl rfl rfl rfl (G.graftlaw07_alive_spec hy1) (by kernel_rfl) ?_)
   clear hK fr hS; rintro _ m3 _ l3 hS ⟨rfl, rfl⟩ fr hK
   replace hS : St _ m m3 [.box b1 (G_Delta_cells a0 a0_commands_a a0_commands_c) 27] := hS
   refine qp 4 (.bool y1) hK fun fr hK => ?_
   refine wpList_nil (then_n ?_)
   refine wp_ret ?_
   refine then_r ?_
   replace h := Option.some.inj h; subst h
   refine ret_of [.tmp 4] [.bool y1] rfl hK (.tmp rfl .nil) hS.dropAll ?_
   exact ⟨rfl, rfl⟩
  ·
   replace hK := hK.more (t := 16) (v' := .bool false) rfl (by rw [hb1])
   replace h := ite_f (ne_true_of_eq_false hb1) h
   refine wp_skip ?_
   refine then_n ?_
   refine w_seq (w_region ?_)
   refine qo 18 hK (s_loadAll hK.at_ hS 0 rfl rfl rfl (by kernel_rfl) ?_)
   clear hK fr; intro fr hK
   replace a0_commands_f := Els.mono rep_G_Command a0_commands_f (l1.trans l2)
   obtain ⟨y2, hy2, h⟩ := bind_some h
   refine qo 19 hK (s_call hK.at_ hS ent20_9 rfl rfl rfl rfl (G.graftref07_Encode_spec a0_commands_f hy2) (by kernel_rfl) ?_)
   clear hK fr hS; rintro _ m4 _ l4 hS ⟨c2r0_g, c2r0_c, rfl, rfl, c2r0_f⟩ fr hK
   replace hS : St _ m m4 [rowOf 5 1 c2r0_g c2r0_c y2, .box b1 (G_Delta_cells a0 a0_commands_a a0_commands_c) 27] := hS
   refine qp 5 (.slice (adr c2r0_g) y2.length c2r0_c) hK fun fr hK => ?_
   refine wpList_nil (then_n ?_)
   refine w_seq (w_region ?_)
   refine qp 20 (.int .u16 a1) hK fun fr hK => ?_
   refine qp 21 (.int .i64 (IntKind.i64.wrap a1)) hK fun fr hK => ?_
   refine qp 22 (.slice (adr c2r0_g) y2.length c2r0_c) hK fun fr hK => ?_
   refine qp 23 (.int .i64 (y2.length : Int)) hK fun fr hK => ?_
   obtain ⟨y3, hy3, h⟩ := bind_some h
   refine qr 24 (.int .i64 (Int.tmod (IntKind.i64.wrap a1) (y2.length : Int))) hK (by exact run_quo (chk_some hy3) rfl rfl rfl (.inr ⟨rfl, rfl⟩)) ?_
   clear hK fr; intro fr hK
   refine qp 6 (.int .i64 (Int.tmod (IntKind.i64.wrap a1) (y2.length : Int))) hK fun fr hK => ?_
   refine wpList_nil (then_n ?_)
   refine w_seq (w_region ?_)
   refine qp 26 (.slice (adr c2r0_g) y2.length c2r0_c) hK fun fr hK => ?_
   refine qp 27 (.int .i64 (Int.tmod (IntKind.i64.wrap a1) (y2.length : Int))) hK fun fr hK => ?_
   obtain ⟨x1, hy4, h⟩ := bind_some h
   refine qo 28 hK (s_slcTo elT22_9 c2r0_f hy4 hK.at_ rfl rfl rfl ?_)
   clear hK fr; intro ad1 cp1 f1 fr hK
   obtain ⟨y4, hy5, h⟩ := bind_some h
   refine qo 29 hK (s_call hK.at_ hS ent14_9 rfl rfl rfl rfl (G.format_Decode_spec f1 hy5) (by kernel_rfl) ?_)
   clear hK fr hS; rintro _ m5 _ l5 hS ⟨c3r0_commands_g, c3r0_commands_c, rfl, rfl, c3r0_commands_f⟩ fr hK
   refine qp 25 (.tuple #[.agg (G_Delta_cells y4.1 (adr c3r0_commands_g) c3r0_commands_c), .agg #[.int .i64 y4.2.code, .int .i64 y4.2.at_]]) hK fun fr hK => ?_
   refine qp 30 (.agg (G_Delta_cells y4.1 (adr c3r0_commands_g) c3r0_commands_c)) hK fun fr hK => ?_
   refine qp 31 (.agg #[.int .i64 y4.2.code, .int .i64 y4.2.at_]) hK fun fr hK => ?_
   refine qo 7 hK (s_alloc (.agg #[.int .i64 0, .int .i64 0, .int .u8 0, .int .u8 0, .int .u8 0, .int .u8 0, .int .u8 0, .int .u8 0, .int .u8 0, .int .u8 0, .int .u8 0, .int .u8 0, .int .u8 0, .int .u8 0, .int .u8 0, .int .u8 0, .int .u8 0, .int .u8 0, .int .u8 0, .int .u8 0, .int .u8 0, .int .u8 0, .int .u8 0, .int .u8 0, .int .u8 0, .int .u8 0, .int .u8 0, .int .u8 0, .int .u8 0, .int .u8 0, .int .u8 0, .int .u8 0, .int .u8 0, .int .u8 0, .int .u8 0, .int .u8 0, .int .u8 0, .int .u8 0, .int .u8 0, .int .u8 0, .int .u8 0, .int .u8 0, .int .u8 0, .int .u8 0, .int .u8 0, .int .u8 0, .int .u8 0, .int .u8 0, .int .u8 0, .int .u8 0, .int .u8 0, .int .u8 0, .int .u8 0, .int .u8 0, .int .u8 0, .int .u8 0, .int .u8 0, .int .u8 0, .int .u8 0, .int .u8 0, .int .u8 0, .int .u8 0, .int .u8 0, .int .u8 0, .int .u8 0, .int .u8 0, .slice none 0 0]) hK.at_ hS rfl (by kernel_rfl) ?_)
   clear hK fr hS; intro m6 b2 b2z l6 hS fr hK
   refine qo 8 hK (s_alloc (.agg #[.int .i64 0, .int .i64 0]) hK.at_ hS rfl (by kernel_rfl) ?_)
   clear hK fr hS; intro m7 b3 b3z l7 hS fr hK
   refine qo0 hK (s_storeAll hK.at_ 1 hS rfl rfl rfl rfl (by kernel_rfl) (by kernel_rfl) (by kernel_rfl) ?_)
   clear hK fr hS; intro m8 l8 hS fr hK
   refine qo0 hK (s_storeAll hK.at_ 1 hS rfl rfl rfl rfl (by kernel_rfl) (by kernel_rfl) (by kernel_rfl) ?_)
   clear hK fr hS; intro m9 l9 hS fr hK
   replace hS : St _ m m9 [.box b3 #[.int .i64 y4.2.code, .int .i64 y4.2.at_] 30, .box b2 (G_Delta_cells y4.1 (adr c3r0_commands_g) c3r0_commands_c) 27, rowOf 50 5 c3r0_commands_g c3r0_commands_c y4.1.commands, rowOf 5 1 c2r0_g c2r0_c y2, .box b1 (G_Delta_cells a0 a0_commands_a a0_commands_c) 27] := hS
   refine wpList_nil (then_n ?_)
   refine w_seq (w_region ?_)
   obtain ⟨y5, hy6, h⟩ := bind_some h
   refine qo 32 hK (s_call hK.at_ hS ent13_9 rfl rfl rfl rfl (G.graftlaw07_alive_spec hy6) (by kernel_rfl) ?_)
   clear hK fr hS; rintro _ m10 _ l10 hS ⟨rfl, rfl⟩ fr hK
   replace hS : St _ m m10 [.box b3 #[.int .i64 y4.2.code, .int .i64 y4.2.at_] 30, .box b2 (G_Delta_cells y4.1 (adr c3r0_commands_g) c3r0_commands_c) 27, rowOf 50 5 c3r0_commands_g c3r0_commands_c y4.1.commands, rowOf 5 1 c2r0_g c2r0_c y2, .box b1 (G_Delta_cells a0 a0_commands_a a0_commands_c) 27] := hS
   refine qp 33 (.bool y5) hK fun fr hK => ?_
   refine split_b (x := y5) (fun hb2 => ?_) (fun hb2 => ?_)
   ·
    replace hK := hK.more (t := 33) (v' := .bool true) rfl (by rw [hb2])
    replace hK := hK.more (t := 32) (v' := .bool true) rfl (by rw [hb2])
    replace h := ite_t (hb2) h
    refine qo 34 hK (s_loadAll hK.at_ hS 1 rfl rfl rfl (by kernel_rfl) ?_)
    clear hK fr; intro fr hK
    refine qp 35 (.agg (G_Delta_cells (⟨0, 0, (fun _ => (0 : UInt8)), (fun _ => (0 : UInt8)), ([] : List G.Command)⟩ : G.Delta) none 0)) hK fun fr hK => ?_
    replace c3r0_commands_f := Els.mono rep_G_Command c3r0_commands_f (l6.trans (l7.trans (l8.trans (l9.trans l10))))
    obtain ⟨y6, hy7, h⟩ := bind_some h
    refine qo 36 hK (s_call hK.at_ hS ent16_9 rfl rfl rfl rfl (G.graftref05_Same_spec c3r0_commands_f (Els.nil m10 5) hy7) (by kernel_rfl) ?_)
    clear hK fr hS; rintro _ m11 _ l11 hS ⟨rfl, rfl⟩ fr hK
    replace hS : St _ m m11 [.box b3 #[.int .i64 y4.2.code, .int .i64 y4.2.at_] 30, .box b2 (G_Delta_cells y4.1 (adr c3r0_commands_g) c3r0_commands_c) 27, rowOf 50 5 c3r0_commands_g c3r0_commands_c y4.1.commands, rowOf 5 1 c2r0_g c2r0_c y2, .box b1 (G_Delta_cells a0 a0_commands_a a0_commands_c) 27] := hS
    refine qp 37 (.bool y6) hK fun fr hK => ?_
    refine qp 38 (.bool y6) hK fun fr hK => ?_
    refine split_b (x := y6) (fun hb3 => ?_) (fun hb3 => ?_)
    ·
     replace hK := hK.more (t := 38) (v' := .bool true) rfl (by rw [hb3])
     replace hK := hK.more (t := 37) (v' := .bool true) rfl (by rw [hb3])
     replace hK := hK.more (t := 36) (v' := .bool true) rfl (by rw [hb3])
     replace h := ite_t (hb3) h
     refine qo 39 hK (s_loadAll hK.at_ hS 0 rfl rfl rfl (by kernel_rfl) ?_)
     clear hK fr; intro fr hK
     refine qp 40 (.int .i64 (Int.tmod (IntKind.i64.wrap a1) (y2.length : Int))) hK fun fr hK => ?_
     refine qp 41 (.agg #[.int .i64 8, .int .i64 (Int.tmod (IntKind.i64.wrap a1) (y2.length : Int))]) hK fun fr hK => ?_
     refine qr 42 (.bool (decide (y4.2.code = 8 ∧ y4.2.at_ = (Int.tmod (IntKind.i64.wrap a1) (y2.length : Int))))) hK (by exact run_binAgg rfl rfl rfl (by kernel_rfl) (eqT30_9 _ _ _ _ _)) ?_
     clear hK fr; intro fr hK
     refine qp 43 (.bool (decide (y4.2.code = 8 ∧ y4.2.at_ = (Int.tmod (IntKind.i64.wrap a1) (y2.length : Int))))) hK fun fr hK => ?_
     refine qp 4 (.bool (decide (y4.2.code = 8 ∧ y4.2.at_ = (Int.tmod (IntKind.i64.wrap a1) (y2.length : Int))))) hK fun fr hK => ?_
     refine wpList_nil (then_n ?_)
     refine wp_ret ?_
     replace h := Option.some.inj h; subst h
     refine ret_of [.tmp 4] [.bool (decide (y4.2.code = 8 ∧ y4.2.at_ = (Int.tmod (IntKind.i64.wrap a1) (y2.length : Int))))] rfl hK (.tmp rfl .nil) hS.dropAll ?_
     exact ⟨rfl, rfl⟩
    ·
     replace hK := hK.more (t := 38) (v' := .bool false) rfl (by rw [hb3])
     replace hK := hK.more (t := 37) (v' := .bool false) rfl (by rw [hb3])
     replace hK := hK.more (t := 36) (v' := .bool false) rfl (by rw [hb3])
     replace h := ite_f (ne_true_of_eq_false hb3) h
     refine qs 39 hK ?_
     clear hK fr; intro fr hK
     refine qs 40 hK ?_
     clear hK fr; intro fr hK
     refine qs 41 hK ?_
     clear hK fr; intro fr hK
     refine qs 42 hK ?_
     clear hK fr; intro fr hK
     refine qp 43 (.bool false) hK fun fr hK => ?_
     refine qp 4 (.bool false) hK fun fr hK => ?_
     refine wpList_nil (then_n ?_)
     refine wp_ret ?_
     replace h := Option.some.inj h; subst h
     refine ret_of [.tmp 4] [.bool false] rfl hK (.tmp rfl .nil) hS.dropAll ?_
     exact ⟨rfl, rfl⟩
   ·
    replace hK := hK.more (t := 33) (v' := .bool false) rfl (by rw [hb2])
    replace hK := hK.more (t := 32) (v' := .bool false) rfl (by rw [hb2])
    replace h := ite_f (ne_true_of_eq_false hb2) h
    refine qs 34 hK ?_
    clear hK fr; intro fr hK
    refine qs 35 hK ?_
    clear hK fr; intro fr hK
    refine qs 36 hK ?_
    clear hK fr; intro fr hK
    refine qp 37 (.bool false) hK fun fr hK => ?_
    refine qp 38 (.bool false) hK fun fr hK => ?_
    refine qs 39 hK ?_
    clear hK fr; intro fr hK
    refine qs 40 hK ?_
    clear hK fr; intro fr hK
    refine qs 41 hK ?_
    clear hK fr; intro fr hK
    refine qs 42 hK ?_
    clear hK fr; intro fr hK
    refine qp 43 (.bool false) hK fun fr hK => ?_
    refine qp 4 (.bool false) hK fun fr hK => ?_
    refine wpList_nil (then_n ?_)
    refine wp_ret ?_
    replace h := Option.some.inj h; subst h
    refine ret_of [.tmp 4] [.bool false] rfl hK (.tmp rfl .nil) hS.dropAll ?_
    exact ⟨rfl, rfl⟩
 ·
  replace h := hv1; clear hv1
  refine w_region ?_
  refine qo 9 hK (s_loadAll hK.at_ hS 0 rfl rfl rfl (by kernel_rfl) ?_)
  clear hK fr; intro fr hK
  replace a0_commands_f := Els.mono rep_G_Command a0_commands_f l1
  obtain ⟨y7, hy8, h⟩ := bind_some h
  refine qo 10 hK (s_call hK.at_ hS ent17_9 rfl rfl rfl rfl (G.graftref05_Few_spec a0_commands_f hy8) (by kernel_rfl) ?_)
  clear hK fr hS; rintro _ m12 _ l12 hS ⟨rfl, rfl⟩ fr hK
  replace hS : St _ m m12 [.box b1 (G_Delta_cells a0 a0_commands_a a0_commands_c) 27] := hS
  refine qp 11 (.bool (!y7)) hK fun fr hK => ?_
  refine qp 12 (.bool (!y7)) hK fun fr hK => ?_
  refine split_b (x := (!y7)) (fun hb4 => ?_) (fun hb4 => ?_)
  ·
   replace hK := hK.more (t := 12) (v' := .bool true) rfl (by rw [hb4])
   replace hK := hK.more (t := 11) (v' := .bool true) rfl (by rw [hb4])
   replace h := ite_t ((Bool.not_eq_true' _).mp hb4) h
   refine qs 13 hK ?_
   clear hK fr; intro fr hK
   refine qs 14 hK ?_
   clear hK fr; intro fr hK
   refine qs 15 hK ?_
   clear hK fr; intro fr hK
   refine qp 16 (.bool true) hK fun fr hK => ?_
   refine wpList_nil (then_n ?_)
   replace hS : St _ m m12 [.box b1 (G_Delta_cells a0 a0_commands_a a0_commands_c) 27] := hS
   replace h := Option.some.inj h; subst h
   exact ⟨m12, rfl, hK.only [1, 2, 16], l12, hS⟩
  ·
   replace hK := hK.more (t := 12) (v' := .bool false) rfl (by rw [hb4])
   replace hK := hK.more (t := 11) (v' := .bool false) rfl (by rw [hb4])
   replace h := ite_f (not_false_of ((Bool.not_eq_false' _).mp hb4)) h
   refine qo 13 hK (s_loadAll hK.at_ hS 0 rfl rfl rfl (by kernel_rfl) ?_)
   clear hK fr; intro fr hK
   replace a0_commands_f := Els.mono rep_G_Command a0_commands_f l12
   obtain ⟨y8, hy9, h⟩ := bind_some h
   refine qo 14 hK (s_call hK.at_ hS ent18_9 rfl rfl rfl rfl (G.graftref07_Wrong_spec a0_commands_f hy9) (by kernel_rfl) ?_)
   clear hK fr hS; rintro _ m13 _ l13 hS ⟨rfl, rfl⟩ fr hK
   replace hS : St _ m m13 [.box b1 (G_Delta_cells a0 a0_commands_a a0_commands_c) 27] := hS
   refine qp 15 (.bool (y8 != 0)) hK fun fr hK => ?_
   refine qp 16 (.bool (y8 != 0)) hK fun fr hK => ?_
   refine wpList_nil (then_n ?_)
   replace hS : St _ m m13 [.box b1 (G_Delta_cells a0 a0_commands_a a0_commands_c) 27] := hS
   replace h := Option.some.inj h; subst h
   exact ⟨m13, rfl, hK.only [1, 2, 16], l12.trans l13, hS⟩
end Go.Proofs.Ytkalbidbhaalmaa
