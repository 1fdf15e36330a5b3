/- The program computes the plain functions: delta_Sort, graftref05_Sort, graftlaw05_DeltaSorts. Printed by a program. -/
import Derived.Test.YtkalbidbhaalmaaProg
import Derived.Test.YtkalbidbhaalmaaGs
import Derived.Test.YtkalbidbhaalmaaRep
import Derived.Test.YtkalbidbhaalmaaL0
import Derived.Test.YtkalbidbhaalmaaL1
import Derived.Test.YtkalbidbhaalmaaL2
import Derived.Test.YtkalbidbhaalmaaL3
import Derived.Test.YtkalbidbhaalmaaL4
import Derived.Test.YtkalbidbhaalmaaL5
namespace Go.Proofs.Ytkalbidbhaalmaa
open Go.RowKit G
theorem ent16_8 : Enters Try.prog 16 := enters_of Try.func16 (by decide +kernel) (by decide +kernel)
theorem ent17_8 : Enters Try.prog 17 := enters_of Try.func17 (by decide +kernel) (by decide +kernel)
theorem ent23_8 : Enters Try.prog 23 := enters_of Try.func23 (by decide +kernel) (by decide +kernel)
theorem ent26_8 : Enters Try.prog 26 := enters_of Try.func26 (by decide +kernel) (by decide +kernel)
theorem ent27_8 : Enters Try.prog 27 := enters_of Try.func27 (by decide +kernel) (by decide +kernel)
theorem ent28_8 : Enters Try.prog 28 := enters_of Try.func28 (by decide +kernel) (by decide +kernel)
theorem ent29_8 : Enters Try.prog 29 := enters_of Try.func29 (by decide +kernel) (by decide +kernel)
theorem ent30_8 : Enters Try.prog 30 := enters_of Try.func30 (by decide +kernel) (by decide +kernel)
theorem ent31_8 : Enters Try.prog 31 := enters_of Try.func31 (by decide +kernel) (by decide +kernel)
theorem ent32_8 : Enters Try.prog 32 := enters_of Try.func32 (by decide +kernel) (by decide +kernel)
theorem ent70_8 : Enters Try.prog 70 := enters_of Try.func70 (by decide +kernel) (by decide +kernel)
theorem ent88_8 : Enters Try.prog 88 := enters_of Try.func88 (by decide +kernel) (by decide +kernel)
theorem ent98_8 : Enters Try.prog 98 := enters_of Try.func98 (by decide +kernel) (by decide +kernel)
theorem elT25_8 : ElemT Try.prog 25 50 (.agg #[.int .i64 0, .int .i64 0, .int .i64 0, .int .i64 0, .slice none 0 0]) 5 56 := ⟨by kernel_rfl, by kernel_rfl, by kernel_rfl, by decide⟩
theorem elT124_8 : ElemT Try.prog 124 3 (.int .i64 0) 1 8 := ⟨by kernel_rfl, by kernel_rfl, by kernel_rfl, by decide⟩
set_option maxRecDepth 100000 in
set_option maxHeartbeats 1000000 in
theorem G.delta_Sort_spec {m : Mem} {a0 : G.Delta} {a0_commands_a : Option Addr} {a0_commands_c : Nat} (a0_commands_f : Els is_G_Command m 5 a0_commands_a a0_commands_c a0.commands) {r : G.Delta} (h : G.delta_Sort a0 = some r) :
  Spec Try.prog 29 #[.agg (G_Delta_cells a0 a0_commands_a a0_commands_c)] m [] fun v m' L => ∃ (r0_commands_g : Option Nat) (r0_commands_c : Nat), L = [rowOf 50 5 r0_commands_g r0_commands_c r.commands] ∧ v = .agg (G_Delta_cells r (adr r0_commands_g) r0_commands_c) ∧ Els is_G_Command m' 5 (adr r0_commands_g) r0_commands_c r.commands := by
 unfold G.delta_Sort at h
 refine enter (args := [_]) 21 Try.func29 rfl rfl (by simp) fun fr hK => ?_
 have hS := St.refl (Ow.nil m)
 replace hK : Kn 21 fr [(0, .agg (G_Delta_cells a0 a0_commands_a a0_commands_c))] (dms []) := hK
 replace hS := hS.defs0
 refine w_seq (w_region ?_)
 refine qo 1 hK (s_box hK.at_ hS rfl rfl ?_)
 clear hK fr hS; intro m1 b1 b1z l1 hS fr hK
 refine qo 2 hK (s_alloc (.agg #[.int .i64 0, .int .i64 0, .int .u8 0, .int .u8 0, .int .u8 0, .int .u8 0, .int .u8 0, .int .u8 0, .int .u8 0, .int .u8 0, .int .u8 0, .int .u8 0, .int .u8 0, .int .u8 0, .int .u8 0, .int .u8 0, .int .u8 0, .int .u8 0, .int .u8 0, .int .u8 0, .int .u8 0, .int .u8 0, .int .u8 0, .int .u8 0, .int .u8 0, .int .u8 0, .int .u8 0, .int .u8 0, .int .u8 0, .int .u8 0, .int .u8 0, .int .u8 0, .int .u8 0, .int .u8 0, .int .u8 0, .int .u8 0, .int .u8 0, .int .u8 0, .int .u8 0, .int .u8 0, .int .u8 0, .int .u8 0, .int .u8 0, .int .u8 0, .int .u8 0, .int .u8 0, .int .u8 0, .int .u8 0, .int .u8 0, .int .u8 0, .int .u8 0, .int .u8 0, .int .u8 0, .int .u8 0, .int .u8 0, .int .u8 0, .int .u8 0, .int .u8 0, .int .u8 0, .int .u8 0, .int .u8 0, .int .u8 0, .int .u8 0, .int .u8 0, .int .u8 0, .int .u8 0, .slice none 0 0]) hK.at_ hS rfl (by kernel_rfl) ?_)
 clear hK fr hS; intro m2 b2 b2z l2 hS fr hK
 replace hS : St _ m m2 [.box b2 (G_Delta_cells (⟨0, 0, (fun _ => (0 : UInt8)), (fun _ => (0 : UInt8)), ([] : List G.Command)⟩ : G.Delta) none 0) 27, .box b1 (G_Delta_cells a0 a0_commands_a a0_commands_c) 27, .defs []] := hS
 refine wpListIn_nil (then_n ?_)
 refine w_seq (w_region ?_)
 refine qo 3 hK (s_alloc (.slice none 0 0) hK.at_ hS rfl (by kernel_rfl) ?_)
 clear hK fr hS; intro m3 b3 b3z l3 hS fr hK
 replace hS : St _ m m3 [.box b3 #[.slice none 0 0] 25, .box b2 (G_Delta_cells (⟨0, 0, (fun _ => (0 : UInt8)), (fun _ => (0 : UInt8)), ([] : List G.Command)⟩ : G.Delta) none 0) 27, .box b1 (G_Delta_cells a0 a0_commands_a a0_commands_c) 27, .defs []] := hS
 refine wpListIn_nil (then_n ?_)
 refine w_seq ?_
 refine w_seq (w_region ?_)
 refine qp 5 (.pointer (some ⟨b1, 66, none⟩)) hK fun fr hK => ?_
 refine qo 6 hK (s_load hK.at_ hS 2 rfl rfl rfl rfl (by kernel_rfl) ?_)
 clear hK fr; intro fr hK
 replace a0_commands_f := Els.mono rep_G_Command a0_commands_f (l1.trans (l2.trans l3))
 obtain ⟨y1, hy1, h⟩ := bind_some h
 refine qo 7 hK (s_call hK.at_ hS ent70_8 rfl rfl rfl rfl (G.delta_sorted_spec a0_commands_f hy1) (by kernel_rfl) ?_)
 clear hK fr hS; rintro _ m4 _ l4 hS ⟨c1r0_0_b, c1r0_0_a, c1r0_0_c, c1r0_1_b, c1r0_1_a, c1r0_1_c, rfl, rfl, c1r0_0_f, c1r0_1_f⟩ fr hK
 replace hS : St _ m m4 [.box c1r0_0_b #[.slice c1r0_0_a y1.1.length c1r0_0_c] 124, .box c1r0_1_b #[.slice c1r0_1_a y1.2.length c1r0_1_c] 25, .box b3 #[.slice none 0 0] 25, .box b2 (G_Delta_cells (⟨0, 0, (fun _ => (0 : UInt8)), (fun _ => (0 : UInt8)), ([] : List G.Command)⟩ : G.Delta) none 0) 27, .box b1 (G_Delta_cells a0 a0_commands_a a0_commands_c) 27, .defs []] := hS
 refine wpListIn_nil (then_n ?_)
 obtain ⟨v1, hv1, h⟩ := bind_some h
 refine w_join (fun fr ww => ∃ (g1 : List Nat), ∃ (g2 : Option Nat), ∃ (g3 : Nat), ∃ m5 : Mem, m5.w = ww ∧ Kn 21 fr [(1, .pointer (some ⟨b1, 0, none⟩)), (2, .pointer (some ⟨b2, 0, none⟩)), (3, .pointer (some ⟨b3, 0, none⟩))] (dms g1) ∧ Le m4 m5 ∧ St (blocksOf []) m m5 [.box b3 #[.slice (adr g2) v1.length g3] 25, rowOf 50 5 g2 g3 v1, .box b2 (G_Delta_cells (⟨0, 0, (fun _ => (0 : UInt8)), (fun _ => (0 : UInt8)), ([] : List G.Command)⟩ : G.Delta) none 0) 27, .box b1 (G_Delta_cells a0 a0_commands_a a0_commands_c) 27, .defs g1] ∧ Els is_G_Command m5 5 (adr g2) g3 v1) ?_ ?_
 ·
  clear hK hS fr hv1
  rintro fr _ ⟨g1, g2, g3, m5, rfl, hK, l5, hS, f1⟩
  refine then_n ?_
  refine w_seq (w_region ?_)
  refine qo 18 hK (s_loadAll hK.at_ hS 3 rfl rfl rfl (by kernel_rfl) ?_)
  clear hK fr; intro fr hK
  refine qo 19 hK (s_load hK.at_ hS 0 rfl rfl rfl rfl (by kernel_rfl) ?_)
  clear hK fr; intro fr hK
  replace a0_commands_f := Els.mono rep_G_Command a0_commands_f (l4.trans l5)
  obtain ⟨y2, hy2, h⟩ := bind_some h
  refine qo 20 hK (s_call hK.at_ hS ent28_8 rfl rfl rfl rfl (G.delta_With_spec a0_commands_f f1 hy2) (by kernel_rfl) ?_)
  clear hK fr hS; rintro _ m6 _ l6 hS ⟨c2r0_commands_g, c2r0_commands_c, rfl, rfl, c2r0_commands_f⟩ fr hK
  refine qo0 hK (s_storeAll hK.at_ 3 hS rfl rfl rfl rfl (by kernel_rfl) (by kernel_rfl) (by kernel_rfl) ?_)
  clear hK fr hS; intro m7 l7 hS fr hK
  replace hS : St _ m m7 [.box b2 (G_Delta_cells y2 (adr c2r0_commands_g) c2r0_commands_c) 27, rowOf 50 5 c2r0_commands_g c2r0_commands_c y2.commands, .box b3 #[.slice (adr g2) v1.length g3] 25, rowOf 50 5 g2 g3 v1, .box b1 (G_Delta_cells a0 a0_commands_a a0_commands_c) 27, .defs g1] := hS
  refine wpListIn_nil (then_n ?_)
  refine wpIn_ret ?_
  refine ret_marks 5 hK hS rfl ?_
  clear hK fr hS; intro m8 l8 hS fr hK
  replace hS : St _ m m8 [.box b2 (G_Delta_cells y2 (adr c2r0_commands_g) c2r0_commands_c) 27, rowOf 50 5 c2r0_commands_g c2r0_commands_c y2.commands, .box b3 #[.slice (adr g2) v1.length g3] 25, rowOf 50 5 g2 g3 v1, .box b1 (G_Delta_cells a0 a0_commands_a a0_commands_c) 27] := hS
  replace c2r0_commands_f := Els.mono rep_G_Command c2r0_commands_f (l7.trans l8)
  replace h := Option.some.inj h; subst h
  replace hS := hS.front 1 rfl
  replace hS : St _ m m8 [rowOf 50 5 c2r0_commands_g c2r0_commands_c y2.commands, .box b2 (G_Delta_cells y2 (adr c2r0_commands_g) c2r0_commands_c) 27, .box b3 #[.slice (adr g2) v1.length g3] 25, rowOf 50 5 g2 g3 v1, .box b1 (G_Delta_cells a0 a0_commands_a a0_commands_c) 27] := hS
  refine ret_of [.cell 2 27] [.agg (G_Delta_cells y2 (adr c2r0_commands_g) c2r0_commands_c)] rfl hK (ResL.box hS 1 rfl rfl (by kernel_rfl) .nil) (St.keep (L := [rowOf 50 5 c2r0_commands_g c2r0_commands_c y2.commands]) (R := [.box b2 (G_Delta_cells y2 (adr c2r0_commands_g) c2r0_commands_c) 27, .box b3 #[.slice (adr g2) v1.length g3] 25, rowOf 50 5 g2 g3 v1, .box b1 (G_Delta_cells a0 a0_commands_a a0_commands_c) 27]) hS) ?_
  exact ⟨c2r0_commands_g, c2r0_commands_c, rfl, rfl, c2r0_commands_f⟩
 ·
  replace h := hv1; clear hv1
  refine wpIn_block ?_
  have hKo1 := hK; clear hK
  refine w_range (cap := [.pointer (some ⟨c1r0_0_b, 0, none⟩), .pointer (some ⟨c1r0_1_b, 0, none⟩)]) 22 5 hKo1 hS rfl rfl ent98_8 Try.func98 rfl rfl (by simp) ?_
  clear hS; intro lp1 D1 R1 m9 l9 hR1 hS fr hK
  replace hK : Kn 22 fr [(0, .func (.yield lp1) #[] #[]), (1, .pointer (some ⟨c1r0_0_b, 0, none⟩)), (2, .pointer (some ⟨c1r0_1_b, 0, none⟩))] := hK
  replace hS : St _ m m9 [.obj lp1 (.loop (R1 .ready none)), .defs (D1 :: []), .box c1r0_0_b #[.slice c1r0_0_a y1.1.length c1r0_0_c] 124, .box c1r0_1_b #[.slice c1r0_1_a y1.2.length c1r0_1_c] 25, .box b3 #[.slice none 0 0] 25, .box b2 (G_Delta_cells (⟨0, 0, (fun _ => (0 : UInt8)), (fun _ => (0 : UInt8)), ([] : List G.Command)⟩ : G.Delta) none 0) 27, .box b1 (G_Delta_cells a0 a0_commands_a a0_commands_c) 27] := hS
  refine w_seq (w_region ?_)
  refine qo 6 hK (s_load hK.at_ hS 2 rfl rfl rfl rfl (by kernel_rfl) ?_)
  clear hK fr; intro fr hK
  refine qp 7 (.int .i64 (y1.1.length : Int)) hK fun fr hK => ?_
  refine qp 8 (.int .i64 0) hK fun fr hK => ?_
  refine wpListIn_nil (then_n ?_)
  refine wpIn_block ?_
  replace hS := hS.addRow (α := G.Command) 50 5
  replace hS := hS.front 2 rfl
  replace hS := hS.front 2 rfl
  replace hS := hS.front 7 rfl
  replace hS := hS.front 7 rfl
  replace hS := hS.front 4 rfl
  replace hS := hS.front 7 rfl
  replace hS := hS.front 7 rfl
  replace hS := hS.front 7 rfl
  replace hS : St _ m m9 [.box c1r0_0_b #[.slice c1r0_0_a y1.1.length c1r0_0_c] 124, .box c1r0_1_b #[.slice c1r0_1_a y1.2.length c1r0_1_c] 25, .box b3 #[.slice none 0 0] 25, rowOf 50 5 none 0 ([] : List G.Command), .box b2 (G_Delta_cells (⟨0, 0, (fun _ => (0 : UInt8)), (fun _ => (0 : UInt8)), ([] : List G.Command)⟩ : G.Delta) none 0) 27, .box b1 (G_Delta_cells a0 a0_commands_a a0_commands_c) 27, .obj lp1 (.loop (R1 .ready none)), .defs (D1 :: [])] := hS
  refine w_loopL h (fun (s1 : (List G.Command) × Int) fr ww => ∃ (g4 : Option Nat), ∃ (g5 : Nat), ∃ m10 : Mem, m10.w = ww ∧ Kn 22 fr [(0, .func (.yield lp1) #[] #[]), (2, .pointer (some ⟨c1r0_1_b, 0, none⟩)), (6, .slice c1r0_0_a y1.1.length c1r0_0_c), (7, .int .i64 (y1.1.length : Int)), (8, .int .i64 s1.2)] ∧ Le m9 m10 ∧ St (blocksOf []) m m10 [.box c1r0_0_b #[.slice c1r0_0_a y1.1.length c1r0_0_c] 124, .box c1r0_1_b #[.slice c1r0_1_a y1.2.length c1r0_1_c] 25, .box b3 #[.slice (adr g4) s1.1.length g5] 25, rowOf 50 5 g4 g5 s1.1, .box b2 (G_Delta_cells (⟨0, 0, (fun _ => (0 : UInt8)), (fun _ => (0 : UInt8)), ([] : List G.Command)⟩ : G.Delta) none 0) 27, .box b1 (G_Delta_cells a0 a0_commands_a a0_commands_c) 27, .obj lp1 (.loop (R1 .ready none)), .defs (D1 :: [])] ∧ Els is_G_Command m10 5 (adr g4) g5 s1.1) ?_ ?_
  · exact ⟨none, 0, m9, rfl, hK.only [0, 2, 6, 7, 8], Le.refl _, hS, (Els.nil _ _)⟩
  clear hK hS fr h
  rintro k1 s1 x1 fr _ ⟨g4, g5, m10, rfl, hK, l10, hS, f2⟩ h hn1
  unfold G.delta_Sort_l1 at h
  refine w_seq (w_region ?_)
  refine qp 9 (.bool (decide (s1.2 < (y1.1.length : Int)))) hK fun fr hK => ?_
  refine wpListIn_nil (then_n ?_)
  refine w_seq ?_
  refine w_cond hK rfl (fun hb1 => ?_) (fun hb1 => ?_)
  ·
   replace hK := hK.more (t := 9) (v' := .bool true) rfl (by rw [hb1])
   replace h := ite_t (of_decide_eq_true hb1) h
   refine wpIn_skip ?_
   refine then_n ?_
   refine w_seq ?_
   refine wpIn_block ?_
   refine w_seq (w_region ?_)
   replace c1r0_0_f := Els.mono (rep_Num .i64) c1r0_0_f (l9.trans l10)
   obtain ⟨x2, hy3, h⟩ := bind_some h
   refine qo 10 hK (s_idx elT124_8 c1r0_0_f hy3 hK.at_ rfl rfl rfl ?_)
   clear hK fr; intro b4 p1 cs1 hR2 hA1 fr hK
   obtain rfl := hR2
   refine qo 11 hK (s_loadAt hK.at_ hA1 0 rfl rfl rfl rfl (by kernel_rfl) ?_)
   clear hK fr; intro fr hK
   refine qp 5 (.int .i64 x2) hK fun fr hK => ?_
   refine wpListIn_nil (then_n ?_)
   refine w_seq (w_region ?_)
   refine qp 12 (.func (.yield lp1) #[] #[]) hK fun fr hK => ?_
   refine qp 13 (.int .i64 x2) hK fun fr hK => ?_
   refine qo 14 hK (s_load hK.at_ hS 1 rfl rfl rfl rfl (by kernel_rfl) ?_)
   clear hK fr; intro fr hK
   refine qp 15 (.int .i64 x2) hK fun fr hK => ?_
   replace c1r0_1_f := Els.mono rep_G_Command c1r0_1_f (l9.trans l10)
   obtain ⟨x3, hy4, h⟩ := bind_some h
   refine qo 16 hK (s_idx elT25_8 c1r0_1_f hy4 hK.at_ rfl rfl rfl ?_)
   clear hK fr; intro b5 p2 cs2 hR3 hA2 fr hK
   obtain ⟨e1_data_a, e1_data_c, rfl, e1_data_f⟩ := hR3
   refine qo 17 hK (s_loadAtN [.int .i64 x3.kind, .int .i64 x3.to, .int .i64 x3.from_, .int .i64 x3.len, .slice e1_data_a x3.data.length e1_data_c] hK.at_ hA2 0 rfl rfl rfl (by kernel_rfl) (by kernel_rfl) ?_)
   clear hK fr; intro fr hK
   obtain ⟨y3, hy5, h⟩ := bind_some h
   refine qo 18 hK (s_call hK.at_ hS ent88_8 rfl rfl rfl rfl (G.command_Target_spec e1_data_f hy5) (by kernel_rfl) ?_)
   clear hK fr hS; rintro _ m11 _ l11 hS ⟨rfl, rfl⟩ fr hK
   replace hS : St _ m m11 [.box c1r0_0_b #[.slice c1r0_0_a y1.1.length c1r0_0_c] 124, .box c1r0_1_b #[.slice c1r0_1_a y1.2.length c1r0_1_c] 25, .box b3 #[.slice (adr g4) s1.1.length g5] 25, rowOf 50 5 g4 g5 s1.1, .box b2 (G_Delta_cells (⟨0, 0, (fun _ => (0 : UInt8)), (fun _ => (0 : UInt8)), ([] : List G.Command)⟩ : G.Delta) none 0) 27, .box b1 (G_Delta_cells a0 a0_commands_a a0_commands_c) 27, .obj lp1 (.loop (R1 .ready none)), .defs (D1 :: [])] := hS
   refine q_yield 19 6 hK hKo1 hR1 hS rfl rfl rfl rfl rfl (by decide) ?_
   clear hK fr; intro fr hK
   replace hK : Kn 21 fr [(9, .agg #[.int .i64 y3.off, .int .i64 y3.len]), (8, .int .i64 x2), (7, .func (.func 98) #[] #[.pointer (some ⟨c1r0_0_b, 0, none⟩), .pointer (some ⟨c1r0_1_b, 0, none⟩)]), (6, .slice a0_commands_a a0.commands.length a0_commands_c), (5, .pointer (some ⟨b1, 66, none⟩)), (3, .pointer (some ⟨b3, 0, none⟩)), (2, .pointer (some ⟨b2, 0, none⟩)), (1, .pointer (some ⟨b1, 0, none⟩)), (0, .agg (G_Delta_cells a0 a0_commands_a a0_commands_c))] := hK.only [9, 8, 7, 6, 5, 3, 2, 1, 0]
   refine w_region ?_
   refine qp 4 (.int .i64 x2) hK fun fr hK => ?_
   refine wpListIn_nil (then_n ?_)
   refine r_begin hR1 hS (k := 6) rfl ?_
   clear hS; intro m12 l12 hS
   replace hS : St _ m m12 [.obj lp1 (.loop (R1 .busy none)), .box c1r0_0_b #[.slice c1r0_0_a y1.1.length c1r0_0_c] 124, .box c1r0_1_b #[.slice c1r0_1_a y1.2.length c1r0_1_c] 25, .box b3 #[.slice (adr g4) s1.1.length g5] 25, rowOf 50 5 g4 g5 s1.1, .box b2 (G_Delta_cells (⟨0, 0, (fun _ => (0 : UInt8)), (fun _ => (0 : UInt8)), ([] : List G.Command)⟩ : G.Delta) none 0) 27, .box b1 (G_Delta_cells a0 a0_commands_a a0_commands_c) 27, .defs (D1 :: [])] := hS
   refine wpIn_block ?_
   replace a0_commands_f := Els.mono rep_G_Command a0_commands_f (l4.trans (l9.trans (l10.trans (l11.trans l12))))
   replace c1r0_0_f := Els.mono (rep_Num .i64) c1r0_0_f (l11.trans l12)
   replace c1r0_1_f := Els.mono rep_G_Command c1r0_1_f (l11.trans l12)
   replace f2 := Els.mono rep_G_Command f2 (l11.trans l12)
   obtain ⟨x4, hy6, h⟩ := bind_some h
   have hm0 : ∀ p ∈ ([(fun _ A _ => A = []), (fun l A M => ∃ (b7 : Nat), l[0]? = some (.slice (adr (some b7)) (([x4] : List G.Command).length) 1) ∧ A = [rowOf 50 5 (some b7) 1 ([x4] : List G.Command)] ∧ Els is_G_Command M 5 (adr (some b7)) 1 ([x4] : List G.Command))] : List D.Stage), D.MonoP p := D.allP_cons (fun _ _ _ _ h _ => h) (D.allP_cons (fun _ _ _ _ ⟨b7, el0, eA, f3⟩ hl => ⟨b7, el0, eA, Els.mono rep_G_Command f3 hl⟩) (D.allP_nil))
   have hCm := D.C1_mono [.obj lp1 (.loop (R1 .busy none)), .box c1r0_0_b #[.slice c1r0_0_a y1.1.length c1r0_0_c] 124, .box c1r0_1_b #[.slice c1r0_1_a y1.2.length c1r0_1_c] 25, .box b3 #[.slice (adr g4) s1.1.length g5] 25, rowOf 50 5 g4 g5 s1.1, .box b2 (G_Delta_cells (⟨0, 0, (fun _ => (0 : UInt8)), (fun _ => (0 : UInt8)), ([] : List G.Command)⟩ : G.Delta) none 0) 27, .box b1 (G_Delta_cells a0 a0_commands_a a0_commands_c) 27, .defs (D1 :: [])] hm0
   refine D.wp_drawM (m0 := m12) 7 [[6]] [([(3, none)], [(0, 1)], none), ([(1, none)], [(0, 0)], none), ([(11, some 0)], [(0, 0)], none), ([(4, none)], [(0, 0)], none), ([(12, some 1), (13, some 0)], [(0, 0)], none), ([(14, some 0)], [(0, 0)], none), ([(15, some 0)], [(0, 0)], some 0)] (D.SM m12 m (blocksOf []) (D.C1 [(fun _ A _ => A = []), (fun l A M => ∃ (b7 : Nat), l[0]? = some (.slice (adr (some b7)) (([x4] : List G.Command).length) 1) ∧ A = [rowOf 50 5 (some b7) 1 ([x4] : List G.Command)] ∧ Els is_G_Command M 5 (adr (some b7)) 1 ([x4] : List G.Command))] [.obj lp1 (.loop (R1 .busy none)), .box c1r0_0_b #[.slice c1r0_0_a y1.1.length c1r0_0_c] 124, .box c1r0_1_b #[.slice c1r0_1_a y1.2.length c1r0_1_c] 25, .box b3 #[.slice (adr g4) s1.1.length g5] 25, rowOf 50 5 g4 g5 s1.1, .box b2 (G_Delta_cells (⟨0, 0, (fun _ => (0 : UInt8)), (fun _ => (0 : UInt8)), ([] : List G.Command)⟩ : G.Delta) none 0) 27, .box b1 (G_Delta_cells a0 a0_commands_a a0_commands_c) 27, .defs (D1 :: [])])) hK.size (by kernel_rfl) (by kernel_rfl) (by kernel_rfl) (D.start1 hS (fun _ => rfl)) ?_
   refine D.onA (fun uu _ => uu = .slice (adr g4) s1.1.length g5) (fun _ _ _ h _ => h) (by
    intro ac MM vs hbd hcor hS00 hk; have hS0 := hS00
    obtain ⟨hle, LL, hC, hSt⟩ := hS0
    have hSt0 := hSt
    have hC0 := hC; obtain ⟨A0, h0, rfl⟩ := hC
    have hS := D.St_right (hSt)
    have k3 : ac.eval (.tmp 3) = .pointer (some ⟨b3, 0, none⟩) := hk.1.trans (hK.at_ 3 _ rfl)
    have hKe : Ke ac [(3, .pointer (some ⟨b3, 0, none⟩))] := (.cons k3 (.nil _))
    exact ⟨D.wanted0 rfl, s_load hKe hS 3 rfl rfl rfl rfl (by kernel_rfl) ⟨MM, rfl, Le.refl _, rfl, hS00⟩⟩) ?_
   refine D.onP [(1, .pointer (some ⟨b1, 0, none⟩))] (.pointer (some ⟨b1, 66, none⟩)) (fun ac MM hk => (.cons (hk.1.trans (hK.at_ 1 _ rfl)) (.nil _))) ?_
   refine D.onA (fun uu _ => uu = .slice a0_commands_a a0.commands.length a0_commands_c) (fun _ _ _ h _ => h) (by
    intro ac MM vs hbd hcor hS00 hk; have hS0 := hS00
    obtain ⟨hle, LL, hC, hSt⟩ := hS0
    have hSt0 := hSt
    have hC0 := hC; obtain ⟨A0, h0, rfl⟩ := hC
    have hS := D.St_right (hSt)
    have k11 : ac.eval (.tmp 11) = .pointer (some ⟨b1, 66, none⟩) := hk.1
    have hKe : Ke ac [(11, .pointer (some ⟨b1, 66, none⟩))] := (.cons k11 (.nil _))
    exact ⟨D.wanted0 rfl, s_load hKe hS 6 rfl rfl rfl rfl (by kernel_rfl) ⟨MM, rfl, Le.refl _, rfl, hS00⟩⟩) ?_
   refine D.onP [(4, .int .i64 x2)] (.int .i64 x2) (fun ac MM hk => (.cons (hk.1.trans (hK.at_ 4 _ rfl)) (.nil _))) ?_
   refine D.onA (fun uu MM => ∃ (b6 : Nat) (p3 : Nat) (e2_data_a : Option Addr) (e2_data_c : Nat), uu = .pointer (some ⟨b6, p3, none⟩) ∧ At MM b6 p3 [.int .i64 x4.kind, .int .i64 x4.to, .int .i64 x4.from_, .int .i64 x4.len, .slice e2_data_a x4.data.length e2_data_c] ∧ Els isU8 MM 1 e2_data_a e2_data_c x4.data) (fun _ _ _ ⟨b6, p3, e2_data_a, e2_data_c, e, hA3, e2_data_f⟩ g => ⟨b6, p3, e2_data_a, e2_data_c, e, hA3.mono g, Els.mono rep_U8 e2_data_f g⟩) (by
    intro ac MM vs hbd hcor hS00 hk; have hS0 := hS00
    obtain ⟨hle, LL, hC, hSt⟩ := hS0
    have hSt0 := hSt
    have hC0 := hC; obtain ⟨A0, h0, rfl⟩ := hC
    have hS := D.St_right (hSt)
    have k12 : ac.eval (.tmp 12) = .slice a0_commands_a a0.commands.length a0_commands_c := hk.1
    have k13 : ac.eval (.tmp 13) = .int .i64 x2 := hk.2.1
    have hKe : Ke ac [(12, .slice a0_commands_a a0.commands.length a0_commands_c), (13, .int .i64 x2)] := (.cons k12 (.cons k13 (.nil _)))
    replace a0_commands_f := Els.mono rep_G_Command a0_commands_f hle
    exact ⟨D.wanted0 rfl, s_idx elT25_8 a0_commands_f hy6 hKe rfl rfl rfl (by
      intro b6 p3 cs3 hR4 hA3
      obtain ⟨e2_data_a, e2_data_c, rfl, e2_data_f⟩ := hR4
      exact ⟨MM, rfl, Le.refl _, ⟨b6, p3, e2_data_a, e2_data_c, rfl, hA3, e2_data_f⟩, hS00⟩)⟩) ?_
   refine D.onA (fun uu MM => ∃ (b6 : Nat) (p3 : Nat) (e2_data_a : Option Addr) (e2_data_c : Nat), uu = .agg #[.int .i64 x4.kind, .int .i64 x4.to, .int .i64 x4.from_, .int .i64 x4.len, .slice e2_data_a x4.data.length e2_data_c] ∧ At MM b6 p3 [.int .i64 x4.kind, .int .i64 x4.to, .int .i64 x4.from_, .int .i64 x4.len, .slice e2_data_a x4.data.length e2_data_c] ∧ Els isU8 MM 1 e2_data_a e2_data_c x4.data) (fun _ _ _ ⟨b6, p3, e2_data_a, e2_data_c, e, hA3, e2_data_f⟩ g => ⟨b6, p3, e2_data_a, e2_data_c, e, hA3.mono g, Els.mono rep_U8 e2_data_f g⟩) (by
    intro ac MM vs hbd hcor hS00 hk; have hS0 := hS00
    obtain ⟨hle, LL, hC, hSt⟩ := hS0
    have hSt0 := hSt
    have hC0 := hC; obtain ⟨A0, h0, rfl⟩ := hC
    have hS := D.St_right (hSt)
    obtain ⟨b6, p3, e2_data_a, e2_data_c, k14, hA3, e2_data_f⟩ : ∃ (b6 : Nat) (p3 : Nat) (e2_data_a : Option Addr) (e2_data_c : Nat), ac.eval (.tmp 14) = .pointer (some ⟨b6, p3, none⟩) ∧ At MM b6 p3 [.int .i64 x4.kind, .int .i64 x4.to, .int .i64 x4.from_, .int .i64 x4.len, .slice e2_data_a x4.data.length e2_data_c] ∧ Els isU8 MM 1 e2_data_a e2_data_c x4.data := hk.1
    have hKe : Ke ac [(14, .pointer (some ⟨b6, p3, none⟩))] := (.cons k14 (.nil _))
    exact ⟨D.wanted0 rfl, s_loadAtN [.int .i64 x4.kind, .int .i64 x4.to, .int .i64 x4.from_, .int .i64 x4.len, .slice e2_data_a x4.data.length e2_data_c] hKe hA3 0 rfl rfl rfl (by kernel_rfl) (by kernel_rfl) ⟨MM, rfl, Le.refl _, ⟨b6, p3, e2_data_a, e2_data_c, rfl, hA3, e2_data_f⟩, hS00⟩⟩) ?_
   refine D.onA (fun uu MM => ∃ (b7 : Nat), uu = .slice (adr (some b7)) (([x4] : List G.Command).length) 1 ∧ Els is_G_Command MM 5 (adr (some b7)) 1 ([x4] : List G.Command)) (fun _ _ _ ⟨b7, e, f3⟩ g => ⟨b7, e, Els.mono rep_G_Command f3 g⟩) (by
    intro ac MM vs hbd hcor hS00 hk; have hS0 := hS00
    obtain ⟨hle, LL, hC, hSt⟩ := hS0
    have hSt0 := hSt
    have hC0 := hC; obtain ⟨A0, h0, rfl⟩ := hC
    have hn := D.bd_eq hbd 0 0 rfl
    obtain rfl := D.CH.at h0 hn rfl
    replace hSt := hSt
    obtain ⟨b6, p3, e2_data_a, e2_data_c, k15, hA3, e2_data_f⟩ : ∃ (b6 : Nat) (p3 : Nat) (e2_data_a : Option Addr) (e2_data_c : Nat), ac.eval (.tmp 15) = .agg #[.int .i64 x4.kind, .int .i64 x4.to, .int .i64 x4.from_, .int .i64 x4.len, .slice e2_data_a x4.data.length e2_data_c] ∧ At MM b6 p3 [.int .i64 x4.kind, .int .i64 x4.to, .int .i64 x4.from_, .int .i64 x4.len, .slice e2_data_a x4.data.length e2_data_c] ∧ Els isU8 MM 1 e2_data_a e2_data_c x4.data := hk.1
    have hKe : Ke ac [(15, .agg #[.int .i64 x4.kind, .int .i64 x4.to, .int .i64 x4.from_, .int .i64 x4.len, .slice e2_data_a x4.data.length e2_data_c])] := (.cons k15 (.nil _))
    exact ⟨D.wanted0 rfl, s_buildRow (elem := 50) #[.int .i64 x4.kind, .int .i64 x4.to, .int .i64 x4.from_, .int .i64 x4.len, .slice e2_data_a x4.data.length e2_data_c] hKe hSt rfl (by kernel_rfl) (by kernel_rfl) (by
      intro M2 b7 l2 hS2 hA4
      replace e2_data_f := Els.mono rep_U8 e2_data_f l2
      have f3 : Els is_G_Command M2 5 (some ⟨b7, 0, none⟩) 1 ([x4] : List G.Command) := els_lit rep_G_Command [[.int .i64 x4.kind, .int .i64 x4.to, .int .i64 x4.from_, .int .i64 x4.len, .slice e2_data_a x4.data.length e2_data_c]] hA4 (by simp) (by decide) (.cons ⟨e2_data_a, e2_data_c, rfl, e2_data_f⟩ .nil)
      exact ⟨M2, rfl, l2, ⟨b7, rfl, f3⟩, hle.trans l2, _, ⟨_, D.CH.push hn rfl ⟨b7, D.get_push hn, rfl, f3⟩, rfl⟩, hS2⟩)⟩) ?_
   intro fr2 m13 vs hlen hcor hS2 hE; obtain ⟨l13, LL, hC, hS2⟩ := hS2
   obtain ⟨A0, h0, rfl⟩ := hC
   obtain ⟨b7, el0_0, rfl, f3⟩ := D.CH.at h0 (hlen 0) rfl
   replace hS2 : St _ m m13 [rowOf 50 5 (some b7) 1 ([x4] : List G.Command), .obj lp1 (.loop (R1 .busy none)), .box c1r0_0_b #[.slice c1r0_0_a y1.1.length c1r0_0_c] 124, .box c1r0_1_b #[.slice c1r0_1_a y1.2.length c1r0_1_c] 25, .box b3 #[.slice (adr g4) s1.1.length g5] 25, rowOf 50 5 g4 g5 s1.1, .box b2 (G_Delta_cells (⟨0, 0, (fun _ => (0 : UInt8)), (fun _ => (0 : UInt8)), ([] : List G.Command)⟩ : G.Delta) none 0) 27, .box b1 (G_Delta_cells a0 a0_commands_a a0_commands_c) 27, .defs (D1 :: [])] := hS2
   have kl16 : fr2.eval (.tmp 16) = .slice (adr (some b7)) (([x4] : List G.Command).length) 1 := hcor 0 0 _ _ _ _ rfl rfl rfl el0_0
   have hK2 := D.kn_endsM [(10, .slice (adr g4) s1.1.length g5), (11, .pointer (some ⟨b1, 66, none⟩)), (12, .slice a0_commands_a a0.commands.length a0_commands_c), (13, .int .i64 x2), (14, fr2.eval (.tmp 14)), (15, fr2.eval (.tmp 15)), (16, .slice (adr (some b7)) (([x4] : List G.Command).length) 1)] hK hE rfl (by kernel_rfl) (.cons (hE.slots 10) (.cons (hE.slots 11) (.cons (hE.slots 12) (.cons (hE.slots 13) (.cons (rfl) (.cons (rfl) (.cons (kl16) (.nil _))))))))
   replace hK2 : Kn 21 fr2 [(10, .slice (adr g4) s1.1.length g5), (11, .pointer (some ⟨b1, 66, none⟩)), (12, .slice a0_commands_a a0.commands.length a0_commands_c), (13, .int .i64 x2), (16, .slice (adr (some b7)) (([x4] : List G.Command).length) 1), (4, .int .i64 x2), (9, .agg #[.int .i64 y3.off, .int .i64 y3.len]), (8, .int .i64 x2), (7, .func (.func 98) #[] #[.pointer (some ⟨c1r0_0_b, 0, none⟩), .pointer (some ⟨c1r0_1_b, 0, none⟩)]), (6, .slice a0_commands_a a0.commands.length a0_commands_c), (5, .pointer (some ⟨b1, 66, none⟩)), (3, .pointer (some ⟨b3, 0, none⟩)), (2, .pointer (some ⟨b2, 0, none⟩)), (1, .pointer (some ⟨b1, 0, none⟩)), (0, .agg (G_Delta_cells a0 a0_commands_a a0_commands_c))] := hK2.only [10, 11, 12, 13, 16, 4, 9, 8, 7, 6, 5, 3, 2, 1, 0]
   clear hE hK hcor hlen kl16 h0 el0_0; revert hK2; clear hS; revert fr2; clear fr; intro fr hK; have hS := hS2; clear hS2 hCm hm0
   replace hS : St _ m m13 [rowOf 50 5 (some b7) 1 ([x4] : List G.Command), .obj lp1 (.loop (R1 .busy none)), .box c1r0_0_b #[.slice c1r0_0_a y1.1.length c1r0_0_c] 124, .box c1r0_1_b #[.slice c1r0_1_a y1.2.length c1r0_1_c] 25, .box b3 #[.slice (adr g4) s1.1.length g5] 25, rowOf 50 5 g4 g5 s1.1, .box b2 (G_Delta_cells (⟨0, 0, (fun _ => (0 : UInt8)), (fun _ => (0 : UInt8)), ([] : List G.Command)⟩ : G.Delta) none 0) 27, .box b1 (G_Delta_cells a0 a0_commands_a a0_commands_c) 27, .defs (D1 :: [])] := hS
   replace f2 := Els.mono rep_G_Command f2 l13
   obtain ⟨x5, hy7, h⟩ := bind_some h
   refine qo 17 hK (s_app elT25_8 rep_G_Command hy7 hK.at_ 5 hS rfl f2 f3 rfl rfl rfl (by decide) ?_)
   clear hK fr hS; intro m14 g6 cp1 l14 hS f4 fr hK
   replace hS : St _ m m14 [rowOf 50 5 g6 cp1 x5, rowOf 50 5 (some b7) 1 ([x4] : List G.Command), .obj lp1 (.loop (R1 .busy none)), .box c1r0_0_b #[.slice c1r0_0_a y1.1.length c1r0_0_c] 124, .box c1r0_1_b #[.slice c1r0_1_a y1.2.length c1r0_1_c] 25, .box b3 #[.slice (adr g4) s1.1.length g5] 25, .box b2 (G_Delta_cells (⟨0, 0, (fun _ => (0 : UInt8)), (fun _ => (0 : UInt8)), ([] : List G.Command)⟩ : G.Delta) none 0) 27, .box b1 (G_Delta_cells a0 a0_commands_a a0_commands_c) 27, .defs (D1 :: [])] := hS
   refine qo0 hK (s_store hK.at_ 5 hS rfl rfl rfl rfl (by kernel_rfl) (by kernel_rfl) (by kernel_rfl) ?_)
   clear hK fr hS; intro m15 l15 hS fr hK
   replace hS : St _ m m15 [.box b3 #[.slice (adr g6) x5.length cp1] 25, rowOf 50 5 g6 cp1 x5, rowOf 50 5 (some b7) 1 ([x4] : List G.Command), .obj lp1 (.loop (R1 .busy none)), .box c1r0_0_b #[.slice c1r0_0_a y1.1.length c1r0_0_c] 124, .box c1r0_1_b #[.slice c1r0_1_a y1.2.length c1r0_1_c] 25, .box b2 (G_Delta_cells (⟨0, 0, (fun _ => (0 : UInt8)), (fun _ => (0 : UInt8)), ([] : List G.Command)⟩ : G.Delta) none 0) 27, .box b1 (G_Delta_cells a0 a0_commands_a a0_commands_c) 27, .defs (D1 :: [])] := hS
   refine wpListIn_nil ?_
   refine blk_n ?_
   refine r_end_n hR1 3 hS rfl ?_
   clear hK fr hS; intro m16 l16 hS fr hK
   replace hS : St _ m m16 [.obj lp1 (.loop (R1 .ready none)), .box b3 #[.slice (adr g6) x5.length cp1] 25, rowOf 50 5 g6 cp1 x5, rowOf 50 5 (some b7) 1 ([x4] : List G.Command), .box c1r0_0_b #[.slice c1r0_0_a y1.1.length c1r0_0_c] 124, .box c1r0_1_b #[.slice c1r0_1_a y1.2.length c1r0_1_c] 25, .box b2 (G_Delta_cells (⟨0, 0, (fun _ => (0 : UInt8)), (fun _ => (0 : UInt8)), ([] : List G.Command)⟩ : G.Delta) none 0) 27, .box b1 (G_Delta_cells a0 a0_commands_a a0_commands_c) 27, .defs (D1 :: [])] := hS
   refine qp 20 (.bool false) hK fun fr hK => ?_
   refine wpListIn_nil (then_n ?_)
   refine w_cond_f hK rfl ?_
   refine wpIn_skip ?_
   refine blk_n ?_
   refine then_n ?_
   refine w_region ?_
   refine qp 21 (.int .i64 (IntKind.i64.wrap (s1.2 + 1))) hK fun fr hK => ?_
   refine qp 8 (.int .i64 (IntKind.i64.wrap (s1.2 + 1))) hK fun fr hK => ?_
   refine wpListIn_nil (then_n ?_)
   replace f4 := Els.mono rep_G_Command f4 (l15.trans l16)
   replace hS := hS.front 8 rfl
   replace hS := hS.front 1 rfl
   replace hS := hS.front 8 rfl
   replace hS := hS.front 8 rfl
   replace hS := hS.front 5 rfl
   replace hS := hS.front 5 rfl
   replace hS := hS.front 8 rfl
   replace hS := hS.front 8 rfl
   replace hS := St.keep (L := [.box c1r0_0_b #[.slice c1r0_0_a y1.1.length c1r0_0_c] 124, .box c1r0_1_b #[.slice c1r0_1_a y1.2.length c1r0_1_c] 25, .box b3 #[.slice (adr g6) x5.length cp1] 25, rowOf 50 5 g6 cp1 x5, .box b2 (G_Delta_cells (⟨0, 0, (fun _ => (0 : UInt8)), (fun _ => (0 : UInt8)), ([] : List G.Command)⟩ : G.Delta) none 0) 27, .box b1 (G_Delta_cells a0 a0_commands_a a0_commands_c) 27, .obj lp1 (.loop (R1 .ready none)), .defs (D1 :: [])]) (R := [rowOf 50 5 (some b7) 1 ([x4] : List G.Command)]) hS
   replace h := Option.some.inj h; subst h
   obtain ⟨kq, hk1, hk2⟩ := hn1
   exact ⟨kq, hk1, _, hk2, g6, cp1, m16, rfl, hK.only [0, 2, 6, 7, 8], l10.trans (l11.trans (l12.trans (l13.trans (l14.trans (l15.trans l16))))), hS, f4⟩
  ·
   replace hK := hK.more (t := 9) (v' := .bool false) rfl (by rw [hb1])
   replace h := ite_f (of_decide_eq_false hb1) h
   refine wpIn_exit ?_
   refine then_x ?_
   refine then_x ?_
   refine blk_e ?_
   refine seq_normal ?_
   refine seq_end_n hK rfl hR1 6 hS rfl ?_
   clear hK fr hS; intro m17 l17 hS fr hK
   replace hS : St _ m m17 [.box c1r0_0_b #[.slice c1r0_0_a y1.1.length c1r0_0_c] 124, .box c1r0_1_b #[.slice c1r0_1_a y1.2.length c1r0_1_c] 25, .box b3 #[.slice (adr g4) s1.1.length g5] 25, rowOf 50 5 g4 g5 s1.1, .box b2 (G_Delta_cells (⟨0, 0, (fun _ => (0 : UInt8)), (fun _ => (0 : UInt8)), ([] : List G.Command)⟩ : G.Delta) none 0) 27, .box b1 (G_Delta_cells a0 a0_commands_a a0_commands_c) 27, .defs (D1 :: [])] := hS
   refine blk_n ?_
   refine then_n ?_
   replace f2 := Els.mono rep_G_Command f2 l17
   replace hS := hS.front 6 rfl
   replace hS := hS.front 6 rfl
   replace hS := hS.front 6 rfl
   replace hS := hS.front 6 rfl
   replace hS := hS.front 6 rfl
   replace hS := St.keep (L := [.box b3 #[.slice (adr g4) s1.1.length g5] 25, rowOf 50 5 g4 g5 s1.1, .box b2 (G_Delta_cells (⟨0, 0, (fun _ => (0 : UInt8)), (fun _ => (0 : UInt8)), ([] : List G.Command)⟩ : G.Delta) none 0) 27, .box b1 (G_Delta_cells a0 a0_commands_a a0_commands_c) 27, .defs (D1 :: [])]) (R := [.box c1r0_0_b #[.slice c1r0_0_a y1.1.length c1r0_0_c] 124, .box c1r0_1_b #[.slice c1r0_1_a y1.2.length c1r0_1_c] 25]) hS
   replace h := Option.some.inj h; subst h
   replace h := Option.some.inj (loop_out hn1); subst h
   exact ⟨(D1 :: []), g4, g5, m17, rfl, hK.only [1, 2, 3], l9.trans (l10.trans l17), hS, f2⟩
set_option maxRecDepth 100000 in
set_option maxHeartbeats 1000000 in
theorem G.graftref05_Sort_spec {m : Mem} {a0 : List G.Command} {a0_a : Option Addr} {a0_c : Nat} (a0_f : Els is_G_Command m 5 a0_a a0_c a0) {r : (List G.Command)} (h : G.graftref05_Sort a0 = some r) :
  Spec Try.prog 31 #[.slice a0_a a0.length a0_c] m [] fun v m' L => ∃ (r0_g : Option Nat) (r0_c : Nat), L = [rowOf 50 5 r0_g r0_c r] ∧ v = .slice (adr r0_g) r.length r0_c ∧ Els is_G_Command m' 5 (adr r0_g) r0_c r := by
 unfold G.graftref05_Sort at h
 refine enter (args := [_]) 48 Try.func31 rfl rfl (by simp) fun fr hK => ?_
 have hS := St.refl (Ow.nil m)
 replace hK : Kn 48 fr [(0, .slice a0_a a0.length a0_c)] := hK
 refine w_seq (w_region ?_)
 refine qp 2 (.slice none 0 0) hK fun fr hK => ?_
 refine wpListIn_nil (then_n ?_)
 refine w_seq (w_region ?_)
 refine qp 3 (.slice none 0 0) hK fun fr hK => ?_
 refine wpListIn_nil (then_n ?_)
 refine w_seq ?_
 refine w_seq (w_region ?_)
 refine qp 4 (.int .i64 0) hK fun fr hK => ?_
 refine wpListIn_nil (then_n ?_)
 refine wpIn_block ?_
 replace hS := hS.addRow (α := G.Command) 50 5
 replace hS : St _ m m [rowOf 50 5 none 0 ([] : List G.Command)] := hS
 refine w_loopL h (fun (s1 : (List G.Command) × Int) fr ww => ∃ (g1 : Option Nat), ∃ (g2 : Nat), ∃ m1 : Mem, m1.w = ww ∧ Kn 48 fr [(0, .slice a0_a a0.length a0_c), (3, .slice (adr g1) s1.1.length g2), (4, .int .i64 s1.2)] ∧ Le m m1 ∧ St (blocksOf []) m m1 [rowOf 50 5 g1 g2 s1.1] ∧ Els is_G_Command m1 5 (adr g1) g2 s1.1) ?_ ?_
 · exact ⟨none, 0, m, rfl, hK.only [0, 3, 4], Le.refl _, hS, (Els.nil _ _)⟩
 clear hK hS fr h
 rintro k1 s1 x1 fr _ ⟨g1, g2, m1, rfl, hK, l1, hS, f1⟩ h hn1
 unfold G.graftref05_Sort_l1 at h
 refine w_seq ?_
 refine w_seq (w_region ?_)
 refine qp 6 (.int .i64 s1.2) hK fun fr hK => ?_
 refine qp 7 (.slice a0_a a0.length a0_c) hK fun fr hK => ?_
 refine qp 8 (.int .i64 (a0.length : Int)) hK fun fr hK => ?_
 refine qp 9 (.bool (decide (s1.2 < (a0.length : Int)))) hK fun fr hK => ?_
 refine wpListIn_nil (then_n ?_)
 refine w_cond hK rfl (fun hb1 => ?_) (fun hb1 => ?_)
 ·
  replace hK := hK.more (t := 9) (v' := .bool true) rfl (by rw [hb1])
  replace h := ite_t (of_decide_eq_true hb1) h
  refine wpIn_skip ?_
  refine then_n ?_
  refine w_seq ?_
  refine wpIn_block ?_
  refine w_seq (w_region ?_)
  refine qp 12 (.slice (adr g1) s1.1.length g2) hK fun fr hK => ?_
  refine qp 13 (.int .i64 (s1.1.length : Int)) hK fun fr hK => ?_
  refine qp 5 (.int .i64 (s1.1.length : Int)) hK fun fr hK => ?_
  refine wpListIn_nil (then_n ?_)
  refine w_seq ?_
  obtain ⟨v1, hv1, h⟩ := bind_some h
  refine w_join (fun fr ww => ∃ m2 : Mem, m2.w = ww ∧ Kn 48 fr [(0, .slice a0_a a0.length a0_c), (3, .slice (adr g1) s1.1.length g2), (4, .int .i64 s1.2), (5, .int .i64 v1)] ∧ Le m1 m2 ∧ St (blocksOf []) m m2 [rowOf 50 5 g1 g2 s1.1]) ?_ ?_
  ·
   clear hK hS fr hv1
   rintro fr _ ⟨m2, rfl, hK, l2, hS⟩
   refine then_n ?_
   replace a0_f := Els.mono rep_G_Command a0_f (l1.trans l2)
   replace f1 := Els.mono rep_G_Command f1 l2
   obtain ⟨x2, hy1, h⟩ := bind_some h
   obtain ⟨x3, hy2, h⟩ := bind_some h
   obtain ⟨x4, hy3, h⟩ := bind_some h
   obtain ⟨x5, hy4, h⟩ := bind_some h
   obtain ⟨x6, hy5, h⟩ := bind_some h
   have hm0 : ∀ p ∈ ([(fun _ A _ => A = []), (fun l A M => ∃ (b1 : Nat), l[0]? = some (.slice (adr (some b1)) (([] : List G.Command).length) 0) ∧ A = [rowOf 50 5 (some b1) 0 ([] : List G.Command)] ∧ Els is_G_Command M 5 (adr (some b1)) 0 ([] : List G.Command)), (fun l A M => ∃ (b1 : Nat) (g3 : Option Nat) (cp2 : Nat), l[0]? = some (.slice (adr (some b1)) (([] : List G.Command).length) 0) ∧ l[1]? = some (.slice (adr g3) x3.length cp2) ∧ A = [rowOf 50 5 g3 cp2 x3] ∧ Els is_G_Command M 5 (adr (some b1)) 0 ([] : List G.Command) ∧ Els is_G_Command M 5 (adr g3) cp2 x3), (fun l A M => ∃ (b1 : Nat) (g3 : Option Nat) (cp2 : Nat) (g4 : Option Nat) (cp3 : Nat), l[0]? = some (.slice (adr (some b1)) (([] : List G.Command).length) 0) ∧ l[1]? = some (.slice (adr g3) x3.length cp2) ∧ l[2]? = some (.slice (adr g4) x5.length cp3) ∧ A = [rowOf 50 5 g4 cp3 x5] ∧ Els is_G_Command M 5 (adr (some b1)) 0 ([] : List G.Command) ∧ Els is_G_Command M 5 (adr g3) cp2 x3 ∧ Els is_G_Command M 5 (adr g4) cp3 x5)] : List D.Stage), D.MonoP p := D.allP_cons (fun _ _ _ _ h _ => h) (D.allP_cons (fun _ _ _ _ ⟨b1, el0, eA, f2⟩ hl => ⟨b1, el0, eA, Els.mono rep_G_Command f2 hl⟩) (D.allP_cons (fun _ _ _ _ ⟨b1, g3, cp2, el0, el1, eA, f2, f4⟩ hl => ⟨b1, g3, cp2, el0, el1, eA, Els.mono rep_G_Command f2 hl, Els.mono rep_G_Command f4 hl⟩) (D.allP_cons (fun _ _ _ _ ⟨b1, g3, cp2, g4, cp3, el0, el1, el2, eA, f2, f4, f6⟩ hl => ⟨b1, g3, cp2, g4, cp3, el0, el1, el2, eA, Els.mono rep_G_Command f2 hl, Els.mono rep_G_Command f4 hl, Els.mono rep_G_Command f6 hl⟩) (D.allP_nil))))
   have hCm := D.C1_mono [rowOf 50 5 g1 g2 s1.1] hm0
   refine D.wp_drawM (m0 := m2) 14 [[0, 4, 10]] [([], [(0, 0)], some 0), ([(3, none)], [(0, 1)], none), ([(5, none)], [(0, 1)], none), ([(33, some 1), (34, some 0)], [(0, 1)], none), ([(32, some 3), (35, some 0)], [(1, 1)], some 0), ([(0, none)], [(0, 2)], none), ([(4, none)], [(0, 2)], none), ([(37, some 1), (38, some 0)], [(0, 2)], none), ([(39, some 0)], [(0, 2)], none), ([(40, some 0)], [(0, 2)], none), ([(36, some 5), (41, some 0)], [(2, 2)], some 0), ([(3, none)], [(0, 3)], none), ([(5, none)], [(0, 3)], none), ([(43, some 1), (44, some 0)], [(0, 3)], none)] (D.SM m2 m (blocksOf []) (D.C1 [(fun _ A _ => A = []), (fun l A M => ∃ (b1 : Nat), l[0]? = some (.slice (adr (some b1)) (([] : List G.Command).length) 0) ∧ A = [rowOf 50 5 (some b1) 0 ([] : List G.Command)] ∧ Els is_G_Command M 5 (adr (some b1)) 0 ([] : List G.Command)), (fun l A M => ∃ (b1 : Nat) (g3 : Option Nat) (cp2 : Nat), l[0]? = some (.slice (adr (some b1)) (([] : List G.Command).length) 0) ∧ l[1]? = some (.slice (adr g3) x3.length cp2) ∧ A = [rowOf 50 5 g3 cp2 x3] ∧ Els is_G_Command M 5 (adr (some b1)) 0 ([] : List G.Command) ∧ Els is_G_Command M 5 (adr g3) cp2 x3), (fun l A M => ∃ (b1 : Nat) (g3 : Option Nat) (cp2 : Nat) (g4 : Option Nat) (cp3 : Nat), l[0]? = some (.slice (adr (some b1)) (([] : List G.Command).length) 0) ∧ l[1]? = some (.slice (adr g3) x3.length cp2) ∧ l[2]? = some (.slice (adr g4) x5.length cp3) ∧ A = [rowOf 50 5 g4 cp3 x5] ∧ Els is_G_Command M 5 (adr (some b1)) 0 ([] : List G.Command) ∧ Els is_G_Command M 5 (adr g3) cp2 x3 ∧ Els is_G_Command M 5 (adr g4) cp3 x5)] [rowOf 50 5 g1 g2 s1.1])) hK.size (by kernel_rfl) (by kernel_rfl) (by kernel_rfl) (D.start1 hS (fun _ => rfl)) ?_
   refine D.onA (fun uu MM => ∃ (b1 : Nat), uu = .slice (adr (some b1)) (([] : List G.Command).length) 0 ∧ Els is_G_Command MM 5 (adr (some b1)) 0 ([] : List G.Command)) (fun _ _ _ ⟨b1, e, f2⟩ g => ⟨b1, e, Els.mono rep_G_Command f2 g⟩) (by
    intro ac MM vs hbd hcor hS00 hk; have hS0 := hS00
    obtain ⟨hle, LL, hC, hSt⟩ := hS0
    have hSt0 := hSt
    have hC0 := hC; obtain ⟨A0, h0, rfl⟩ := hC
    have hn := D.bd_eq hbd 0 0 rfl
    obtain rfl := D.CH.at h0 hn rfl
    replace hSt := hSt
    have hKe : Ke ac [] := (.nil _)
    exact ⟨D.wanted0 rfl, s_buildRow (elem := 50) #[] hKe hSt rfl (by kernel_rfl) (by kernel_rfl) (by
      intro M2 b1 l2 hS2 hA1
      have f2 : Els is_G_Command M2 5 (some ⟨b1, 0, none⟩) 0 ([] : List G.Command) := els_lit rep_G_Command [] hA1 (by simp) (by decide) .nil
      exact ⟨M2, rfl, l2, ⟨b1, rfl, f2⟩, hle.trans l2, _, ⟨_, D.CH.push hn rfl ⟨b1, D.get_push hn, rfl, f2⟩, rfl⟩, hS2⟩)⟩) ?_
   refine D.onP [(3, .slice (adr g1) s1.1.length g2)] (.slice (adr g1) s1.1.length g2) (fun ac MM hk => (.cons (hk.1.trans (hK.at_ 3 _ rfl)) (.nil _))) ?_
   refine D.onP [(5, .int .i64 v1)] (.int .i64 v1) (fun ac MM hk => (.cons (hk.1.trans (hK.at_ 5 _ rfl)) (.nil _))) ?_
   refine D.onA (fun uu MM => ∃ (ad1 : Option Addr) (cp1 : Nat), uu = .slice ad1 x2.length cp1 ∧ Els is_G_Command MM 5 ad1 cp1 x2) (fun _ _ _ ⟨ad1, cp1, e, f3⟩ g => ⟨ad1, cp1, e, Els.mono rep_G_Command f3 g⟩) (by
    intro ac MM vs hbd hcor hS00 hk; have hS0 := hS00
    obtain ⟨hle, LL, hC, hSt⟩ := hS0
    have hSt0 := hSt
    have hC0 := hC; obtain ⟨A0, h0, rfl⟩ := hC
    have hS := D.St_right (hSt)
    have k33 : ac.eval (.tmp 33) = .slice (adr g1) s1.1.length g2 := hk.1
    have k34 : ac.eval (.tmp 34) = .int .i64 v1 := hk.2.1
    have hKe : Ke ac [(33, .slice (adr g1) s1.1.length g2), (34, .int .i64 v1)] := (.cons k33 (.cons k34 (.nil _)))
    replace f1 := Els.mono rep_G_Command f1 hle
    exact ⟨D.wanted0 rfl, s_slcTo elT25_8 f1 hy1 hKe rfl rfl rfl (fun ad1 cp1 f3 => ⟨MM, rfl, Le.refl _, ⟨ad1, cp1, rfl, f3⟩, hS00⟩)⟩) ?_
   refine D.onA (fun uu MM => ∃ (g3 : Option Nat) (cp2 : Nat), uu = .slice (adr g3) x3.length cp2 ∧ Els is_G_Command MM 5 (adr g3) cp2 x3) (fun _ _ _ ⟨g3, cp2, e, f4⟩ g => ⟨g3, cp2, e, Els.mono rep_G_Command f4 g⟩) (by
    intro ac MM vs hbd hcor hS00 hk; have hS0 := hS00
    obtain ⟨hle, LL, hC, hSt⟩ := hS0
    have hSt0 := hSt
    have hC0 := hC; obtain ⟨A0, h0, rfl⟩ := hC
    have hn := D.bd_eq hbd 0 1 rfl
    obtain ⟨b1, el0, rfl, f2⟩ := D.CH.at h0 hn rfl
    replace hSt := hSt
    have k32 : ac.eval (.tmp 32) = .slice (adr (some b1)) (([] : List G.Command).length) 0 := hcor 0 0 _ _ _ _ rfl rfl rfl el0
    obtain ⟨ad1, cp1, k35, f3⟩ : ∃ (ad1 : Option Addr) (cp1 : Nat), ac.eval (.tmp 35) = .slice ad1 x2.length cp1 ∧ Els is_G_Command MM 5 ad1 cp1 x2 := hk.2.1
    have hKe : Ke ac [(32, .slice (adr (some b1)) (([] : List G.Command).length) 0), (35, .slice ad1 x2.length cp1)] := (.cons k32 (.cons k35 (.nil _)))
    exact ⟨D.wanted0 rfl, s_app elT25_8 rep_G_Command hy2 hKe 0 hSt rfl f2 f3 rfl rfl rfl (by decide) (by
      intro M2 g3 cp2 l2 hS2 f4
      exact ⟨M2, rfl, l2, ⟨g3, cp2, rfl, f4⟩, hle.trans l2, _, ⟨_, D.CH.push hn rfl ⟨b1, g3, cp2, D.get_old el0, D.get_push hn, rfl, Els.mono rep_G_Command f2 l2, f4⟩, rfl⟩, hS2⟩)⟩) ?_
   refine D.onP [(0, .slice a0_a a0.length a0_c)] (.slice a0_a a0.length a0_c) (fun ac MM hk => (.cons (hk.1.trans (hK.at_ 0 _ rfl)) (.nil _))) ?_
   refine D.onP [(4, .int .i64 s1.2)] (.int .i64 s1.2) (fun ac MM hk => (.cons (hk.1.trans (hK.at_ 4 _ rfl)) (.nil _))) ?_
   refine D.onA (fun uu MM => ∃ (b2 : Nat) (p1 : Nat) (e1_data_a : Option Addr) (e1_data_c : Nat), uu = .pointer (some ⟨b2, p1, none⟩) ∧ At MM b2 p1 [.int .i64 x4.kind, .int .i64 x4.to, .int .i64 x4.from_, .int .i64 x4.len, .slice e1_data_a x4.data.length e1_data_c] ∧ Els isU8 MM 1 e1_data_a e1_data_c x4.data) (fun _ _ _ ⟨b2, p1, e1_data_a, e1_data_c, e, hA2, e1_data_f⟩ g => ⟨b2, p1, e1_data_a, e1_data_c, e, hA2.mono g, Els.mono rep_U8 e1_data_f g⟩) (by
    intro ac MM vs hbd hcor hS00 hk; have hS0 := hS00
    obtain ⟨hle, LL, hC, hSt⟩ := hS0
    have hSt0 := hSt
    have hC0 := hC; obtain ⟨A0, h0, rfl⟩ := hC
    have hS := D.St_right (hSt)
    have k37 : ac.eval (.tmp 37) = .slice a0_a a0.length a0_c := hk.1
    have k38 : ac.eval (.tmp 38) = .int .i64 s1.2 := hk.2.1
    have hKe : Ke ac [(37, .slice a0_a a0.length a0_c), (38, .int .i64 s1.2)] := (.cons k37 (.cons k38 (.nil _)))
    replace a0_f := Els.mono rep_G_Command a0_f hle
    exact ⟨D.wanted0 rfl, s_idx elT25_8 a0_f hy3 hKe rfl rfl rfl (by
      intro b2 p1 cs1 hR1 hA2
      obtain ⟨e1_data_a, e1_data_c, rfl, e1_data_f⟩ := hR1
      exact ⟨MM, rfl, Le.refl _, ⟨b2, p1, e1_data_a, e1_data_c, rfl, hA2, e1_data_f⟩, hS00⟩)⟩) ?_
   refine D.onA (fun uu MM => ∃ (b2 : Nat) (p1 : Nat) (e1_data_a : Option Addr) (e1_data_c : Nat), uu = .agg #[.int .i64 x4.kind, .int .i64 x4.to, .int .i64 x4.from_, .int .i64 x4.len, .slice e1_data_a x4.data.length e1_data_c] ∧ At MM b2 p1 [.int .i64 x4.kind, .int .i64 x4.to, .int .i64 x4.from_, .int .i64 x4.len, .slice e1_data_a x4.data.length e1_data_c] ∧ Els isU8 MM 1 e1_data_a e1_data_c x4.data) (fun _ _ _ ⟨b2, p1, e1_data_a, e1_data_c, e, hA2, e1_data_f⟩ g => ⟨b2, p1, e1_data_a, e1_data_c, e, hA2.mono g, Els.mono rep_U8 e1_data_f g⟩) (by
    intro ac MM vs hbd hcor hS00 hk; have hS0 := hS00
    obtain ⟨hle, LL, hC, hSt⟩ := hS0
    have hSt0 := hSt
    have hC0 := hC; obtain ⟨A0, h0, rfl⟩ := hC
    have hS := D.St_right (hSt)
    obtain ⟨b2, p1, e1_data_a, e1_data_c, k39, hA2, e1_data_f⟩ : ∃ (b2 : Nat) (p1 : Nat) (e1_data_a : Option Addr) (e1_data_c : Nat), ac.eval (.tmp 39) = .pointer (some ⟨b2, p1, none⟩) ∧ At MM b2 p1 [.int .i64 x4.kind, .int .i64 x4.to, .int .i64 x4.from_, .int .i64 x4.len, .slice e1_data_a x4.data.length e1_data_c] ∧ Els isU8 MM 1 e1_data_a e1_data_c x4.data := hk.1
    have hKe : Ke ac [(39, .pointer (some ⟨b2, p1, none⟩))] := (.cons k39 (.nil _))
    exact ⟨D.wanted0 rfl, s_loadAtN [.int .i64 x4.kind, .int .i64 x4.to, .int .i64 x4.from_, .int .i64 x4.len, .slice e1_data_a x4.data.length e1_data_c] hKe hA2 0 rfl rfl rfl (by kernel_rfl) (by kernel_rfl) ⟨MM, rfl, Le.refl _, ⟨b2, p1, e1_data_a, e1_data_c, rfl, hA2, e1_data_f⟩, hS00⟩⟩) ?_
   refine D.onA (fun uu MM => ∃ (b3 : Nat), uu = .slice (some ⟨b3, 0, none⟩) (([x4] : List G.Command).length) 1 ∧ Els is_G_Command MM 5 (some ⟨b3, 0, none⟩) 1 ([x4] : List G.Command)) (fun _ _ _ ⟨b3, e, f5⟩ g => ⟨b3, e, Els.mono rep_G_Command f5 g⟩) (by
    intro ac MM vs hbd hcor hS00 hk; have hS0 := hS00
    obtain ⟨hle, LL, hC, hSt⟩ := hS0
    have hSt0 := hSt
    have hC0 := hC; obtain ⟨A0, h0, rfl⟩ := hC
    have hS := D.St_right (hSt)
    obtain ⟨b2, p1, e1_data_a, e1_data_c, k40, hA2, e1_data_f⟩ : ∃ (b2 : Nat) (p1 : Nat) (e1_data_a : Option Addr) (e1_data_c : Nat), ac.eval (.tmp 40) = .agg #[.int .i64 x4.kind, .int .i64 x4.to, .int .i64 x4.from_, .int .i64 x4.len, .slice e1_data_a x4.data.length e1_data_c] ∧ At MM b2 p1 [.int .i64 x4.kind, .int .i64 x4.to, .int .i64 x4.from_, .int .i64 x4.len, .slice e1_data_a x4.data.length e1_data_c] ∧ Els isU8 MM 1 e1_data_a e1_data_c x4.data := hk.1
    have hKe : Ke ac [(40, .agg #[.int .i64 x4.kind, .int .i64 x4.to, .int .i64 x4.from_, .int .i64 x4.len, .slice e1_data_a x4.data.length e1_data_c])] := (.cons k40 (.nil _))
    exact ⟨D.wanted0 rfl, s_buildSlice (elem := 50) #[.int .i64 x4.kind, .int .i64 x4.to, .int .i64 x4.from_, .int .i64 x4.len, .slice e1_data_a x4.data.length e1_data_c] hKe hSt0 rfl (by kernel_rfl) (by kernel_rfl) (by
      intro M2 b3 hz_ hn_ hl2 hS2 hA3
      replace e1_data_f := Els.mono rep_U8 e1_data_f hl2
      have f5 : Els is_G_Command M2 5 (some ⟨b3, 0, none⟩) 1 ([x4] : List G.Command) := els_lit rep_G_Command [[.int .i64 x4.kind, .int .i64 x4.to, .int .i64 x4.from_, .int .i64 x4.len, .slice e1_data_a x4.data.length e1_data_c]] hA3 (by simp) (by decide) (.cons ⟨e1_data_a, e1_data_c, rfl, e1_data_f⟩ .nil)
      exact ⟨M2, rfl, hl2, ⟨b3, rfl, f5⟩, hle.trans hl2, _, hCm _ _ _ _ hC0 hl2, hS2⟩)⟩) ?_
   refine D.onA (fun uu MM => ∃ (g4 : Option Nat) (cp3 : Nat), uu = .slice (adr g4) x5.length cp3 ∧ Els is_G_Command MM 5 (adr g4) cp3 x5) (fun _ _ _ ⟨g4, cp3, e, f6⟩ g => ⟨g4, cp3, e, Els.mono rep_G_Command f6 g⟩) (by
    intro ac MM vs hbd hcor hS00 hk; have hS0 := hS00
    obtain ⟨hle, LL, hC, hSt⟩ := hS0
    have hSt0 := hSt
    have hC0 := hC; obtain ⟨A0, h0, rfl⟩ := hC
    have hn := D.bd_eq hbd 0 2 rfl
    obtain ⟨b1, g3, cp2, el0, el1, rfl, f2, f4⟩ := D.CH.at h0 hn rfl
    replace hSt := hSt
    have k36 : ac.eval (.tmp 36) = .slice (adr g3) x3.length cp2 := hcor 0 1 _ _ _ _ rfl rfl rfl el1
    obtain ⟨b3, k41, f5⟩ : ∃ (b3 : Nat), ac.eval (.tmp 41) = .slice (some ⟨b3, 0, none⟩) (([x4] : List G.Command).length) 1 ∧ Els is_G_Command MM 5 (some ⟨b3, 0, none⟩) 1 ([x4] : List G.Command) := hk.2.1
    have hKe : Ke ac [(36, .slice (adr g3) x3.length cp2), (41, .slice (some ⟨b3, 0, none⟩) (([x4] : List G.Command).length) 1)] := (.cons k36 (.cons k41 (.nil _)))
    exact ⟨D.wanted0 rfl, s_app elT25_8 rep_G_Command hy4 hKe 0 hSt rfl f4 f5 rfl rfl rfl (by decide) (by
      intro M2 g4 cp3 l2 hS2 f6
      exact ⟨M2, rfl, l2, ⟨g4, cp3, rfl, f6⟩, hle.trans l2, _, ⟨_, D.CH.push hn rfl ⟨b1, g3, cp2, g4, cp3, D.get_old el0, D.get_old el1, D.get_push hn, rfl, Els.mono rep_G_Command f2 l2, Els.mono rep_G_Command f4 l2, f6⟩, rfl⟩, hS2⟩)⟩) ?_
   refine D.onP [(3, .slice (adr g1) s1.1.length g2)] (.slice (adr g1) s1.1.length g2) (fun ac MM hk => (.cons (hk.1.trans (hK.at_ 3 _ rfl)) (.nil _))) ?_
   refine D.onP [(5, .int .i64 v1)] (.int .i64 v1) (fun ac MM hk => (.cons (hk.1.trans (hK.at_ 5 _ rfl)) (.nil _))) ?_
   refine D.onA (fun uu MM => ∃ (ad2 : Option Addr) (cp4 : Nat), uu = .slice ad2 x6.length cp4 ∧ Els is_G_Command MM 5 ad2 cp4 x6) (fun _ _ _ ⟨ad2, cp4, e, f7⟩ g => ⟨ad2, cp4, e, Els.mono rep_G_Command f7 g⟩) (by
    intro ac MM vs hbd hcor hS00 hk; have hS0 := hS00
    obtain ⟨hle, LL, hC, hSt⟩ := hS0
    have hSt0 := hSt
    have hC0 := hC; obtain ⟨A0, h0, rfl⟩ := hC
    have hS := D.St_right (hSt)
    have k43 : ac.eval (.tmp 43) = .slice (adr g1) s1.1.length g2 := hk.1
    have k44 : ac.eval (.tmp 44) = .int .i64 v1 := hk.2.1
    have hKe : Ke ac [(43, .slice (adr g1) s1.1.length g2), (44, .int .i64 v1)] := (.cons k43 (.cons k44 (.nil _)))
    replace f1 := Els.mono rep_G_Command f1 hle
    exact ⟨D.wanted0 rfl, s_slcFrom elT25_8 f1 hy5 hKe rfl rfl rfl (fun ad2 cp4 f7 => ⟨MM, rfl, Le.refl _, ⟨ad2, cp4, rfl, f7⟩, hS00⟩)⟩) ?_
   intro fr2 m3 vs hlen hcor hS2 hE; obtain ⟨l3, LL, hC, hS2⟩ := hS2
   obtain ⟨A0, h0, rfl⟩ := hC
   obtain ⟨b1, g3, cp2, g4, cp3, el0_0, el0_1, el0_2, rfl, f2, f4, f6⟩ := D.CH.at h0 (hlen 0) rfl
   replace hS2 : St _ m m3 [rowOf 50 5 g4 cp3 x5, rowOf 50 5 g1 g2 s1.1] := hS2
   have kl32 : fr2.eval (.tmp 32) = .slice (adr (some b1)) (([] : List G.Command).length) 0 := hcor 0 0 _ _ _ _ rfl rfl rfl el0_0
   have kl36 : fr2.eval (.tmp 36) = .slice (adr g3) x3.length cp2 := hcor 0 1 _ _ _ _ rfl rfl rfl el0_1
   have kl42 : fr2.eval (.tmp 42) = .slice (adr g4) x5.length cp3 := hcor 0 2 _ _ _ _ rfl rfl rfl el0_2
   obtain ⟨ad2, cp4, k45, f7⟩ : ∃ (ad2 : Option Addr) (cp4 : Nat), fr2.eval (.tmp 45) = .slice ad2 x6.length cp4 ∧ Els is_G_Command m3 5 ad2 cp4 x6 := hE.slots 45
   have hK2 := D.kn_endsM [(32, .slice (adr (some b1)) (([] : List G.Command).length) 0), (33, .slice (adr g1) s1.1.length g2), (34, .int .i64 v1), (35, fr2.eval (.tmp 35)), (36, .slice (adr g3) x3.length cp2), (37, .slice a0_a a0.length a0_c), (38, .int .i64 s1.2), (39, fr2.eval (.tmp 39)), (40, fr2.eval (.tmp 40)), (41, fr2.eval (.tmp 41)), (42, .slice (adr g4) x5.length cp3), (43, .slice (adr g1) s1.1.length g2), (44, .int .i64 v1), (45, .slice ad2 x6.length cp4)] hK hE rfl (by kernel_rfl) (.cons (kl32) (.cons (hE.slots 33) (.cons (hE.slots 34) (.cons (rfl) (.cons (kl36) (.cons (hE.slots 37) (.cons (hE.slots 38) (.cons (rfl) (.cons (rfl) (.cons (rfl) (.cons (kl42) (.cons (hE.slots 43) (.cons (hE.slots 44) (.cons (k45) (.nil _)))))))))))))))
   replace hK2 : Kn 48 fr2 [(32, .slice (adr (some b1)) (([] : List G.Command).length) 0), (33, .slice (adr g1) s1.1.length g2), (34, .int .i64 v1), (36, .slice (adr g3) x3.length cp2), (37, .slice a0_a a0.length a0_c), (38, .int .i64 s1.2), (42, .slice (adr g4) x5.length cp3), (43, .slice (adr g1) s1.1.length g2), (44, .int .i64 v1), (45, .slice ad2 x6.length cp4), (0, .slice a0_a a0.length a0_c), (3, .slice (adr g1) s1.1.length g2), (4, .int .i64 s1.2), (5, .int .i64 v1)] := hK2.only [32, 33, 34, 36, 37, 38, 42, 43, 44, 45, 0, 3, 4, 5]
   clear hE hK hcor hlen kl32 kl36 kl42 k45 h0 el0_0 el0_1 el0_2; revert hK2; clear hS; revert fr2; clear fr; intro fr hK; have hS := hS2; clear hS2 hCm hm0
   replace hS : St _ m m3 [rowOf 50 5 g4 cp3 x5, rowOf 50 5 g1 g2 s1.1] := hS
   obtain ⟨x7, hy6, h⟩ := bind_some h
   refine qo 46 hK (s_app elT25_8 rep_G_Command hy6 hK.at_ 0 hS rfl f6 f7 rfl rfl rfl (by decide) ?_)
   clear hK fr hS; intro m4 g5 cp5 l4 hS f8 fr hK
   replace hS : St _ m m4 [rowOf 50 5 g5 cp5 x7, rowOf 50 5 g1 g2 s1.1] := hS
   refine qp 3 (.slice (adr g5) x7.length cp5) hK fun fr hK => ?_
   refine wpListIn_nil ?_
   refine blk_n ?_
   refine then_n ?_
   refine w_region ?_
   refine qp 10 (.int .i64 s1.2) hK fun fr hK => ?_
   refine qp 11 (.int .i64 (IntKind.i64.wrap (s1.2 + 1))) hK fun fr hK => ?_
   refine qp 4 (.int .i64 (IntKind.i64.wrap (s1.2 + 1))) hK fun fr hK => ?_
   refine wpListIn_nil (then_n ?_)
   replace hS := St.keep (L := [rowOf 50 5 g5 cp5 x7]) (R := [rowOf 50 5 g1 g2 s1.1]) hS
   replace h := Option.some.inj h; subst h
   obtain ⟨kq, hk1, hk2⟩ := hn1
   exact ⟨kq, hk1, _, hk2, g5, cp5, m4, rfl, hK.only [0, 3, 4], l1.trans (l2.trans (l3.trans l4)), hS, f8⟩
  ·
   replace h := hv1; clear hv1
   refine wpIn_block ?_
   replace hS : St _ m m1 [rowOf 50 5 g1 g2 s1.1] := hS
   refine w_loopL h (fun (s2 : Int) fr ww => ∃ m5 : Mem, m5.w = ww ∧ Kn 48 fr [(0, .slice a0_a a0.length a0_c), (3, .slice (adr g1) s1.1.length g2), (4, .int .i64 s1.2), (5, .int .i64 s2)] ∧ Le m1 m5 ∧ St (blocksOf []) m m5 [rowOf 50 5 g1 g2 s1.1]) ?_ ?_
   · exact ⟨m1, rfl, hK.only [0, 3, 4, 5], Le.refl _, hS⟩
   clear hK hS fr h
   rintro k2 s2 x8 fr _ ⟨m5, rfl, hK, l5, hS⟩ h hn2
   unfold G.graftref05_Sort_l2 at h
   refine w_seq ?_
   refine w_seq ?_
   obtain ⟨v2, hv2, h⟩ := bind_some h
   refine w_join (fun fr ww => ∃ m6 : Mem, m6.w = ww ∧ Kn 48 fr [(0, .slice a0_a a0.length a0_c), (3, .slice (adr g1) s1.1.length g2), (4, .int .i64 s1.2), (5, .int .i64 s2), (29, .bool v2)] ∧ Le m5 m6 ∧ St (blocksOf []) m m6 [rowOf 50 5 g1 g2 s1.1]) ?_ ?_
   ·
    clear hK hS fr hv2
    rintro fr _ ⟨m6, rfl, hK, l6, hS⟩
    refine then_n ?_
    refine w_cond hK rfl (fun hb2 => ?_) (fun hb2 => ?_)
    ·
     replace hK := hK.more (t := 29) (v' := .bool true) rfl (by rw [hb2])
     replace h := ite_t (hb2) h
     refine wpIn_skip ?_
     refine then_n ?_
     refine wpIn_block ?_
     refine w_region ?_
     refine qp 30 (.int .i64 s2) hK fun fr hK => ?_
     refine qp 31 (.int .i64 (IntKind.i64.wrap (s2 - 1))) hK fun fr hK => ?_
     refine qp 5 (.int .i64 (IntKind.i64.wrap (s2 - 1))) hK fun fr hK => ?_
     refine wpListIn_nil ?_
     refine blk_n ?_
     refine then_n ?_
     replace hS : St _ m m6 [rowOf 50 5 g1 g2 s1.1] := hS
     replace h := Option.some.inj h; subst h
     obtain ⟨kq, hk1, hk2⟩ := hn2
     exact ⟨kq, hk1, _, hk2, m6, rfl, hK.only [0, 3, 4, 5], l5.trans l6, hS⟩
    ·
     replace hK := hK.more (t := 29) (v' := .bool false) rfl (by rw [hb2])
     replace h := ite_f (ne_true_of_eq_false hb2) h
     refine wpIn_exit ?_
     refine then_x ?_
     refine then_x ?_
     refine blk_e ?_
     refine then_n ?_
     replace hS : St _ m m6 [rowOf 50 5 g1 g2 s1.1] := hS
     replace h := Option.some.inj h; subst h
     replace h := Option.some.inj (loop_out hn2); subst h
     exact ⟨m6, rfl, hK.only [0, 3, 4, 5], l5.trans l6, hS⟩
   ·
    replace h := hv2; clear hv2
    replace a0_f := Els.mono rep_G_Command a0_f (l1.trans l5)
    replace f1 := Els.mono rep_G_Command f1 l5
    refine split_b (x := decide (s2 > 0)) (fun hb3 => ?_) (fun hb3 => ?_)
    ·
     replace h := ite_t (of_decide_eq_true hb3) h
     obtain ⟨x9, hy7, h⟩ := bind_some h
     obtain ⟨x10, hy8, h⟩ := bind_some h
     have hlt0 : ∀ bq ∈ blocksOf [rowOf 50 5 g1 g2 s1.1], bq < m5.w.heap.size := fun bq hbq => hS.ow.lt hbq
     refine D.wp_draw (Gr := D.GO m5 none) (S := D.SO none (blocksOf []) m m5 (fun _ => [rowOf 50 5 g1 g2 s1.1]) (fun _ => True)) (N := 0) 14 [] [([(5, none)], 0, 0, false), ([(14, some 0)], 0, 0, false), ([(15, some 0)], 0, 0, false), ([(3, none), (16, some 0)], 0, 0, false), ([(5, none), (16, some 1)], 0, 0, false), ([(18, some 0), (16, some 2)], 0, 0, false), ([(17, some 2), (19, some 0), (16, some 3)], 0, 0, false), ([(20, some 0), (16, some 4)], 0, 0, false), ([(21, some 0), (16, some 5)], 0, 0, false), ([(0, none), (16, some 6)], 0, 0, false), ([(4, none), (16, some 7)], 0, 0, false), ([(23, some 1), (24, some 0), (16, some 8)], 0, 0, false), ([(25, some 0), (16, some 9)], 0, 0, false), ([(26, some 0), (16, some 10)], 0, 0, false)] hK.size (by kernel_rfl) (by kernel_rfl) (by kernel_rfl) rfl (D.startO hS trivial) ?_
     refine D.on_pure (D.GO_refl _ _) [(5, .int .i64 s2)] (.int .i64 s2) (fun ac ww hk => (.cons (hk.1.trans (hK.at_ 5 _ rfl)) (.nil _))) ?_
     refine D.on_det (D.GO_refl _ _) [(14, .int .i64 s2)] (.bool true) (fun ac ww hk => (.cons (hk.1) (.nil _))) (fun ac ww kk hb hKe Post hp => s_pureE (.bool true) (.bool (decide (s2 > 0))) hKe (by kernel_rfl) (by kernel_rfl) (by rw [hb3]) hp) ?_
     refine D.on_pure (D.GO_refl _ _) [(15, .bool true)] (.bool true) (fun ac ww hk => (.cons (hk.1) (.nil _))) ?_
     refine D.on_pure (D.GO_refl _ _) [(3, .slice (adr g1) s1.1.length g2), (16, .bool true)] (.slice (adr g1) s1.1.length g2) (fun ac ww hk => (.cons (hk.1.trans (hK.at_ 3 _ rfl)) (.cons (hk.2.1) (.nil _)))) ?_
     refine D.on_pure (D.GO_refl _ _) [(5, .int .i64 s2), (16, .bool true)] (.int .i64 s2) (fun ac ww hk => (.cons (hk.1.trans (hK.at_ 5 _ rfl)) (.cons (hk.2.1) (.nil _)))) ?_
     refine D.on_pure (D.GO_refl _ _) [(18, .int .i64 s2), (16, .bool true)] (.int .i64 (IntKind.i64.wrap (s2 - 1))) (fun ac ww hk => (.cons (hk.1) (.cons (hk.2.1) (.nil _)))) ?_
     refine D.on_op (fun uu ww => ∃ (b4 : Nat) (p2 : Nat) (e2_data_a : Option Addr) (e2_data_c : Nat), uu = .pointer (some ⟨b4, p2, none⟩) ∧ At (m5.upO none ww) b4 p2 [.int .i64 x9.kind, .int .i64 x9.to, .int .i64 x9.from_, .int .i64 x9.len, .slice e2_data_a x9.data.length e2_data_c] ∧ Els isU8 (m5.upO none ww) 1 e2_data_a e2_data_c x9.data) (fun _ _ _ ⟨b4, p2, e2_data_a, e2_data_c, e, hA4, e2_data_f⟩ g => ⟨b4, p2, e2_data_a, e2_data_c, e, hA4.mono g.1, Els.mono rep_U8 e2_data_f g.1⟩) (by
      intro ac ww kk hlo hhi hb hk
      obtain rfl : kk = 0 := by omega
      have h0 := hS; replace hS := hb.2.1
      have k17 : ac.eval (.tmp 17) = .slice (adr g1) s1.1.length g2 := hk.1
      have k19 : ac.eval (.tmp 19) = .int .i64 (IntKind.i64.wrap (s2 - 1)) := hk.2.1
      have k16 : ac.eval (.tmp 16) = .bool true := hk.2.2.1
      have hKe : Ke ac [(17, .slice (adr g1) s1.1.length g2), (19, .int .i64 (IntKind.i64.wrap (s2 - 1))), (16, .bool true)] := (.cons k17 (.cons k19 (.cons k16 (.nil _))))
      replace f1 := Els.mono rep_G_Command f1 hb.1
      exact ⟨D.wantedE hKe (by kernel_rfl), (s_idx elT25_8 f1 hy7 hKe rfl rfl rfl (by
    intro b4 p2 cs2 hR2 hA4
    obtain ⟨e2_data_a, e2_data_c, rfl, e2_data_f⟩ := hR2
    exact ⟨⟨b4, p2, e2_data_a, e2_data_c, rfl, hA4, e2_data_f⟩, D.GO_refl _ _ _, hb⟩))⟩) ?_
     refine D.on_op (fun uu ww => ∃ (b4 : Nat) (p2 : Nat) (e2_data_a : Option Addr) (e2_data_c : Nat), uu = .pointer (some ⟨b4, p2 + 1, none⟩) ∧ At (m5.upO none ww) b4 p2 [.int .i64 x9.kind, .int .i64 x9.to, .int .i64 x9.from_, .int .i64 x9.len, .slice e2_data_a x9.data.length e2_data_c] ∧ Els isU8 (m5.upO none ww) 1 e2_data_a e2_data_c x9.data) (fun _ _ _ ⟨b4, p2, e2_data_a, e2_data_c, e, hA4, e2_data_f⟩ g => ⟨b4, p2, e2_data_a, e2_data_c, e, hA4.mono g.1, Els.mono rep_U8 e2_data_f g.1⟩) (by
      intro ac ww kk hlo hhi hb hk
      obtain rfl : kk = 0 := by omega
      have h0 := hS; replace hS := hb.2.1
      obtain ⟨b4, p2, e2_data_a, e2_data_c, k20, hA4, e2_data_f⟩ : ∃ (b4 : Nat) (p2 : Nat) (e2_data_a : Option Addr) (e2_data_c : Nat), ac.eval (.tmp 20) = .pointer (some ⟨b4, p2, none⟩) ∧ At (m5.upO none ww) b4 p2 [.int .i64 x9.kind, .int .i64 x9.to, .int .i64 x9.from_, .int .i64 x9.len, .slice e2_data_a x9.data.length e2_data_c] ∧ Els isU8 (m5.upO none ww) 1 e2_data_a e2_data_c x9.data := hk.1
      have k16 : ac.eval (.tmp 16) = .bool true := hk.2.1
      have hKe : Ke ac [(20, .pointer (some ⟨b4, p2, none⟩)), (16, .bool true)] := (.cons k20 (.cons k16 (.nil _)))
      exact ⟨D.wantedE hKe (by kernel_rfl), D.valO hb (fun Post hp => s_pure (.pointer (some ⟨b4, p2 + 1, none⟩)) hKe (by kernel_rfl) (by kernel_rfl) hp) ⟨b4, p2, e2_data_a, e2_data_c, rfl, hA4, e2_data_f⟩⟩) ?_
     refine D.on_op (fun uu _ => uu = .int .i64 x9.to) (fun _ _ _ h _ => h) (by
      intro ac ww kk hlo hhi hb hk
      obtain rfl : kk = 0 := by omega
      have h0 := hS; replace hS := hb.2.1
      obtain ⟨b4, p2, e2_data_a, e2_data_c, k21, hA4, e2_data_f⟩ : ∃ (b4 : Nat) (p2 : Nat) (e2_data_a : Option Addr) (e2_data_c : Nat), ac.eval (.tmp 21) = .pointer (some ⟨b4, p2 + 1, none⟩) ∧ At (m5.upO none ww) b4 p2 [.int .i64 x9.kind, .int .i64 x9.to, .int .i64 x9.from_, .int .i64 x9.len, .slice e2_data_a x9.data.length e2_data_c] ∧ Els isU8 (m5.upO none ww) 1 e2_data_a e2_data_c x9.data := hk.1
      have k16 : ac.eval (.tmp 16) = .bool true := hk.2.1
      have hKe : Ke ac [(21, .pointer (some ⟨b4, p2 + 1, none⟩)), (16, .bool true)] := (.cons k21 (.cons k16 (.nil _)))
      exact ⟨D.wantedE hKe (by kernel_rfl), D.valO (m := m5) hb (fun Post hp => s_loadAt hKe hA4 1 rfl rfl rfl rfl (by kernel_rfl) hp) rfl⟩) ?_
     refine D.on_pure (D.GO_refl _ _) [(0, .slice a0_a a0.length a0_c), (16, .bool true)] (.slice a0_a a0.length a0_c) (fun ac ww hk => (.cons (hk.1.trans (hK.at_ 0 _ rfl)) (.cons (hk.2.1) (.nil _)))) ?_
     refine D.on_pure (D.GO_refl _ _) [(4, .int .i64 s1.2), (16, .bool true)] (.int .i64 s1.2) (fun ac ww hk => (.cons (hk.1.trans (hK.at_ 4 _ rfl)) (.cons (hk.2.1) (.nil _)))) ?_
     refine D.on_op (fun uu ww => ∃ (b5 : Nat) (p3 : Nat) (e3_data_a : Option Addr) (e3_data_c : Nat), uu = .pointer (some ⟨b5, p3, none⟩) ∧ At (m5.upO none ww) b5 p3 [.int .i64 x10.kind, .int .i64 x10.to, .int .i64 x10.from_, .int .i64 x10.len, .slice e3_data_a x10.data.length e3_data_c] ∧ Els isU8 (m5.upO none ww) 1 e3_data_a e3_data_c x10.data) (fun _ _ _ ⟨b5, p3, e3_data_a, e3_data_c, e, hA5, e3_data_f⟩ g => ⟨b5, p3, e3_data_a, e3_data_c, e, hA5.mono g.1, Els.mono rep_U8 e3_data_f g.1⟩) (by
      intro ac ww kk hlo hhi hb hk
      obtain rfl : kk = 0 := by omega
      have h0 := hS; replace hS := hb.2.1
      have k23 : ac.eval (.tmp 23) = .slice a0_a a0.length a0_c := hk.1
      have k24 : ac.eval (.tmp 24) = .int .i64 s1.2 := hk.2.1
      have k16 : ac.eval (.tmp 16) = .bool true := hk.2.2.1
      have hKe : Ke ac [(23, .slice a0_a a0.length a0_c), (24, .int .i64 s1.2), (16, .bool true)] := (.cons k23 (.cons k24 (.cons k16 (.nil _))))
      replace a0_f := Els.mono rep_G_Command a0_f hb.1
      exact ⟨D.wantedE hKe (by kernel_rfl), (s_idx elT25_8 a0_f hy8 hKe rfl rfl rfl (by
    intro b5 p3 cs3 hR3 hA5
    obtain ⟨e3_data_a, e3_data_c, rfl, e3_data_f⟩ := hR3
    exact ⟨⟨b5, p3, e3_data_a, e3_data_c, rfl, hA5, e3_data_f⟩, D.GO_refl _ _ _, hb⟩))⟩) ?_
     refine D.on_op (fun uu ww => ∃ (b5 : Nat) (p3 : Nat) (e3_data_a : Option Addr) (e3_data_c : Nat), uu = .pointer (some ⟨b5, p3 + 1, none⟩) ∧ At (m5.upO none ww) b5 p3 [.int .i64 x10.kind, .int .i64 x10.to, .int .i64 x10.from_, .int .i64 x10.len, .slice e3_data_a x10.data.length e3_data_c] ∧ Els isU8 (m5.upO none ww) 1 e3_data_a e3_data_c x10.data) (fun _ _ _ ⟨b5, p3, e3_data_a, e3_data_c, e, hA5, e3_data_f⟩ g => ⟨b5, p3, e3_data_a, e3_data_c, e, hA5.mono g.1, Els.mono rep_U8 e3_data_f g.1⟩) (by
      intro ac ww kk hlo hhi hb hk
      obtain rfl : kk = 0 := by omega
      have h0 := hS; replace hS := hb.2.1
      obtain ⟨b5, p3, e3_data_a, e3_data_c, k25, hA5, e3_data_f⟩ : ∃ (b5 : Nat) (p3 : Nat) (e3_data_a : Option Addr) (e3_data_c : Nat), ac.eval (.tmp 25) = .pointer (some ⟨b5, p3, none⟩) ∧ At (m5.upO none ww) b5 p3 [.int .i64 x10.kind, .int .i64 x10.to, .int .i64 x10.from_, .int .i64 x10.len, .slice e3_data_a x10.data.length e3_data_c] ∧ Els isU8 (m5.upO none ww) 1 e3_data_a e3_data_c x10.data := hk.1
      have k16 : ac.eval (.tmp 16) = .bool true := hk.2.1
      have hKe : Ke ac [(25, .pointer (some ⟨b5, p3, none⟩)), (16, .bool true)] := (.cons k25 (.cons k16 (.nil _)))
      exact ⟨D.wantedE hKe (by kernel_rfl), D.valO hb (fun Post hp => s_pure (.pointer (some ⟨b5, p3 + 1, none⟩)) hKe (by kernel_rfl) (by kernel_rfl) hp) ⟨b5, p3, e3_data_a, e3_data_c, rfl, hA5, e3_data_f⟩⟩) ?_
     refine D.on_op (fun uu _ => uu = .int .i64 x10.to) (fun _ _ _ h _ => h) (by
      intro ac ww kk hlo hhi hb hk
      obtain rfl : kk = 0 := by omega
      have h0 := hS; replace hS := hb.2.1
      obtain ⟨b5, p3, e3_data_a, e3_data_c, k26, hA5, e3_data_f⟩ : ∃ (b5 : Nat) (p3 : Nat) (e3_data_a : Option Addr) (e3_data_c : Nat), ac.eval (.tmp 26) = .pointer (some ⟨b5, p3 + 1, none⟩) ∧ At (m5.upO none ww) b5 p3 [.int .i64 x10.kind, .int .i64 x10.to, .int .i64 x10.from_, .int .i64 x10.len, .slice e3_data_a x10.data.length e3_data_c] ∧ Els isU8 (m5.upO none ww) 1 e3_data_a e3_data_c x10.data := hk.1
      have k16 : ac.eval (.tmp 16) = .bool true := hk.2.1
      have hKe : Ke ac [(26, .pointer (some ⟨b5, p3 + 1, none⟩)), (16, .bool true)] := (.cons k26 (.cons k16 (.nil _)))
      exact ⟨D.wantedE hKe (by kernel_rfl), D.valO (m := m5) hb (fun Post hp => s_loadAt hKe hA5 1 rfl rfl rfl rfl (by kernel_rfl) hp) rfl⟩) ?_
     refine D.finO ?_
     intro fr2 m7 hm1 l7 hS2 hF2 hE
     replace hS2 : St _ m m7 [rowOf 50 5 g1 g2 s1.1] := hS2
     have hK2 := D.kn_ends [(14, .int .i64 s2), (15, .bool true), (16, .bool true), (17, .slice (adr g1) s1.1.length g2), (18, .int .i64 s2), (19, .int .i64 (IntKind.i64.wrap (s2 - 1))), (20, fr2.eval (.tmp 20)), (21, fr2.eval (.tmp 21)), (22, .int .i64 x9.to), (23, .slice a0_a a0.length a0_c), (24, .int .i64 s1.2), (25, fr2.eval (.tmp 25)), (26, fr2.eval (.tmp 26)), (27, .int .i64 x10.to)] hK hE rfl (by kernel_rfl) (.cons (hE.slots 14) (.cons (hE.slots 15) (.cons (hE.slots 16) (.cons (hE.slots 17) (.cons (hE.slots 18) (.cons (hE.slots 19) (.cons (rfl) (.cons (rfl) (.cons (hE.slots 22) (.cons (hE.slots 23) (.cons (hE.slots 24) (.cons (rfl) (.cons (rfl) (.cons (hE.slots 27) (.nil _)))))))))))))))
     replace hK2 : Kn 48 fr2 [(14, .int .i64 s2), (15, .bool true), (16, .bool true), (17, .slice (adr g1) s1.1.length g2), (18, .int .i64 s2), (19, .int .i64 (IntKind.i64.wrap (s2 - 1))), (22, .int .i64 x9.to), (23, .slice a0_a a0.length a0_c), (24, .int .i64 s1.2), (27, .int .i64 x10.to), (0, .slice a0_a a0.length a0_c), (3, .slice (adr g1) s1.1.length g2), (4, .int .i64 s1.2), (5, .int .i64 s2)] := hK2.only [14, 15, 16, 17, 18, 19, 22, 23, 24, 27, 0, 3, 4, 5]
     clear hE hK; revert hK2; clear hm1 hS hlt0; revert fr2; clear fr; intro fr hK; have hS := hS2; clear hS2
     replace hS : St _ m m7 [rowOf 50 5 g1 g2 s1.1] := hS
     refine qp 28 (.bool (decide (x9.to > x10.to))) hK fun fr hK => ?_
     refine qp 29 (.bool (decide (x9.to > x10.to))) hK fun fr hK => ?_
     refine wpListIn_nil (then_n ?_)
     replace hS : St _ m m7 [rowOf 50 5 g1 g2 s1.1] := hS
     replace h := Option.some.inj h; subst h
     exact ⟨m7, rfl, hK.only [0, 3, 4, 5, 29], l7, hS⟩
    ·
     replace h := ite_f (of_decide_eq_false hb3) h
     have hlt0 : ∀ bq ∈ blocksOf [rowOf 50 5 g1 g2 s1.1], bq < m5.w.heap.size := fun bq hbq => hS.ow.lt hbq
     refine D.wp_draw (Gr := D.GO m5 none) (S := D.SO none (blocksOf []) m m5 (fun _ => [rowOf 50 5 g1 g2 s1.1]) (fun _ => True)) (N := 0) 14 [] [([(5, none)], 0, 0, false), ([(14, some 0)], 0, 0, false), ([(15, some 0)], 0, 0, false), ([(3, none), (16, some 0)], 0, 0, false), ([(5, none), (16, some 1)], 0, 0, false), ([(18, some 0), (16, some 2)], 0, 0, false), ([(17, some 2), (19, some 0), (16, some 3)], 0, 0, false), ([(20, some 0), (16, some 4)], 0, 0, false), ([(21, some 0), (16, some 5)], 0, 0, false), ([(0, none), (16, some 6)], 0, 0, false), ([(4, none), (16, some 7)], 0, 0, false), ([(23, some 1), (24, some 0), (16, some 8)], 0, 0, false), ([(25, some 0), (16, some 9)], 0, 0, false), ([(26, some 0), (16, some 10)], 0, 0, false)] hK.size (by kernel_rfl) (by kernel_rfl) (by kernel_rfl) rfl (D.startO hS trivial) ?_
     refine D.on_pure (D.GO_refl _ _) [(5, .int .i64 s2)] (.int .i64 s2) (fun ac ww hk => (.cons (hk.1.trans (hK.at_ 5 _ rfl)) (.nil _))) ?_
     refine D.on_det (D.GO_refl _ _) [(14, .int .i64 s2)] (.bool false) (fun ac ww hk => (.cons (hk.1) (.nil _))) (fun ac ww kk hb hKe Post hp => s_pureE (.bool false) (.bool (decide (s2 > 0))) hKe (by kernel_rfl) (by kernel_rfl) (by rw [hb3]) hp) ?_
     refine D.on_pure (D.GO_refl _ _) [(15, .bool false)] (.bool false) (fun ac ww hk => (.cons (hk.1) (.nil _))) ?_
     refine D.on_no [(16, .bool false)] (fun ac ww hk => .cons (hk.2.1) (.nil _)) ?_
     refine D.on_no [(16, .bool false)] (fun ac ww hk => .cons (hk.2.1) (.nil _)) ?_
     refine D.on_no [(16, .bool false)] (fun ac ww hk => .cons (hk.2.1) (.nil _)) ?_
     refine D.on_no [(16, .bool false)] (fun ac ww hk => .cons (hk.2.2.1) (.nil _)) ?_
     refine D.on_no [(16, .bool false)] (fun ac ww hk => .cons (hk.2.1) (.nil _)) ?_
     refine D.on_no [(16, .bool false)] (fun ac ww hk => .cons (hk.2.1) (.nil _)) ?_
     refine D.on_no [(16, .bool false)] (fun ac ww hk => .cons (hk.2.1) (.nil _)) ?_
     refine D.on_no [(16, .bool false)] (fun ac ww hk => .cons (hk.2.1) (.nil _)) ?_
     refine D.on_no [(16, .bool false)] (fun ac ww hk => .cons (hk.2.2.1) (.nil _)) ?_
     refine D.on_no [(16, .bool false)] (fun ac ww hk => .cons (hk.2.1) (.nil _)) ?_
     refine D.on_no [(16, .bool false)] (fun ac ww hk => .cons (hk.2.1) (.nil _)) ?_
     refine D.finO ?_
     intro fr2 m8 hm1 l8 hS2 hF2 hE
     replace hS2 : St _ m m8 [rowOf 50 5 g1 g2 s1.1] := hS2
     have hK2 := D.kn_ends [(14, .int .i64 s2), (15, .bool false), (16, .bool false), (17, undef), (18, undef), (19, undef), (20, undef), (21, undef), (22, undef), (23, undef), (24, undef), (25, undef), (26, undef), (27, undef)] hK hE rfl (by kernel_rfl) (.cons (hE.slots 14) (.cons (hE.slots 15) (.cons (hE.slots 16) (.cons (hE.slots 17) (.cons (hE.slots 18) (.cons (hE.slots 19) (.cons (hE.slots 20) (.cons (hE.slots 21) (.cons (hE.slots 22) (.cons (hE.slots 23) (.cons (hE.slots 24) (.cons (hE.slots 25) (.cons (hE.slots 26) (.cons (hE.slots 27) (.nil _)))))))))))))))
     replace hK2 : Kn 48 fr2 [(14, .int .i64 s2), (15, .bool false), (16, .bool false), (17, undef), (18, undef), (19, undef), (20, undef), (21, undef), (22, undef), (23, undef), (24, undef), (25, undef), (26, undef), (27, undef), (0, .slice a0_a a0.length a0_c), (3, .slice (adr g1) s1.1.length g2), (4, .int .i64 s1.2), (5, .int .i64 s2)] := hK2.only [14, 15, 16, 17, 18, 19, 20, 21, 22, 23, 24, 25, 26, 27, 0, 3, 4, 5]
     clear hE hK; revert hK2; clear hm1 hS hlt0; revert fr2; clear fr; intro fr hK; have hS := hS2; clear hS2
     replace hS : St _ m m8 [rowOf 50 5 g1 g2 s1.1] := hS
     refine qs 28 hK ?_
     clear hK fr; intro fr hK
     refine qp 29 (.bool false) hK fun fr hK => ?_
     refine wpListIn_nil (then_n ?_)
     replace hS : St _ m m8 [rowOf 50 5 g1 g2 s1.1] := hS
     replace h := Option.some.inj h; subst h
     exact ⟨m8, rfl, hK.only [0, 3, 4, 5, 29], l8, hS⟩
 ·
  replace hK := hK.more (t := 9) (v' := .bool false) rfl (by rw [hb1])
  replace h := ite_f (of_decide_eq_false hb1) h
  refine wpIn_exit ?_
  refine then_x ?_
  refine then_x ?_
  refine blk_e ?_
  refine then_n ?_
  refine w_seq (w_region ?_)
  refine qp 47 (.slice (adr g1) s1.1.length g2) hK fun fr hK => ?_
  refine qp 2 (.slice (adr g1) s1.1.length g2) hK fun fr hK => ?_
  refine wpListIn_nil (then_n ?_)
  refine wpIn_ret ?_
  replace h := Option.some.inj h; subst h
  replace h := Option.some.inj (loop_out hn1); subst h
  replace hS : St _ m m1 [rowOf 50 5 g1 g2 s1.1] := hS
  refine ret_of [.tmp 2] [.slice (adr g1) s1.1.length g2] rfl hK (.tmp rfl .nil) hS ?_
  exact ⟨g1, g2, rfl, rfl, f1⟩
set_option maxRecDepth 100000 in
set_option maxHeartbeats 1000000 in
theorem G.graftlaw05_DeltaSorts_spec {m : Mem} {a0 : G.Delta} {a0_commands_a : Option Addr} {a0_commands_c : Nat} (a0_commands_f : Els is_G_Command m 5 a0_commands_a a0_commands_c a0.commands) {r : Bool} (h : G.graftlaw05_DeltaSorts a0 = some r) :
  Spec Try.prog 10 #[.agg (G_Delta_cells a0 a0_commands_a a0_commands_c)] m [] fun v m' L => L = [] ∧ v = .bool r := by
 unfold G.graftlaw05_DeltaSorts at h
 refine enter (args := [_]) 66 Try.func10 rfl rfl (by simp) fun fr hK => ?_
 have hS := St.refl (Ow.nil m)
 replace hK : Kn 66 fr [(0, .agg (G_Delta_cells a0 a0_commands_a a0_commands_c))] := hK
 refine w_seq (w_region ?_)
 refine qo 1 hK (s_box hK.at_ hS rfl rfl ?_)
 clear hK fr hS; intro m1 b1 b1z l1 hS fr hK
 replace hS : St _ m m1 [.box b1 (G_Delta_cells a0 a0_commands_a a0_commands_c) 27] := hS
 refine qp 2 (.bool false) hK fun fr hK => ?_
 refine wpListIn_nil (then_n ?_)
 refine w_seq ?_
 refine w_seq ?_
 obtain ⟨v1, hv1, h⟩ := bind_some h
 refine w_join (fun fr ww => ∃ m2 : Mem, m2.w = ww ∧ Kn 66 fr [(1, .pointer (some ⟨b1, 0, none⟩)), (15, .bool v1)] ∧ Le m1 m2 ∧ St (blocksOf []) m m2 [.box b1 (G_Delta_cells a0 a0_commands_a a0_commands_c) 27]) ?_ ?_
 ·
  clear hK hS fr hv1
  rintro fr _ ⟨m2, rfl, hK, l2, hS⟩
  refine then_n ?_
  refine w_cond hK rfl (fun hb1 => ?_) (fun hb1 => ?_)
  ·
   replace hK := hK.more (t := 15) (v' := .bool true) rfl (by rw [hb1])
   replace h := ite_t (hb1) h
   refine w_seq (w_region ?_)
   obtain ⟨y1, hy1, h⟩ := bind_some h
   refine qo 16 hK (s_call hK.at_ hS ent23_8 rfl rfl rfl rfl (G.graftlaw05_alive_spec hy1) (by kernel_rfl) ?_)
   clear hK fr hS; rintro _ m3 _ l3 hS ⟨rfl, rfl⟩ fr hK
   replace hS : St _ m m3 [.box b1 (G_Delta_cells a0 a0_commands_a a0_commands_c) 27] := hS
   refine qp 2 (.bool y1) hK fun fr hK => ?_
   refine wpListIn_nil (then_n ?_)
   refine wpIn_ret ?_
   refine then_r ?_
   replace h := Option.some.inj h; subst h
   refine ret_of [.tmp 2] [.bool y1] rfl hK (.tmp rfl .nil) hS.dropAll ?_
   exact ⟨rfl, rfl⟩
  ·
   replace hK := hK.more (t := 15) (v' := .bool false) rfl (by rw [hb1])
   replace h := ite_f (ne_true_of_eq_false hb1) h
   refine wpIn_skip ?_
   refine then_n ?_
   refine w_seq (w_region ?_)
   refine qo 17 hK (s_loadAll hK.at_ hS 0 rfl rfl rfl (by kernel_rfl) ?_)
   clear hK fr; intro fr hK
   refine qo 3 hK (s_alloc (.agg #[.int .i64 0, .int .i64 0, .int .u8 0, .int .u8 0, .int .u8 0, .int .u8 0, .int .u8 0, .int .u8 0, .int .u8 0, .int .u8 0, .int .u8 0, .int .u8 0, .int .u8 0, .int .u8 0, .int .u8 0, .int .u8 0, .int .u8 0, .int .u8 0, .int .u8 0, .int .u8 0, .int .u8 0, .int .u8 0, .int .u8 0, .int .u8 0, .int .u8 0, .int .u8 0, .int .u8 0, .int .u8 0, .int .u8 0, .int .u8 0, .int .u8 0, .int .u8 0, .int .u8 0, .int .u8 0, .int .u8 0, .int .u8 0, .int .u8 0, .int .u8 0, .int .u8 0, .int .u8 0, .int .u8 0, .int .u8 0, .int .u8 0, .int .u8 0, .int .u8 0, .int .u8 0, .int .u8 0, .int .u8 0, .int .u8 0, .int .u8 0, .int .u8 0, .int .u8 0, .int .u8 0, .int .u8 0, .int .u8 0, .int .u8 0, .int .u8 0, .int .u8 0, .int .u8 0, .int .u8 0, .int .u8 0, .int .u8 0, .int .u8 0, .int .u8 0, .int .u8 0, .int .u8 0, .slice none 0 0]) hK.at_ hS rfl (by kernel_rfl) ?_)
   clear hK fr hS; intro m4 b2 b2z l4 hS fr hK
   refine qo0 hK (s_storeAll hK.at_ 0 hS rfl rfl rfl rfl (by kernel_rfl) (by kernel_rfl) (by kernel_rfl) ?_)
   clear hK fr hS; intro m5 l5 hS fr hK
   replace hS : St _ m m5 [.box b2 (G_Delta_cells a0 a0_commands_a a0_commands_c) 27, .box b1 (G_Delta_cells a0 a0_commands_a a0_commands_c) 27] := hS
   refine wpListIn_nil (then_n ?_)
   refine w_seq (w_region ?_)
   refine qo 18 hK (s_buildRow (elem := 50) #[] hK.at_ hS rfl (by kernel_rfl) (by kernel_rfl) ?_)
   clear hK fr hS; intro m6 b3 l6 hS hA1 fr hK
   have f1 : Els is_G_Command m6 5 (some ⟨b3, 0, none⟩) 0 ([] : List G.Command) := els_lit rep_G_Command [] hA1 (by simp) (by decide) .nil
   replace hS : St _ m m6 [rowOf 50 5 (some b3) 0 ([] : List G.Command), .box b2 (G_Delta_cells a0 a0_commands_a a0_commands_c) 27, .box b1 (G_Delta_cells a0 a0_commands_a a0_commands_c) 27] := hS
   replace hK : Kn 66 fr [(18, .slice (adr (some b3)) (([] : List G.Command).length) 0), (3, .pointer (some ⟨b2, 0, none⟩)), (17, .agg (G_Delta_cells a0 a0_commands_a a0_commands_c)), (15, .bool false), (1, .pointer (some ⟨b1, 0, none⟩))] := hK.only [18, 3, 17, 15, 1]
   refine qp 19 (.pointer (some ⟨b1, 66, none⟩)) hK fun fr hK => ?_
   refine qo 20 hK (s_load hK.at_ hS 2 rfl rfl rfl rfl (by kernel_rfl) ?_)
   clear hK fr; intro fr hK
   replace a0_commands_f := Els.mono rep_G_Command a0_commands_f (l1.trans (l2.trans (l4.trans (l5.trans l6))))
   obtain ⟨x1, hy2, h⟩ := bind_some h
   refine qo 21 hK (s_app elT25_8 rep_G_Command hy2 hK.at_ 0 hS rfl f1 a0_commands_f rfl rfl rfl (by decide) ?_)
   clear hK fr hS; intro m7 g1 cp1 l7 hS f2 fr hK
   replace hS : St _ m m7 [rowOf 50 5 g1 cp1 x1, .box b2 (G_Delta_cells a0 a0_commands_a a0_commands_c) 27, .box b1 (G_Delta_cells a0 a0_commands_a a0_commands_c) 27] := hS
   refine qp 22 (.pointer (some ⟨b2, 66, none⟩)) hK fun fr hK => ?_
   refine qo0 hK (s_store hK.at_ 1 hS rfl rfl rfl rfl (by kernel_rfl) (by kernel_rfl) (by kernel_rfl) ?_)
   clear hK fr hS; intro m8 l8 hS fr hK
   have hf1 : putAt (G_Delta_cells a0 a0_commands_a a0_commands_c) 66 [.slice (adr g1) x1.length cp1] = G_Delta_cells (⟨a0.oldLen, a0.newLen, a0.oldHash, a0.newHash, x1⟩ : G.Delta) (adr g1) cp1 := by kernel_rfl
   replace hS : St _ m m8 [.box b2 (putAt (G_Delta_cells a0 a0_commands_a a0_commands_c) 66 [.slice (adr g1) x1.length cp1]) 27, rowOf 50 5 g1 cp1 x1, .box b1 (G_Delta_cells a0 a0_commands_a a0_commands_c) 27] := hS
   rw [hf1] at hS
   replace hS : St _ m m8 [.box b2 (G_Delta_cells (⟨a0.oldLen, a0.newLen, a0.oldHash, a0.newHash, x1⟩ : G.Delta) (adr g1) cp1) 27, rowOf 50 5 g1 cp1 x1, .box b1 (G_Delta_cells a0 a0_commands_a a0_commands_c) 27] := hS
   refine wpListIn_nil (then_n ?_)
   refine w_seq (w_region ?_)
   refine qo 23 hK (s_loadAll hK.at_ hS 0 rfl rfl rfl (by kernel_rfl) ?_)
   clear hK fr; intro fr hK
   replace f2 := Els.mono rep_G_Command f2 l8
   obtain ⟨y2, hy3, h⟩ := bind_some h
   refine qo 24 hK (s_call hK.at_ hS ent29_8 rfl rfl rfl rfl (G.delta_Sort_spec f2 hy3) (by kernel_rfl) ?_)
   clear hK fr hS; rintro _ m9 _ l9 hS ⟨c2r0_commands_g, c2r0_commands_c, rfl, rfl, c2r0_commands_f⟩ fr hK
   refine qo 4 hK (s_alloc (.agg #[.int .i64 0, .int .i64 0, .int .u8 0, .int .u8 0, .int .u8 0, .int .u8 0, .int .u8 0, .int .u8 0, .int .u8 0, .int .u8 0, .int .u8 0, .int .u8 0, .int .u8 0, .int .u8 0, .int .u8 0, .int .u8 0, .int .u8 0, .int .u8 0, .int .u8 0, .int .u8 0, .int .u8 0, .int .u8 0, .int .u8 0, .int .u8 0, .int .u8 0, .int .u8 0, .int .u8 0, .int .u8 0, .int .u8 0, .int .u8 0, .int .u8 0, .int .u8 0, .int .u8 0, .int .u8 0, .int .u8 0, .int .u8 0, .int .u8 0, .int .u8 0, .int .u8 0, .int .u8 0, .int .u8 0, .int .u8 0, .int .u8 0, .int .u8 0, .int .u8 0, .int .u8 0, .int .u8 0, .int .u8 0, .int .u8 0, .int .u8 0, .int .u8 0, .int .u8 0, .int .u8 0, .int .u8 0, .int .u8 0, .int .u8 0, .int .u8 0, .int .u8 0, .int .u8 0, .int .u8 0, .int .u8 0, .int .u8 0, .int .u8 0, .int .u8 0, .int .u8 0, .int .u8 0, .slice none 0 0]) hK.at_ hS rfl (by kernel_rfl) ?_)
   clear hK fr hS; intro m10 b4 b4z l10 hS fr hK
   refine qo0 hK (s_storeAll hK.at_ 0 hS rfl rfl rfl rfl (by kernel_rfl) (by kernel_rfl) (by kernel_rfl) ?_)
   clear hK fr hS; intro m11 l11 hS fr hK
   replace hS : St _ m m11 [.box b4 (G_Delta_cells y2 (adr c2r0_commands_g) c2r0_commands_c) 27, rowOf 50 5 c2r0_commands_g c2r0_commands_c y2.commands, .box b2 (G_Delta_cells (⟨a0.oldLen, a0.newLen, a0.oldHash, a0.newHash, x1⟩ : G.Delta) (adr g1) cp1) 27, rowOf 50 5 g1 cp1 x1, .box b1 (G_Delta_cells a0 a0_commands_a a0_commands_c) 27] := hS
   refine wpListIn_nil (then_n ?_)
   refine w_seq ?_
   refine w_seq ?_
   obtain ⟨v2, hv2, h⟩ := bind_some h
   refine w_join (fun fr ww => ∃ m12 : Mem, m12.w = ww ∧ Kn 66 fr [(1, .pointer (some ⟨b1, 0, none⟩)), (4, .pointer (some ⟨b4, 0, none⟩)), (38, .bool v2)] ∧ Le m11 m12 ∧ St (blocksOf []) m m12 [.box b4 (G_Delta_cells y2 (adr c2r0_commands_g) c2r0_commands_c) 27, .box b1 (G_Delta_cells a0 a0_commands_a a0_commands_c) 27, rowOf 50 5 c2r0_commands_g c2r0_commands_c y2.commands]) ?_ ?_
   ·
    clear hK hS fr hv2
    rintro fr _ ⟨m12, rfl, hK, l12, hS⟩
    refine then_n ?_
    refine w_cond hK rfl (fun hb2 => ?_) (fun hb2 => ?_)
    ·
     replace hK := hK.more (t := 38) (v' := .bool true) rfl (by rw [hb2])
     replace h := ite_t (hb2) h
     refine w_seq (w_region ?_)
     refine qp 2 (.bool false) hK fun fr hK => ?_
     refine wpListIn_nil (then_n ?_)
     refine wpIn_ret ?_
     refine then_r ?_
     replace h := Option.some.inj h; subst h
     refine ret_of [.tmp 2] [.bool false] rfl hK (.tmp rfl .nil) hS.dropAll ?_
     exact ⟨rfl, rfl⟩
    ·
     replace hK := hK.more (t := 38) (v' := .bool false) rfl (by rw [hb2])
     replace h := ite_f (ne_true_of_eq_false hb2) h
     refine wpIn_skip ?_
     refine then_n ?_
     refine w_seq (w_region ?_)
     refine qp 5 (.int .i64 0) hK fun fr hK => ?_
     refine wpListIn_nil (then_n ?_)
     refine w_seq ?_
     refine w_seq (w_region ?_)
     refine qp 39 (.pointer (some ⟨b4, 66, none⟩)) hK fun fr hK => ?_
     refine qo 40 hK (s_load hK.at_ hS 0 rfl rfl rfl rfl (by kernel_rfl) ?_)
     clear hK fr; intro fr hK
     refine qp 41 (.int .i64 (y2.commands.length : Int)) hK fun fr hK => ?_
     refine qp 42 (.int .i64 0) hK fun fr hK => ?_
     refine wpListIn_nil (then_n ?_)
     obtain ⟨v3, hv3, hk1⟩ := bind_some h; clear h
     refine w_join (fun fr ww => ∃ u1, v3 = .inl u1 ∧ ∃ m13 : Mem, m13.w = ww ∧ Kn 66 fr [(1, .pointer (some ⟨b1, 0, none⟩)), (4, .pointer (some ⟨b4, 0, none⟩)), (5, .int .i64 u1)] ∧ Le m12 m13 ∧ St (blocksOf []) m m13 [.box b4 (G_Delta_cells y2 (adr c2r0_commands_g) c2r0_commands_c) 27, .box b1 (G_Delta_cells a0 a0_commands_a a0_commands_c) 27, rowOf 50 5 c2r0_commands_g c2r0_commands_c y2.commands]) ?_ ?_
     ·
      clear hK hS fr
      rintro fr _ ⟨u1, rfl, m13, rfl, hK, l13, hS⟩
      have h := join_in hk1
      refine then_n ?_
      refine w_seq (w_region ?_)
      obtain ⟨y3, hy4, h⟩ := bind_some h
      refine qo 55 hK (s_call hK.at_ hS ent23_8 rfl rfl rfl rfl (G.graftlaw05_alive_spec hy4) (by kernel_rfl) ?_)
      clear hK fr hS; rintro _ m14 _ l14 hS ⟨rfl, rfl⟩ fr hK
      replace hS : St _ m m14 [.box b4 (G_Delta_cells y2 (adr c2r0_commands_g) c2r0_commands_c) 27, .box b1 (G_Delta_cells a0 a0_commands_a a0_commands_c) 27, rowOf 50 5 c2r0_commands_g c2r0_commands_c y2.commands] := hS
      refine qp 56 (.bool y3) hK fun fr hK => ?_
      refine split_b (x := y3) (fun hb3 => ?_) (fun hb3 => ?_)
      ·
       replace hK := hK.more (t := 56) (v' := .bool true) rfl (by rw [hb3])
       replace hK := hK.more (t := 55) (v' := .bool true) rfl (by rw [hb3])
       replace h := ite_t (hb3) h
       refine qp 57 (.int .i64 u1) hK fun fr hK => ?_
       refine qp 58 (.pointer (some ⟨b1, 1, none⟩)) hK fun fr hK => ?_
       refine qo 59 hK (s_load hK.at_ hS 1 rfl rfl rfl rfl (by kernel_rfl) ?_)
       clear hK fr; intro fr hK
       refine qp 60 (.bool (u1 == a0.newLen)) hK fun fr hK => ?_
       refine qp 61 (.bool (u1 == a0.newLen)) hK fun fr hK => ?_
       refine qp 62 (.bool (u1 == a0.newLen)) hK fun fr hK => ?_
       refine split_b (x := (u1 == a0.newLen)) (fun hb4 => ?_) (fun hb4 => ?_)
       ·
        replace hK := hK.more (t := 62) (v' := .bool true) rfl (by rw [hb4])
        replace hK := hK.more (t := 61) (v' := .bool true) rfl (by rw [hb4])
        replace hK := hK.more (t := 60) (v' := .bool true) rfl (by rw [hb4])
        replace h := ite_t (eq_of_beq hb4) h
        refine qo 63 hK (s_loadAll hK.at_ hS 0 rfl rfl rfl (by kernel_rfl) ?_)
        clear hK fr; intro fr hK
        replace c2r0_commands_f := Els.mono rep_G_Command c2r0_commands_f (l10.trans (l11.trans (l12.trans (l13.trans l14))))
        obtain ⟨y4, hy5, h⟩ := bind_some h
        refine qo 64 hK (s_call hK.at_ hS ent26_8 rfl rfl rfl rfl (G.delta_Valid_spec c2r0_commands_f hy5) (by kernel_rfl) ?_)
        clear hK fr hS; rintro _ m15 _ l15 hS ⟨rfl, rfl⟩ fr hK
        replace hS : St _ m m15 [.box b4 (G_Delta_cells y2 (adr c2r0_commands_g) c2r0_commands_c) 27, .box b1 (G_Delta_cells a0 a0_commands_a a0_commands_c) 27, rowOf 50 5 c2r0_commands_g c2r0_commands_c y2.commands] := hS
        refine qp 65 (.bool y4) hK fun fr hK => ?_
        refine qp 2 (.bool y4) hK fun fr hK => ?_
        refine wpListIn_nil (then_n ?_)
        refine wpIn_ret ?_
        replace h := Option.some.inj h; subst h
        refine ret_of [.tmp 2] [.bool y4] rfl hK (.tmp rfl .nil) hS.dropAll ?_
        exact ⟨rfl, rfl⟩
       ·
        replace hK := hK.more (t := 62) (v' := .bool false) rfl (by rw [hb4])
        replace hK := hK.more (t := 61) (v' := .bool false) rfl (by rw [hb4])
        replace hK := hK.more (t := 60) (v' := .bool false) rfl (by rw [hb4])
        replace h := ite_f (ne_of_beq_false hb4) h
        refine qs 63 hK ?_
        clear hK fr; intro fr hK
        refine qs 64 hK ?_
        clear hK fr; intro fr hK
        refine qp 65 (.bool false) hK fun fr hK => ?_
        refine qp 2 (.bool false) hK fun fr hK => ?_
        refine wpListIn_nil (then_n ?_)
        refine wpIn_ret ?_
        replace h := Option.some.inj h; subst h
        refine ret_of [.tmp 2] [.bool false] rfl hK (.tmp rfl .nil) hS.dropAll ?_
        exact ⟨rfl, rfl⟩
      ·
       replace hK := hK.more (t := 56) (v' := .bool false) rfl (by rw [hb3])
       replace hK := hK.more (t := 55) (v' := .bool false) rfl (by rw [hb3])
       replace h := ite_f (ne_true_of_eq_false hb3) h
       refine qs 57 hK ?_
       clear hK fr; intro fr hK
       refine qs 58 hK ?_
       clear hK fr; intro fr hK
       refine qs 59 hK ?_
       clear hK fr; intro fr hK
       refine qs 60 hK ?_
       clear hK fr; intro fr hK
       refine qp 61 (.bool false) hK fun fr hK => ?_
       refine qp 62 (.bool false) hK fun fr hK => ?_
       refine qs 63 hK ?_
       clear hK fr; intro fr hK
       refine qs 64 hK ?_
       clear hK fr; intro fr hK
       refine qp 65 (.bool false) hK fun fr hK => ?_
       refine qp 2 (.bool false) hK fun fr hK => ?_
       refine wpListIn_nil (then_n ?_)
       refine wpIn_ret ?_
       replace h := Option.some.inj h; subst h
       refine ret_of [.tmp 2] [.bool false] rfl hK (.tmp rfl .nil) hS.dropAll ?_
       exact ⟨rfl, rfl⟩
     ·
      have h := hv3; clear hv3
      refine wpIn_block ?_
      replace hS := hS.front 2 rfl
      replace hS := hS.front 2 rfl
      replace hS := hS.front 2 rfl
      replace hS : St _ m m12 [.box b4 (G_Delta_cells y2 (adr c2r0_commands_g) c2r0_commands_c) 27, .box b1 (G_Delta_cells a0 a0_commands_a a0_commands_c) 27, rowOf 50 5 c2r0_commands_g c2r0_commands_c y2.commands] := hS
      refine w_loopL h (fun (s1 : Int × Int) fr ww => ∃ m16 : Mem, m16.w = ww ∧ Kn 66 fr [(1, .pointer (some ⟨b1, 0, none⟩)), (4, .pointer (some ⟨b4, 0, none⟩)), (5, .int .i64 s1.1), (40, .slice (adr c2r0_commands_g) y2.commands.length c2r0_commands_c), (41, .int .i64 (y2.commands.length : Int)), (42, .int .i64 s1.2)] ∧ Le m12 m16 ∧ St (blocksOf []) m m16 [.box b4 (G_Delta_cells y2 (adr c2r0_commands_g) c2r0_commands_c) 27, .box b1 (G_Delta_cells a0 a0_commands_a a0_commands_c) 27, rowOf 50 5 c2r0_commands_g c2r0_commands_c y2.commands]) ?_ ?_
      · exact ⟨m12, rfl, hK.only [1, 4, 5, 40, 41, 42], Le.refl _, hS⟩
      clear hK hS fr h
      rintro k1 s1 x2 fr _ ⟨m16, rfl, hK, l16, hS⟩ h hn1
      unfold G.graftlaw05_DeltaSorts_l1 at h
      refine w_seq (w_region ?_)
      refine qp 43 (.bool (decide (s1.2 < (y2.commands.length : Int)))) hK fun fr hK => ?_
      refine wpListIn_nil (then_n ?_)
      refine w_seq ?_
      refine w_cond hK rfl (fun hb5 => ?_) (fun hb5 => ?_)
      ·
       replace hK := hK.more (t := 43) (v' := .bool true) rfl (by rw [hb5])
       replace h := ite_t (of_decide_eq_true hb5) h
       refine wpIn_skip ?_
       refine then_n ?_
       refine w_seq ?_
       refine wpIn_block ?_
       refine w_seq (w_region ?_)
       replace c2r0_commands_f := Els.mono rep_G_Command c2r0_commands_f (l10.trans (l11.trans (l12.trans l16)))
       obtain ⟨x3, hy6, h⟩ := bind_some h
       refine qo 44 hK (s_idx elT25_8 c2r0_commands_f hy6 hK.at_ rfl rfl rfl ?_)
       clear hK fr; intro b5 p1 cs1 hR1 hA2 fr hK
       obtain ⟨e1_data_a, e1_data_c, rfl, e1_data_f⟩ := hR1
       refine qo 45 hK (s_loadAtN [.int .i64 x3.kind, .int .i64 x3.to, .int .i64 x3.from_, .int .i64 x3.len, .slice e1_data_a x3.data.length e1_data_c] hK.at_ hA2 0 rfl rfl rfl (by kernel_rfl) (by kernel_rfl) ?_)
       clear hK fr; intro fr hK
       refine qo 7 hK (s_alloc (.agg #[.int .i64 0, .int .i64 0, .int .i64 0, .int .i64 0, .slice none 0 0]) hK.at_ hS rfl (by kernel_rfl) ?_)
       clear hK fr hS; intro m17 b6 b6z l17 hS fr hK
       refine qo0 hK (s_storeAll hK.at_ 0 hS rfl rfl rfl rfl (by kernel_rfl) (by kernel_rfl) (by kernel_rfl) ?_)
       clear hK fr hS; intro m18 l18 hS fr hK
       replace hS : St _ m m18 [.box b6 #[.int .i64 x3.kind, .int .i64 x3.to, .int .i64 x3.from_, .int .i64 x3.len, .slice e1_data_a x3.data.length e1_data_c] 50, .box b4 (G_Delta_cells y2 (adr c2r0_commands_g) c2r0_commands_c) 27, .box b1 (G_Delta_cells a0 a0_commands_a a0_commands_c) 27, rowOf 50 5 c2r0_commands_g c2r0_commands_c y2.commands] := hS
       refine wpListIn_nil (then_n ?_)
       refine w_seq ?_
       refine w_seq (w_region ?_)
       refine qp 46 (.pointer (some ⟨b6, 1, none⟩)) hK fun fr hK => ?_
       refine qo 47 hK (s_load hK.at_ hS 0 rfl rfl rfl rfl (by kernel_rfl) ?_)
       clear hK fr; intro fr hK
       refine qp 48 (.int .i64 s1.1) hK fun fr hK => ?_
       refine qp 49 (.bool (x3.to != s1.1)) hK fun fr hK => ?_
       refine wpListIn_nil (then_n ?_)
       refine w_cond hK rfl (fun hb6 => ?_) (fun hb6 => ?_)
       ·
        replace hK := hK.more (t := 49) (v' := .bool true) rfl (by rw [hb6])
        replace h := ite_t (ne_of_bne hb6) h
        refine w_seq (w_region ?_)
        refine qp 2 (.bool false) hK fun fr hK => ?_
        refine wpListIn_nil (then_n ?_)
        refine wpIn_ret ?_
        refine then_r ?_
        refine blk_r ?_
        refine then_r ?_
        refine then_r ?_
        refine blk_r ?_
        refine then_r ?_
        refine then_r ?_
        replace h := Option.some.inj h; subst h
        replace h := Option.some.inj (loop_out hn1); subst h
        replace h := Option.some.inj (join_out hk1); subst h
        refine ret_of [.tmp 2] [.bool false] rfl hK (.tmp rfl .nil) hS.dropAll ?_
        exact ⟨rfl, rfl⟩
       ·
        replace hK := hK.more (t := 49) (v' := .bool false) rfl (by rw [hb6])
        replace h := ite_f (not_not_intro (eq_of_bne hb6)) h
        refine wpIn_skip ?_
        refine then_n ?_
        refine w_region ?_
        refine qp 50 (.int .i64 s1.1) hK fun fr hK => ?_
        refine qo 51 hK (s_loadAll hK.at_ hS 0 rfl rfl rfl (by kernel_rfl) ?_)
        clear hK fr; intro fr hK
        replace e1_data_f := Els.mono rep_U8 e1_data_f (l17.trans l18)
        obtain ⟨y5, hy7, h⟩ := bind_some h
        refine qo 52 hK (s_call hK.at_ hS ent32_8 rfl rfl rfl rfl (G.graftref04_Len_spec e1_data_f hy7) (by kernel_rfl) ?_)
        clear hK fr hS; rintro _ m19 _ l19 hS ⟨rfl, rfl⟩ fr hK
        replace hS : St _ m m19 [.box b6 #[.int .i64 x3.kind, .int .i64 x3.to, .int .i64 x3.from_, .int .i64 x3.len, .slice e1_data_a x3.data.length e1_data_c] 50, .box b4 (G_Delta_cells y2 (adr c2r0_commands_g) c2r0_commands_c) 27, .box b1 (G_Delta_cells a0 a0_commands_a a0_commands_c) 27, rowOf 50 5 c2r0_commands_g c2r0_commands_c y2.commands] := hS
        refine qp 53 (.int .i64 (IntKind.i64.wrap (s1.1 + y5))) hK fun fr hK => ?_
        refine qp 5 (.int .i64 (IntKind.i64.wrap (s1.1 + y5))) hK fun fr hK => ?_
        refine wpListIn_nil ?_
        refine blk_n ?_
        refine then_n ?_
        refine w_region ?_
        refine qp 54 (.int .i64 (IntKind.i64.wrap (s1.2 + 1))) hK fun fr hK => ?_
        refine qp 42 (.int .i64 (IntKind.i64.wrap (s1.2 + 1))) hK fun fr hK => ?_
        refine wpListIn_nil (then_n ?_)
        replace hS := hS.front 3 rfl
        replace hS := hS.front 3 rfl
        replace hS := hS.front 3 rfl
        replace hS := St.keep (L := [.box b4 (G_Delta_cells y2 (adr c2r0_commands_g) c2r0_commands_c) 27, .box b1 (G_Delta_cells a0 a0_commands_a a0_commands_c) 27, rowOf 50 5 c2r0_commands_g c2r0_commands_c y2.commands]) (R := [.box b6 #[.int .i64 x3.kind, .int .i64 x3.to, .int .i64 x3.from_, .int .i64 x3.len, .slice e1_data_a x3.data.length e1_data_c] 50]) hS
        replace h := Option.some.inj h; subst h
        obtain ⟨kq, hk1, hk2⟩ := hn1
        exact ⟨kq, hk1, _, hk2, m19, rfl, hK.only [1, 4, 5, 40, 41, 42], l16.trans (l17.trans (l18.trans l19)), hS⟩
      ·
       replace hK := hK.more (t := 43) (v' := .bool false) rfl (by rw [hb5])
       replace h := ite_f (of_decide_eq_false hb5) h
       refine wpIn_exit ?_
       refine then_x ?_
       refine then_x ?_
       refine blk_e ?_
       refine then_n ?_
       replace hS := hS.front 2 rfl
       replace hS := hS.front 2 rfl
       replace hS := hS.front 2 rfl
       replace hS : St _ m m16 [.box b4 (G_Delta_cells y2 (adr c2r0_commands_g) c2r0_commands_c) 27, .box b1 (G_Delta_cells a0 a0_commands_a a0_commands_c) 27, rowOf 50 5 c2r0_commands_g c2r0_commands_c y2.commands] := hS
       replace h := Option.some.inj h; subst h
       replace h := Option.some.inj (loop_out hn1); subst h
       exact ⟨_, rfl, m16, rfl, hK.only [1, 4, 5], l16, hS⟩
   ·
    replace h := hv2; clear hv2
    replace a0_commands_f := Els.mono rep_G_Command a0_commands_f (l7.trans (l8.trans (l9.trans (l10.trans l11))))
    replace f1 := Els.mono rep_G_Command f1 (l7.trans (l8.trans (l9.trans (l10.trans l11))))
    replace f2 := Els.mono rep_G_Command f2 (l9.trans (l10.trans l11))
    replace c2r0_commands_f := Els.mono rep_G_Command c2r0_commands_f (l10.trans l11)
    obtain ⟨y6, hy8, h⟩ := bind_some h
    obtain ⟨y7, hy9, h⟩ := bind_some h
    obtain ⟨y8, hy10, h⟩ := bind_some h
    refine split_b (x := (!y8)) (fun hb7 => ?_) (fun hb7 => ?_)
    ·
     replace h := ite_t ((Bool.not_eq_true' _).mp hb7) h
     have hm0 : ∀ p ∈ ([(fun _ A _ => A = []), (fun l A M => ∃ (c9r0_g : Option Nat) (c9r0_c : Nat), l[0]? = some (.slice (adr c9r0_g) y6.length c9r0_c) ∧ A = [rowOf 50 5 c9r0_g c9r0_c y6] ∧ Els is_G_Command M 5 (adr c9r0_g) c9r0_c y6)] : List D.Stage), D.MonoP p := D.allP_cons (fun _ _ _ _ h _ => h) (D.allP_cons (fun _ _ _ _ ⟨c9r0_g, c9r0_c, el0, eA, c9r0_f⟩ hl => ⟨c9r0_g, c9r0_c, el0, eA, Els.mono rep_G_Command c9r0_f hl⟩) (D.allP_nil))
     have hCm := D.C1_mono [.box b4 (G_Delta_cells y2 (adr c2r0_commands_g) c2r0_commands_c) 27, rowOf 50 5 c2r0_commands_g c2r0_commands_c y2.commands, .box b2 (G_Delta_cells (⟨a0.oldLen, a0.newLen, a0.oldHash, a0.newHash, x1⟩ : G.Delta) (adr g1) cp1) 27, rowOf 50 5 g1 cp1 x1, .box b1 (G_Delta_cells a0 a0_commands_a a0_commands_c) 27] hm0
     refine D.wp_drawM (m0 := m11) 11 [[4]] [([(4, none)], [(0, 1)], none), ([(1, none)], [(0, 1)], none), ([(1, none)], [(0, 0)], none), ([(27, some 0)], [(0, 0)], none), ([(28, some 0)], [(0, 0)], some 0), ([(26, some 3), (29, some 0)], [(1, 1)], none), ([(25, some 5), (30, some 0)], [(1, 1)], none), ([(31, some 0)], [(1, 1)], none), ([(32, some 0)], [(1, 1)], none), ([(3, none), (33, some 0)], [(1, 1)], none), ([(1, none), (33, some 1)], [(1, 1)], none)] (D.SM m11 m (blocksOf []) (D.C1 [(fun _ A _ => A = []), (fun l A M => ∃ (c9r0_g : Option Nat) (c9r0_c : Nat), l[0]? = some (.slice (adr c9r0_g) y6.length c9r0_c) ∧ A = [rowOf 50 5 c9r0_g c9r0_c y6] ∧ Els is_G_Command M 5 (adr c9r0_g) c9r0_c y6)] [.box b4 (G_Delta_cells y2 (adr c2r0_commands_g) c2r0_commands_c) 27, rowOf 50 5 c2r0_commands_g c2r0_commands_c y2.commands, .box b2 (G_Delta_cells (⟨a0.oldLen, a0.newLen, a0.oldHash, a0.newHash, x1⟩ : G.Delta) (adr g1) cp1) 27, rowOf 50 5 g1 cp1 x1, .box b1 (G_Delta_cells a0 a0_commands_a a0_commands_c) 27])) hK.size (by kernel_rfl) (by kernel_rfl) (by kernel_rfl) (D.start1 hS (fun _ => rfl)) ?_
     refine D.onA (fun uu _ => uu = .agg (G_Delta_cells y2 (adr c2r0_commands_g) c2r0_commands_c)) (fun _ _ _ h _ => h) (by
      intro ac MM vs hbd hcor hS00 hk; have hS0 := hS00
      obtain ⟨hle, LL, hC, hSt⟩ := hS0
      have hSt0 := hSt
      have hC0 := hC; obtain ⟨A0, h0, rfl⟩ := hC
      have hS := D.St_right (hSt)
      have k4 : ac.eval (.tmp 4) = .pointer (some ⟨b4, 0, none⟩) := hk.1.trans (hK.at_ 4 _ rfl)
      have hKe : Ke ac [(4, .pointer (some ⟨b4, 0, none⟩))] := (.cons k4 (.nil _))
      exact ⟨D.wanted0 rfl, s_loadAll hKe hS 0 rfl rfl rfl (by kernel_rfl) ⟨MM, rfl, Le.refl _, rfl, hS00⟩⟩) ?_
     refine D.onA (fun uu _ => uu = .agg (G_Delta_cells a0 a0_commands_a a0_commands_c)) (fun _ _ _ h _ => h) (by
      intro ac MM vs hbd hcor hS00 hk; have hS0 := hS00
      obtain ⟨hle, LL, hC, hSt⟩ := hS0
      have hSt0 := hSt
      have hC0 := hC; obtain ⟨A0, h0, rfl⟩ := hC
      have hS := D.St_right (hSt)
      have k1 : ac.eval (.tmp 1) = .pointer (some ⟨b1, 0, none⟩) := hk.1.trans (hK.at_ 1 _ rfl)
      have hKe : Ke ac [(1, .pointer (some ⟨b1, 0, none⟩))] := (.cons k1 (.nil _))
      exact ⟨D.wanted0 rfl, s_loadAll hKe hS 4 rfl rfl rfl (by kernel_rfl) ⟨MM, rfl, Le.refl _, rfl, hS00⟩⟩) ?_
     refine D.onP [(1, .pointer (some ⟨b1, 0, none⟩))] (.pointer (some ⟨b1, 66, none⟩)) (fun ac MM hk => (.cons (hk.1.trans (hK.at_ 1 _ rfl)) (.nil _))) ?_
     refine D.onA (fun uu _ => uu = .slice a0_commands_a a0.commands.length a0_commands_c) (fun _ _ _ h _ => h) (by
      intro ac MM vs hbd hcor hS00 hk; have hS0 := hS00
      obtain ⟨hle, LL, hC, hSt⟩ := hS0
      have hSt0 := hSt
      have hC0 := hC; obtain ⟨A0, h0, rfl⟩ := hC
      have hS := D.St_right (hSt)
      have k27 : ac.eval (.tmp 27) = .pointer (some ⟨b1, 66, none⟩) := hk.1
      have hKe : Ke ac [(27, .pointer (some ⟨b1, 66, none⟩))] := (.cons k27 (.nil _))
      exact ⟨D.wanted0 rfl, s_load hKe hS 4 rfl rfl rfl rfl (by kernel_rfl) ⟨MM, rfl, Le.refl _, rfl, hS00⟩⟩) ?_
     refine D.onA (fun uu MM => ∃ (c9r0_g : Option Nat) (c9r0_c : Nat), uu = .slice (adr c9r0_g) y6.length c9r0_c ∧ Els is_G_Command MM 5 (adr c9r0_g) c9r0_c y6) (fun _ _ _ ⟨c9r0_g, c9r0_c, e, c9r0_f⟩ g => ⟨c9r0_g, c9r0_c, e, Els.mono rep_G_Command c9r0_f g⟩) (by
      intro ac MM vs hbd hcor hS00 hk; have hS0 := hS00
      obtain ⟨hle, LL, hC, hSt⟩ := hS0
      have hSt0 := hSt
      have hC0 := hC; obtain ⟨A0, h0, rfl⟩ := hC
      have hn := D.bd_eq hbd 0 0 rfl
      obtain rfl := D.CH.at h0 hn rfl
      replace hSt := hSt
      have k28 : ac.eval (.tmp 28) = .slice a0_commands_a a0.commands.length a0_commands_c := hk.1
      have hKe : Ke ac [(28, .slice a0_commands_a a0.commands.length a0_commands_c)] := (.cons k28 (.nil _))
      replace a0_commands_f := Els.mono rep_G_Command a0_commands_f hle
      exact ⟨D.wanted0 rfl, s_call hKe hSt ent31_8 rfl rfl rfl rfl (G.graftref05_Sort_spec a0_commands_f hy8) (by kernel_rfl) (by
        rintro _ M2 _ l2 hS2 ⟨c9r0_g, c9r0_c, rfl, rfl, c9r0_f⟩
        exact ⟨M2, rfl, l2, ⟨c9r0_g, c9r0_c, rfl, c9r0_f⟩, hle.trans l2, _, ⟨_, D.CH.push hn rfl ⟨c9r0_g, c9r0_c, D.get_push hn, rfl, c9r0_f⟩, rfl⟩, hS2⟩)⟩) ?_
     refine D.onA (fun uu MM => ∃ (c10r0_commands_a : Option Addr) (c10r0_commands_c : Nat), uu = .agg (G_Delta_cells y7 c10r0_commands_a c10r0_commands_c) ∧ Els is_G_Command MM 5 c10r0_commands_a c10r0_commands_c y7.commands) (fun _ _ _ ⟨c10r0_commands_a, c10r0_commands_c, e, c10r0_commands_f⟩ g => ⟨c10r0_commands_a, c10r0_commands_c, e, Els.mono rep_G_Command c10r0_commands_f g⟩) (by
      intro ac MM vs hbd hcor hS00 hk; have hS0 := hS00
      obtain ⟨hle, LL, hC, hSt⟩ := hS0
      have hSt0 := hSt
      have hC0 := hC; obtain ⟨A0, h0, rfl⟩ := hC
      have hS := D.St_right (hSt)
      have k26 : ac.eval (.tmp 26) = .agg (G_Delta_cells a0 a0_commands_a a0_commands_c) := hk.1
      obtain ⟨c9r0_g, c9r0_c, k29, c9r0_f⟩ : ∃ (c9r0_g : Option Nat) (c9r0_c : Nat), ac.eval (.tmp 29) = .slice (adr c9r0_g) y6.length c9r0_c ∧ Els is_G_Command MM 5 (adr c9r0_g) c9r0_c y6 := hk.2.1
      have hKe : Ke ac [(26, .agg (G_Delta_cells a0 a0_commands_a a0_commands_c)), (29, .slice (adr c9r0_g) y6.length c9r0_c)] := (.cons k26 (.cons k29 (.nil _)))
      replace a0_commands_f := Els.mono rep_G_Command a0_commands_f hle
      exact ⟨D.wanted0 rfl, D.stepCall hCm hS00 hKe ent30_8 rfl rfl rfl rfl (G.graftref05_With_spec a0_commands_f c9r0_f hy9) (by kernel_rfl) (by rintro _ M2 _ hl ⟨c10r0_commands_a, c10r0_commands_c, rfl, rfl, c10r0_commands_f⟩; exact ⟨c10r0_commands_a, c10r0_commands_c, rfl, c10r0_commands_f⟩)⟩) ?_
     refine D.onA (fun uu _ => uu = .bool y8) (fun _ _ _ h _ => h) (by
      intro ac MM vs hbd hcor hS00 hk; have hS0 := hS00
      obtain ⟨hle, LL, hC, hSt⟩ := hS0
      have hSt0 := hSt
      have hC0 := hC; obtain ⟨A0, h0, rfl⟩ := hC
      have hS := D.St_right (hSt)
      have k25 : ac.eval (.tmp 25) = .agg (G_Delta_cells y2 (adr c2r0_commands_g) c2r0_commands_c) := hk.1
      obtain ⟨c10r0_commands_a, c10r0_commands_c, k30, c10r0_commands_f⟩ : ∃ (c10r0_commands_a : Option Addr) (c10r0_commands_c : Nat), ac.eval (.tmp 30) = .agg (G_Delta_cells y7 c10r0_commands_a c10r0_commands_c) ∧ Els is_G_Command MM 5 c10r0_commands_a c10r0_commands_c y7.commands := hk.2.1
      have hKe : Ke ac [(25, .agg (G_Delta_cells y2 (adr c2r0_commands_g) c2r0_commands_c)), (30, .agg (G_Delta_cells y7 c10r0_commands_a c10r0_commands_c))] := (.cons k25 (.cons k30 (.nil _)))
      replace c2r0_commands_f := Els.mono rep_G_Command c2r0_commands_f hle
      exact ⟨D.wanted0 rfl, D.stepCall hCm hS00 hKe ent16_8 rfl rfl rfl rfl (G.graftref05_Same_spec c2r0_commands_f c10r0_commands_f hy10) (by kernel_rfl) (by rintro _ M2 _ hl ⟨rfl, rfl⟩; exact rfl)⟩) ?_
     refine D.onD [(31, .bool y8)] (.bool true) (fun ac MM hk => (.cons (hk.1) (.nil _))) (fun ac MM vs hbd hS hKe Post hp => s_pureE (.bool true) (.bool (!y8)) hKe (by kernel_rfl) (by kernel_rfl) (by rw [hb7]) hp) ?_
     refine D.onP [(32, .bool true)] (.bool true) (fun ac MM hk => (.cons (hk.1) (.nil _))) ?_
     refine D.onN [(33, .bool true)] (fun ac MM hk => .cons (hk.2.1) (.nil _)) ?_
     refine D.onN [(33, .bool true)] (fun ac MM hk => .cons (hk.2.1) (.nil _)) ?_
     intro fr2 m20 vs hlen hcor hS2 hE; obtain ⟨l20, LL, hC, hS2⟩ := hS2
     obtain ⟨A0, h0, rfl⟩ := hC
     obtain ⟨c9r0_g, c9r0_c, el0_0, rfl, c9r0_f⟩ := D.CH.at h0 (hlen 0) rfl
     replace hS2 : St _ m m20 [rowOf 50 5 c9r0_g c9r0_c y6, .box b4 (G_Delta_cells y2 (adr c2r0_commands_g) c2r0_commands_c) 27, rowOf 50 5 c2r0_commands_g c2r0_commands_c y2.commands, .box b2 (G_Delta_cells (⟨a0.oldLen, a0.newLen, a0.oldHash, a0.newHash, x1⟩ : G.Delta) (adr g1) cp1) 27, rowOf 50 5 g1 cp1 x1, .box b1 (G_Delta_cells a0 a0_commands_a a0_commands_c) 27] := hS2
     have kl29 : fr2.eval (.tmp 29) = .slice (adr c9r0_g) y6.length c9r0_c := hcor 0 0 _ _ _ _ rfl rfl rfl el0_0
     have hK2 := D.kn_endsM [(25, .agg (G_Delta_cells y2 (adr c2r0_commands_g) c2r0_commands_c)), (26, .agg (G_Delta_cells a0 a0_commands_a a0_commands_c)), (27, .pointer (some ⟨b1, 66, none⟩)), (28, .slice a0_commands_a a0.commands.length a0_commands_c), (29, .slice (adr c9r0_g) y6.length c9r0_c), (30, fr2.eval (.tmp 30)), (31, .bool y8), (32, .bool true), (33, .bool true), (34, undef), (35, undef)] hK hE rfl (by kernel_rfl) (.cons (hE.slots 25) (.cons (hE.slots 26) (.cons (hE.slots 27) (.cons (hE.slots 28) (.cons (kl29) (.cons (rfl) (.cons (hE.slots 31) (.cons (hE.slots 32) (.cons (hE.slots 33) (.cons (hE.slots 34) (.cons (hE.slots 35) (.nil _))))))))))))
     replace hK2 : Kn 66 fr2 [(25, .agg (G_Delta_cells y2 (adr c2r0_commands_g) c2r0_commands_c)), (26, .agg (G_Delta_cells a0 a0_commands_a a0_commands_c)), (27, .pointer (some ⟨b1, 66, none⟩)), (28, .slice a0_commands_a a0.commands.length a0_commands_c), (29, .slice (adr c9r0_g) y6.length c9r0_c), (31, .bool y8), (32, .bool true), (33, .bool true), (34, undef), (35, undef), (4, .pointer (some ⟨b4, 0, none⟩)), (24, .agg (G_Delta_cells y2 (adr c2r0_commands_g) c2r0_commands_c)), (23, .agg (G_Delta_cells (⟨a0.oldLen, a0.newLen, a0.oldHash, a0.newHash, x1⟩ : G.Delta) (adr g1) cp1)), (22, .pointer (some ⟨b2, 66, none⟩)), (21, .slice (adr g1) x1.length cp1), (20, .slice a0_commands_a a0.commands.length a0_commands_c), (19, .pointer (some ⟨b1, 66, none⟩)), (18, .slice (adr (some b3)) (([] : List G.Command).length) 0), (3, .pointer (some ⟨b2, 0, none⟩)), (17, .agg (G_Delta_cells a0 a0_commands_a a0_commands_c)), (15, .bool false), (1, .pointer (some ⟨b1, 0, none⟩))] := hK2.only [25, 26, 27, 28, 29, 31, 32, 33, 34, 35, 4, 24, 23, 22, 21, 20, 19, 18, 3, 17, 15, 1]
     clear hE hK hcor hlen kl29 h0 el0_0; revert hK2; clear hS; revert fr2; clear fr; intro fr hK; have hS := hS2; clear hS2 hCm hm0
     replace hS : St _ m m20 [rowOf 50 5 c9r0_g c9r0_c y6, .box b4 (G_Delta_cells y2 (adr c2r0_commands_g) c2r0_commands_c) 27, rowOf 50 5 c2r0_commands_g c2r0_commands_c y2.commands, .box b2 (G_Delta_cells (⟨a0.oldLen, a0.newLen, a0.oldHash, a0.newHash, x1⟩ : G.Delta) (adr g1) cp1) 27, rowOf 50 5 g1 cp1 x1, .box b1 (G_Delta_cells a0 a0_commands_a a0_commands_c) 27] := hS
     refine qs 36 hK ?_
     clear hK fr; intro fr hK
     refine qs 37 hK ?_
     clear hK fr; intro fr hK
     refine qp 38 (.bool true) hK fun fr hK => ?_
     refine wpListIn_nil (then_n ?_)
     replace hS := hS.front 2 rfl
     replace hS := hS.front 5 rfl
     replace hS := hS.front 3 rfl
     replace hS := St.keep (L := [.box b4 (G_Delta_cells y2 (adr c2r0_commands_g) c2r0_commands_c) 27, .box b1 (G_Delta_cells a0 a0_commands_a a0_commands_c) 27, rowOf 50 5 c2r0_commands_g c2r0_commands_c y2.commands]) (R := [rowOf 50 5 c9r0_g c9r0_c y6, .box b2 (G_Delta_cells (⟨a0.oldLen, a0.newLen, a0.oldHash, a0.newHash, x1⟩ : G.Delta) (adr g1) cp1) 27, rowOf 50 5 g1 cp1 x1]) hS
     replace h := Option.some.inj h; subst h
     exact ⟨m20, rfl, hK.only [1, 4, 38], l20, hS⟩
    ·
     replace h := ite_f (not_false_of ((Bool.not_eq_false' _).mp hb7)) h
     have hm0 : ∀ p ∈ ([(fun _ A _ => A = []), (fun l A M => ∃ (c12r0_g : Option Nat) (c12r0_c : Nat), l[0]? = some (.slice (adr c12r0_g) y6.length c12r0_c) ∧ A = [rowOf 50 5 c12r0_g c12r0_c y6] ∧ Els is_G_Command M 5 (adr c12r0_g) c12r0_c y6)] : List D.Stage), D.MonoP p := D.allP_cons (fun _ _ _ _ h _ => h) (D.allP_cons (fun _ _ _ _ ⟨c12r0_g, c12r0_c, el0, eA, c12r0_f⟩ hl => ⟨c12r0_g, c12r0_c, el0, eA, Els.mono rep_G_Command c12r0_f hl⟩) (D.allP_nil))
     have hCm := D.C1_mono [.box b4 (G_Delta_cells y2 (adr c2r0_commands_g) c2r0_commands_c) 27, rowOf 50 5 c2r0_commands_g c2r0_commands_c y2.commands, .box b2 (G_Delta_cells (⟨a0.oldLen, a0.newLen, a0.oldHash, a0.newHash, x1⟩ : G.Delta) (adr g1) cp1) 27, rowOf 50 5 g1 cp1 x1, .box b1 (G_Delta_cells a0 a0_commands_a a0_commands_c) 27] hm0
     refine D.wp_drawM (m0 := m11) 11 [[4]] [([(4, none)], [(0, 1)], none), ([(1, none)], [(0, 1)], none), ([(1, none)], [(0, 0)], none), ([(27, some 0)], [(0, 0)], none), ([(28, some 0)], [(0, 0)], some 0), ([(26, some 3), (29, some 0)], [(1, 1)], none), ([(25, some 5), (30, some 0)], [(1, 1)], none), ([(31, some 0)], [(1, 1)], none), ([(32, some 0)], [(1, 1)], none), ([(3, none), (33, some 0)], [(1, 1)], none), ([(1, none), (33, some 1)], [(1, 1)], none)] (D.SM m11 m (blocksOf []) (D.C1 [(fun _ A _ => A = []), (fun l A M => ∃ (c12r0_g : Option Nat) (c12r0_c : Nat), l[0]? = some (.slice (adr c12r0_g) y6.length c12r0_c) ∧ A = [rowOf 50 5 c12r0_g c12r0_c y6] ∧ Els is_G_Command M 5 (adr c12r0_g) c12r0_c y6)] [.box b4 (G_Delta_cells y2 (adr c2r0_commands_g) c2r0_commands_c) 27, rowOf 50 5 c2r0_commands_g c2r0_commands_c y2.commands, .box b2 (G_Delta_cells (⟨a0.oldLen, a0.newLen, a0.oldHash, a0.newHash, x1⟩ : G.Delta) (adr g1) cp1) 27, rowOf 50 5 g1 cp1 x1, .box b1 (G_Delta_cells a0 a0_commands_a a0_commands_c) 27])) hK.size (by kernel_rfl) (by kernel_rfl) (by kernel_rfl) (D.start1 hS (fun _ => rfl)) ?_
     refine D.onA (fun uu _ => uu = .agg (G_Delta_cells y2 (adr c2r0_commands_g) c2r0_commands_c)) (fun _ _ _ h _ => h) (by
      intro ac MM vs hbd hcor hS00 hk; have hS0 := hS00
      obtain ⟨hle, LL, hC, hSt⟩ := hS0
      have hSt0 := hSt
      have hC0 := hC; obtain ⟨A0, h0, rfl⟩ := hC
      have hS := D.St_right (hSt)
      have k4 : ac.eval (.tmp 4) = .pointer (some ⟨b4, 0, none⟩) := hk.1.trans (hK.at_ 4 _ rfl)
      have hKe : Ke ac [(4, .pointer (some ⟨b4, 0, none⟩))] := (.cons k4 (.nil _))
      exact ⟨D.wanted0 rfl, s_loadAll hKe hS 0 rfl rfl rfl (by kernel_rfl) ⟨MM, rfl, Le.refl _, rfl, hS00⟩⟩) ?_
     refine D.onA (fun uu _ => uu = .agg (G_Delta_cells a0 a0_commands_a a0_commands_c)) (fun _ _ _ h _ => h) (by
      intro ac MM vs hbd hcor hS00 hk; have hS0 := hS00
      obtain ⟨hle, LL, hC, hSt⟩ := hS0
      have hSt0 := hSt
      have hC0 := hC; obtain ⟨A0, h0, rfl⟩ := hC
      have hS := D.St_right (hSt)
      have k1 : ac.eval (.tmp 1) = .pointer (some ⟨b1, 0, none⟩) := hk.1.trans (hK.at_ 1 _ rfl)
      have hKe : Ke ac [(1, .pointer (some ⟨b1, 0, none⟩))] := (.cons k1 (.nil _))
      exact ⟨D.wanted0 rfl, s_loadAll hKe hS 4 rfl rfl rfl (by kernel_rfl) ⟨MM, rfl, Le.refl _, rfl, hS00⟩⟩) ?_
     refine D.onP [(1, .pointer (some ⟨b1, 0, none⟩))] (.pointer (some ⟨b1, 66, none⟩)) (fun ac MM hk => (.cons (hk.1.trans (hK.at_ 1 _ rfl)) (.nil _))) ?_
     refine D.onA (fun uu _ => uu = .slice a0_commands_a a0.commands.length a0_commands_c) (fun _ _ _ h _ => h) (by
      intro ac MM vs hbd hcor hS00 hk; have hS0 := hS00
      obtain ⟨hle, LL, hC, hSt⟩ := hS0
      have hSt0 := hSt
      have hC0 := hC; obtain ⟨A0, h0, rfl⟩ := hC
      have hS := D.St_right (hSt)
      have k27 : ac.eval (.tmp 27) = .pointer (some ⟨b1, 66, none⟩) := hk.1
      have hKe : Ke ac [(27, .pointer (some ⟨b1, 66, none⟩))] := (.cons k27 (.nil _))
      exact ⟨D.wanted0 rfl, s_load hKe hS 4 rfl rfl rfl rfl (by kernel_rfl) ⟨MM, rfl, Le.refl _, rfl, hS00⟩⟩) ?_
     refine D.onA (fun uu MM => ∃ (c12r0_g : Option Nat) (c12r0_c : Nat), uu = .slice (adr c12r0_g) y6.length c12r0_c ∧ Els is_G_Command MM 5 (adr c12r0_g) c12r0_c y6) (fun _ _ _ ⟨c12r0_g, c12r0_c, e, c12r0_f⟩ g => ⟨c12r0_g, c12r0_c, e, Els.mono rep_G_Command c12r0_f g⟩) (by
      intro ac MM vs hbd hcor hS00 hk; have hS0 := hS00
      obtain ⟨hle, LL, hC, hSt⟩ := hS0
      have hSt0 := hSt
      have hC0 := hC; obtain ⟨A0, h0, rfl⟩ := hC
      have hn := D.bd_eq hbd 0 0 rfl
      obtain rfl := D.CH.at h0 hn rfl
      replace hSt := hSt
      have k28 : ac.eval (.tmp 28) = .slice a0_commands_a a0.commands.length a0_commands_c := hk.1
      have hKe : Ke ac [(28, .slice a0_commands_a a0.commands.length a0_commands_c)] := (.cons k28 (.nil _))
      replace a0_commands_f := Els.mono rep_G_Command a0_commands_f hle
      exact ⟨D.wanted0 rfl, s_call hKe hSt ent31_8 rfl rfl rfl rfl (G.graftref05_Sort_spec a0_commands_f hy8) (by kernel_rfl) (by
        rintro _ M2 _ l2 hS2 ⟨c12r0_g, c12r0_c, rfl, rfl, c12r0_f⟩
        exact ⟨M2, rfl, l2, ⟨c12r0_g, c12r0_c, rfl, c12r0_f⟩, hle.trans l2, _, ⟨_, D.CH.push hn rfl ⟨c12r0_g, c12r0_c, D.get_push hn, rfl, c12r0_f⟩, rfl⟩, hS2⟩)⟩) ?_
     refine D.onA (fun uu MM => ∃ (c13r0_commands_a : Option Addr) (c13r0_commands_c : Nat), uu = .agg (G_Delta_cells y7 c13r0_commands_a c13r0_commands_c) ∧ Els is_G_Command MM 5 c13r0_commands_a c13r0_commands_c y7.commands) (fun _ _ _ ⟨c13r0_commands_a, c13r0_commands_c, e, c13r0_commands_f⟩ g => ⟨c13r0_commands_a, c13r0_commands_c, e, Els.mono rep_G_Command c13r0_commands_f g⟩) (by
      intro ac MM vs hbd hcor hS00 hk; have hS0 := hS00
      obtain ⟨hle, LL, hC, hSt⟩ := hS0
      have hSt0 := hSt
      have hC0 := hC; obtain ⟨A0, h0, rfl⟩ := hC
      have hS := D.St_right (hSt)
      have k26 : ac.eval (.tmp 26) = .agg (G_Delta_cells a0 a0_commands_a a0_commands_c) := hk.1
      obtain ⟨c12r0_g, c12r0_c, k29, c12r0_f⟩ : ∃ (c12r0_g : Option Nat) (c12r0_c : Nat), ac.eval (.tmp 29) = .slice (adr c12r0_g) y6.length c12r0_c ∧ Els is_G_Command MM 5 (adr c12r0_g) c12r0_c y6 := hk.2.1
      have hKe : Ke ac [(26, .agg (G_Delta_cells a0 a0_commands_a a0_commands_c)), (29, .slice (adr c12r0_g) y6.length c12r0_c)] := (.cons k26 (.cons k29 (.nil _)))
      replace a0_commands_f := Els.mono rep_G_Command a0_commands_f hle
      exact ⟨D.wanted0 rfl, D.stepCall hCm hS00 hKe ent30_8 rfl rfl rfl rfl (G.graftref05_With_spec a0_commands_f c12r0_f hy9) (by kernel_rfl) (by rintro _ M2 _ hl ⟨c13r0_commands_a, c13r0_commands_c, rfl, rfl, c13r0_commands_f⟩; exact ⟨c13r0_commands_a, c13r0_commands_c, rfl, c13r0_commands_f⟩)⟩) ?_
     refine D.onA (fun uu _ => uu = .bool y8) (fun _ _ _ h _ => h) (by
      intro ac MM vs hbd hcor hS00 hk; have hS0 := hS00
      obtain ⟨hle, LL, hC, hSt⟩ := hS0
      have hSt0 := hSt
      have hC0 := hC; obtain ⟨A0, h0, rfl⟩ := hC
      have hS := D.St_right (hSt)
      have k25 : ac.eval (.tmp 25) = .agg (G_Delta_cells y2 (adr c2r0_commands_g) c2r0_commands_c) := hk.1
      obtain ⟨c13r0_commands_a, c13r0_commands_c, k30, c13r0_commands_f⟩ : ∃ (c13r0_commands_a : Option Addr) (c13r0_commands_c : Nat), ac.eval (.tmp 30) = .agg (G_Delta_cells y7 c13r0_commands_a c13r0_commands_c) ∧ Els is_G_Command MM 5 c13r0_commands_a c13r0_commands_c y7.commands := hk.2.1
      have hKe : Ke ac [(25, .agg (G_Delta_cells y2 (adr c2r0_commands_g) c2r0_commands_c)), (30, .agg (G_Delta_cells y7 c13r0_commands_a c13r0_commands_c))] := (.cons k25 (.cons k30 (.nil _)))
      replace c2r0_commands_f := Els.mono rep_G_Command c2r0_commands_f hle
      exact ⟨D.wanted0 rfl, D.stepCall hCm hS00 hKe ent16_8 rfl rfl rfl rfl (G.graftref05_Same_spec c2r0_commands_f c13r0_commands_f hy10) (by kernel_rfl) (by rintro _ M2 _ hl ⟨rfl, rfl⟩; exact rfl)⟩) ?_
     refine D.onD [(31, .bool y8)] (.bool false) (fun ac MM hk => (.cons (hk.1) (.nil _))) (fun ac MM vs hbd hS hKe Post hp => s_pureE (.bool false) (.bool (!y8)) hKe (by kernel_rfl) (by kernel_rfl) (by rw [hb7]) hp) ?_
     refine D.onP [(32, .bool false)] (.bool false) (fun ac MM hk => (.cons (hk.1) (.nil _))) ?_
     refine D.onA (fun uu _ => uu = .agg (G_Delta_cells (⟨a0.oldLen, a0.newLen, a0.oldHash, a0.newHash, x1⟩ : G.Delta) (adr g1) cp1)) (fun _ _ _ h _ => h) (by
      intro ac MM vs hbd hcor hS00 hk; have hS0 := hS00
      obtain ⟨hle, LL, hC, hSt⟩ := hS0
      have hSt0 := hSt
      have hC0 := hC; obtain ⟨A0, h0, rfl⟩ := hC
      have hS := D.St_right (hSt)
      have k3 : ac.eval (.tmp 3) = .pointer (some ⟨b2, 0, none⟩) := hk.1.trans (hK.at_ 3 _ rfl)
      have k33 : ac.eval (.tmp 33) = .bool false := hk.2.1
      have hKe : Ke ac [(3, .pointer (some ⟨b2, 0, none⟩)), (33, .bool false)] := (.cons k3 (.cons k33 (.nil _)))
      exact ⟨D.wantedE hKe (by kernel_rfl), s_loadAll hKe hS 2 rfl rfl rfl (by kernel_rfl) ⟨MM, rfl, Le.refl _, rfl, hS00⟩⟩) ?_
     refine D.onA (fun uu _ => uu = .agg (G_Delta_cells a0 a0_commands_a a0_commands_c)) (fun _ _ _ h _ => h) (by
      intro ac MM vs hbd hcor hS00 hk; have hS0 := hS00
      obtain ⟨hle, LL, hC, hSt⟩ := hS0
      have hSt0 := hSt
      have hC0 := hC; obtain ⟨A0, h0, rfl⟩ := hC
      have hS := D.St_right (hSt)
      have k1 : ac.eval (.tmp 1) = .pointer (some ⟨b1, 0, none⟩) := hk.1.trans (hK.at_ 1 _ rfl)
      have k33 : ac.eval (.tmp 33) = .bool false := hk.2.1
      have hKe : Ke ac [(1, .pointer (some ⟨b1, 0, none⟩)), (33, .bool false)] := (.cons k1 (.cons k33 (.nil _)))
      exact ⟨D.wantedE hKe (by kernel_rfl), s_loadAll hKe hS 4 rfl rfl rfl (by kernel_rfl) ⟨MM, rfl, Le.refl _, rfl, hS00⟩⟩) ?_
     intro fr2 m21 vs hlen hcor hS2 hE; obtain ⟨l21, LL, hC, hS2⟩ := hS2
     obtain ⟨A0, h0, rfl⟩ := hC
     obtain ⟨c12r0_g, c12r0_c, el0_0, rfl, c12r0_f⟩ := D.CH.at h0 (hlen 0) rfl
     replace hS2 : St _ m m21 [rowOf 50 5 c12r0_g c12r0_c y6, .box b4 (G_Delta_cells y2 (adr c2r0_commands_g) c2r0_commands_c) 27, rowOf 50 5 c2r0_commands_g c2r0_commands_c y2.commands, .box b2 (G_Delta_cells (⟨a0.oldLen, a0.newLen, a0.oldHash, a0.newHash, x1⟩ : G.Delta) (adr g1) cp1) 27, rowOf 50 5 g1 cp1 x1, .box b1 (G_Delta_cells a0 a0_commands_a a0_commands_c) 27] := hS2
     have kl29 : fr2.eval (.tmp 29) = .slice (adr c12r0_g) y6.length c12r0_c := hcor 0 0 _ _ _ _ rfl rfl rfl el0_0
     have hK2 := D.kn_endsM [(25, .agg (G_Delta_cells y2 (adr c2r0_commands_g) c2r0_commands_c)), (26, .agg (G_Delta_cells a0 a0_commands_a a0_commands_c)), (27, .pointer (some ⟨b1, 66, none⟩)), (28, .slice a0_commands_a a0.commands.length a0_commands_c), (29, .slice (adr c12r0_g) y6.length c12r0_c), (30, fr2.eval (.tmp 30)), (31, .bool y8), (32, .bool false), (33, .bool false), (34, .agg (G_Delta_cells (⟨a0.oldLen, a0.newLen, a0.oldHash, a0.newHash, x1⟩ : G.Delta) (adr g1) cp1)), (35, .agg (G_Delta_cells a0 a0_commands_a a0_commands_c))] hK hE rfl (by kernel_rfl) (.cons (hE.slots 25) (.cons (hE.slots 26) (.cons (hE.slots 27) (.cons (hE.slots 28) (.cons (kl29) (.cons (rfl) (.cons (hE.slots 31) (.cons (hE.slots 32) (.cons (hE.slots 33) (.cons (hE.slots 34) (.cons (hE.slots 35) (.nil _))))))))))))
     replace hK2 : Kn 66 fr2 [(25, .agg (G_Delta_cells y2 (adr c2r0_commands_g) c2r0_commands_c)), (26, .agg (G_Delta_cells a0 a0_commands_a a0_commands_c)), (27, .pointer (some ⟨b1, 66, none⟩)), (28, .slice a0_commands_a a0.commands.length a0_commands_c), (29, .slice (adr c12r0_g) y6.length c12r0_c), (31, .bool y8), (32, .bool false), (33, .bool false), (34, .agg (G_Delta_cells (⟨a0.oldLen, a0.newLen, a0.oldHash, a0.newHash, x1⟩ : G.Delta) (adr g1) cp1)), (35, .agg (G_Delta_cells a0 a0_commands_a a0_commands_c)), (4, .pointer (some ⟨b4, 0, none⟩)), (24, .agg (G_Delta_cells y2 (adr c2r0_commands_g) c2r0_commands_c)), (23, .agg (G_Delta_cells (⟨a0.oldLen, a0.newLen, a0.oldHash, a0.newHash, x1⟩ : G.Delta) (adr g1) cp1)), (22, .pointer (some ⟨b2, 66, none⟩)), (21, .slice (adr g1) x1.length cp1), (20, .slice a0_commands_a a0.commands.length a0_commands_c), (19, .pointer (some ⟨b1, 66, none⟩)), (18, .slice (adr (some b3)) (([] : List G.Command).length) 0), (3, .pointer (some ⟨b2, 0, none⟩)), (17, .agg (G_Delta_cells a0 a0_commands_a a0_commands_c)), (15, .bool false), (1, .pointer (some ⟨b1, 0, none⟩))] := hK2.only [25, 26, 27, 28, 29, 31, 32, 33, 34, 35, 4, 24, 23, 22, 21, 20, 19, 18, 3, 17, 15, 1]
     clear hE hK hcor hlen kl29 h0 el0_0; revert hK2; clear hS; revert fr2; clear fr; intro fr hK; have hS := hS2; clear hS2 hCm hm0
     replace hS : St _ m m21 [rowOf 50 5 c12r0_g c12r0_c y6, .box b4 (G_Delta_cells y2 (adr c2r0_commands_g) c2r0_commands_c) 27, rowOf 50 5 c2r0_commands_g c2r0_commands_c y2.commands, .box b2 (G_Delta_cells (⟨a0.oldLen, a0.newLen, a0.oldHash, a0.newHash, x1⟩ : G.Delta) (adr g1) cp1) 27, rowOf 50 5 g1 cp1 x1, .box b1 (G_Delta_cells a0 a0_commands_a a0_commands_c) 27] := hS
     replace f2 := Els.mono rep_G_Command f2 l21
     replace a0_commands_f := Els.mono rep_G_Command a0_commands_f l21
     obtain ⟨y9, hy11, h⟩ := bind_some h
     refine qo 36 hK (s_call hK.at_ hS ent16_8 rfl rfl rfl rfl (G.graftref05_Same_spec f2 a0_commands_f hy11) (by kernel_rfl) ?_)
     clear hK fr hS; rintro _ m22 _ l22 hS ⟨rfl, rfl⟩ fr hK
     replace hS : St _ m m22 [rowOf 50 5 c12r0_g c12r0_c y6, .box b4 (G_Delta_cells y2 (adr c2r0_commands_g) c2r0_commands_c) 27, rowOf 50 5 c2r0_commands_g c2r0_commands_c y2.commands, .box b2 (G_Delta_cells (⟨a0.oldLen, a0.newLen, a0.oldHash, a0.newHash, x1⟩ : G.Delta) (adr g1) cp1) 27, rowOf 50 5 g1 cp1 x1, .box b1 (G_Delta_cells a0 a0_commands_a a0_commands_c) 27] := hS
     refine qp 37 (.bool (!y9)) hK fun fr hK => ?_
     refine qp 38 (.bool (!y9)) hK fun fr hK => ?_
     refine wpListIn_nil (then_n ?_)
     replace hS := hS.front 2 rfl
     replace hS := hS.front 5 rfl
     replace hS := hS.front 3 rfl
     replace hS := St.keep (L := [.box b4 (G_Delta_cells y2 (adr c2r0_commands_g) c2r0_commands_c) 27, .box b1 (G_Delta_cells a0 a0_commands_a a0_commands_c) 27, rowOf 50 5 c2r0_commands_g c2r0_commands_c y2.commands]) (R := [rowOf 50 5 c12r0_g c12r0_c y6, .box b2 (G_Delta_cells (⟨a0.oldLen, a0.newLen, a0.oldHash, a0.newHash, x1⟩ : G.Delta) (adr g1) cp1) 27, rowOf 50 5 g1 cp1 x1]) hS
     replace h := Option.some.inj h; subst h
     exact ⟨m22, rfl, hK.only [1, 4, 38], l21.trans l22, hS⟩
 ·
  replace h := hv1; clear hv1
  refine w_region ?_
  refine qo 8 hK (s_loadAll hK.at_ hS 0 rfl rfl rfl (by kernel_rfl) ?_)
  clear hK fr; intro fr hK
  replace a0_commands_f := Els.mono rep_G_Command a0_commands_f l1
  obtain ⟨y10, hy12, h⟩ := bind_some h
  refine qo 9 hK (s_call hK.at_ hS ent17_8 rfl rfl rfl rfl (G.graftref05_Few_spec a0_commands_f hy12) (by kernel_rfl) ?_)
  clear hK fr hS; rintro _ m23 _ l23 hS ⟨rfl, rfl⟩ fr hK
  replace hS : St _ m m23 [.box b1 (G_Delta_cells a0 a0_commands_a a0_commands_c) 27] := hS
  refine qp 10 (.bool (!y10)) hK fun fr hK => ?_
  refine qp 11 (.bool (!y10)) hK fun fr hK => ?_
  refine split_b (x := (!y10)) (fun hb8 => ?_) (fun hb8 => ?_)
  ·
   replace hK := hK.more (t := 11) (v' := .bool true) rfl (by rw [hb8])
   replace hK := hK.more (t := 10) (v' := .bool true) rfl (by rw [hb8])
   replace h := ite_t ((Bool.not_eq_true' _).mp hb8) h
   refine qs 12 hK ?_
   clear hK fr; intro fr hK
   refine qs 13 hK ?_
   clear hK fr; intro fr hK
   refine qs 14 hK ?_
   clear hK fr; intro fr hK
   refine qp 15 (.bool true) hK fun fr hK => ?_
   refine wpListIn_nil (then_n ?_)
   replace hS : St _ m m23 [.box b1 (G_Delta_cells a0 a0_commands_a a0_commands_c) 27] := hS
   replace h := Option.some.inj h; subst h
   exact ⟨m23, rfl, hK.only [1, 15], l23, hS⟩
  ·
   replace hK := hK.more (t := 11) (v' := .bool false) rfl (by rw [hb8])
   replace hK := hK.more (t := 10) (v' := .bool false) rfl (by rw [hb8])
   replace h := ite_f (not_false_of ((Bool.not_eq_false' _).mp hb8)) h
   refine qo 12 hK (s_loadAll hK.at_ hS 0 rfl rfl rfl (by kernel_rfl) ?_)
   clear hK fr; intro fr hK
   replace a0_commands_f := Els.mono rep_G_Command a0_commands_f l23
   obtain ⟨y11, hy13, h⟩ := bind_some h
   refine qo 13 hK (s_call hK.at_ hS ent27_8 rfl rfl rfl rfl (G.graftref05_Valid_spec a0_commands_f hy13) (by kernel_rfl) ?_)
   clear hK fr hS; rintro _ m24 _ l24 hS ⟨rfl, rfl⟩ fr hK
   replace hS : St _ m m24 [.box b1 (G_Delta_cells a0 a0_commands_a a0_commands_c) 27] := hS
   refine qp 14 (.bool (!y11)) hK fun fr hK => ?_
   refine qp 15 (.bool (!y11)) hK fun fr hK => ?_
   refine wpListIn_nil (then_n ?_)
   replace hS : St _ m m24 [.box b1 (G_Delta_cells a0 a0_commands_a a0_commands_c) 27] := hS
   replace h := Option.some.inj h; subst h
   exact ⟨m24, rfl, hK.only [1, 15], l23.trans l24, hS⟩
end Go.Proofs.Ytkalbidbhaalmaa
