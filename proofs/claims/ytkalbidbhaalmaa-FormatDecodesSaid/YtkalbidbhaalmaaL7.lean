/- The program computes the plain functions: graftref07_Decode, graftlaw07_FormatDecodes. Printed by a program. -/
import Derived.Test.YtkalbidbhaalmaaProg
import Derived.Test.YtkalbidbhaalmaaGs
import Derived.Test.YtkalbidbhaalmaaRep
import Derived.Test.YtkalbidbhaalmaaL2
import Derived.Test.YtkalbidbhaalmaaL6
namespace Go.Proofs.Ytkalbidbhaalmaa
open Go.RowKit G
theorem ent13_7 : Enters Try.prog 13 := enters_of Try.func13 (by decide +kernel) (by decide +kernel)
theorem ent14_7 : Enters Try.prog 14 := enters_of Try.func14 (by decide +kernel) (by decide +kernel)
theorem ent15_7 : Enters Try.prog 15 := enters_of Try.func15 (by decide +kernel) (by decide +kernel)
theorem ent16_7 : Enters Try.prog 16 := enters_of Try.func16 (by decide +kernel) (by decide +kernel)
theorem ent48_7 : Enters Try.prog 48 := enters_of Try.func48 (by decide +kernel) (by decide +kernel)
theorem ent49_7 : Enters Try.prog 49 := enters_of Try.func49 (by decide +kernel) (by decide +kernel)
theorem ent50_7 : Enters Try.prog 50 := enters_of Try.func50 (by decide +kernel) (by decide +kernel)
theorem ent51_7 : Enters Try.prog 51 := enters_of Try.func51 (by decide +kernel) (by decide +kernel)
theorem ent52_7 : Enters Try.prog 52 := enters_of Try.func52 (by decide +kernel) (by decide +kernel)
theorem ent53_7 : Enters Try.prog 53 := enters_of Try.func53 (by decide +kernel) (by decide +kernel)
theorem elT22_7 : ElemT Try.prog 22 5 (.int .u8 0) 1 1 := ⟨by kernel_rfl, by kernel_rfl, by kernel_rfl, by decide⟩
theorem elT25_7 : ElemT Try.prog 25 50 (.agg #[.int .i64 0, .int .i64 0, .int .i64 0, .int .i64 0, .slice none 0 0]) 5 56 := ⟨by kernel_rfl, by kernel_rfl, by kernel_rfl, by decide⟩
set_option maxRecDepth 100000 in
set_option maxHeartbeats 1000000 in
theorem G.graftref07_Decode_spec {m : Mem} {a0 : List UInt8} {a0_a : Option Addr} {a0_c : Nat} (a0_f : Els isU8 m 1 a0_a a0_c a0) {r : G.Delta × Int × Int} (h : G.graftref07_Decode a0 = some r) :
  Spec Try.prog 15 #[.slice a0_a a0.length a0_c] m [] fun v m' L => ∃ (r0_commands_g : Option Nat) (r0_commands_c : Nat), L = [rowOf 50 5 r0_commands_g r0_commands_c r.1.commands] ∧ v = .tuple #[.agg (G_Delta_cells r.1 (adr r0_commands_g) r0_commands_c), .int .i64 r.2.1, .int .i64 r.2.2] ∧ Els is_G_Command m' 5 (adr r0_commands_g) r0_commands_c r.1.commands := by
 unfold G.graftref07_Decode at h
 refine enter (args := [_]) 119 Try.func15 rfl rfl (by simp) fun fr hK => ?_
 have hS := St.refl (Ow.nil m)
 replace hK : Kn 119 fr [(0, .slice a0_a a0.length a0_c)] := hK
 refine w_seq (w_region ?_)
 refine qo 2 hK (s_alloc (.agg #[.int .i64 0, .int .i64 0, .int .u8 0, .int .u8 0, .int .u8 0, .int .u8 0, .int .u8 0, .int .u8 0, .int .u8 0, .int .u8 0, .int .u8 0, .int .u8 0, .int .u8 0, .int .u8 0, .int .u8 0, .int .u8 0, .int .u8 0, .int .u8 0, .int .u8 0, .int .u8 0, .int .u8 0, .int .u8 0, .int .u8 0, .int .u8 0, .int .u8 0, .int .u8 0, .int .u8 0, .int .u8 0, .int .u8 0, .int .u8 0, .int .u8 0, .int .u8 0, .int .u8 0, .int .u8 0, .int .u8 0, .int .u8 0, .int .u8 0, .int .u8 0, .int .u8 0, .int .u8 0, .int .u8 0, .int .u8 0, .int .u8 0, .int .u8 0, .int .u8 0, .int .u8 0, .int .u8 0, .int .u8 0, .int .u8 0, .int .u8 0, .int .u8 0, .int .u8 0, .int .u8 0, .int .u8 0, .int .u8 0, .int .u8 0, .int .u8 0, .int .u8 0, .int .u8 0, .int .u8 0, .int .u8 0, .int .u8 0, .int .u8 0, .int .u8 0, .int .u8 0, .int .u8 0, .slice none 0 0]) hK.at_ hS rfl (by kernel_rfl) ?_)
 clear hK fr hS; intro m1 b1 b1z l1 hS fr hK
 replace hS : St _ m m1 [.box b1 (G_Delta_cells (⟨0, 0, (fun _ => (0 : UInt8)), (fun _ => (0 : UInt8)), ([] : List G.Command)⟩ : G.Delta) none 0) 27] := hS
 refine qp 3 (.int .i64 0) hK fun fr hK => ?_
 refine qp 4 (.int .i64 0) hK fun fr hK => ?_
 refine wpList_nil (then_n ?_)
 refine w_seq (w_region ?_)
 refine qp 13 (.slice a0_a a0.length a0_c) hK fun fr hK => ?_
 refine qp 14 (.agg #[.slice a0_a a0.length a0_c, .int .i64 0, .int .i64 0, .int .i64 0]) hK fun fr hK => ?_
 refine qo 15 hK (s_box hK.at_ hS rfl rfl ?_)
 clear hK fr hS; intro m2 b2 b2z l2 hS fr hK
 replace hS : St _ m m2 [.box b2 #[.slice a0_a a0.length a0_c, .int .i64 0, .int .i64 0, .int .i64 0] 72, .box b1 (G_Delta_cells (⟨0, 0, (fun _ => (0 : UInt8)), (fun _ => (0 : UInt8)), ([] : List G.Command)⟩ : G.Delta) none 0) 27] := hS
 refine qp 5 (.pointer (some ⟨b2, 0, none⟩)) hK fun fr hK => ?_
 refine wpList_nil (then_n ?_)
 refine w_seq (w_region ?_)
 refine qp 16 (.agg (G_Delta_cells (⟨0, 0, (fun _ => (0 : UInt8)), (fun _ => (0 : UInt8)), ([] : List G.Command)⟩ : G.Delta) none 0)) hK fun fr hK => ?_
 refine qo 6 hK (s_alloc (.agg #[.int .i64 0, .int .i64 0, .int .u8 0, .int .u8 0, .int .u8 0, .int .u8 0, .int .u8 0, .int .u8 0, .int .u8 0, .int .u8 0, .int .u8 0, .int .u8 0, .int .u8 0, .int .u8 0, .int .u8 0, .int .u8 0, .int .u8 0, .int .u8 0, .int .u8 0, .int .u8 0, .int .u8 0, .int .u8 0, .int .u8 0, .int .u8 0, .int .u8 0, .int .u8 0, .int .u8 0, .int .u8 0, .int .u8 0, .int .u8 0, .int .u8 0, .int .u8 0, .int .u8 0, .int .u8 0, .int .u8 0, .int .u8 0, .int .u8 0, .int .u8 0, .int .u8 0, .int .u8 0, .int .u8 0, .int .u8 0, .int .u8 0, .int .u8 0, .int .u8 0, .int .u8 0, .int .u8 0, .int .u8 0, .int .u8 0, .int .u8 0, .int .u8 0, .int .u8 0, .int .u8 0, .int .u8 0, .int .u8 0, .int .u8 0, .int .u8 0, .int .u8 0, .int .u8 0, .int .u8 0, .int .u8 0, .int .u8 0, .int .u8 0, .int .u8 0, .int .u8 0, .int .u8 0, .slice none 0 0]) hK.at_ hS rfl (by kernel_rfl) ?_)
 clear hK fr hS; intro m3 b3 b3z l3 hS fr hK
 refine qo0 hK (s_storeAll hK.at_ 0 hS rfl rfl rfl rfl (by kernel_rfl) (by kernel_rfl) (by kernel_rfl) ?_)
 clear hK fr hS; intro m4 l4 hS fr hK
 replace hS : St _ m m4 [.box b3 (G_Delta_cells (⟨0, 0, (fun _ => (0 : UInt8)), (fun _ => (0 : UInt8)), ([] : List G.Command)⟩ : G.Delta) none 0) 27, .box b2 #[.slice a0_a a0.length a0_c, .int .i64 0, .int .i64 0, .int .i64 0] 72, .box b1 (G_Delta_cells (⟨0, 0, (fun _ => (0 : UInt8)), (fun _ => (0 : UInt8)), ([] : List G.Command)⟩ : G.Delta) none 0) 27] := hS
 refine wpList_nil (then_n ?_)
 refine w_seq (w_region ?_)
 refine qp 17 (.pointer (some ⟨b2, 0, none⟩)) hK fun fr hK => ?_
 refine qo 18 hK (s_buildRow (elem := 5) #[.int .u8 71, .int .u8 82, .int .u8 70, .int .u8 84] hK.at_ hS rfl (by kernel_rfl) (by kernel_rfl) ?_)
 clear hK fr hS; intro m5 b4 l5 hS hA1 fr hK
 have f1 : Els isU8 m5 1 (some ⟨b4, 0, none⟩) 4 ([(71 : UInt8), (82 : UInt8), (70 : UInt8), (84 : UInt8)] : List UInt8) := els_lit rep_U8 [[.int .u8 71], [.int .u8 82], [.int .u8 70], [.int .u8 84]] hA1 (by simp) (by decide) (.cons rfl (.cons rfl (.cons rfl (.cons rfl .nil))))
 replace hS : St _ m m5 [rowOf 5 1 (some b4) 4 ([(71 : UInt8), (82 : UInt8), (70 : UInt8), (84 : UInt8)] : List UInt8), .box b3 (G_Delta_cells (⟨0, 0, (fun _ => (0 : UInt8)), (fun _ => (0 : UInt8)), ([] : List G.Command)⟩ : G.Delta) none 0) 27, .box b2 #[.slice a0_a a0.length a0_c, .int .i64 0, .int .i64 0, .int .i64 0] 72, .box b1 (G_Delta_cells (⟨0, 0, (fun _ => (0 : UInt8)), (fun _ => (0 : UInt8)), ([] : List G.Command)⟩ : G.Delta) none 0) 27] := hS
 replace hK : Kn 119 fr [(18, .slice (adr (some b4)) (([(71 : UInt8), (82 : UInt8), (70 : UInt8), (84 : UInt8)] : List UInt8).length) 4), (17, .pointer (some ⟨b2, 0, none⟩)), (6, .pointer (some ⟨b3, 0, none⟩)), (16, .agg (G_Delta_cells (⟨0, 0, (fun _ => (0 : UInt8)), (fun _ => (0 : UInt8)), ([] : List G.Command)⟩ : G.Delta) none 0)), (5, .pointer (some ⟨b2, 0, none⟩)), (15, .pointer (some ⟨b2, 0, none⟩)), (14, .agg #[.slice a0_a a0.length a0_c, .int .i64 0, .int .i64 0, .int .i64 0]), (13, .slice a0_a a0.length a0_c), (4, .int .i64 0), (3, .int .i64 0), (2, .pointer (some ⟨b1, 0, none⟩)), (0, .slice a0_a a0.length a0_c)] := hK.only [18, 17, 6, 16, 5, 15, 14, 13, 4, 3, 2, 0]
 refine qo 19 hK (s_stringishRow hK.at_ hS rfl rfl Try.underlying22 Try.underlying5 ?_)
 clear hK fr hS; intro m6 l6 hS fr hK
 replace hS : St _ m m6 [.box b3 (G_Delta_cells (⟨0, 0, (fun _ => (0 : UInt8)), (fun _ => (0 : UInt8)), ([] : List G.Command)⟩ : G.Delta) none 0) 27, .box b2 #[.slice a0_a a0.length a0_c, .int .i64 0, .int .i64 0, .int .i64 0] 72, .box b1 (G_Delta_cells (⟨0, 0, (fun _ => (0 : UInt8)), (fun _ => (0 : UInt8)), ([] : List G.Command)⟩ : G.Delta) none 0) 27] := hS
 replace a0_f := Els.mono rep_U8 a0_f (l1.trans (l2.trans (l3.trans (l4.trans (l5.trans l6)))))
 replace f1 := Els.mono rep_U8 f1 l6
 obtain ⟨y1, hy1, h⟩ := bind_some h
 replace hS := hS.front 1 rfl
 replace hS : St _ m m6 [.box b2 #[.slice a0_a a0.length a0_c, .int .i64 0, .int .i64 0, .int .i64 0] 72, .box b3 (G_Delta_cells (⟨0, 0, (fun _ => (0 : UInt8)), (fun _ => (0 : UInt8)), ([] : List G.Command)⟩ : G.Delta) none 0) 27, .box b1 (G_Delta_cells (⟨0, 0, (fun _ => (0 : UInt8)), (fun _ => (0 : UInt8)), ([] : List G.Command)⟩ : G.Delta) none 0) 27] := hS
 refine qo 20 hK (s_callM (R := [.box b2 #[.slice a0_a a0.length a0_c, .int .i64 0, .int .i64 0, .int .i64 0] 72]) (L := [.box b3 (G_Delta_cells (⟨0, 0, (fun _ => (0 : UInt8)), (fun _ => (0 : UInt8)), ([] : List G.Command)⟩ : G.Delta) none 0) 27, .box b1 (G_Delta_cells (⟨0, 0, (fun _ => (0 : UInt8)), (fun _ => (0 : UInt8)), ([] : List G.Command)⟩ : G.Delta) none 0) 27]) hK.at_ hS ent48_7 rfl rfl rfl rfl (G.graftref06_Expect_spec a0_f f1 hy1 (Ow.left (L := [.box b2 #[.slice a0_a a0.length a0_c, .int .i64 0, .int .i64 0, .int .i64 0] 72]) hS.ow)) (by kernel_rfl) ?_)
 clear hK fr hS; rintro _ m7 _ l7 hS ⟨rfl, rfl, c1re0⟩ fr hK
 replace hS : St _ m m7 [.box b2 #[.slice a0_a y1.2.b.length a0_c, .int .i64 y1.2.at_, .int .i64 y1.2.code, .int .i64 y1.2.pos] 72, .box b3 (G_Delta_cells (⟨0, 0, (fun _ => (0 : UInt8)), (fun _ => (0 : UInt8)), ([] : List G.Command)⟩ : G.Delta) none 0) 27, .box b1 (G_Delta_cells (⟨0, 0, (fun _ => (0 : UInt8)), (fun _ => (0 : UInt8)), ([] : List G.Command)⟩ : G.Delta) none 0) 27] := hS
 refine wpList_nil (then_n ?_)
 refine w_seq (w_region ?_)
 refine qp 21 (.pointer (some ⟨b2, 0, none⟩)) hK fun fr hK => ?_
 replace a0_f := Els.mono rep_U8 a0_f l7
 have f2 : Els isU8 m7 1 a0_a a0_c y1.2.b := Els.cast c1re0.symm a0_f
 obtain ⟨y2, hy2, h⟩ := bind_some h
 replace hS : St _ m m7 [.box b2 #[.slice a0_a y1.2.b.length a0_c, .int .i64 y1.2.at_, .int .i64 y1.2.code, .int .i64 y1.2.pos] 72, .box b3 (G_Delta_cells (⟨0, 0, (fun _ => (0 : UInt8)), (fun _ => (0 : UInt8)), ([] : List G.Command)⟩ : G.Delta) none 0) 27, .box b1 (G_Delta_cells (⟨0, 0, (fun _ => (0 : UInt8)), (fun _ => (0 : UInt8)), ([] : List G.Command)⟩ : G.Delta) none 0) 27] := hS
 refine qo 22 hK (s_callM (R := [.box b2 #[.slice a0_a y1.2.b.length a0_c, .int .i64 y1.2.at_, .int .i64 y1.2.code, .int .i64 y1.2.pos] 72]) (L := [.box b3 (G_Delta_cells (⟨0, 0, (fun _ => (0 : UInt8)), (fun _ => (0 : UInt8)), ([] : List G.Command)⟩ : G.Delta) none 0) 27, .box b1 (G_Delta_cells (⟨0, 0, (fun _ => (0 : UInt8)), (fun _ => (0 : UInt8)), ([] : List G.Command)⟩ : G.Delta) none 0) 27]) hK.at_ hS ent49_7 rfl rfl rfl rfl (G.graftref06_Uint_spec f2 hy2 (Ow.left (L := [.box b2 #[.slice a0_a y1.2.b.length a0_c, .int .i64 y1.2.at_, .int .i64 y1.2.code, .int .i64 y1.2.pos] 72]) hS.ow)) (by kernel_rfl) ?_)
 clear hK fr hS; rintro _ m8 _ l8 hS ⟨rfl, rfl, c2re0⟩ fr hK
 replace hS : St _ m m8 [.box b2 #[.slice a0_a y2.2.b.length a0_c, .int .i64 y2.2.at_, .int .i64 y2.2.code, .int .i64 y2.2.pos] 72, .box b3 (G_Delta_cells (⟨0, 0, (fun _ => (0 : UInt8)), (fun _ => (0 : UInt8)), ([] : List G.Command)⟩ : G.Delta) none 0) 27, .box b1 (G_Delta_cells (⟨0, 0, (fun _ => (0 : UInt8)), (fun _ => (0 : UInt8)), ([] : List G.Command)⟩ : G.Delta) none 0) 27] := hS
 refine qp 7 (.int .u64 y2.1) hK fun fr hK => ?_
 refine wpList_nil (then_n ?_)
 refine w_seq ?_
 refine w_seq ?_
 obtain ⟨v1, hv1, h⟩ := bind_some h
 refine w_join (fun fr ww => ∃ m9 : Mem, m9.w = ww ∧ Kn 119 fr [(0, .slice a0_a a0.length a0_c), (2, .pointer (some ⟨b1, 0, none⟩)), (5, .pointer (some ⟨b2, 0, none⟩)), (6, .pointer (some ⟨b3, 0, none⟩)), (31, .bool v1)] ∧ Le m8 m9 ∧ St (blocksOf []) m m9 [.box b2 #[.slice a0_a y2.2.b.length a0_c, .int .i64 y2.2.at_, .int .i64 y2.2.code, .int .i64 y2.2.pos] 72, .box b3 (G_Delta_cells (⟨0, 0, (fun _ => (0 : UInt8)), (fun _ => (0 : UInt8)), ([] : List G.Command)⟩ : G.Delta) none 0) 27, .box b1 (G_Delta_cells (⟨0, 0, (fun _ => (0 : UInt8)), (fun _ => (0 : UInt8)), ([] : List G.Command)⟩ : G.Delta) none 0) 27]) ?_ ?_
 ·
  clear hK hS fr hv1
  rintro fr _ ⟨m9, rfl, hK, l9, hS⟩
  refine then_n ?_
  obtain ⟨v2, hv2, h⟩ := bind_some h
  refine w_join (fun fr ww => ∃ m10 : Mem, m10.w = ww ∧ Kn 119 fr [(0, .slice a0_a a0.length a0_c), (2, .pointer (some ⟨b1, 0, none⟩)), (5, .pointer (some ⟨b2, 0, none⟩)), (6, .pointer (some ⟨b3, 0, none⟩))] ∧ Le m9 m10 ∧ St (blocksOf []) m m10 [.box b2 #[.slice a0_a (((v2).b).length) a0_c, .int .i64 ((v2).at_), .int .i64 ((v2).code), .int .i64 ((v2).pos)] 72, .box b3 (G_Delta_cells (⟨0, 0, (fun _ => (0 : UInt8)), (fun _ => (0 : UInt8)), ([] : List G.Command)⟩ : G.Delta) none 0) 27, .box b1 (G_Delta_cells (⟨0, 0, (fun _ => (0 : UInt8)), (fun _ => (0 : UInt8)), ([] : List G.Command)⟩ : G.Delta) none 0) 27] ∧ (v2).b = a0) ?_ ?_
  ·
   clear hK hS fr hv2
   rintro fr _ ⟨m10, rfl, hK, l10, hS, he1⟩
   refine then_n ?_
   refine w_seq (w_region ?_)
   refine qp 34 (.pointer (some ⟨b2, 0, none⟩)) hK fun fr hK => ?_
   replace a0_f := Els.mono rep_U8 a0_f (l8.trans (l9.trans l10))
   have f4 : Els isU8 m10 1 a0_a a0_c ((v2).b) := Els.cast he1.symm a0_f
   obtain ⟨y3, hy3, h⟩ := bind_some h
   replace hS : St _ m m10 [.box b2 #[.slice a0_a (((v2).b).length) a0_c, .int .i64 ((v2).at_), .int .i64 ((v2).code), .int .i64 ((v2).pos)] 72, .box b3 (G_Delta_cells (⟨0, 0, (fun _ => (0 : UInt8)), (fun _ => (0 : UInt8)), ([] : List G.Command)⟩ : G.Delta) none 0) 27, .box b1 (G_Delta_cells (⟨0, 0, (fun _ => (0 : UInt8)), (fun _ => (0 : UInt8)), ([] : List G.Command)⟩ : G.Delta) none 0) 27] := hS
   refine qo 35 hK (s_callM (R := [.box b2 #[.slice a0_a (((v2).b).length) a0_c, .int .i64 ((v2).at_), .int .i64 ((v2).code), .int .i64 ((v2).pos)] 72]) (L := [.box b3 (G_Delta_cells (⟨0, 0, (fun _ => (0 : UInt8)), (fun _ => (0 : UInt8)), ([] : List G.Command)⟩ : G.Delta) none 0) 27, .box b1 (G_Delta_cells (⟨0, 0, (fun _ => (0 : UInt8)), (fun _ => (0 : UInt8)), ([] : List G.Command)⟩ : G.Delta) none 0) 27]) hK.at_ hS ent51_7 rfl rfl rfl rfl (G.graftref06_Length_spec f4 hy3 (Ow.left (L := [.box b2 #[.slice a0_a (((v2).b).length) a0_c, .int .i64 ((v2).at_), .int .i64 ((v2).code), .int .i64 ((v2).pos)] 72]) hS.ow)) (by kernel_rfl) ?_)
   clear hK fr hS; rintro _ m11 _ l11 hS ⟨rfl, rfl, c3re0⟩ fr hK
   replace hS : St _ m m11 [.box b2 #[.slice a0_a y3.2.b.length a0_c, .int .i64 y3.2.at_, .int .i64 y3.2.code, .int .i64 y3.2.pos] 72, .box b3 (G_Delta_cells (⟨0, 0, (fun _ => (0 : UInt8)), (fun _ => (0 : UInt8)), ([] : List G.Command)⟩ : G.Delta) none 0) 27, .box b1 (G_Delta_cells (⟨0, 0, (fun _ => (0 : UInt8)), (fun _ => (0 : UInt8)), ([] : List G.Command)⟩ : G.Delta) none 0) 27] := hS
   refine qp 36 (.pointer (some ⟨b3, 0, none⟩)) hK fun fr hK => ?_
   refine qo0 hK (s_store hK.at_ 1 hS rfl rfl rfl rfl (by kernel_rfl) (by kernel_rfl) (by kernel_rfl) ?_)
   clear hK fr hS; intro m12 l12 hS fr hK
   have hf1 : putAt (G_Delta_cells (⟨0, 0, (fun _ => (0 : UInt8)), (fun _ => (0 : UInt8)), ([] : List G.Command)⟩ : G.Delta) none 0) 0 [.int .i64 y3.1] = G_Delta_cells (⟨y3.1, 0, (fun _ => (0 : UInt8)), (fun _ => (0 : UInt8)), ([] : List G.Command)⟩ : G.Delta) none 0 := by kernel_rfl
   replace hS : St _ m m12 [.box b3 (putAt (G_Delta_cells (⟨0, 0, (fun _ => (0 : UInt8)), (fun _ => (0 : UInt8)), ([] : List G.Command)⟩ : G.Delta) none 0) 0 [.int .i64 y3.1]) 27, .box b2 #[.slice a0_a y3.2.b.length a0_c, .int .i64 y3.2.at_, .int .i64 y3.2.code, .int .i64 y3.2.pos] 72, .box b1 (G_Delta_cells (⟨0, 0, (fun _ => (0 : UInt8)), (fun _ => (0 : UInt8)), ([] : List G.Command)⟩ : G.Delta) none 0) 27] := hS
   rw [hf1] at hS
   replace hS : St _ m m12 [.box b3 (G_Delta_cells (⟨y3.1, 0, (fun _ => (0 : UInt8)), (fun _ => (0 : UInt8)), ([] : List G.Command)⟩ : G.Delta) none 0) 27, .box b2 #[.slice a0_a y3.2.b.length a0_c, .int .i64 y3.2.at_, .int .i64 y3.2.code, .int .i64 y3.2.pos] 72, .box b1 (G_Delta_cells (⟨0, 0, (fun _ => (0 : UInt8)), (fun _ => (0 : UInt8)), ([] : List G.Command)⟩ : G.Delta) none 0) 27] := hS
   refine wpList_nil (then_n ?_)
   refine w_seq (w_region ?_)
   refine qp 37 (.pointer (some ⟨b2, 0, none⟩)) hK fun fr hK => ?_
   replace f4 := Els.mono rep_U8 f4 (l11.trans l12)
   have f5 : Els isU8 m12 1 a0_a a0_c y3.2.b := Els.cast c3re0.symm f4
   obtain ⟨y4, hy4, h⟩ := bind_some h
   replace hS := hS.front 1 rfl
   replace hS : St _ m m12 [.box b2 #[.slice a0_a y3.2.b.length a0_c, .int .i64 y3.2.at_, .int .i64 y3.2.code, .int .i64 y3.2.pos] 72, .box b3 (G_Delta_cells (⟨y3.1, 0, (fun _ => (0 : UInt8)), (fun _ => (0 : UInt8)), ([] : List G.Command)⟩ : G.Delta) none 0) 27, .box b1 (G_Delta_cells (⟨0, 0, (fun _ => (0 : UInt8)), (fun _ => (0 : UInt8)), ([] : List G.Command)⟩ : G.Delta) none 0) 27] := hS
   refine qo 38 hK (s_callM (R := [.box b2 #[.slice a0_a y3.2.b.length a0_c, .int .i64 y3.2.at_, .int .i64 y3.2.code, .int .i64 y3.2.pos] 72]) (L := [.box b3 (G_Delta_cells (⟨y3.1, 0, (fun _ => (0 : UInt8)), (fun _ => (0 : UInt8)), ([] : List G.Command)⟩ : G.Delta) none 0) 27, .box b1 (G_Delta_cells (⟨0, 0, (fun _ => (0 : UInt8)), (fun _ => (0 : UInt8)), ([] : List G.Command)⟩ : G.Delta) none 0) 27]) hK.at_ hS ent51_7 rfl rfl rfl rfl (G.graftref06_Length_spec f5 hy4 (Ow.left (L := [.box b2 #[.slice a0_a y3.2.b.length a0_c, .int .i64 y3.2.at_, .int .i64 y3.2.code, .int .i64 y3.2.pos] 72]) hS.ow)) (by kernel_rfl) ?_)
   clear hK fr hS; rintro _ m13 _ l13 hS ⟨rfl, rfl, c4re0⟩ fr hK
   replace hS : St _ m m13 [.box b2 #[.slice a0_a y4.2.b.length a0_c, .int .i64 y4.2.at_, .int .i64 y4.2.code, .int .i64 y4.2.pos] 72, .box b3 (G_Delta_cells (⟨y3.1, 0, (fun _ => (0 : UInt8)), (fun _ => (0 : UInt8)), ([] : List G.Command)⟩ : G.Delta) none 0) 27, .box b1 (G_Delta_cells (⟨0, 0, (fun _ => (0 : UInt8)), (fun _ => (0 : UInt8)), ([] : List G.Command)⟩ : G.Delta) none 0) 27] := hS
   refine qp 39 (.pointer (some ⟨b3, 1, none⟩)) hK fun fr hK => ?_
   refine qo0 hK (s_store hK.at_ 1 hS rfl rfl rfl rfl (by kernel_rfl) (by kernel_rfl) (by kernel_rfl) ?_)
   clear hK fr hS; intro m14 l14 hS fr hK
   have hf2 : putAt (G_Delta_cells (⟨y3.1, 0, (fun _ => (0 : UInt8)), (fun _ => (0 : UInt8)), ([] : List G.Command)⟩ : G.Delta) none 0) 1 [.int .i64 y4.1] = G_Delta_cells (⟨y3.1, y4.1, (fun _ => (0 : UInt8)), (fun _ => (0 : UInt8)), ([] : List G.Command)⟩ : G.Delta) none 0 := by kernel_rfl
   replace hS : St _ m m14 [.box b3 (putAt (G_Delta_cells (⟨y3.1, 0, (fun _ => (0 : UInt8)), (fun _ => (0 : UInt8)), ([] : List G.Command)⟩ : G.Delta) none 0) 1 [.int .i64 y4.1]) 27, .box b2 #[.slice a0_a y4.2.b.length a0_c, .int .i64 y4.2.at_, .int .i64 y4.2.code, .int .i64 y4.2.pos] 72, .box b1 (G_Delta_cells (⟨0, 0, (fun _ => (0 : UInt8)), (fun _ => (0 : UInt8)), ([] : List G.Command)⟩ : G.Delta) none 0) 27] := hS
   rw [hf2] at hS
   replace hS : St _ m m14 [.box b3 (G_Delta_cells (⟨y3.1, y4.1, (fun _ => (0 : UInt8)), (fun _ => (0 : UInt8)), ([] : List G.Command)⟩ : G.Delta) none 0) 27, .box b2 #[.slice a0_a y4.2.b.length a0_c, .int .i64 y4.2.at_, .int .i64 y4.2.code, .int .i64 y4.2.pos] 72, .box b1 (G_Delta_cells (⟨0, 0, (fun _ => (0 : UInt8)), (fun _ => (0 : UInt8)), ([] : List G.Command)⟩ : G.Delta) none 0) 27] := hS
   refine wpList_nil (then_n ?_)
   refine w_seq (w_region ?_)
   refine qp 40 (.pointer (some ⟨b2, 0, none⟩)) hK fun fr hK => ?_
   replace f5 := Els.mono rep_U8 f5 (l13.trans l14)
   have f6 : Els isU8 m14 1 a0_a a0_c y4.2.b := Els.cast c4re0.symm f5
   obtain ⟨y5, hy5, h⟩ := bind_some h
   replace hS := hS.front 1 rfl
   replace hS : St _ m m14 [.box b2 #[.slice a0_a y4.2.b.length a0_c, .int .i64 y4.2.at_, .int .i64 y4.2.code, .int .i64 y4.2.pos] 72, .box b3 (G_Delta_cells (⟨y3.1, y4.1, (fun _ => (0 : UInt8)), (fun _ => (0 : UInt8)), ([] : List G.Command)⟩ : G.Delta) none 0) 27, .box b1 (G_Delta_cells (⟨0, 0, (fun _ => (0 : UInt8)), (fun _ => (0 : UInt8)), ([] : List G.Command)⟩ : G.Delta) none 0) 27] := hS
   refine qo 41 hK (s_callM (R := [.box b2 #[.slice a0_a y4.2.b.length a0_c, .int .i64 y4.2.at_, .int .i64 y4.2.code, .int .i64 y4.2.pos] 72]) (L := [.box b3 (G_Delta_cells (⟨y3.1, y4.1, (fun _ => (0 : UInt8)), (fun _ => (0 : UInt8)), ([] : List G.Command)⟩ : G.Delta) none 0) 27, .box b1 (G_Delta_cells (⟨0, 0, (fun _ => (0 : UInt8)), (fun _ => (0 : UInt8)), ([] : List G.Command)⟩ : G.Delta) none 0) 27]) hK.at_ hS ent52_7 rfl rfl rfl rfl (G.graftref06_Bytes_spec f6 hy5 (Ow.left (L := [.box b2 #[.slice a0_a y4.2.b.length a0_c, .int .i64 y4.2.at_, .int .i64 y4.2.code, .int .i64 y4.2.pos] 72]) hS.ow)) (by kernel_rfl) ?_)
   clear hK fr hS; rintro _ m15 _ l15 hS ⟨c5r0_a, c5r0_c, rfl, rfl, c5r0_f, c5re0⟩ fr hK
   replace hS : St _ m m15 [.box b2 #[.slice a0_a y5.2.b.length a0_c, .int .i64 y5.2.at_, .int .i64 y5.2.code, .int .i64 y5.2.pos] 72, .box b3 (G_Delta_cells (⟨y3.1, y4.1, (fun _ => (0 : UInt8)), (fun _ => (0 : UInt8)), ([] : List G.Command)⟩ : G.Delta) none 0) 27, .box b1 (G_Delta_cells (⟨0, 0, (fun _ => (0 : UInt8)), (fun _ => (0 : UInt8)), ([] : List G.Command)⟩ : G.Delta) none 0) 27] := hS
   refine qp 8 (.slice c5r0_a y5.1.length c5r0_c) hK fun fr hK => ?_
   refine wpList_nil (then_n ?_)
   refine w_seq (w_region ?_)
   refine qp 42 (.pointer (some ⟨b2, 0, none⟩)) hK fun fr hK => ?_
   replace f6 := Els.mono rep_U8 f6 l15
   have f7 : Els isU8 m15 1 a0_a a0_c y5.2.b := Els.cast c5re0.symm f6
   obtain ⟨y6, hy6, h⟩ := bind_some h
   replace hS : St _ m m15 [.box b2 #[.slice a0_a y5.2.b.length a0_c, .int .i64 y5.2.at_, .int .i64 y5.2.code, .int .i64 y5.2.pos] 72, .box b3 (G_Delta_cells (⟨y3.1, y4.1, (fun _ => (0 : UInt8)), (fun _ => (0 : UInt8)), ([] : List G.Command)⟩ : G.Delta) none 0) 27, .box b1 (G_Delta_cells (⟨0, 0, (fun _ => (0 : UInt8)), (fun _ => (0 : UInt8)), ([] : List G.Command)⟩ : G.Delta) none 0) 27] := hS
   refine qo 43 hK (s_callM (R := [.box b2 #[.slice a0_a y5.2.b.length a0_c, .int .i64 y5.2.at_, .int .i64 y5.2.code, .int .i64 y5.2.pos] 72]) (L := [.box b3 (G_Delta_cells (⟨y3.1, y4.1, (fun _ => (0 : UInt8)), (fun _ => (0 : UInt8)), ([] : List G.Command)⟩ : G.Delta) none 0) 27, .box b1 (G_Delta_cells (⟨0, 0, (fun _ => (0 : UInt8)), (fun _ => (0 : UInt8)), ([] : List G.Command)⟩ : G.Delta) none 0) 27]) hK.at_ hS ent52_7 rfl rfl rfl rfl (G.graftref06_Bytes_spec f7 hy6 (Ow.left (L := [.box b2 #[.slice a0_a y5.2.b.length a0_c, .int .i64 y5.2.at_, .int .i64 y5.2.code, .int .i64 y5.2.pos] 72]) hS.ow)) (by kernel_rfl) ?_)
   clear hK fr hS; rintro _ m16 _ l16 hS ⟨c6r0_a, c6r0_c, rfl, rfl, c6r0_f, c6re0⟩ fr hK
   replace hS : St _ m m16 [.box b2 #[.slice a0_a y6.2.b.length a0_c, .int .i64 y6.2.at_, .int .i64 y6.2.code, .int .i64 y6.2.pos] 72, .box b3 (G_Delta_cells (⟨y3.1, y4.1, (fun _ => (0 : UInt8)), (fun _ => (0 : UInt8)), ([] : List G.Command)⟩ : G.Delta) none 0) 27, .box b1 (G_Delta_cells (⟨0, 0, (fun _ => (0 : UInt8)), (fun _ => (0 : UInt8)), ([] : List G.Command)⟩ : G.Delta) none 0) 27] := hS
   refine qp 9 (.slice c6r0_a y6.1.length c6r0_c) hK fun fr hK => ?_
   refine wpList_nil (then_n ?_)
   refine w_seq (w_region ?_)
   refine qp 44 (.pointer (some ⟨b2, 0, none⟩)) hK fun fr hK => ?_
   replace f7 := Els.mono rep_U8 f7 l16
   have f8 : Els isU8 m16 1 a0_a a0_c y6.2.b := Els.cast c6re0.symm f7
   obtain ⟨y7, hy7, h⟩ := bind_some h
   replace hS : St _ m m16 [.box b2 #[.slice a0_a y6.2.b.length a0_c, .int .i64 y6.2.at_, .int .i64 y6.2.code, .int .i64 y6.2.pos] 72, .box b3 (G_Delta_cells (⟨y3.1, y4.1, (fun _ => (0 : UInt8)), (fun _ => (0 : UInt8)), ([] : List G.Command)⟩ : G.Delta) none 0) 27, .box b1 (G_Delta_cells (⟨0, 0, (fun _ => (0 : UInt8)), (fun _ => (0 : UInt8)), ([] : List G.Command)⟩ : G.Delta) none 0) 27] := hS
   refine qo 45 hK (s_callM (R := [.box b2 #[.slice a0_a y6.2.b.length a0_c, .int .i64 y6.2.at_, .int .i64 y6.2.code, .int .i64 y6.2.pos] 72]) (L := [.box b3 (G_Delta_cells (⟨y3.1, y4.1, (fun _ => (0 : UInt8)), (fun _ => (0 : UInt8)), ([] : List G.Command)⟩ : G.Delta) none 0) 27, .box b1 (G_Delta_cells (⟨0, 0, (fun _ => (0 : UInt8)), (fun _ => (0 : UInt8)), ([] : List G.Command)⟩ : G.Delta) none 0) 27]) hK.at_ hS ent49_7 rfl rfl rfl rfl (G.graftref06_Uint_spec f8 hy7 (Ow.left (L := [.box b2 #[.slice a0_a y6.2.b.length a0_c, .int .i64 y6.2.at_, .int .i64 y6.2.code, .int .i64 y6.2.pos] 72]) hS.ow)) (by kernel_rfl) ?_)
   clear hK fr hS; rintro _ m17 _ l17 hS ⟨rfl, rfl, c7re0⟩ fr hK
   replace hS : St _ m m17 [.box b2 #[.slice a0_a y7.2.b.length a0_c, .int .i64 y7.2.at_, .int .i64 y7.2.code, .int .i64 y7.2.pos] 72, .box b3 (G_Delta_cells (⟨y3.1, y4.1, (fun _ => (0 : UInt8)), (fun _ => (0 : UInt8)), ([] : List G.Command)⟩ : G.Delta) none 0) 27, .box b1 (G_Delta_cells (⟨0, 0, (fun _ => (0 : UInt8)), (fun _ => (0 : UInt8)), ([] : List G.Command)⟩ : G.Delta) none 0) 27] := hS
   refine qp 46 (.int .i64 (IntKind.i64.wrap y7.1)) hK fun fr hK => ?_
   refine qp 10 (.int .i64 (IntKind.i64.wrap y7.1)) hK fun fr hK => ?_
   refine wpList_nil (then_n ?_)
   refine w_seq ?_
   refine w_seq (w_region ?_)
   refine qp 11 (.int .i64 0) hK fun fr hK => ?_
   refine wpList_nil (then_n ?_)
   obtain ⟨v3, hv3, h⟩ := bind_some h
   refine w_join (fun fr ww => ∃ (g1 : Option Nat), ∃ (g2 : Nat), ∃ m18 : Mem, m18.w = ww ∧ Kn 119 fr [(0, .slice a0_a a0.length a0_c), (2, .pointer (some ⟨b1, 0, none⟩)), (5, .pointer (some ⟨b2, 0, none⟩)), (6, .pointer (some ⟨b3, 0, none⟩)), (8, .slice c5r0_a y5.1.length c5r0_c), (9, .slice c6r0_a y6.1.length c6r0_c)] ∧ Le m17 m18 ∧ St (blocksOf []) m m18 [.box b2 #[.slice a0_a (((v3.1).b).length) a0_c, .int .i64 ((v3.1).at_), .int .i64 ((v3.1).code), .int .i64 ((v3.1).pos)] 72, .box b3 (G_Delta_cells (⟨y3.1, y4.1, (fun _ => (0 : UInt8)), (fun _ => (0 : UInt8)), v3.2⟩ : G.Delta) (adr g1) (g2)) 27, rowOf 50 5 g1 g2 v3.2, .box b1 (G_Delta_cells (⟨0, 0, (fun _ => (0 : UInt8)), (fun _ => (0 : UInt8)), ([] : List G.Command)⟩ : G.Delta) none 0) 27] ∧ Els is_G_Command m18 5 (adr g1) g2 v3.2 ∧ (v3.1).b = a0) ?_ ?_
   ·
    clear hK hS fr hv3
    rintro fr _ ⟨g1, g2, m18, rfl, hK, l18, hS, f10, he2⟩
    refine then_n ?_
    refine w_seq ?_
    refine w_seq ?_
    obtain ⟨v4, hv4, h⟩ := bind_some h
    refine w_join (fun fr ww => ∃ m19 : Mem, m19.w = ww ∧ Kn 119 fr [(2, .pointer (some ⟨b1, 0, none⟩)), (5, .pointer (some ⟨b2, 0, none⟩)), (6, .pointer (some ⟨b3, 0, none⟩)), (8, .slice c5r0_a y5.1.length c5r0_c), (9, .slice c6r0_a y6.1.length c6r0_c), (79, .bool v4)] ∧ Le m18 m19 ∧ St (blocksOf []) m m19 [.box b2 #[.slice a0_a (((v3.1).b).length) a0_c, .int .i64 ((v3.1).at_), .int .i64 ((v3.1).code), .int .i64 ((v3.1).pos)] 72, .box b3 (G_Delta_cells (⟨y3.1, y4.1, (fun _ => (0 : UInt8)), (fun _ => (0 : UInt8)), v3.2⟩ : G.Delta) (adr g1) (g2)) 27, .box b1 (G_Delta_cells (⟨0, 0, (fun _ => (0 : UInt8)), (fun _ => (0 : UInt8)), ([] : List G.Command)⟩ : G.Delta) none 0) 27, rowOf 50 5 g1 g2 v3.2]) ?_ ?_
    ·
     clear hK hS fr hv4
     rintro fr _ ⟨m19, rfl, hK, l19, hS⟩
     refine then_n ?_
     obtain ⟨v5, hv5, h⟩ := bind_some h
     refine w_join (fun fr ww => ∃ m20 : Mem, m20.w = ww ∧ Kn 119 fr [(2, .pointer (some ⟨b1, 0, none⟩)), (5, .pointer (some ⟨b2, 0, none⟩)), (6, .pointer (some ⟨b3, 0, none⟩)), (8, .slice c5r0_a y5.1.length c5r0_c), (9, .slice c6r0_a y6.1.length c6r0_c)] ∧ Le m19 m20 ∧ St (blocksOf []) m m20 [.box b2 #[.slice a0_a (((v5).b).length) a0_c, .int .i64 ((v5).at_), .int .i64 ((v5).code), .int .i64 ((v5).pos)] 72, .box b3 (G_Delta_cells (⟨y3.1, y4.1, (fun _ => (0 : UInt8)), (fun _ => (0 : UInt8)), v3.2⟩ : G.Delta) (adr g1) (g2)) 27, .box b1 (G_Delta_cells (⟨0, 0, (fun _ => (0 : UInt8)), (fun _ => (0 : UInt8)), ([] : List G.Command)⟩ : G.Delta) none 0) 27, rowOf 50 5 g1 g2 v3.2] ∧ (v5).b = a0) ?_ ?_
     ·
      clear hK hS fr hv5
      rintro fr _ ⟨m20, rfl, hK, l20, hS, he3⟩
      refine then_n ?_
      refine w_seq ?_
      refine w_seq (w_region ?_)
      refine qp 86 (.pointer (some ⟨b2, 0, none⟩)) hK fun fr hK => ?_
      refine qp 87 (.pointer (some ⟨b2, 0, none⟩)) hK fun fr hK => ?_
      refine qp 88 (.pointer (some ⟨b2, 2, none⟩)) hK fun fr hK => ?_
      refine qo 89 hK (s_load hK.at_ hS 0 rfl rfl rfl rfl (by kernel_rfl) ?_)
      clear hK fr; intro fr hK
      refine qp 90 (.bool ((v5).code != 0)) hK fun fr hK => ?_
      refine wpList_nil (then_n ?_)
      refine w_cond hK rfl (fun hb1 => ?_) (fun hb1 => ?_)
      ·
       replace hK := hK.more (t := 90) (v' := .bool true) rfl (by rw [hb1])
       replace h := ite_t (ne_of_bne hb1) h
       refine w_seq ?_
       replace a0_f := Els.mono rep_U8 a0_f (l11.trans (l12.trans (l13.trans (l14.trans (l15.trans (l16.trans (l17.trans (l18.trans (l19.trans l20)))))))))
       replace f2 := Els.mono rep_U8 f2 (l8.trans (l9.trans (l10.trans (l11.trans (l12.trans (l13.trans (l14.trans (l15.trans (l16.trans (l17.trans (l18.trans (l19.trans l20))))))))))))
       have f3 : Els isU8 m20 1 a0_a a0_c y2.2.b := Els.cast c2re0.symm f2
       replace f4 := Els.mono rep_U8 f4 (l13.trans (l14.trans (l15.trans (l16.trans (l17.trans (l18.trans (l19.trans l20)))))))
       replace f5 := Els.mono rep_U8 f5 (l15.trans (l16.trans (l17.trans (l18.trans (l19.trans l20)))))
       replace f6 := Els.mono rep_U8 f6 (l16.trans (l17.trans (l18.trans (l19.trans l20))))
       replace c5r0_f := Els.mono rep_U8 c5r0_f (l16.trans (l17.trans (l18.trans (l19.trans l20))))
       replace f7 := Els.mono rep_U8 f7 (l17.trans (l18.trans (l19.trans l20)))
       replace c6r0_f := Els.mono rep_U8 c6r0_f (l17.trans (l18.trans (l19.trans l20)))
       replace f8 := Els.mono rep_U8 f8 (l17.trans (l18.trans (l19.trans l20)))
       have f9 : Els isU8 m20 1 a0_a a0_c y7.2.b := Els.cast c7re0.symm f8
       replace f10 := Els.mono rep_G_Command f10 (l19.trans l20)
       have f11 : Els isU8 m20 1 a0_a a0_c ((v3.1).b) := Els.cast he2.symm a0_f
       have f12 : Els isU8 m20 1 a0_a a0_c ((v5).b) := Els.cast he3.symm a0_f
       replace hS := hS.front 2 rfl
       have hm0 : ∀ p ∈ ([(fun _ A _ => A = [.box b1 (G_Delta_cells (⟨0, 0, (fun _ => (0 : UInt8)), (fun _ => (0 : UInt8)), ([] : List G.Command)⟩ : G.Delta) none 0) 27]), (fun l A M => A = [.box b1 (G_Delta_cells (⟨0, 0, (fun _ => (0 : UInt8)), (fun _ => (0 : UInt8)), ([] : List G.Command)⟩ : G.Delta) none 0) 27])] : List D.Stage), D.MonoP p := D.allP_cons (fun _ _ _ _ h _ => h) (D.allP_cons (fun _ _ _ _ h _ => h) (D.allP_nil))
       have hCm := D.C1_mono [.box b2 #[.slice a0_a (((v5).b).length) a0_c, .int .i64 ((v5).at_), .int .i64 ((v5).code), .int .i64 ((v5).pos)] 72, .box b3 (G_Delta_cells (⟨y3.1, y4.1, (fun _ => (0 : UInt8)), (fun _ => (0 : UInt8)), v3.2⟩ : G.Delta) (adr g1) (g2)) 27, rowOf 50 5 g1 g2 v3.2] hm0
       refine D.wp_drawM (m0 := m20) 11 [[9]] [([], [(0, 0)], none), ([(5, none)], [(0, 1)], none), ([(92, some 0)], [(0, 1)], none), ([(93, some 0)], [(0, 1)], none), ([(94, some 0)], [(0, 1)], none), ([(5, none)], [(0, 1)], none), ([(96, some 0)], [(0, 1)], none), ([(97, some 0)], [(0, 1)], none), ([(98, some 0)], [(0, 1)], none), ([(2, none), (91, some 8)], [(0, 0)], some 0), ([(95, some 5)], [(1, 1)], none)] (D.SM m20 m (blocksOf []) (D.C1 [(fun _ A _ => A = [.box b1 (G_Delta_cells (⟨0, 0, (fun _ => (0 : UInt8)), (fun _ => (0 : UInt8)), ([] : List G.Command)⟩ : G.Delta) none 0) 27]), (fun l A M => A = [.box b1 (G_Delta_cells (⟨0, 0, (fun _ => (0 : UInt8)), (fun _ => (0 : UInt8)), ([] : List G.Command)⟩ : G.Delta) none 0) 27])] [.box b2 #[.slice a0_a (((v5).b).length) a0_c, .int .i64 ((v5).at_), .int .i64 ((v5).code), .int .i64 ((v5).pos)] 72, .box b3 (G_Delta_cells (⟨y3.1, y4.1, (fun _ => (0 : UInt8)), (fun _ => (0 : UInt8)), v3.2⟩ : G.Delta) (adr g1) (g2)) 27, rowOf 50 5 g1 g2 v3.2])) hK.size (by kernel_rfl) (by kernel_rfl) (by kernel_rfl) (D.start1 hS (fun _ => rfl)) ?_
       refine D.onP [] (.agg (G_Delta_cells (⟨0, 0, (fun _ => (0 : UInt8)), (fun _ => (0 : UInt8)), ([] : List G.Command)⟩ : G.Delta) none 0)) (fun ac MM hk => (.nil _)) ?_
       refine D.onP [(5, .pointer (some ⟨b2, 0, none⟩))] (.pointer (some ⟨b2, 0, none⟩)) (fun ac MM hk => (.cons (hk.1.trans (hK.at_ 5 _ rfl)) (.nil _))) ?_
       refine D.onP [(92, .pointer (some ⟨b2, 0, none⟩))] (.pointer (some ⟨b2, 0, none⟩)) (fun ac MM hk => (.cons (hk.1) (.nil _))) ?_
       refine D.onP [(93, .pointer (some ⟨b2, 0, none⟩))] (.pointer (some ⟨b2, 2, none⟩)) (fun ac MM hk => (.cons (hk.1) (.nil _))) ?_
       refine D.onA (fun uu _ => uu = .int .i64 ((v5).code)) (fun _ _ _ h _ => h) (by
        intro ac MM vs hbd hcor hS00 hk; have hS0 := hS00
        obtain ⟨hle, LL, hC, hSt⟩ := hS0
        have hSt0 := hSt
        have hC0 := hC; obtain ⟨A0, h0, rfl⟩ := hC
        have hS := D.St_right (hSt)
        have k94 : ac.eval (.tmp 94) = .pointer (some ⟨b2, 2, none⟩) := hk.1
        have hKe : Ke ac [(94, .pointer (some ⟨b2, 2, none⟩))] := (.cons k94 (.nil _))
        exact ⟨D.wanted0 rfl, s_load hKe hS 0 rfl rfl rfl rfl (by kernel_rfl) ⟨MM, rfl, Le.refl _, rfl, hS00⟩⟩) ?_
       refine D.onP [(5, .pointer (some ⟨b2, 0, none⟩))] (.pointer (some ⟨b2, 0, none⟩)) (fun ac MM hk => (.cons (hk.1.trans (hK.at_ 5 _ rfl)) (.nil _))) ?_
       refine D.onP [(96, .pointer (some ⟨b2, 0, none⟩))] (.pointer (some ⟨b2, 0, none⟩)) (fun ac MM hk => (.cons (hk.1) (.nil _))) ?_
       refine D.onP [(97, .pointer (some ⟨b2, 0, none⟩))] (.pointer (some ⟨b2, 3, none⟩)) (fun ac MM hk => (.cons (hk.1) (.nil _))) ?_
       refine D.onA (fun uu _ => uu = .int .i64 ((v5).pos)) (fun _ _ _ h _ => h) (by
        intro ac MM vs hbd hcor hS00 hk; have hS0 := hS00
        obtain ⟨hle, LL, hC, hSt⟩ := hS0
        have hSt0 := hSt
        have hC0 := hC; obtain ⟨A0, h0, rfl⟩ := hC
        have hS := D.St_right (hSt)
        have k98 : ac.eval (.tmp 98) = .pointer (some ⟨b2, 3, none⟩) := hk.1
        have hKe : Ke ac [(98, .pointer (some ⟨b2, 3, none⟩))] := (.cons k98 (.nil _))
        exact ⟨D.wanted0 rfl, s_load hKe hS 0 rfl rfl rfl rfl (by kernel_rfl) ⟨MM, rfl, Le.refl _, rfl, hS00⟩⟩) ?_
       refine D.onA (fun _ _ => True) (fun _ _ _ h _ => h) (by
        intro ac MM vs hbd hcor hS00 hk; have hS0 := hS00
        obtain ⟨hle, LL, hC, hSt⟩ := hS0
        have hSt0 := hSt
        have hC0 := hC; obtain ⟨A0, h0, rfl⟩ := hC
        have hn := D.bd_eq hbd 0 0 rfl
        obtain rfl := D.CH.at h0 hn rfl
        replace hSt := hSt
        have k2 : ac.eval (.tmp 2) = .pointer (some ⟨b1, 0, none⟩) := hk.1.trans (hK.at_ 2 _ rfl)
        have k91 : ac.eval (.tmp 91) = .agg (G_Delta_cells (⟨0, 0, (fun _ => (0 : UInt8)), (fun _ => (0 : UInt8)), ([] : List G.Command)⟩ : G.Delta) none 0) := hk.2.1
        have hKe : Ke ac [(2, .pointer (some ⟨b1, 0, none⟩)), (91, .agg (G_Delta_cells (⟨0, 0, (fun _ => (0 : UInt8)), (fun _ => (0 : UInt8)), ([] : List G.Command)⟩ : G.Delta) none 0))] := (.cons k2 (.cons k91 (.nil _)))
        exact ⟨D.wanted0 rfl, s_storeAll hKe 0 hSt rfl rfl rfl rfl (by kernel_rfl) (by kernel_rfl) (by kernel_rfl) (by
          intro M2 l2 hS2
          exact ⟨M2, rfl, l2, trivial, hle.trans l2, _, ⟨_, D.CH.push hn rfl rfl, rfl⟩, hS2⟩)⟩) ?_
       refine D.onP [(95, .int .i64 ((v5).code))] (.int .i64 ((v5).code)) (fun ac MM hk => (.cons (hk.1) (.nil _))) ?_
       intro fr2 m21 vs hlen hcor hS2 hE; obtain ⟨l21, LL, hC, hS2⟩ := hS2
       obtain ⟨A0, h0, rfl⟩ := hC
       obtain ⟨rfl⟩ := D.CH.at h0 (hlen 0) rfl
       replace hS2 : St _ m m21 [.box b1 (G_Delta_cells (⟨0, 0, (fun _ => (0 : UInt8)), (fun _ => (0 : UInt8)), ([] : List G.Command)⟩ : G.Delta) none 0) 27, .box b2 #[.slice a0_a (((v5).b).length) a0_c, .int .i64 ((v5).at_), .int .i64 ((v5).code), .int .i64 ((v5).pos)] 72, .box b3 (G_Delta_cells (⟨y3.1, y4.1, (fun _ => (0 : UInt8)), (fun _ => (0 : UInt8)), v3.2⟩ : G.Delta) (adr g1) (g2)) 27, rowOf 50 5 g1 g2 v3.2] := hS2
       have hK2 := D.kn_endsM [(91, .agg (G_Delta_cells (⟨0, 0, (fun _ => (0 : UInt8)), (fun _ => (0 : UInt8)), ([] : List G.Command)⟩ : G.Delta) none 0)), (92, .pointer (some ⟨b2, 0, none⟩)), (93, .pointer (some ⟨b2, 0, none⟩)), (94, .pointer (some ⟨b2, 2, none⟩)), (95, .int .i64 ((v5).code)), (96, .pointer (some ⟨b2, 0, none⟩)), (97, .pointer (some ⟨b2, 0, none⟩)), (98, .pointer (some ⟨b2, 3, none⟩)), (99, .int .i64 ((v5).pos)), (3, .int .i64 ((v5).code))] hK hE rfl (by kernel_rfl) (.cons (hE.slots 91) (.cons (hE.slots 92) (.cons (hE.slots 93) (.cons (hE.slots 94) (.cons (hE.slots 95) (.cons (hE.slots 96) (.cons (hE.slots 97) (.cons (hE.slots 98) (.cons (hE.slots 99) (.cons (hE.slots 3) (.nil _)))))))))))
       replace hK2 : Kn 119 fr2 [(91, .agg (G_Delta_cells (⟨0, 0, (fun _ => (0 : UInt8)), (fun _ => (0 : UInt8)), ([] : List G.Command)⟩ : G.Delta) none 0)), (92, .pointer (some ⟨b2, 0, none⟩)), (93, .pointer (some ⟨b2, 0, none⟩)), (94, .pointer (some ⟨b2, 2, none⟩)), (95, .int .i64 ((v5).code)), (96, .pointer (some ⟨b2, 0, none⟩)), (97, .pointer (some ⟨b2, 0, none⟩)), (98, .pointer (some ⟨b2, 3, none⟩)), (99, .int .i64 ((v5).pos)), (3, .int .i64 ((v5).code)), (90, .bool true), (89, .int .i64 ((v5).code)), (88, .pointer (some ⟨b2, 2, none⟩)), (87, .pointer (some ⟨b2, 0, none⟩)), (86, .pointer (some ⟨b2, 0, none⟩)), (2, .pointer (some ⟨b1, 0, none⟩)), (5, .pointer (some ⟨b2, 0, none⟩)), (6, .pointer (some ⟨b3, 0, none⟩)), (8, .slice c5r0_a y5.1.length c5r0_c), (9, .slice c6r0_a y6.1.length c6r0_c)] := hK2.only [91, 92, 93, 94, 95, 96, 97, 98, 99, 3, 90, 89, 88, 87, 86, 2, 5, 6, 8, 9]
       clear hE hK hcor hlen h0; revert hK2; clear hS; revert fr2; clear fr; intro fr hK; have hS := hS2; clear hS2 hCm hm0
       replace hS : St _ m m21 [.box b1 (G_Delta_cells (⟨0, 0, (fun _ => (0 : UInt8)), (fun _ => (0 : UInt8)), ([] : List G.Command)⟩ : G.Delta) none 0) 27, .box b2 #[.slice a0_a (((v5).b).length) a0_c, .int .i64 ((v5).at_), .int .i64 ((v5).code), .int .i64 ((v5).pos)] 72, .box b3 (G_Delta_cells (⟨y3.1, y4.1, (fun _ => (0 : UInt8)), (fun _ => (0 : UInt8)), v3.2⟩ : G.Delta) (adr g1) (g2)) 27, rowOf 50 5 g1 g2 v3.2] := hS
       refine qp 4 (.int .i64 ((v5).pos)) hK fun fr hK => ?_
       refine wpList_nil (then_n ?_)
       refine wp_ret ?_
       refine then_r ?_
       replace hS := hS.addRow (α := G.Command) 50 5
       replace h := Option.some.inj h; subst h
       replace hS : St _ m m21 [rowOf 50 5 none 0 ([] : List G.Command), .box b1 (G_Delta_cells (⟨0, 0, (fun _ => (0 : UInt8)), (fun _ => (0 : UInt8)), ([] : List G.Command)⟩ : G.Delta) none 0) 27, .box b2 #[.slice a0_a (((v5).b).length) a0_c, .int .i64 ((v5).at_), .int .i64 ((v5).code), .int .i64 ((v5).pos)] 72, .box b3 (G_Delta_cells (⟨y3.1, y4.1, (fun _ => (0 : UInt8)), (fun _ => (0 : UInt8)), v3.2⟩ : G.Delta) (adr g1) (g2)) 27, rowOf 50 5 g1 g2 v3.2] := hS
       refine ret_of [.cell 2 27, .tmp 3, .tmp 4] [.agg (G_Delta_cells (⟨0, 0, (fun _ => (0 : UInt8)), (fun _ => (0 : UInt8)), ([] : List G.Command)⟩ : G.Delta) none 0), .int .i64 ((v5).code), .int .i64 ((v5).pos)] rfl hK (ResL.box hS 1 rfl rfl (by kernel_rfl) (.tmp rfl (.tmp rfl .nil))) (St.keep (L := [rowOf 50 5 none 0 ([] : List G.Command)]) (R := [.box b1 (G_Delta_cells (⟨0, 0, (fun _ => (0 : UInt8)), (fun _ => (0 : UInt8)), ([] : List G.Command)⟩ : G.Delta) none 0) 27, .box b2 #[.slice a0_a (((v5).b).length) a0_c, .int .i64 ((v5).at_), .int .i64 ((v5).code), .int .i64 ((v5).pos)] 72, .box b3 (G_Delta_cells (⟨y3.1, y4.1, (fun _ => (0 : UInt8)), (fun _ => (0 : UInt8)), v3.2⟩ : G.Delta) (adr g1) (g2)) 27, rowOf 50 5 g1 g2 v3.2]) hS) ?_
       exact ⟨none, 0, rfl, rfl, (Els.nil _ _)⟩
      ·
       replace hK := hK.more (t := 90) (v' := .bool false) rfl (by rw [hb1])
       replace h := ite_f (not_not_intro (eq_of_bne hb1)) h
       refine wp_skip ?_
       refine then_n ?_
       refine w_seq ?_
       refine w_seq (w_region ?_)
       refine qp 12 (.int .i64 0) hK fun fr hK => ?_
       refine wpList_nil (then_n ?_)
       obtain ⟨v6, hv6, h⟩ := bind_some h
       refine w_join (fun fr ww => ∃ m22 : Mem, m22.w = ww ∧ Kn 119 fr [(2, .pointer (some ⟨b1, 0, none⟩)), (6, .pointer (some ⟨b3, 0, none⟩))] ∧ Le m20 m22 ∧ St (blocksOf []) m m22 [.box b3 (G_Delta_cells (v6) (adr g1) g2) 27, .box b1 (G_Delta_cells (⟨0, 0, (fun _ => (0 : UInt8)), (fun _ => (0 : UInt8)), ([] : List G.Command)⟩ : G.Delta) none 0) 27, rowOf 50 5 g1 g2 v3.2] ∧ (v6).commands = v3.2) ?_ ?_
       ·
        clear hK hS fr hv6
        rintro fr _ ⟨m22, rfl, hK, l22, hS, he4⟩
        refine then_n ?_
        refine w_seq (w_region ?_)
        refine qo 118 hK (s_loadAll hK.at_ hS 0 rfl rfl rfl (by kernel_rfl) ?_)
        clear hK fr; intro fr hK
        refine qo0 hK (s_storeAll hK.at_ 1 hS rfl rfl rfl rfl (by kernel_rfl) (by kernel_rfl) (by kernel_rfl) ?_)
        clear hK fr hS; intro m23 l23 hS fr hK
        replace hS : St _ m m23 [.box b1 (G_Delta_cells (v6) (adr g1) g2) 27, .box b3 (G_Delta_cells (v6) (adr g1) g2) 27, rowOf 50 5 g1 g2 v3.2] := hS
        refine qp 3 (.int .i64 0) hK fun fr hK => ?_
        refine qp 4 (.int .i64 0) hK fun fr hK => ?_
        refine wpList_nil (then_n ?_)
        refine wp_ret ?_
        replace f10 := Els.mono rep_G_Command f10 (l19.trans (l20.trans (l22.trans l23)))
        have f13 : Els is_G_Command m23 5 (adr g1) g2 ((v6).commands) := Els.cast he4.symm f10
        rw [← he4] at hS
        replace h := Option.some.inj h; subst h
        replace hS := hS.front 2 rfl
        replace hS : St _ m m23 [rowOf 50 5 g1 g2 ((v6).commands), .box b1 (G_Delta_cells (v6) (adr g1) g2) 27, .box b3 (G_Delta_cells (v6) (adr g1) g2) 27] := hS
        refine ret_of [.cell 2 27, .tmp 3, .tmp 4] [.agg (G_Delta_cells (v6) (adr g1) g2), .int .i64 0, .int .i64 0] rfl hK (ResL.box hS 1 rfl rfl (by kernel_rfl) (.tmp rfl (.tmp rfl .nil))) (St.keep (L := [rowOf 50 5 g1 g2 ((v6).commands)]) (R := [.box b1 (G_Delta_cells (v6) (adr g1) g2) 27, .box b3 (G_Delta_cells (v6) (adr g1) g2) 27]) hS) ?_
        exact ⟨g1, g2, rfl, rfl, f13⟩
       ·
        replace h := hv6; clear hv6
        refine wp_block ?_
        replace f10 := Els.mono rep_G_Command f10 (l19.trans l20)
        replace hS := hS.front 3 rfl
        replace hS := hS.front 3 rfl
        replace hS := hS.front 3 rfl
        replace hS := St.keep (L := [.box b3 (G_Delta_cells (⟨y3.1, y4.1, (fun _ => (0 : UInt8)), (fun _ => (0 : UInt8)), v3.2⟩ : G.Delta) (adr g1) (g2)) 27, .box b1 (G_Delta_cells (⟨0, 0, (fun _ => (0 : UInt8)), (fun _ => (0 : UInt8)), ([] : List G.Command)⟩ : G.Delta) none 0) 27, rowOf 50 5 g1 g2 v3.2]) (R := [.box b2 #[.slice a0_a (((v5).b).length) a0_c, .int .i64 ((v5).at_), .int .i64 ((v5).code), .int .i64 ((v5).pos)] 72]) hS
        refine w_loopL h (fun (s1 : G.Delta × Int) fr ww => ∃ m24 : Mem, m24.w = ww ∧ Kn 119 fr [(2, .pointer (some ⟨b1, 0, none⟩)), (6, .pointer (some ⟨b3, 0, none⟩)), (8, .slice c5r0_a y5.1.length c5r0_c), (9, .slice c6r0_a y6.1.length c6r0_c), (12, .int .i64 s1.2)] ∧ Le m20 m24 ∧ St (blocksOf []) m m24 [.box b3 (G_Delta_cells (s1.1) (adr g1) g2) 27, .box b1 (G_Delta_cells (⟨0, 0, (fun _ => (0 : UInt8)), (fun _ => (0 : UInt8)), ([] : List G.Command)⟩ : G.Delta) none 0) 27, rowOf 50 5 g1 g2 v3.2] ∧ (s1.1).commands = v3.2) ?_ ?_
        · exact ⟨m20, rfl, hK.only [2, 6, 8, 9, 12], Le.refl _, hS, rfl⟩
        clear hK hS fr h
        rintro k1 s1 x1 fr _ ⟨m24, rfl, hK, l24, hS, he5⟩ h hn1
        unfold G.graftref07_Decode_l1 at h
        refine w_seq ?_
        refine w_seq (w_region ?_)
        refine qp 100 (.int .i64 s1.2) hK fun fr hK => ?_
        refine qp 101 (.bool (decide (s1.2 < 32))) hK fun fr hK => ?_
        refine wpList_nil (then_n ?_)
        refine w_cond hK rfl (fun hb2 => ?_) (fun hb2 => ?_)
        ·
         replace hK := hK.more (t := 101) (v' := .bool true) rfl (by rw [hb2])
         replace h := ite_t (of_decide_eq_true hb2) h
         refine wp_skip ?_
         refine then_n ?_
         refine w_seq ?_
         refine wp_block ?_
         refine w_seq (w_region ?_)
         refine qp 104 (.int .i64 s1.2) hK fun fr hK => ?_
         refine qp 105 (.slice c5r0_a y5.1.length c5r0_c) hK fun fr hK => ?_
         refine qp 106 (.int .i64 s1.2) hK fun fr hK => ?_
         replace c5r0_f := Els.mono rep_U8 c5r0_f (l16.trans (l17.trans (l18.trans (l19.trans (l20.trans l24)))))
         obtain ⟨x2, hy8, h⟩ := bind_some h
         refine qo 107 hK (s_idx elT22_7 c5r0_f hy8 hK.at_ rfl rfl rfl ?_)
         clear hK fr; intro b5 p1 cs1 hR1 hA2 fr hK
         obtain rfl := hR1
         refine qo 108 hK (s_loadAt hK.at_ hA2 0 rfl rfl rfl rfl (by kernel_rfl) ?_)
         clear hK fr; intro fr hK
         refine qp 109 (.pointer (some ⟨b3, 2, none⟩)) hK fun fr hK => ?_
         obtain ⟨y8, hy9, h⟩ := bind_some h
         refine qo 110 hK (s_idxArr Try.underlying24 (by kernel_rfl) (chk_some hy9) hK.at_ rfl rfl rfl ?_)
         clear hK fr; intro fr hK
         refine qo0 hK (s_storeArr (pre := [.int .i64 ((s1.1).oldLen), .int .i64 ((s1.1).newLen)]) (post := [.int .u8 ((((s1.1).newHash) 0).toNat : Int), .int .u8 ((((s1.1).newHash) 1).toNat : Int), .int .u8 ((((s1.1).newHash) 2).toNat : Int), .int .u8 ((((s1.1).newHash) 3).toNat : Int), .int .u8 ((((s1.1).newHash) 4).toNat : Int), .int .u8 ((((s1.1).newHash) 5).toNat : Int), .int .u8 ((((s1.1).newHash) 6).toNat : Int), .int .u8 ((((s1.1).newHash) 7).toNat : Int), .int .u8 ((((s1.1).newHash) 8).toNat : Int), .int .u8 ((((s1.1).newHash) 9).toNat : Int), .int .u8 ((((s1.1).newHash) 10).toNat : Int), .int .u8 ((((s1.1).newHash) 11).toNat : Int), .int .u8 ((((s1.1).newHash) 12).toNat : Int), .int .u8 ((((s1.1).newHash) 13).toNat : Int), .int .u8 ((((s1.1).newHash) 14).toNat : Int), .int .u8 ((((s1.1).newHash) 15).toNat : Int), .int .u8 ((((s1.1).newHash) 16).toNat : Int), .int .u8 ((((s1.1).newHash) 17).toNat : Int), .int .u8 ((((s1.1).newHash) 18).toNat : Int), .int .u8 ((((s1.1).newHash) 19).toNat : Int), .int .u8 ((((s1.1).newHash) 20).toNat : Int), .int .u8 ((((s1.1).newHash) 21).toNat : Int), .int .u8 ((((s1.1).newHash) 22).toNat : Int), .int .u8 ((((s1.1).newHash) 23).toNat : Int), .int .u8 ((((s1.1).newHash) 24).toNat : Int), .int .u8 ((((s1.1).newHash) 25).toNat : Int), .int .u8 ((((s1.1).newHash) 26).toNat : Int), .int .u8 ((((s1.1).newHash) 27).toNat : Int), .int .u8 ((((s1.1).newHash) 28).toNat : Int), .int .u8 ((((s1.1).newHash) 29).toNat : Int), .int .u8 ((((s1.1).newHash) 30).toNat : Int), .int .u8 ((((s1.1).newHash) 31).toNat : Int), .slice (adr g1) (((s1.1).commands).length) g2]) (f := ((s1.1).oldHash)) (u := x2) (fun c : UInt8 => Value.int .u8 (c.toNat : Int)) (fun _ => ⟨rfl, rfl⟩) (chk_some hy9) hK.at_ 0 hS rfl rfl rfl rfl (by kernel_rfl) rfl (by kernel_rfl) ?_)
         clear hK fr hS; intro m25 l25 hS fr hK
         have hf3 : (([.int .i64 ((s1.1).oldLen), .int .i64 ((s1.1).newLen)] : List Value) ++ (List.range 32).map (fun q => (fun c : UInt8 => Value.int .u8 (c.toNat : Int)) ((setArr ((s1.1).oldHash) s1.2 x2) q)) ++ ([.int .u8 ((((s1.1).newHash) 0).toNat : Int), .int .u8 ((((s1.1).newHash) 1).toNat : Int), .int .u8 ((((s1.1).newHash) 2).toNat : Int), .int .u8 ((((s1.1).newHash) 3).toNat : Int), .int .u8 ((((s1.1).newHash) 4).toNat : Int), .int .u8 ((((s1.1).newHash) 5).toNat : Int), .int .u8 ((((s1.1).newHash) 6).toNat : Int), .int .u8 ((((s1.1).newHash) 7).toNat : Int), .int .u8 ((((s1.1).newHash) 8).toNat : Int), .int .u8 ((((s1.1).newHash) 9).toNat : Int), .int .u8 ((((s1.1).newHash) 10).toNat : Int), .int .u8 ((((s1.1).newHash) 11).toNat : Int), .int .u8 ((((s1.1).newHash) 12).toNat : Int), .int .u8 ((((s1.1).newHash) 13).toNat : Int), .int .u8 ((((s1.1).newHash) 14).toNat : Int), .int .u8 ((((s1.1).newHash) 15).toNat : Int), .int .u8 ((((s1.1).newHash) 16).toNat : Int), .int .u8 ((((s1.1).newHash) 17).toNat : Int), .int .u8 ((((s1.1).newHash) 18).toNat : Int), .int .u8 ((((s1.1).newHash) 19).toNat : Int), .int .u8 ((((s1.1).newHash) 20).toNat : Int), .int .u8 ((((s1.1).newHash) 21).toNat : Int), .int .u8 ((((s1.1).newHash) 22).toNat : Int), .int .u8 ((((s1.1).newHash) 23).toNat : Int), .int .u8 ((((s1.1).newHash) 24).toNat : Int), .int .u8 ((((s1.1).newHash) 25).toNat : Int), .int .u8 ((((s1.1).newHash) 26).toNat : Int), .int .u8 ((((s1.1).newHash) 27).toNat : Int), .int .u8 ((((s1.1).newHash) 28).toNat : Int), .int .u8 ((((s1.1).newHash) 29).toNat : Int), .int .u8 ((((s1.1).newHash) 30).toNat : Int), .int .u8 ((((s1.1).newHash) 31).toNat : Int), .slice (adr g1) (((s1.1).commands).length) g2] : List Value)).toArray = G_Delta_cells (⟨(s1.1).oldLen, (s1.1).newLen, (setArr ((s1.1).oldHash) s1.2 x2), ((s1.1).newHash), (s1.1).commands⟩ : G.Delta) (adr g1) g2 := by kernel_rfl
         rw [hf3] at hS
         replace hS : St _ m m25 [.box b3 (G_Delta_cells (⟨(s1.1).oldLen, (s1.1).newLen, (setArr ((s1.1).oldHash) s1.2 x2), ((s1.1).newHash), (s1.1).commands⟩ : G.Delta) (adr g1) g2) 27, .box b1 (G_Delta_cells (⟨0, 0, (fun _ => (0 : UInt8)), (fun _ => (0 : UInt8)), ([] : List G.Command)⟩ : G.Delta) none 0) 27, rowOf 50 5 g1 g2 v3.2] := hS
         refine wpList_nil (then_n ?_)
         refine w_region ?_
         refine qp 111 (.int .i64 s1.2) hK fun fr hK => ?_
         refine qp 112 (.slice c6r0_a y6.1.length c6r0_c) hK fun fr hK => ?_
         refine qp 113 (.int .i64 s1.2) hK fun fr hK => ?_
         replace c6r0_f := Els.mono rep_U8 c6r0_f (l17.trans (l18.trans (l19.trans (l20.trans (l24.trans l25)))))
         obtain ⟨x3, hy10, h⟩ := bind_some h
         refine qo 114 hK (s_idx elT22_7 c6r0_f hy10 hK.at_ rfl rfl rfl ?_)
         clear hK fr; intro b6 p2 cs2 hR2 hA3 fr hK
         obtain rfl := hR2
         refine qo 115 hK (s_loadAt hK.at_ hA3 0 rfl rfl rfl rfl (by kernel_rfl) ?_)
         clear hK fr; intro fr hK
         refine qp 116 (.pointer (some ⟨b3, 34, none⟩)) hK fun fr hK => ?_
         obtain ⟨y9, hy11, h⟩ := bind_some h
         refine qo 117 hK (s_idxArr Try.underlying24 (by kernel_rfl) (chk_some hy11) hK.at_ rfl rfl rfl ?_)
         clear hK fr; intro fr hK
         refine qo0 hK (s_storeArr (pre := [.int .i64 ((s1.1).oldLen), .int .i64 ((s1.1).newLen), .int .u8 (((setArr ((s1.1).oldHash) s1.2 x2) 0).toNat : Int), .int .u8 (((setArr ((s1.1).oldHash) s1.2 x2) 1).toNat : Int), .int .u8 (((setArr ((s1.1).oldHash) s1.2 x2) 2).toNat : Int), .int .u8 (((setArr ((s1.1).oldHash) s1.2 x2) 3).toNat : Int), .int .u8 (((setArr ((s1.1).oldHash) s1.2 x2) 4).toNat : Int), .int .u8 (((setArr ((s1.1).oldHash) s1.2 x2) 5).toNat : Int), .int .u8 (((setArr ((s1.1).oldHash) s1.2 x2) 6).toNat : Int), .int .u8 (((setArr ((s1.1).oldHash) s1.2 x2) 7).toNat : Int), .int .u8 (((setArr ((s1.1).oldHash) s1.2 x2) 8).toNat : Int), .int .u8 (((setArr ((s1.1).oldHash) s1.2 x2) 9).toNat : Int), .int .u8 (((setArr ((s1.1).oldHash) s1.2 x2) 10).toNat : Int), .int .u8 (((setArr ((s1.1).oldHash) s1.2 x2) 11).toNat : Int), .int .u8 (((setArr ((s1.1).oldHash) s1.2 x2) 12).toNat : Int), .int .u8 (((setArr ((s1.1).oldHash) s1.2 x2) 13).toNat : Int), .int .u8 (((setArr ((s1.1).oldHash) s1.2 x2) 14).toNat : Int), .int .u8 (((setArr ((s1.1).oldHash) s1.2 x2) 15).toNat : Int), .int .u8 (((setArr ((s1.1).oldHash) s1.2 x2) 16).toNat : Int), .int .u8 (((setArr ((s1.1).oldHash) s1.2 x2) 17).toNat : Int), .int .u8 (((setArr ((s1.1).oldHash) s1.2 x2) 18).toNat : Int), .int .u8 (((setArr ((s1.1).oldHash) s1.2 x2) 19).toNat : Int), .int .u8 (((setArr ((s1.1).oldHash) s1.2 x2) 20).toNat : Int), .int .u8 (((setArr ((s1.1).oldHash) s1.2 x2) 21).toNat : Int), .int .u8 (((setArr ((s1.1).oldHash) s1.2 x2) 22).toNat : Int), .int .u8 (((setArr ((s1.1).oldHash) s1.2 x2) 23).toNat : Int), .int .u8 (((setArr ((s1.1).oldHash) s1.2 x2) 24).toNat : Int), .int .u8 (((setArr ((s1.1).oldHash) s1.2 x2) 25).toNat : Int), .int .u8 (((setArr ((s1.1).oldHash) s1.2 x2) 26).toNat : Int), .int .u8 (((setArr ((s1.1).oldHash) s1.2 x2) 27).toNat : Int), .int .u8 (((setArr ((s1.1).oldHash) s1.2 x2) 28).toNat : Int), .int .u8 (((setArr ((s1.1).oldHash) s1.2 x2) 29).toNat : Int), .int .u8 (((setArr ((s1.1).oldHash) s1.2 x2) 30).toNat : Int), .int .u8 (((setArr ((s1.1).oldHash) s1.2 x2) 31).toNat : Int)]) (post := [.slice (adr g1) (((s1.1).commands).length) g2]) (f := ((s1.1).newHash)) (u := x3) (fun c : UInt8 => Value.int .u8 (c.toNat : Int)) (fun _ => ⟨rfl, rfl⟩) (chk_some hy11) hK.at_ 0 hS rfl rfl rfl rfl (by kernel_rfl) rfl (by kernel_rfl) ?_)
         clear hK fr hS; intro m26 l26 hS fr hK
         have hf4 : (([.int .i64 ((s1.1).oldLen), .int .i64 ((s1.1).newLen), .int .u8 (((setArr ((s1.1).oldHash) s1.2 x2) 0).toNat : Int), .int .u8 (((setArr ((s1.1).oldHash) s1.2 x2) 1).toNat : Int), .int .u8 (((setArr ((s1.1).oldHash) s1.2 x2) 2).toNat : Int), .int .u8 (((setArr ((s1.1).oldHash) s1.2 x2) 3).toNat : Int), .int .u8 (((setArr ((s1.1).oldHash) s1.2 x2) 4).toNat : Int), .int .u8 (((setArr ((s1.1).oldHash) s1.2 x2) 5).toNat : Int), .int .u8 (((setArr ((s1.1).oldHash) s1.2 x2) 6).toNat : Int), .int .u8 (((setArr ((s1.1).oldHash) s1.2 x2) 7).toNat : Int), .int .u8 (((setArr ((s1.1).oldHash) s1.2 x2) 8).toNat : Int), .int .u8 (((setArr ((s1.1).oldHash) s1.2 x2) 9).toNat : Int), .int .u8 (((setArr ((s1.1).oldHash) s1.2 x2) 10).toNat : Int), .int .u8 (((setArr ((s1.1).oldHash) s1.2 x2) 11).toNat : Int), .int .u8 (((setArr ((s1.1).oldHash) s1.2 x2) 12).toNat : Int), .int .u8 (((setArr ((s1.1).oldHash) s1.2 x2) 13).toNat : Int), .int .u8 (((setArr ((s1.1).oldHash) s1.2 x2) 14).toNat : Int), .int .u8 (((setArr ((s1.1).oldHash) s1.2 x2) 15).toNat : Int), .int .u8 (((setArr ((s1.1).oldHash) s1.2 x2) 16).toNat : Int), .int .u8 (((setArr ((s1.1).oldHash) s1.2 x2) 17).toNat : Int), .int .u8 (((setArr ((s1.1).oldHash) s1.2 x2) 18).toNat : Int), .int .u8 (((setArr ((s1.1).oldHash) s1.2 x2) 19).toNat : Int), .int .u8 (((setArr ((s1.1).oldHash) s1.2 x2) 20).toNat : Int), .int .u8 (((setArr ((s1.1).oldHash) s1.2 x2) 21).toNat : Int), .int .u8 (((setArr ((s1.1).oldHash) s1.2 x2) 22).toNat : Int), .int .u8 (((setArr ((s1.1).oldHash) s1.2 x2) 23).toNat : Int), .int .u8 (((setArr ((s1.1).oldHash) s1.2 x2) 24).toNat : Int), .int .u8 (((setArr ((s1.1).oldHash) s1.2 x2) 25).toNat : Int), .int .u8 (((setArr ((s1.1).oldHash) s1.2 x2) 26).toNat : Int), .int .u8 (((setArr ((s1.1).oldHash) s1.2 x2) 27).toNat : Int), .int .u8 (((setArr ((s1.1).oldHash) s1.2 x2) 28).toNat : Int), .int .u8 (((setArr ((s1.1).oldHash) s1.2 x2) 29).toNat : Int), .int .u8 (((setArr ((s1.1).oldHash) s1.2 x2) 30).toNat : Int), .int .u8 (((setArr ((s1.1).oldHash) s1.2 x2) 31).toNat : Int)] : List Value) ++ (List.range 32).map (fun q => (fun c : UInt8 => Value.int .u8 (c.toNat : Int)) ((setArr ((s1.1).newHash) s1.2 x3) q)) ++ ([.slice (adr g1) (((s1.1).commands).length) g2] : List Value)).toArray = G_Delta_cells (⟨(s1.1).oldLen, (s1.1).newLen, (setArr ((s1.1).oldHash) s1.2 x2), (setArr ((s1.1).newHash) s1.2 x3), (s1.1).commands⟩ : G.Delta) (adr g1) g2 := by kernel_rfl
         rw [hf4] at hS
         replace hS : St _ m m26 [.box b3 (G_Delta_cells (⟨(s1.1).oldLen, (s1.1).newLen, (setArr ((s1.1).oldHash) s1.2 x2), (setArr ((s1.1).newHash) s1.2 x3), (s1.1).commands⟩ : G.Delta) (adr g1) g2) 27, .box b1 (G_Delta_cells (⟨0, 0, (fun _ => (0 : UInt8)), (fun _ => (0 : UInt8)), ([] : List G.Command)⟩ : G.Delta) none 0) 27, rowOf 50 5 g1 g2 v3.2] := hS
         refine wpList_nil ?_
         refine blk_n ?_
         refine then_n ?_
         refine w_region ?_
         refine qp 102 (.int .i64 s1.2) hK fun fr hK => ?_
         refine qp 103 (.int .i64 (IntKind.i64.wrap (s1.2 + 1))) hK fun fr hK => ?_
         refine qp 12 (.int .i64 (IntKind.i64.wrap (s1.2 + 1))) hK fun fr hK => ?_
         refine wpList_nil (then_n ?_)
         replace f10 := Els.mono rep_G_Command f10 (l24.trans (l25.trans l26))
         have f14 : Els is_G_Command m26 5 (adr g1) g2 ((s1.1).commands) := Els.cast he5.symm f10
         replace hS := hS.front 2 rfl
         replace hS := hS.front 2 rfl
         replace hS := hS.front 2 rfl
         replace hS : St _ m m26 [.box b3 (G_Delta_cells (⟨(s1.1).oldLen, (s1.1).newLen, (setArr ((s1.1).oldHash) s1.2 x2), (setArr ((s1.1).newHash) s1.2 x3), (s1.1).commands⟩ : G.Delta) (adr g1) g2) 27, .box b1 (G_Delta_cells (⟨0, 0, (fun _ => (0 : UInt8)), (fun _ => (0 : UInt8)), ([] : List G.Command)⟩ : G.Delta) none 0) 27, rowOf 50 5 g1 g2 v3.2] := hS
         replace h := Option.some.inj h; subst h
         obtain ⟨kq, hk1, hk2⟩ := hn1
         exact ⟨kq, hk1, _, hk2, m26, rfl, hK.only [2, 6, 8, 9, 12], l24.trans (l25.trans l26), hS, he5⟩
        ·
         replace hK := hK.more (t := 101) (v' := .bool false) rfl (by rw [hb2])
         replace h := ite_f (of_decide_eq_false hb2) h
         refine wp_exit ?_
         refine then_x ?_
         refine then_x ?_
         refine blk_e ?_
         refine then_n ?_
         replace f10 := Els.mono rep_G_Command f10 l24
         have f14 : Els is_G_Command m24 5 (adr g1) g2 ((s1.1).commands) := Els.cast he5.symm f10
         replace hS := hS.front 2 rfl
         replace hS := hS.front 2 rfl
         replace hS := hS.front 2 rfl
         replace hS : St _ m m24 [.box b3 (G_Delta_cells (s1.1) (adr g1) g2) 27, .box b1 (G_Delta_cells (⟨0, 0, (fun _ => (0 : UInt8)), (fun _ => (0 : UInt8)), ([] : List G.Command)⟩ : G.Delta) none 0) 27, rowOf 50 5 g1 g2 v3.2] := hS
         replace h := Option.some.inj h; subst h
         replace h := Option.some.inj (loop_out hn1); subst h
         exact ⟨m24, rfl, hK.only [2, 6], l24, hS, he5⟩
     ·
      replace h := hv5; clear hv5
      refine w_cond hK rfl (fun hb3 => ?_) (fun hb3 => ?_)
      ·
       replace hK := hK.more (t := 79) (v' := .bool true) rfl (by rw [hb3])
       replace h := ite_t (hb3) h
       refine w_region ?_
       refine qp 80 (.pointer (some ⟨b2, 0, none⟩)) hK fun fr hK => ?_
       refine qp 81 (.pointer (some ⟨b2, 0, none⟩)) hK fun fr hK => ?_
       refine qp 82 (.pointer (some ⟨b2, 0, none⟩)) hK fun fr hK => ?_
       refine qp 83 (.pointer (some ⟨b2, 1, none⟩)) hK fun fr hK => ?_
       refine qo 84 hK (s_load hK.at_ hS 0 rfl rfl rfl rfl (by kernel_rfl) ?_)
       clear hK fr; intro fr hK
       replace a0_f := Els.mono rep_U8 a0_f (l11.trans (l12.trans (l13.trans (l14.trans (l15.trans (l16.trans (l17.trans (l18.trans l19))))))))
       have f11 : Els isU8 m19 1 a0_a a0_c ((v3.1).b) := Els.cast he2.symm a0_f
       obtain ⟨y10, hy12, h⟩ := bind_some h
       replace hS : St _ m m19 [.box b2 #[.slice a0_a (((v3.1).b).length) a0_c, .int .i64 ((v3.1).at_), .int .i64 ((v3.1).code), .int .i64 ((v3.1).pos)] 72, .box b3 (G_Delta_cells (⟨y3.1, y4.1, (fun _ => (0 : UInt8)), (fun _ => (0 : UInt8)), v3.2⟩ : G.Delta) (adr g1) (g2)) 27, .box b1 (G_Delta_cells (⟨0, 0, (fun _ => (0 : UInt8)), (fun _ => (0 : UInt8)), ([] : List G.Command)⟩ : G.Delta) none 0) 27, rowOf 50 5 g1 g2 v3.2] := hS
       refine qo 85 hK (s_callM (R := [.box b2 #[.slice a0_a (((v3.1).b).length) a0_c, .int .i64 ((v3.1).at_), .int .i64 ((v3.1).code), .int .i64 ((v3.1).pos)] 72]) (L := [.box b3 (G_Delta_cells (⟨y3.1, y4.1, (fun _ => (0 : UInt8)), (fun _ => (0 : UInt8)), v3.2⟩ : G.Delta) (adr g1) (g2)) 27, .box b1 (G_Delta_cells (⟨0, 0, (fun _ => (0 : UInt8)), (fun _ => (0 : UInt8)), ([] : List G.Command)⟩ : G.Delta) none 0) 27, rowOf 50 5 g1 g2 v3.2]) hK.at_ hS ent50_7 rfl rfl rfl rfl (G.graftref06_Fail_spec f11 hy12 (Ow.left (L := [.box b2 #[.slice a0_a (((v3.1).b).length) a0_c, .int .i64 ((v3.1).at_), .int .i64 ((v3.1).code), .int .i64 ((v3.1).pos)] 72]) hS.ow)) (by kernel_rfl) ?_)
       clear hK fr hS; rintro _ m27 _ l27 hS ⟨rfl, rfl, c8re0⟩ fr hK
       replace hS : St _ m m27 [.box b2 #[.slice a0_a y10.b.length a0_c, .int .i64 y10.at_, .int .i64 y10.code, .int .i64 y10.pos] 72, .box b3 (G_Delta_cells (⟨y3.1, y4.1, (fun _ => (0 : UInt8)), (fun _ => (0 : UInt8)), v3.2⟩ : G.Delta) (adr g1) (g2)) 27, .box b1 (G_Delta_cells (⟨0, 0, (fun _ => (0 : UInt8)), (fun _ => (0 : UInt8)), ([] : List G.Command)⟩ : G.Delta) none 0) 27, rowOf 50 5 g1 g2 v3.2] := hS
       refine wpList_nil (then_n ?_)
       replace f11 := Els.mono rep_U8 f11 l27
       have f15 : Els isU8 m27 1 a0_a a0_c y10.b := Els.cast c8re0.symm f11
       replace hS := hS.front 3 rfl
       replace hS := hS.front 3 rfl
       replace hS := hS.front 3 rfl
       replace hS := hS.front 3 rfl
       replace hS : St _ m m27 [.box b2 #[.slice a0_a y10.b.length a0_c, .int .i64 y10.at_, .int .i64 y10.code, .int .i64 y10.pos] 72, .box b3 (G_Delta_cells (⟨y3.1, y4.1, (fun _ => (0 : UInt8)), (fun _ => (0 : UInt8)), v3.2⟩ : G.Delta) (adr g1) (g2)) 27, .box b1 (G_Delta_cells (⟨0, 0, (fun _ => (0 : UInt8)), (fun _ => (0 : UInt8)), ([] : List G.Command)⟩ : G.Delta) none 0) 27, rowOf 50 5 g1 g2 v3.2] := hS
       replace h := Option.some.inj h; subst h
       exact ⟨m27, rfl, hK.only [2, 5, 6, 8, 9], l27, hS, (c8re0.trans he2)⟩
      ·
       replace hK := hK.more (t := 79) (v' := .bool false) rfl (by rw [hb3])
       replace h := ite_f (ne_true_of_eq_false hb3) h
       refine wp_skip ?_
       refine then_n ?_
       replace a0_f := Els.mono rep_U8 a0_f (l11.trans (l12.trans (l13.trans (l14.trans (l15.trans (l16.trans (l17.trans (l18.trans l19))))))))
       have f11 : Els isU8 m19 1 a0_a a0_c ((v3.1).b) := Els.cast he2.symm a0_f
       replace hS := hS.front 3 rfl
       replace hS := hS.front 3 rfl
       replace hS := hS.front 3 rfl
       replace hS := hS.front 3 rfl
       replace hS : St _ m m19 [.box b2 #[.slice a0_a (((v3.1).b).length) a0_c, .int .i64 ((v3.1).at_), .int .i64 ((v3.1).code), .int .i64 ((v3.1).pos)] 72, .box b3 (G_Delta_cells (⟨y3.1, y4.1, (fun _ => (0 : UInt8)), (fun _ => (0 : UInt8)), v3.2⟩ : G.Delta) (adr g1) (g2)) 27, .box b1 (G_Delta_cells (⟨0, 0, (fun _ => (0 : UInt8)), (fun _ => (0 : UInt8)), ([] : List G.Command)⟩ : G.Delta) none 0) 27, rowOf 50 5 g1 g2 v3.2] := hS
       replace h := Option.some.inj h; subst h
       exact ⟨m19, rfl, hK.only [2, 5, 6, 8, 9], Le.refl _, hS, he2⟩
    ·
     replace h := hv4; clear hv4
     refine w_region ?_
     refine qp 66 (.pointer (some ⟨b2, 0, none⟩)) hK fun fr hK => ?_
     refine qp 67 (.pointer (some ⟨b2, 0, none⟩)) hK fun fr hK => ?_
     refine qp 68 (.pointer (some ⟨b2, 2, none⟩)) hK fun fr hK => ?_
     refine qo 69 hK (s_load hK.at_ hS 0 rfl rfl rfl rfl (by kernel_rfl) ?_)
     clear hK fr; intro fr hK
     refine qp 70 (.bool ((v3.1).code == 0)) hK fun fr hK => ?_
     refine qp 71 (.bool ((v3.1).code == 0)) hK fun fr hK => ?_
     refine split_b (x := ((v3.1).code == 0)) (fun hb4 => ?_) (fun hb4 => ?_)
     ·
      replace hK := hK.more (t := 71) (v' := .bool true) rfl (by rw [hb4])
      replace hK := hK.more (t := 70) (v' := .bool true) rfl (by rw [hb4])
      replace h := ite_t (eq_of_beq hb4) h
      refine qp 72 (.pointer (some ⟨b2, 0, none⟩)) hK fun fr hK => ?_
      refine qp 73 (.pointer (some ⟨b2, 0, none⟩)) hK fun fr hK => ?_
      refine qp 74 (.pointer (some ⟨b2, 1, none⟩)) hK fun fr hK => ?_
      refine qo 75 hK (s_load hK.at_ hS 0 rfl rfl rfl rfl (by kernel_rfl) ?_)
      clear hK fr; intro fr hK
      refine qp 76 (.slice a0_a a0.length a0_c) hK fun fr hK => ?_
      refine qp 77 (.int .i64 (a0.length : Int)) hK fun fr hK => ?_
      refine qp 78 (.bool (decide ((v3.1).at_ < (a0.length : Int)))) hK fun fr hK => ?_
      refine qp 79 (.bool (decide ((v3.1).at_ < (a0.length : Int)))) hK fun fr hK => ?_
      refine wpList_nil (then_n ?_)
      replace hS := hS.front 2 rfl
      replace hS := hS.front 3 rfl
      replace hS := hS.front 3 rfl
      replace hS := hS.front 3 rfl
      replace hS : St _ m m18 [.box b2 #[.slice a0_a (((v3.1).b).length) a0_c, .int .i64 ((v3.1).at_), .int .i64 ((v3.1).code), .int .i64 ((v3.1).pos)] 72, .box b3 (G_Delta_cells (⟨y3.1, y4.1, (fun _ => (0 : UInt8)), (fun _ => (0 : UInt8)), v3.2⟩ : G.Delta) (adr g1) (g2)) 27, .box b1 (G_Delta_cells (⟨0, 0, (fun _ => (0 : UInt8)), (fun _ => (0 : UInt8)), ([] : List G.Command)⟩ : G.Delta) none 0) 27, rowOf 50 5 g1 g2 v3.2] := hS
      replace h := Option.some.inj h; subst h
      exact ⟨m18, rfl, hK.only [2, 5, 6, 8, 9, 79], Le.refl _, hS⟩
     ·
      replace hK := hK.more (t := 71) (v' := .bool false) rfl (by rw [hb4])
      replace hK := hK.more (t := 70) (v' := .bool false) rfl (by rw [hb4])
      replace h := ite_f (ne_of_beq_false hb4) h
      refine qs 72 hK ?_
      clear hK fr; intro fr hK
      refine qs 73 hK ?_
      clear hK fr; intro fr hK
      refine qs 74 hK ?_
      clear hK fr; intro fr hK
      refine qs 75 hK ?_
      clear hK fr; intro fr hK
      refine qs 76 hK ?_
      clear hK fr; intro fr hK
      refine qs 77 hK ?_
      clear hK fr; intro fr hK
      refine qs 78 hK ?_
      clear hK fr; intro fr hK
      refine qp 79 (.bool false) hK fun fr hK => ?_
      refine wpList_nil (then_n ?_)
      replace hS := hS.front 2 rfl
      replace hS := hS.front 3 rfl
      replace hS := hS.front 3 rfl
      replace hS := hS.front 3 rfl
      replace hS : St _ m m18 [.box b2 #[.slice a0_a (((v3.1).b).length) a0_c, .int .i64 ((v3.1).at_), .int .i64 ((v3.1).code), .int .i64 ((v3.1).pos)] 72, .box b3 (G_Delta_cells (⟨y3.1, y4.1, (fun _ => (0 : UInt8)), (fun _ => (0 : UInt8)), v3.2⟩ : G.Delta) (adr g1) (g2)) 27, .box b1 (G_Delta_cells (⟨0, 0, (fun _ => (0 : UInt8)), (fun _ => (0 : UInt8)), ([] : List G.Command)⟩ : G.Delta) none 0) 27, rowOf 50 5 g1 g2 v3.2] := hS
      replace h := Option.some.inj h; subst h
      exact ⟨m18, rfl, hK.only [2, 5, 6, 8, 9, 79], Le.refl _, hS⟩
   ·
    replace h := hv3; clear hv3
    refine wp_block ?_
    replace f8 := Els.mono rep_U8 f8 l17
    have f9 : Els isU8 m17 1 a0_a a0_c y7.2.b := Els.cast c7re0.symm f8
    replace hS := hS.addRow (α := G.Command) 50 5
    replace hS := hS.front 3 rfl
    replace hS := hS.front 1 rfl
    replace hS := hS.front 3 rfl
    replace hS := hS.front 3 rfl
    replace hS : St _ m m17 [.box b2 #[.slice a0_a y7.2.b.length a0_c, .int .i64 y7.2.at_, .int .i64 y7.2.code, .int .i64 y7.2.pos] 72, .box b3 (G_Delta_cells (⟨y3.1, y4.1, (fun _ => (0 : UInt8)), (fun _ => (0 : UInt8)), ([] : List G.Command)⟩ : G.Delta) none 0) 27, rowOf 50 5 none 0 ([] : List G.Command), .box b1 (G_Delta_cells (⟨0, 0, (fun _ => (0 : UInt8)), (fun _ => (0 : UInt8)), ([] : List G.Command)⟩ : G.Delta) none 0) 27] := hS
    refine w_loopL h (fun (s2 : G.graftref06_Reader × (List G.Command) × Int) fr ww => ∃ (g3 : Option Nat), ∃ (g4 : Nat), ∃ m28 : Mem, m28.w = ww ∧ Kn 119 fr [(0, .slice a0_a a0.length a0_c), (2, .pointer (some ⟨b1, 0, none⟩)), (5, .pointer (some ⟨b2, 0, none⟩)), (6, .pointer (some ⟨b3, 0, none⟩)), (8, .slice c5r0_a y5.1.length c5r0_c), (9, .slice c6r0_a y6.1.length c6r0_c), (10, .int .i64 (IntKind.i64.wrap y7.1)), (11, .int .i64 s2.2.2)] ∧ Le m17 m28 ∧ St (blocksOf []) m m28 [.box b2 #[.slice a0_a (((s2.1).b).length) a0_c, .int .i64 ((s2.1).at_), .int .i64 ((s2.1).code), .int .i64 ((s2.1).pos)] 72, .box b3 (G_Delta_cells (⟨y3.1, y4.1, (fun _ => (0 : UInt8)), (fun _ => (0 : UInt8)), s2.2.1⟩ : G.Delta) (adr g3) (g4)) 27, rowOf 50 5 g3 g4 s2.2.1, .box b1 (G_Delta_cells (⟨0, 0, (fun _ => (0 : UInt8)), (fun _ => (0 : UInt8)), ([] : List G.Command)⟩ : G.Delta) none 0) 27] ∧ Els is_G_Command m28 5 (adr g3) g4 s2.2.1 ∧ (s2.1).b = a0) ?_ ?_
    · exact ⟨none, 0, m17, rfl, hK.only [0, 2, 5, 6, 8, 9, 10, 11], Le.refl _, hS, (Els.nil _ _), (c7re0.trans (c6re0.trans (c5re0.trans (c4re0.trans (c3re0.trans he1)))))⟩
    clear hK hS fr h
    rintro k2 s2 x4 fr _ ⟨g3, g4, m28, rfl, hK, l28, hS, f16, he6⟩ h hn2
    unfold G.graftref07_Decode_l2 at h
    refine w_seq ?_
    refine w_seq ?_
    obtain ⟨v7, hv7, h⟩ := bind_some h
    refine w_join (fun fr ww => ∃ m29 : Mem, m29.w = ww ∧ Kn 119 fr [(0, .slice a0_a a0.length a0_c), (2, .pointer (some ⟨b1, 0, none⟩)), (5, .pointer (some ⟨b2, 0, none⟩)), (6, .pointer (some ⟨b3, 0, none⟩)), (8, .slice c5r0_a y5.1.length c5r0_c), (9, .slice c6r0_a y6.1.length c6r0_c), (10, .int .i64 (IntKind.i64.wrap y7.1)), (11, .int .i64 s2.2.2), (56, .bool v7)] ∧ Le m28 m29 ∧ St (blocksOf []) m m29 [.box b2 #[.slice a0_a (((s2.1).b).length) a0_c, .int .i64 ((s2.1).at_), .int .i64 ((s2.1).code), .int .i64 ((s2.1).pos)] 72, .box b3 (G_Delta_cells (⟨y3.1, y4.1, (fun _ => (0 : UInt8)), (fun _ => (0 : UInt8)), s2.2.1⟩ : G.Delta) (adr g3) (g4)) 27, .box b1 (G_Delta_cells (⟨0, 0, (fun _ => (0 : UInt8)), (fun _ => (0 : UInt8)), ([] : List G.Command)⟩ : G.Delta) none 0) 27, rowOf 50 5 g3 g4 s2.2.1]) ?_ ?_
    ·
     clear hK hS fr hv7
     rintro fr _ ⟨m29, rfl, hK, l29, hS⟩
     refine then_n ?_
     refine w_cond hK rfl (fun hb5 => ?_) (fun hb5 => ?_)
     ·
      replace hK := hK.more (t := 56) (v' := .bool true) rfl (by rw [hb5])
      replace h := ite_t (hb5) h
      refine wp_skip ?_
      refine then_n ?_
      refine w_seq ?_
      refine wp_block ?_
      replace a0_f := Els.mono rep_U8 a0_f (l11.trans (l12.trans (l13.trans (l14.trans (l15.trans (l16.trans (l17.trans (l28.trans l29))))))))
      replace f2 := Els.mono rep_U8 f2 (l8.trans (l9.trans (l10.trans (l11.trans (l12.trans (l13.trans (l14.trans (l15.trans (l16.trans (l17.trans (l28.trans l29)))))))))))
      have f3 : Els isU8 m29 1 a0_a a0_c y2.2.b := Els.cast c2re0.symm f2
      replace f4 := Els.mono rep_U8 f4 (l13.trans (l14.trans (l15.trans (l16.trans (l17.trans (l28.trans l29))))))
      replace f5 := Els.mono rep_U8 f5 (l15.trans (l16.trans (l17.trans (l28.trans l29))))
      replace f6 := Els.mono rep_U8 f6 (l16.trans (l17.trans (l28.trans l29)))
      replace c5r0_f := Els.mono rep_U8 c5r0_f (l16.trans (l17.trans (l28.trans l29)))
      replace f7 := Els.mono rep_U8 f7 (l17.trans (l28.trans l29))
      replace c6r0_f := Els.mono rep_U8 c6r0_f (l17.trans (l28.trans l29))
      replace f8 := Els.mono rep_U8 f8 (l28.trans l29)
      replace f9 := Els.mono rep_U8 f9 (l28.trans l29)
      replace f16 := Els.mono rep_G_Command f16 l29
      have f17 : Els isU8 m29 1 a0_a a0_c ((s2.1).b) := Els.cast he6.symm a0_f
      obtain ⟨y11, hy13, h⟩ := bind_some h
      have hm0 : ∀ p ∈ ([(fun _ A _ => A = [.box b2 #[.slice a0_a (((s2.1).b).length) a0_c, .int .i64 ((s2.1).at_), .int .i64 ((s2.1).code), .int .i64 ((s2.1).pos)] 72]), (fun l A M => ∃ (c9r0_data_a : Option Addr) (c9r0_data_c : Nat), l[0]? = some (.agg #[.int .i64 y11.1.kind, .int .i64 y11.1.to, .int .i64 y11.1.from_, .int .i64 y11.1.len, .slice c9r0_data_a y11.1.data.length c9r0_data_c]) ∧ A = [.box b2 #[.slice a0_a y11.2.b.length a0_c, .int .i64 y11.2.at_, .int .i64 y11.2.code, .int .i64 y11.2.pos] 72] ∧ Els isU8 M 1 c9r0_data_a c9r0_data_c y11.1.data ∧ y11.2.b = (s2.1).b), (fun l A M => ∃ (c9r0_data_a : Option Addr) (c9r0_data_c : Nat) (b7 : Nat), l[0]? = some (.agg #[.int .i64 y11.1.kind, .int .i64 y11.1.to, .int .i64 y11.1.from_, .int .i64 y11.1.len, .slice c9r0_data_a y11.1.data.length c9r0_data_c]) ∧ l[1]? = some (.slice (adr (some b7)) (([y11.1] : List G.Command).length) 1) ∧ A = [rowOf 50 5 (some b7) 1 ([y11.1] : List G.Command), .box b2 #[.slice a0_a y11.2.b.length a0_c, .int .i64 y11.2.at_, .int .i64 y11.2.code, .int .i64 y11.2.pos] 72] ∧ Els isU8 M 1 c9r0_data_a c9r0_data_c y11.1.data ∧ Els is_G_Command M 5 (adr (some b7)) 1 ([y11.1] : List G.Command) ∧ y11.2.b = (s2.1).b)] : List D.Stage), D.MonoP p := D.allP_cons (fun _ _ _ _ h _ => h) (D.allP_cons (fun _ _ _ _ ⟨c9r0_data_a, c9r0_data_c, el0, eA, c9r0_data_f, eq0⟩ hl => ⟨c9r0_data_a, c9r0_data_c, el0, eA, Els.mono rep_U8 c9r0_data_f hl, eq0⟩) (D.allP_cons (fun _ _ _ _ ⟨c9r0_data_a, c9r0_data_c, b7, el0, el1, eA, c9r0_data_f, f19, eq0⟩ hl => ⟨c9r0_data_a, c9r0_data_c, b7, el0, el1, eA, Els.mono rep_U8 c9r0_data_f hl, Els.mono rep_G_Command f19 hl, eq0⟩) (D.allP_nil)))
      have hCm := D.C1_mono [.box b3 (G_Delta_cells (⟨y3.1, y4.1, (fun _ => (0 : UInt8)), (fun _ => (0 : UInt8)), s2.2.1⟩ : G.Delta) (adr g3) (g4)) 27, .box b1 (G_Delta_cells (⟨0, 0, (fun _ => (0 : UInt8)), (fun _ => (0 : UInt8)), ([] : List G.Command)⟩ : G.Delta) none 0) 27, rowOf 50 5 g3 g4 s2.2.1] hm0
      refine D.wp_drawM (m0 := m29) 5 [[3, 4]] [([(6, none)], [(0, 2)], none), ([(59, some 0)], [(0, 2)], none), ([(5, none)], [(0, 0)], none), ([(61, some 0)], [(0, 0)], some 0), ([(62, some 0)], [(1, 1)], some 0)] (D.SM m29 m (blocksOf []) (D.C1 [(fun _ A _ => A = [.box b2 #[.slice a0_a (((s2.1).b).length) a0_c, .int .i64 ((s2.1).at_), .int .i64 ((s2.1).code), .int .i64 ((s2.1).pos)] 72]), (fun l A M => ∃ (c9r0_data_a : Option Addr) (c9r0_data_c : Nat), l[0]? = some (.agg #[.int .i64 y11.1.kind, .int .i64 y11.1.to, .int .i64 y11.1.from_, .int .i64 y11.1.len, .slice c9r0_data_a y11.1.data.length c9r0_data_c]) ∧ A = [.box b2 #[.slice a0_a y11.2.b.length a0_c, .int .i64 y11.2.at_, .int .i64 y11.2.code, .int .i64 y11.2.pos] 72] ∧ Els isU8 M 1 c9r0_data_a c9r0_data_c y11.1.data ∧ y11.2.b = (s2.1).b), (fun l A M => ∃ (c9r0_data_a : Option Addr) (c9r0_data_c : Nat) (b7 : Nat), l[0]? = some (.agg #[.int .i64 y11.1.kind, .int .i64 y11.1.to, .int .i64 y11.1.from_, .int .i64 y11.1.len, .slice c9r0_data_a y11.1.data.length c9r0_data_c]) ∧ l[1]? = some (.slice (adr (some b7)) (([y11.1] : List G.Command).length) 1) ∧ A = [rowOf 50 5 (some b7) 1 ([y11.1] : List G.Command), .box b2 #[.slice a0_a y11.2.b.length a0_c, .int .i64 y11.2.at_, .int .i64 y11.2.code, .int .i64 y11.2.pos] 72] ∧ Els isU8 M 1 c9r0_data_a c9r0_data_c y11.1.data ∧ Els is_G_Command M 5 (adr (some b7)) 1 ([y11.1] : List G.Command) ∧ y11.2.b = (s2.1).b)] [.box b3 (G_Delta_cells (⟨y3.1, y4.1, (fun _ => (0 : UInt8)), (fun _ => (0 : UInt8)), s2.2.1⟩ : G.Delta) (adr g3) (g4)) 27, .box b1 (G_Delta_cells (⟨0, 0, (fun _ => (0 : UInt8)), (fun _ => (0 : UInt8)), ([] : List G.Command)⟩ : G.Delta) none 0) 27, rowOf 50 5 g3 g4 s2.2.1])) hK.size (by kernel_rfl) (by kernel_rfl) (by kernel_rfl) (D.start1 hS (fun _ => rfl)) ?_
      refine D.onP [(6, .pointer (some ⟨b3, 0, none⟩))] (.pointer (some ⟨b3, 66, none⟩)) (fun ac MM hk => (.cons (hk.1.trans (hK.at_ 6 _ rfl)) (.nil _))) ?_
      refine D.onA (fun uu _ => uu = .slice (adr g3) s2.2.1.length g4) (fun _ _ _ h _ => h) (by
       intro ac MM vs hbd hcor hS00 hk; have hS0 := hS00
       obtain ⟨hle, LL, hC, hSt⟩ := hS0
       have hSt0 := hSt
       have hC0 := hC; obtain ⟨A0, h0, rfl⟩ := hC
       have hS := D.St_right (hSt)
       have k59 : ac.eval (.tmp 59) = .pointer (some ⟨b3, 66, none⟩) := hk.1
       have hKe : Ke ac [(59, .pointer (some ⟨b3, 66, none⟩))] := (.cons k59 (.nil _))
       exact ⟨D.wanted0 rfl, s_load hKe hS 0 rfl rfl rfl rfl (by kernel_rfl) ⟨MM, rfl, Le.refl _, rfl, hS00⟩⟩) ?_
      refine D.onP [(5, .pointer (some ⟨b2, 0, none⟩))] (.pointer (some ⟨b2, 0, none⟩)) (fun ac MM hk => (.cons (hk.1.trans (hK.at_ 5 _ rfl)) (.nil _))) ?_
      refine D.onA (fun uu MM => ∃ (c9r0_data_a : Option Addr) (c9r0_data_c : Nat), uu = .agg #[.int .i64 y11.1.kind, .int .i64 y11.1.to, .int .i64 y11.1.from_, .int .i64 y11.1.len, .slice c9r0_data_a y11.1.data.length c9r0_data_c] ∧ Els isU8 MM 1 c9r0_data_a c9r0_data_c y11.1.data) (fun _ _ _ ⟨c9r0_data_a, c9r0_data_c, e, c9r0_data_f⟩ g => ⟨c9r0_data_a, c9r0_data_c, e, Els.mono rep_U8 c9r0_data_f g⟩) (by
       intro ac MM vs hbd hcor hS00 hk; have hS0 := hS00
       obtain ⟨hle, LL, hC, hSt⟩ := hS0
       have hSt0 := hSt
       have hC0 := hC; obtain ⟨A0, h0, rfl⟩ := hC
       have hn := D.bd_eq hbd 0 0 rfl
       obtain rfl := D.CH.at h0 hn rfl
       replace hSt := hSt
       have k61 : ac.eval (.tmp 61) = .pointer (some ⟨b2, 0, none⟩) := hk.1
       have hKe : Ke ac [(61, .pointer (some ⟨b2, 0, none⟩))] := (.cons k61 (.nil _))
       replace f17 := Els.mono rep_U8 f17 hle
       exact ⟨D.wanted0 rfl, s_callM (R := [.box b2 #[.slice a0_a (((s2.1).b).length) a0_c, .int .i64 ((s2.1).at_), .int .i64 ((s2.1).code), .int .i64 ((s2.1).pos)] 72]) hKe hSt ent53_7 rfl rfl rfl rfl (G.graftref07_command_spec f17 hy13 (Ow.left (L := [.box b2 #[.slice a0_a (((s2.1).b).length) a0_c, .int .i64 ((s2.1).at_), .int .i64 ((s2.1).code), .int .i64 ((s2.1).pos)] 72]) hSt.ow)) (by kernel_rfl) (by
         rintro _ M2 _ l2 hS2 ⟨c9r0_data_a, c9r0_data_c, rfl, rfl, c9r0_data_f, eq0⟩
         exact ⟨M2, rfl, l2, ⟨c9r0_data_a, c9r0_data_c, rfl, c9r0_data_f⟩, hle.trans l2, _, ⟨_, D.CH.push hn rfl ⟨c9r0_data_a, c9r0_data_c, D.get_push hn, rfl, c9r0_data_f, eq0⟩, rfl⟩, hS2⟩)⟩) ?_
      refine D.onA (fun uu MM => ∃ (b7 : Nat), uu = .slice (adr (some b7)) (([y11.1] : List G.Command).length) 1 ∧ Els is_G_Command MM 5 (adr (some b7)) 1 ([y11.1] : List G.Command)) (fun _ _ _ ⟨b7, e, f19⟩ g => ⟨b7, e, Els.mono rep_G_Command f19 g⟩) (by
       intro ac MM vs hbd hcor hS00 hk; have hS0 := hS00
       obtain ⟨hle, LL, hC, hSt⟩ := hS0
       have hSt0 := hSt
       have hC0 := hC; obtain ⟨A0, h0, rfl⟩ := hC
       have hn := D.bd_eq hbd 0 1 rfl
       obtain ⟨c9r0_data_a, c9r0_data_c, el0, rfl, c9r0_data_f, eq0⟩ := D.CH.at h0 hn rfl
       replace hSt := hSt
       have k62 : ac.eval (.tmp 62) = .agg #[.int .i64 y11.1.kind, .int .i64 y11.1.to, .int .i64 y11.1.from_, .int .i64 y11.1.len, .slice c9r0_data_a y11.1.data.length c9r0_data_c] := hcor 0 0 _ _ _ _ rfl rfl rfl el0
       have hKe : Ke ac [(62, .agg #[.int .i64 y11.1.kind, .int .i64 y11.1.to, .int .i64 y11.1.from_, .int .i64 y11.1.len, .slice c9r0_data_a y11.1.data.length c9r0_data_c])] := (.cons k62 (.nil _))
       exact ⟨D.wanted0 rfl, s_buildRow (elem := 50) #[.int .i64 y11.1.kind, .int .i64 y11.1.to, .int .i64 y11.1.from_, .int .i64 y11.1.len, .slice c9r0_data_a y11.1.data.length c9r0_data_c] hKe hSt rfl (by kernel_rfl) (by kernel_rfl) (by
         intro M2 b7 l2 hS2 hA4
         replace c9r0_data_f := Els.mono rep_U8 c9r0_data_f l2
         have f19 : Els is_G_Command M2 5 (some ⟨b7, 0, none⟩) 1 ([y11.1] : List G.Command) := els_lit rep_G_Command [[.int .i64 y11.1.kind, .int .i64 y11.1.to, .int .i64 y11.1.from_, .int .i64 y11.1.len, .slice c9r0_data_a y11.1.data.length c9r0_data_c]] hA4 (by simp) (by decide) (.cons ⟨c9r0_data_a, c9r0_data_c, rfl, c9r0_data_f⟩ .nil)
         exact ⟨M2, rfl, l2, ⟨b7, rfl, f19⟩, hle.trans l2, _, ⟨_, D.CH.push hn rfl ⟨c9r0_data_a, c9r0_data_c, b7, D.get_old el0, D.get_push hn, rfl, c9r0_data_f, f19, eq0⟩, rfl⟩, hS2⟩)⟩) ?_
      intro fr2 m30 vs hlen hcor hS2 hE; obtain ⟨l30, LL, hC, hS2⟩ := hS2
      obtain ⟨A0, h0, rfl⟩ := hC
      obtain ⟨c9r0_data_a, c9r0_data_c, b7, el0_0, el0_1, rfl, c9r0_data_f, f19, eq0_0⟩ := D.CH.at h0 (hlen 0) rfl
      replace hS2 : St _ m m30 [rowOf 50 5 (some b7) 1 ([y11.1] : List G.Command), .box b2 #[.slice a0_a y11.2.b.length a0_c, .int .i64 y11.2.at_, .int .i64 y11.2.code, .int .i64 y11.2.pos] 72, .box b3 (G_Delta_cells (⟨y3.1, y4.1, (fun _ => (0 : UInt8)), (fun _ => (0 : UInt8)), s2.2.1⟩ : G.Delta) (adr g3) (g4)) 27, .box b1 (G_Delta_cells (⟨0, 0, (fun _ => (0 : UInt8)), (fun _ => (0 : UInt8)), ([] : List G.Command)⟩ : G.Delta) none 0) 27, rowOf 50 5 g3 g4 s2.2.1] := hS2
      have kl62 : fr2.eval (.tmp 62) = .agg #[.int .i64 y11.1.kind, .int .i64 y11.1.to, .int .i64 y11.1.from_, .int .i64 y11.1.len, .slice c9r0_data_a y11.1.data.length c9r0_data_c] := hcor 0 0 _ _ _ _ rfl rfl rfl el0_0
      have kl63 : fr2.eval (.tmp 63) = .slice (adr (some b7)) (([y11.1] : List G.Command).length) 1 := hcor 0 1 _ _ _ _ rfl rfl rfl el0_1
      have hK2 := D.kn_endsM [(59, .pointer (some ⟨b3, 66, none⟩)), (60, .slice (adr g3) s2.2.1.length g4), (61, .pointer (some ⟨b2, 0, none⟩)), (62, .agg #[.int .i64 y11.1.kind, .int .i64 y11.1.to, .int .i64 y11.1.from_, .int .i64 y11.1.len, .slice c9r0_data_a y11.1.data.length c9r0_data_c]), (63, .slice (adr (some b7)) (([y11.1] : List G.Command).length) 1)] hK hE rfl (by kernel_rfl) (.cons (hE.slots 59) (.cons (hE.slots 60) (.cons (hE.slots 61) (.cons (kl62) (.cons (kl63) (.nil _))))))
      replace hK2 : Kn 119 fr2 [(59, .pointer (some ⟨b3, 66, none⟩)), (60, .slice (adr g3) s2.2.1.length g4), (61, .pointer (some ⟨b2, 0, none⟩)), (62, .agg #[.int .i64 y11.1.kind, .int .i64 y11.1.to, .int .i64 y11.1.from_, .int .i64 y11.1.len, .slice c9r0_data_a y11.1.data.length c9r0_data_c]), (63, .slice (adr (some b7)) (([y11.1] : List G.Command).length) 1), (56, .bool true), (0, .slice a0_a a0.length a0_c), (2, .pointer (some ⟨b1, 0, none⟩)), (5, .pointer (some ⟨b2, 0, none⟩)), (6, .pointer (some ⟨b3, 0, none⟩)), (8, .slice c5r0_a y5.1.length c5r0_c), (9, .slice c6r0_a y6.1.length c6r0_c), (10, .int .i64 (IntKind.i64.wrap y7.1)), (11, .int .i64 s2.2.2)] := hK2.only [59, 60, 61, 62, 63, 56, 0, 2, 5, 6, 8, 9, 10, 11]
      clear hE hK hcor hlen kl62 kl63 h0 el0_0 el0_1; revert hK2; clear hS; revert fr2; clear fr; intro fr hK; have hS := hS2; clear hS2 hCm hm0
      replace hS : St _ m m30 [rowOf 50 5 (some b7) 1 ([y11.1] : List G.Command), .box b2 #[.slice a0_a y11.2.b.length a0_c, .int .i64 y11.2.at_, .int .i64 y11.2.code, .int .i64 y11.2.pos] 72, .box b3 (G_Delta_cells (⟨y3.1, y4.1, (fun _ => (0 : UInt8)), (fun _ => (0 : UInt8)), s2.2.1⟩ : G.Delta) (adr g3) (g4)) 27, .box b1 (G_Delta_cells (⟨0, 0, (fun _ => (0 : UInt8)), (fun _ => (0 : UInt8)), ([] : List G.Command)⟩ : G.Delta) none 0) 27, rowOf 50 5 g3 g4 s2.2.1] := hS
      replace f16 := Els.mono rep_G_Command f16 l30
      obtain ⟨x5, hy14, h⟩ := bind_some h
      refine qo 64 hK (s_app elT25_7 rep_G_Command hy14 hK.at_ 4 hS rfl f16 f19 rfl rfl rfl (by decide) ?_)
      clear hK fr hS; intro m31 g5 cp1 l31 hS f21 fr hK
      replace hS : St _ m m31 [rowOf 50 5 g5 cp1 x5, rowOf 50 5 (some b7) 1 ([y11.1] : List G.Command), .box b2 #[.slice a0_a y11.2.b.length a0_c, .int .i64 y11.2.at_, .int .i64 y11.2.code, .int .i64 y11.2.pos] 72, .box b3 (G_Delta_cells (⟨y3.1, y4.1, (fun _ => (0 : UInt8)), (fun _ => (0 : UInt8)), s2.2.1⟩ : G.Delta) (adr g3) (g4)) 27, .box b1 (G_Delta_cells (⟨0, 0, (fun _ => (0 : UInt8)), (fun _ => (0 : UInt8)), ([] : List G.Command)⟩ : G.Delta) none 0) 27] := hS
      refine qp 65 (.pointer (some ⟨b3, 66, none⟩)) hK fun fr hK => ?_
      refine qo0 hK (s_store hK.at_ 3 hS rfl rfl rfl rfl (by kernel_rfl) (by kernel_rfl) (by kernel_rfl) ?_)
      clear hK fr hS; intro m32 l32 hS fr hK
      have hf5 : putAt (G_Delta_cells (⟨y3.1, y4.1, (fun _ => (0 : UInt8)), (fun _ => (0 : UInt8)), s2.2.1⟩ : G.Delta) (adr g3) (g4)) 66 [.slice (adr g5) x5.length cp1] = G_Delta_cells (⟨y3.1, y4.1, (fun _ => (0 : UInt8)), (fun _ => (0 : UInt8)), x5⟩ : G.Delta) (adr g5) cp1 := by kernel_rfl
      replace hS : St _ m m32 [.box b3 (putAt (G_Delta_cells (⟨y3.1, y4.1, (fun _ => (0 : UInt8)), (fun _ => (0 : UInt8)), s2.2.1⟩ : G.Delta) (adr g3) (g4)) 66 [.slice (adr g5) x5.length cp1]) 27, rowOf 50 5 g5 cp1 x5, rowOf 50 5 (some b7) 1 ([y11.1] : List G.Command), .box b2 #[.slice a0_a y11.2.b.length a0_c, .int .i64 y11.2.at_, .int .i64 y11.2.code, .int .i64 y11.2.pos] 72, .box b1 (G_Delta_cells (⟨0, 0, (fun _ => (0 : UInt8)), (fun _ => (0 : UInt8)), ([] : List G.Command)⟩ : G.Delta) none 0) 27] := hS
      rw [hf5] at hS
      replace hS : St _ m m32 [.box b3 (G_Delta_cells (⟨y3.1, y4.1, (fun _ => (0 : UInt8)), (fun _ => (0 : UInt8)), x5⟩ : G.Delta) (adr g5) cp1) 27, rowOf 50 5 g5 cp1 x5, rowOf 50 5 (some b7) 1 ([y11.1] : List G.Command), .box b2 #[.slice a0_a y11.2.b.length a0_c, .int .i64 y11.2.at_, .int .i64 y11.2.code, .int .i64 y11.2.pos] 72, .box b1 (G_Delta_cells (⟨0, 0, (fun _ => (0 : UInt8)), (fun _ => (0 : UInt8)), ([] : List G.Command)⟩ : G.Delta) none 0) 27] := hS
      refine wpList_nil ?_
      refine blk_n ?_
      refine then_n ?_
      refine w_region ?_
      refine qp 57 (.int .i64 s2.2.2) hK fun fr hK => ?_
      refine qp 58 (.int .i64 (IntKind.i64.wrap (s2.2.2 + 1))) hK fun fr hK => ?_
      refine qp 11 (.int .i64 (IntKind.i64.wrap (s2.2.2 + 1))) hK fun fr hK => ?_
      refine wpList_nil (then_n ?_)
      replace f17 := Els.mono rep_U8 f17 (l30.trans (l31.trans l32))
      have f20 : Els isU8 m32 1 a0_a a0_c y11.2.b := Els.cast eq0_0.symm f17
      replace f21 := Els.mono rep_G_Command f21 l32
      replace hS := hS.front 4 rfl
      replace hS := hS.front 2 rfl
      replace hS := hS.front 2 rfl
      replace hS := hS.front 4 rfl
      replace hS := St.keep (L := [.box b2 #[.slice a0_a y11.2.b.length a0_c, .int .i64 y11.2.at_, .int .i64 y11.2.code, .int .i64 y11.2.pos] 72, .box b3 (G_Delta_cells (⟨y3.1, y4.1, (fun _ => (0 : UInt8)), (fun _ => (0 : UInt8)), x5⟩ : G.Delta) (adr g5) cp1) 27, rowOf 50 5 g5 cp1 x5, .box b1 (G_Delta_cells (⟨0, 0, (fun _ => (0 : UInt8)), (fun _ => (0 : UInt8)), ([] : List G.Command)⟩ : G.Delta) none 0) 27]) (R := [rowOf 50 5 (some b7) 1 ([y11.1] : List G.Command)]) hS
      replace h := Option.some.inj h; subst h
      obtain ⟨kq, hk1, hk2⟩ := hn2
      exact ⟨kq, hk1, _, hk2, g5, cp1, m32, rfl, hK.only [0, 2, 5, 6, 8, 9, 10, 11], l28.trans (l29.trans (l30.trans (l31.trans l32))), hS, f21, (eq0_0.trans he6)⟩
     ·
      replace hK := hK.more (t := 56) (v' := .bool false) rfl (by rw [hb5])
      replace h := ite_f (ne_true_of_eq_false hb5) h
      refine wp_exit ?_
      refine then_x ?_
      refine then_x ?_
      refine blk_e ?_
      refine then_n ?_
      replace a0_f := Els.mono rep_U8 a0_f (l11.trans (l12.trans (l13.trans (l14.trans (l15.trans (l16.trans (l17.trans (l28.trans l29))))))))
      have f17 : Els isU8 m29 1 a0_a a0_c ((s2.1).b) := Els.cast he6.symm a0_f
      replace f16 := Els.mono rep_G_Command f16 l29
      replace hS := hS.front 2 rfl
      replace hS := hS.front 3 rfl
      replace hS := hS.front 3 rfl
      replace hS := hS.front 3 rfl
      replace hS : St _ m m29 [.box b2 #[.slice a0_a (((s2.1).b).length) a0_c, .int .i64 ((s2.1).at_), .int .i64 ((s2.1).code), .int .i64 ((s2.1).pos)] 72, .box b3 (G_Delta_cells (⟨y3.1, y4.1, (fun _ => (0 : UInt8)), (fun _ => (0 : UInt8)), s2.2.1⟩ : G.Delta) (adr g3) (g4)) 27, rowOf 50 5 g3 g4 s2.2.1, .box b1 (G_Delta_cells (⟨0, 0, (fun _ => (0 : UInt8)), (fun _ => (0 : UInt8)), ([] : List G.Command)⟩ : G.Delta) none 0) 27] := hS
      replace h := Option.some.inj h; subst h
      replace h := Option.some.inj (loop_out hn2); subst h
      exact ⟨g3, g4, m29, rfl, hK.only [0, 2, 5, 6, 8, 9], l28.trans l29, hS, f16, he6⟩
    ·
     replace h := hv7; clear hv7
     refine w_region ?_
     refine qp 47 (.int .i64 s2.2.2) hK fun fr hK => ?_
     refine qp 48 (.int .i64 (IntKind.i64.wrap y7.1)) hK fun fr hK => ?_
     refine qp 49 (.bool (decide (s2.2.2 < (IntKind.i64.wrap y7.1)))) hK fun fr hK => ?_
     refine qp 50 (.bool (decide (s2.2.2 < (IntKind.i64.wrap y7.1)))) hK fun fr hK => ?_
     refine split_b (x := decide (s2.2.2 < (IntKind.i64.wrap y7.1))) (fun hb6 => ?_) (fun hb6 => ?_)
     ·
      replace hK := hK.more (t := 50) (v' := .bool true) rfl (by rw [hb6])
      replace hK := hK.more (t := 49) (v' := .bool true) rfl (by rw [hb6])
      replace h := ite_t (of_decide_eq_true hb6) h
      refine qp 51 (.pointer (some ⟨b2, 0, none⟩)) hK fun fr hK => ?_
      refine qp 52 (.pointer (some ⟨b2, 0, none⟩)) hK fun fr hK => ?_
      refine qp 53 (.pointer (some ⟨b2, 2, none⟩)) hK fun fr hK => ?_
      refine qo 54 hK (s_load hK.at_ hS 0 rfl rfl rfl rfl (by kernel_rfl) ?_)
      clear hK fr; intro fr hK
      refine qp 55 (.bool ((s2.1).code == 0)) hK fun fr hK => ?_
      refine qp 56 (.bool ((s2.1).code == 0)) hK fun fr hK => ?_
      refine wpList_nil (then_n ?_)
      replace hS := hS.front 2 rfl
      replace hS := hS.front 3 rfl
      replace hS := hS.front 3 rfl
      replace hS := hS.front 3 rfl
      replace hS : St _ m m28 [.box b2 #[.slice a0_a (((s2.1).b).length) a0_c, .int .i64 ((s2.1).at_), .int .i64 ((s2.1).code), .int .i64 ((s2.1).pos)] 72, .box b3 (G_Delta_cells (⟨y3.1, y4.1, (fun _ => (0 : UInt8)), (fun _ => (0 : UInt8)), s2.2.1⟩ : G.Delta) (adr g3) (g4)) 27, .box b1 (G_Delta_cells (⟨0, 0, (fun _ => (0 : UInt8)), (fun _ => (0 : UInt8)), ([] : List G.Command)⟩ : G.Delta) none 0) 27, rowOf 50 5 g3 g4 s2.2.1] := hS
      replace h := Option.some.inj h; subst h
      exact ⟨m28, rfl, hK.only [0, 2, 5, 6, 8, 9, 10, 11, 56], Le.refl _, hS⟩
     ·
      replace hK := hK.more (t := 50) (v' := .bool false) rfl (by rw [hb6])
      replace hK := hK.more (t := 49) (v' := .bool false) rfl (by rw [hb6])
      replace h := ite_f (of_decide_eq_false hb6) h
      refine qs 51 hK ?_
      clear hK fr; intro fr hK
      refine qs 52 hK ?_
      clear hK fr; intro fr hK
      refine qs 53 hK ?_
      clear hK fr; intro fr hK
      refine qs 54 hK ?_
      clear hK fr; intro fr hK
      refine qs 55 hK ?_
      clear hK fr; intro fr hK
      refine qp 56 (.bool false) hK fun fr hK => ?_
      refine wpList_nil (then_n ?_)
      replace hS := hS.front 2 rfl
      replace hS := hS.front 3 rfl
      replace hS := hS.front 3 rfl
      replace hS := hS.front 3 rfl
      replace hS : St _ m m28 [.box b2 #[.slice a0_a (((s2.1).b).length) a0_c, .int .i64 ((s2.1).at_), .int .i64 ((s2.1).code), .int .i64 ((s2.1).pos)] 72, .box b3 (G_Delta_cells (⟨y3.1, y4.1, (fun _ => (0 : UInt8)), (fun _ => (0 : UInt8)), s2.2.1⟩ : G.Delta) (adr g3) (g4)) 27, .box b1 (G_Delta_cells (⟨0, 0, (fun _ => (0 : UInt8)), (fun _ => (0 : UInt8)), ([] : List G.Command)⟩ : G.Delta) none 0) 27, rowOf 50 5 g3 g4 s2.2.1] := hS
      replace h := Option.some.inj h; subst h
      exact ⟨m28, rfl, hK.only [0, 2, 5, 6, 8, 9, 10, 11, 56], Le.refl _, hS⟩
  ·
   replace h := hv2; clear hv2
   refine w_cond hK rfl (fun hb7 => ?_) (fun hb7 => ?_)
   ·
    replace hK := hK.more (t := 31) (v' := .bool true) rfl (by rw [hb7])
    replace h := ite_t (hb7) h
    refine w_region ?_
    refine qp 32 (.pointer (some ⟨b2, 0, none⟩)) hK fun fr hK => ?_
    replace f2 := Els.mono rep_U8 f2 (l8.trans l9)
    have f3 : Els isU8 m9 1 a0_a a0_c y2.2.b := Els.cast c2re0.symm f2
    obtain ⟨y12, hy15, h⟩ := bind_some h
    replace hS : St _ m m9 [.box b2 #[.slice a0_a y2.2.b.length a0_c, .int .i64 y2.2.at_, .int .i64 y2.2.code, .int .i64 y2.2.pos] 72, .box b3 (G_Delta_cells (⟨0, 0, (fun _ => (0 : UInt8)), (fun _ => (0 : UInt8)), ([] : List G.Command)⟩ : G.Delta) none 0) 27, .box b1 (G_Delta_cells (⟨0, 0, (fun _ => (0 : UInt8)), (fun _ => (0 : UInt8)), ([] : List G.Command)⟩ : G.Delta) none 0) 27] := hS
    refine qo 33 hK (s_callM (R := [.box b2 #[.slice a0_a y2.2.b.length a0_c, .int .i64 y2.2.at_, .int .i64 y2.2.code, .int .i64 y2.2.pos] 72]) (L := [.box b3 (G_Delta_cells (⟨0, 0, (fun _ => (0 : UInt8)), (fun _ => (0 : UInt8)), ([] : List G.Command)⟩ : G.Delta) none 0) 27, .box b1 (G_Delta_cells (⟨0, 0, (fun _ => (0 : UInt8)), (fun _ => (0 : UInt8)), ([] : List G.Command)⟩ : G.Delta) none 0) 27]) hK.at_ hS ent50_7 rfl rfl rfl rfl (G.graftref06_Fail_spec f3 hy15 (Ow.left (L := [.box b2 #[.slice a0_a y2.2.b.length a0_c, .int .i64 y2.2.at_, .int .i64 y2.2.code, .int .i64 y2.2.pos] 72]) hS.ow)) (by kernel_rfl) ?_)
    clear hK fr hS; rintro _ m33 _ l33 hS ⟨rfl, rfl, c10re0⟩ fr hK
    replace hS : St _ m m33 [.box b2 #[.slice a0_a y12.b.length a0_c, .int .i64 y12.at_, .int .i64 y12.code, .int .i64 y12.pos] 72, .box b3 (G_Delta_cells (⟨0, 0, (fun _ => (0 : UInt8)), (fun _ => (0 : UInt8)), ([] : List G.Command)⟩ : G.Delta) none 0) 27, .box b1 (G_Delta_cells (⟨0, 0, (fun _ => (0 : UInt8)), (fun _ => (0 : UInt8)), ([] : List G.Command)⟩ : G.Delta) none 0) 27] := hS
    refine wpList_nil (then_n ?_)
    replace f3 := Els.mono rep_U8 f3 l33
    have f22 : Els isU8 m33 1 a0_a a0_c y12.b := Els.cast c10re0.symm f3
    replace hS := hS.front 2 rfl
    replace hS := hS.front 2 rfl
    replace hS := hS.front 2 rfl
    replace hS : St _ m m33 [.box b2 #[.slice a0_a y12.b.length a0_c, .int .i64 y12.at_, .int .i64 y12.code, .int .i64 y12.pos] 72, .box b3 (G_Delta_cells (⟨0, 0, (fun _ => (0 : UInt8)), (fun _ => (0 : UInt8)), ([] : List G.Command)⟩ : G.Delta) none 0) 27, .box b1 (G_Delta_cells (⟨0, 0, (fun _ => (0 : UInt8)), (fun _ => (0 : UInt8)), ([] : List G.Command)⟩ : G.Delta) none 0) 27] := hS
    replace h := Option.some.inj h; subst h
    exact ⟨m33, rfl, hK.only [0, 2, 5, 6], l33, hS, (c10re0.trans (c2re0.trans c1re0))⟩
   ·
    replace hK := hK.more (t := 31) (v' := .bool false) rfl (by rw [hb7])
    replace h := ite_f (ne_true_of_eq_false hb7) h
    refine wp_skip ?_
    refine then_n ?_
    replace f2 := Els.mono rep_U8 f2 (l8.trans l9)
    have f3 : Els isU8 m9 1 a0_a a0_c y2.2.b := Els.cast c2re0.symm f2
    replace hS := hS.front 2 rfl
    replace hS := hS.front 2 rfl
    replace hS := hS.front 2 rfl
    replace hS : St _ m m9 [.box b2 #[.slice a0_a y2.2.b.length a0_c, .int .i64 y2.2.at_, .int .i64 y2.2.code, .int .i64 y2.2.pos] 72, .box b3 (G_Delta_cells (⟨0, 0, (fun _ => (0 : UInt8)), (fun _ => (0 : UInt8)), ([] : List G.Command)⟩ : G.Delta) none 0) 27, .box b1 (G_Delta_cells (⟨0, 0, (fun _ => (0 : UInt8)), (fun _ => (0 : UInt8)), ([] : List G.Command)⟩ : G.Delta) none 0) 27] := hS
    replace h := Option.some.inj h; subst h
    exact ⟨m9, rfl, hK.only [0, 2, 5, 6], Le.refl _, hS, (c2re0.trans c1re0)⟩
 ·
  replace h := hv1; clear hv1
  refine w_region ?_
  refine qp 23 (.pointer (some ⟨b2, 0, none⟩)) hK fun fr hK => ?_
  refine qp 24 (.pointer (some ⟨b2, 0, none⟩)) hK fun fr hK => ?_
  refine qp 25 (.pointer (some ⟨b2, 2, none⟩)) hK fun fr hK => ?_
  refine qo 26 hK (s_load hK.at_ hS 0 rfl rfl rfl rfl (by kernel_rfl) ?_)
  clear hK fr; intro fr hK
  refine qp 27 (.bool (y2.2.code == 0)) hK fun fr hK => ?_
  refine qp 28 (.bool (y2.2.code == 0)) hK fun fr hK => ?_
  refine split_b (x := (y2.2.code == 0)) (fun hb8 => ?_) (fun hb8 => ?_)
  ·
   replace hK := hK.more (t := 28) (v' := .bool true) rfl (by rw [hb8])
   replace hK := hK.more (t := 27) (v' := .bool true) rfl (by rw [hb8])
   replace h := ite_t (eq_of_beq hb8) h
   refine qp 29 (.int .u64 y2.1) hK fun fr hK => ?_
   refine qp 30 (.bool (y2.1 != 1)) hK fun fr hK => ?_
   refine qp 31 (.bool (y2.1 != 1)) hK fun fr hK => ?_
   refine wpList_nil (then_n ?_)
   replace hS := hS.front 2 rfl
   replace hS := hS.front 2 rfl
   replace hS := hS.front 2 rfl
   replace hS : St _ m m8 [.box b2 #[.slice a0_a y2.2.b.length a0_c, .int .i64 y2.2.at_, .int .i64 y2.2.code, .int .i64 y2.2.pos] 72, .box b3 (G_Delta_cells (⟨0, 0, (fun _ => (0 : UInt8)), (fun _ => (0 : UInt8)), ([] : List G.Command)⟩ : G.Delta) none 0) 27, .box b1 (G_Delta_cells (⟨0, 0, (fun _ => (0 : UInt8)), (fun _ => (0 : UInt8)), ([] : List G.Command)⟩ : G.Delta) none 0) 27] := hS
   replace h := Option.some.inj h; subst h
   exact ⟨m8, rfl, hK.only [0, 2, 5, 6, 31], Le.refl _, hS⟩
  ·
   replace hK := hK.more (t := 28) (v' := .bool false) rfl (by rw [hb8])
   replace hK := hK.more (t := 27) (v' := .bool false) rfl (by rw [hb8])
   replace h := ite_f (ne_of_beq_false hb8) h
   refine qs 29 hK ?_
   clear hK fr; intro fr hK
   refine qs 30 hK ?_
   clear hK fr; intro fr hK
   refine qp 31 (.bool false) hK fun fr hK => ?_
   refine wpList_nil (then_n ?_)
   replace hS := hS.front 2 rfl
   replace hS := hS.front 2 rfl
   replace hS := hS.front 2 rfl
   replace hS : St _ m m8 [.box b2 #[.slice a0_a y2.2.b.length a0_c, .int .i64 y2.2.at_, .int .i64 y2.2.code, .int .i64 y2.2.pos] 72, .box b3 (G_Delta_cells (⟨0, 0, (fun _ => (0 : UInt8)), (fun _ => (0 : UInt8)), ([] : List G.Command)⟩ : G.Delta) none 0) 27, .box b1 (G_Delta_cells (⟨0, 0, (fun _ => (0 : UInt8)), (fun _ => (0 : UInt8)), ([] : List G.Command)⟩ : G.Delta) none 0) 27] := hS
   replace h := Option.some.inj h; subst h
   exact ⟨m8, rfl, hK.only [0, 2, 5, 6, 31], Le.refl _, hS⟩
set_option maxRecDepth 100000 in
set_option maxHeartbeats 1000000 in
theorem G.graftlaw07_FormatDecodes_spec {m : Mem} {a0 : List UInt8} {a0_a : Option Addr} {a0_c : Nat} (a0_f : Els isU8 m 1 a0_a a0_c a0) {r : Bool} (h : G.graftlaw07_FormatDecodes a0 = some r) :
  Spec Try.prog 3 #[.slice a0_a a0.length a0_c] m [] fun v m' L => L = [] ∧ v = .bool r := by
 unfold G.graftlaw07_FormatDecodes at h
 refine enter (args := [_]) 41 Try.func3 rfl rfl (by simp) fun fr hK => ?_
 have hS := St.refl (Ow.nil m)
 replace hK : Kn 41 fr [(0, .slice a0_a a0.length a0_c)] := hK
 refine w_seq (w_region ?_)
 refine qp 2 (.bool false) hK fun fr hK => ?_
 refine wpList_nil (then_n ?_)
 refine w_seq ?_
 refine w_seq (w_region ?_)
 refine qp 8 (.slice a0_a a0.length a0_c) hK fun fr hK => ?_
 refine qp 9 (.int .i64 (a0.length : Int)) hK fun fr hK => ?_
 refine qp 10 (.bool (decide ((a0.length : Int) > 2000))) hK fun fr hK => ?_
 refine wpList_nil (then_n ?_)
 refine w_cond hK rfl (fun hb1 => ?_) (fun hb1 => ?_)
 ·
  replace hK := hK.more (t := 10) (v' := .bool true) rfl (by rw [hb1])
  replace h := ite_t (of_decide_eq_true hb1) h
  refine w_seq (w_region ?_)
  obtain ⟨y1, hy1, h⟩ := bind_some h
  refine qo 11 hK (s_call hK.at_ hS ent13_7 rfl rfl rfl rfl (G.graftlaw07_alive_spec hy1) (by kernel_rfl) ?_)
  clear hK fr hS; rintro _ m1 _ l1 hS ⟨rfl, rfl⟩ fr hK
  replace hS : St _ m m1 [] := hS
  refine qp 2 (.bool y1) hK fun fr hK => ?_
  refine wpList_nil (then_n ?_)
  refine wp_ret ?_
  refine then_r ?_
  replace h := Option.some.inj h; subst h
  refine ret_of [.tmp 2] [.bool y1] rfl hK (.tmp rfl .nil) hS.dropAll ?_
  exact ⟨rfl, rfl⟩
 ·
  replace hK := hK.more (t := 10) (v' := .bool false) rfl (by rw [hb1])
  replace h := ite_f (of_decide_eq_false hb1) h
  refine wp_skip ?_
  refine then_n ?_
  refine w_seq (w_region ?_)
  refine qp 13 (.slice a0_a a0.length a0_c) hK fun fr hK => ?_
  obtain ⟨y2, hy2, h⟩ := bind_some h
  refine qo 14 hK (s_call hK.at_ hS ent14_7 rfl rfl rfl rfl (G.format_Decode_spec a0_f hy2) (by kernel_rfl) ?_)
  clear hK fr hS; rintro _ m2 _ l2 hS ⟨c2r0_commands_g, c2r0_commands_c, rfl, rfl, c2r0_commands_f⟩ fr hK
  refine qp 12 (.tuple #[.agg (G_Delta_cells y2.1 (adr c2r0_commands_g) c2r0_commands_c), .agg #[.int .i64 y2.2.code, .int .i64 y2.2.at_]]) hK fun fr hK => ?_
  refine qp 15 (.agg (G_Delta_cells y2.1 (adr c2r0_commands_g) c2r0_commands_c)) hK fun fr hK => ?_
  refine qp 16 (.agg #[.int .i64 y2.2.code, .int .i64 y2.2.at_]) hK fun fr hK => ?_
  refine qo 3 hK (s_alloc (.agg #[.int .i64 0, .int .i64 0, .int .u8 0, .int .u8 0, .int .u8 0, .int .u8 0, .int .u8 0, .int .u8 0, .int .u8 0, .int .u8 0, .int .u8 0, .int .u8 0, .int .u8 0, .int .u8 0, .int .u8 0, .int .u8 0, .int .u8 0, .int .u8 0, .int .u8 0, .int .u8 0, .int .u8 0, .int .u8 0, .int .u8 0, .int .u8 0, .int .u8 0, .int .u8 0, .int .u8 0, .int .u8 0, .int .u8 0, .int .u8 0, .int .u8 0, .int .u8 0, .int .u8 0, .int .u8 0, .int .u8 0, .int .u8 0, .int .u8 0, .int .u8 0, .int .u8 0, .int .u8 0, .int .u8 0, .int .u8 0, .int .u8 0, .int .u8 0, .int .u8 0, .int .u8 0, .int .u8 0, .int .u8 0, .int .u8 0, .int .u8 0, .int .u8 0, .int .u8 0, .int .u8 0, .int .u8 0, .int .u8 0, .int .u8 0, .int .u8 0, .int .u8 0, .int .u8 0, .int .u8 0, .int .u8 0, .int .u8 0, .int .u8 0, .int .u8 0, .int .u8 0, .int .u8 0, .slice none 0 0]) hK.at_ hS rfl (by kernel_rfl) ?_)
  clear hK fr hS; intro m3 b1 b1z l3 hS fr hK
  refine qo 4 hK (s_alloc (.agg #[.int .i64 0, .int .i64 0]) hK.at_ hS rfl (by kernel_rfl) ?_)
  clear hK fr hS; intro m4 b2 b2z l4 hS fr hK
  refine qo0 hK (s_storeAll hK.at_ 1 hS rfl rfl rfl rfl (by kernel_rfl) (by kernel_rfl) (by kernel_rfl) ?_)
  clear hK fr hS; intro m5 l5 hS fr hK
  refine qo0 hK (s_storeAll hK.at_ 1 hS rfl rfl rfl rfl (by kernel_rfl) (by kernel_rfl) (by kernel_rfl) ?_)
  clear hK fr hS; intro m6 l6 hS fr hK
  replace hS : St _ m m6 [.box b2 #[.int .i64 y2.2.code, .int .i64 y2.2.at_] 30, .box b1 (G_Delta_cells y2.1 (adr c2r0_commands_g) c2r0_commands_c) 27, rowOf 50 5 c2r0_commands_g c2r0_commands_c y2.1.commands] := hS
  refine wpList_nil (then_n ?_)
  refine w_seq (w_region ?_)
  refine qp 18 (.slice a0_a a0.length a0_c) hK fun fr hK => ?_
  replace a0_f := Els.mono rep_U8 a0_f (l2.trans (l3.trans (l4.trans (l5.trans l6))))
  obtain ⟨y3, hy3, h⟩ := bind_some h
  refine qo 19 hK (s_call hK.at_ hS ent15_7 rfl rfl rfl rfl (G.graftref07_Decode_spec a0_f hy3) (by kernel_rfl) ?_)
  clear hK fr hS; rintro _ m7 _ l7 hS ⟨c3r0_commands_g, c3r0_commands_c, rfl, rfl, c3r0_commands_f⟩ fr hK
  refine qp 17 (.tuple #[.agg (G_Delta_cells y3.1 (adr c3r0_commands_g) c3r0_commands_c), .int .i64 y3.2.1, .int .i64 y3.2.2]) hK fun fr hK => ?_
  refine qp 20 (.agg (G_Delta_cells y3.1 (adr c3r0_commands_g) c3r0_commands_c)) hK fun fr hK => ?_
  refine qp 21 (.int .i64 y3.2.1) hK fun fr hK => ?_
  refine qp 22 (.int .i64 y3.2.2) hK fun fr hK => ?_
  refine qo 5 hK (s_alloc (.agg #[.int .i64 0, .int .i64 0, .int .u8 0, .int .u8 0, .int .u8 0, .int .u8 0, .int .u8 0, .int .u8 0, .int .u8 0, .int .u8 0, .int .u8 0, .int .u8 0, .int .u8 0, .int .u8 0, .int .u8 0, .int .u8 0, .int .u8 0, .int .u8 0, .int .u8 0, .int .u8 0, .int .u8 0, .int .u8 0, .int .u8 0, .int .u8 0, .int .u8 0, .int .u8 0, .int .u8 0, .int .u8 0, .int .u8 0, .int .u8 0, .int .u8 0, .int .u8 0, .int .u8 0, .int .u8 0, .int .u8 0, .int .u8 0, .int .u8 0, .int .u8 0, .int .u8 0, .int .u8 0, .int .u8 0, .int .u8 0, .int .u8 0, .int .u8 0, .int .u8 0, .int .u8 0, .int .u8 0, .int .u8 0, .int .u8 0, .int .u8 0, .int .u8 0, .int .u8 0, .int .u8 0, .int .u8 0, .int .u8 0, .int .u8 0, .int .u8 0, .int .u8 0, .int .u8 0, .int .u8 0, .int .u8 0, .int .u8 0, .int .u8 0, .int .u8 0, .int .u8 0, .int .u8 0, .slice none 0 0]) hK.at_ hS rfl (by kernel_rfl) ?_)
  clear hK fr hS; intro m8 b3 b3z l8 hS fr hK
  refine qo0 hK (s_storeAll hK.at_ 0 hS rfl rfl rfl rfl (by kernel_rfl) (by kernel_rfl) (by kernel_rfl) ?_)
  clear hK fr hS; intro m9 l9 hS fr hK
  replace hS : St _ m m9 [.box b3 (G_Delta_cells y3.1 (adr c3r0_commands_g) c3r0_commands_c) 27, rowOf 50 5 c3r0_commands_g c3r0_commands_c y3.1.commands, .box b2 #[.int .i64 y2.2.code, .int .i64 y2.2.at_] 30, .box b1 (G_Delta_cells y2.1 (adr c2r0_commands_g) c2r0_commands_c) 27, rowOf 50 5 c2r0_commands_g c2r0_commands_c y2.1.commands] := hS
  refine qp 6 (.int .i64 y3.2.1) hK fun fr hK => ?_
  refine qp 7 (.int .i64 y3.2.2) hK fun fr hK => ?_
  refine wpList_nil (then_n ?_)
  refine w_seq (w_region ?_)
  obtain ⟨y4, hy4, h⟩ := bind_some h
  refine qo 23 hK (s_call hK.at_ hS ent13_7 rfl rfl rfl rfl (G.graftlaw07_alive_spec hy4) (by kernel_rfl) ?_)
  clear hK fr hS; rintro _ m10 _ l10 hS ⟨rfl, rfl⟩ fr hK
  replace hS : St _ m m10 [.box b3 (G_Delta_cells y3.1 (adr c3r0_commands_g) c3r0_commands_c) 27, rowOf 50 5 c3r0_commands_g c3r0_commands_c y3.1.commands, .box b2 #[.int .i64 y2.2.code, .int .i64 y2.2.at_] 30, .box b1 (G_Delta_cells y2.1 (adr c2r0_commands_g) c2r0_commands_c) 27, rowOf 50 5 c2r0_commands_g c2r0_commands_c y2.1.commands] := hS
  refine qp 24 (.bool y4) hK fun fr hK => ?_
  refine split_b (x := y4) (fun hb2 => ?_) (fun hb2 => ?_)
  ·
   replace hK := hK.more (t := 24) (v' := .bool true) rfl (by rw [hb2])
   replace hK := hK.more (t := 23) (v' := .bool true) rfl (by rw [hb2])
   replace h := ite_t (hb2) h
   refine qo 25 hK (s_loadAll hK.at_ hS 3 rfl rfl rfl (by kernel_rfl) ?_)
   clear hK fr; intro fr hK
   refine qo 26 hK (s_loadAll hK.at_ hS 0 rfl rfl rfl (by kernel_rfl) ?_)
   clear hK fr; intro fr hK
   replace c2r0_commands_f := Els.mono rep_G_Command c2r0_commands_f (l3.trans (l4.trans (l5.trans (l6.trans (l7.trans (l8.trans (l9.trans l10)))))))
   replace c3r0_commands_f := Els.mono rep_G_Command c3r0_commands_f (l8.trans (l9.trans l10))
   obtain ⟨y5, hy5, h⟩ := bind_some h
   refine qo 27 hK (s_call hK.at_ hS ent16_7 rfl rfl rfl rfl (G.graftref05_Same_spec c2r0_commands_f c3r0_commands_f hy5) (by kernel_rfl) ?_)
   clear hK fr hS; rintro _ m11 _ l11 hS ⟨rfl, rfl⟩ fr hK
   replace hS : St _ m m11 [.box b3 (G_Delta_cells y3.1 (adr c3r0_commands_g) c3r0_commands_c) 27, rowOf 50 5 c3r0_commands_g c3r0_commands_c y3.1.commands, .box b2 #[.int .i64 y2.2.code, .int .i64 y2.2.at_] 30, .box b1 (G_Delta_cells y2.1 (adr c2r0_commands_g) c2r0_commands_c) 27, rowOf 50 5 c2r0_commands_g c2r0_commands_c y2.1.commands] := hS
   refine qp 28 (.bool y5) hK fun fr hK => ?_
   refine qp 29 (.bool y5) hK fun fr hK => ?_
   refine split_b (x := y5) (fun hb3 => ?_) (fun hb3 => ?_)
   ·
    replace hK := hK.more (t := 29) (v' := .bool true) rfl (by rw [hb3])
    replace hK := hK.more (t := 28) (v' := .bool true) rfl (by rw [hb3])
    replace hK := hK.more (t := 27) (v' := .bool true) rfl (by rw [hb3])
    replace h := ite_t (hb3) h
    refine qp 30 (.pointer (some ⟨b2, 0, none⟩)) hK fun fr hK => ?_
    refine qo 31 hK (s_load hK.at_ hS 2 rfl rfl rfl rfl (by kernel_rfl) ?_)
    clear hK fr; intro fr hK
    refine qp 32 (.int .i64 y3.2.1) hK fun fr hK => ?_
    refine qp 33 (.bool (y2.2.code == y3.2.1)) hK fun fr hK => ?_
    refine qp 34 (.bool (y2.2.code == y3.2.1)) hK fun fr hK => ?_
    refine qp 35 (.bool (y2.2.code == y3.2.1)) hK fun fr hK => ?_
    refine split_b (x := (y2.2.code == y3.2.1)) (fun hb4 => ?_) (fun hb4 => ?_)
    ·
     replace hK := hK.more (t := 35) (v' := .bool true) rfl (by rw [hb4])
     replace hK := hK.more (t := 34) (v' := .bool true) rfl (by rw [hb4])
     replace hK := hK.more (t := 33) (v' := .bool true) rfl (by rw [hb4])
     replace h := ite_t (eq_of_beq hb4) h
     refine qp 36 (.pointer (some ⟨b2, 1, none⟩)) hK fun fr hK => ?_
     refine qo 37 hK (s_load hK.at_ hS 2 rfl rfl rfl rfl (by kernel_rfl) ?_)
     clear hK fr; intro fr hK
     refine qp 38 (.int .i64 y3.2.2) hK fun fr hK => ?_
     refine qp 39 (.bool (y2.2.at_ == y3.2.2)) hK fun fr hK => ?_
     refine qp 40 (.bool (y2.2.at_ == y3.2.2)) hK fun fr hK => ?_
     refine qp 2 (.bool (y2.2.at_ == y3.2.2)) hK fun fr hK => ?_
     refine wpList_nil (then_n ?_)
     refine wp_ret ?_
     replace h := Option.some.inj h; subst h
     refine ret_of [.tmp 2] [.bool (y2.2.at_ == y3.2.2)] rfl hK (.tmp rfl .nil) hS.dropAll ?_
     exact ⟨rfl, rfl⟩
    ·
     replace hK := hK.more (t := 35) (v' := .bool false) rfl (by rw [hb4])
     replace hK := hK.more (t := 34) (v' := .bool false) rfl (by rw [hb4])
     replace hK := hK.more (t := 33) (v' := .bool false) rfl (by rw [hb4])
     replace h := ite_f (ne_of_beq_false hb4) h
     refine qs 36 hK ?_
     clear hK fr; intro fr hK
     refine qs 37 hK ?_
     clear hK fr; intro fr hK
     refine qs 38 hK ?_
     clear hK fr; intro fr hK
     refine qs 39 hK ?_
     clear hK fr; intro fr hK
     refine qp 40 (.bool false) hK fun fr hK => ?_
     refine qp 2 (.bool false) hK fun fr hK => ?_
     refine wpList_nil (then_n ?_)
     refine wp_ret ?_
     replace h := Option.some.inj h; subst h
     refine ret_of [.tmp 2] [.bool false] rfl hK (.tmp rfl .nil) hS.dropAll ?_
     exact ⟨rfl, rfl⟩
   ·
    replace hK := hK.more (t := 29) (v' := .bool false) rfl (by rw [hb3])
    replace hK := hK.more (t := 28) (v' := .bool false) rfl (by rw [hb3])
    replace hK := hK.more (t := 27) (v' := .bool false) rfl (by rw [hb3])
    replace h := ite_f (ne_true_of_eq_false hb3) h
    refine qs 30 hK ?_
    clear hK fr; intro fr hK
    refine qs 31 hK ?_
    clear hK fr; intro fr hK
    refine qs 32 hK ?_
    clear hK fr; intro fr hK
    refine qs 33 hK ?_
    clear hK fr; intro fr hK
    refine qp 34 (.bool false) hK fun fr hK => ?_
    refine qp 35 (.bool false) hK fun fr hK => ?_
    refine qs 36 hK ?_
    clear hK fr; intro fr hK
    refine qs 37 hK ?_
    clear hK fr; intro fr hK
    refine qs 38 hK ?_
    clear hK fr; intro fr hK
    refine qs 39 hK ?_
    clear hK fr; intro fr hK
    refine qp 40 (.bool false) hK fun fr hK => ?_
    refine qp 2 (.bool false) hK fun fr hK => ?_
    refine wpList_nil (then_n ?_)
    refine wp_ret ?_
    replace h := Option.some.inj h; subst h
    refine ret_of [.tmp 2] [.bool false] rfl hK (.tmp rfl .nil) hS.dropAll ?_
    exact ⟨rfl, rfl⟩
  ·
   replace hK := hK.more (t := 24) (v' := .bool false) rfl (by rw [hb2])
   replace hK := hK.more (t := 23) (v' := .bool false) rfl (by rw [hb2])
   replace h := ite_f (ne_true_of_eq_false hb2) h
   refine qs 25 hK ?_
   clear hK fr; intro fr hK
   refine qs 26 hK ?_
   clear hK fr; intro fr hK
   refine qs 27 hK ?_
   clear hK fr; intro fr hK
   refine qp 28 (.bool false) hK fun fr hK => ?_
   refine qp 29 (.bool false) hK fun fr hK => ?_
   refine qs 30 hK ?_
   clear hK fr; intro fr hK
   refine qs 31 hK ?_
   clear hK fr; intro fr hK
   refine qs 32 hK ?_
   clear hK fr; intro fr hK
   refine qs 33 hK ?_
   clear hK fr; intro fr hK
   refine qp 34 (.bool false) hK fun fr hK => ?_
   refine qp 35 (.bool false) hK fun fr hK => ?_
   refine qs 36 hK ?_
   clear hK fr; intro fr hK
   refine qs 37 hK ?_
   clear hK fr; intro fr hK
   refine qs 38 hK ?_
   clear hK fr; intro fr hK
   refine qs 39 hK ?_
   clear hK fr; intro fr hK
   refine qp 40 (.bool false) hK fun fr hK => ?_
   refine qp 2 (.bool false) hK fun fr hK => ?_
   refine wpList_nil (then_n ?_)
   refine wp_ret ?_
   replace h := Option.some.inj h; subst h
   refine ret_of [.tmp 2] [.bool false] rfl hK (.tmp rfl .nil) hS.dropAll ?_
   exact ⟨rfl, rfl⟩
end Go.Proofs.Ytkalbidbhaalmaa
