/- The program computes the plain functions: format_Decode, graftref04_Same, graftref04_All, graftref05_Same, format_Size, graftlaw07_alive. Printed by a program. -/
import Derived.Test.YtkalbidbhaalmaaProg
import Derived.Test.YtkalbidbhaalmaaGs
import Derived.Test.YtkalbidbhaalmaaRep
import Derived.Test.YtkalbidbhaalmaaL0
import Derived.Test.YtkalbidbhaalmaaL1
namespace Go.Proofs.Ytkalbidbhaalmaa
open Go.RowKit G
theorem ent14_2 : Enters Try.prog 14 := enters_of Try.func14 (by decide +kernel) (by decide +kernel)
theorem ent16_2 : Enters Try.prog 16 := enters_of Try.func16 (by decide +kernel) (by decide +kernel)
theorem ent19_2 : Enters Try.prog 19 := enters_of Try.func19 (by decide +kernel) (by decide +kernel)
theorem ent21_2 : Enters Try.prog 21 := enters_of Try.func21 (by decide +kernel) (by decide +kernel)
theorem ent36_2 : Enters Try.prog 36 := enters_of Try.func36 (by decide +kernel) (by decide +kernel)
theorem ent37_2 : Enters Try.prog 37 := enters_of Try.func37 (by decide +kernel) (by decide +kernel)
theorem ent38_2 : Enters Try.prog 38 := enters_of Try.func38 (by decide +kernel) (by decide +kernel)
theorem ent39_2 : Enters Try.prog 39 := enters_of Try.func39 (by decide +kernel) (by decide +kernel)
theorem ent40_2 : Enters Try.prog 40 := enters_of Try.func40 (by decide +kernel) (by decide +kernel)
theorem ent41_2 : Enters Try.prog 41 := enters_of Try.func41 (by decide +kernel) (by decide +kernel)
theorem ent42_2 : Enters Try.prog 42 := enters_of Try.func42 (by decide +kernel) (by decide +kernel)
theorem ent43_2 : Enters Try.prog 43 := enters_of Try.func43 (by decide +kernel) (by decide +kernel)
theorem ent44_2 : Enters Try.prog 44 := enters_of Try.func44 (by decide +kernel) (by decide +kernel)
theorem ent45_2 : Enters Try.prog 45 := enters_of Try.func45 (by decide +kernel) (by decide +kernel)
theorem ent46_2 : Enters Try.prog 46 := enters_of Try.func46 (by decide +kernel) (by decide +kernel)
theorem ent47_2 : Enters Try.prog 47 := enters_of Try.func47 (by decide +kernel) (by decide +kernel)
theorem ent55_2 : Enters Try.prog 55 := enters_of Try.func55 (by decide +kernel) (by decide +kernel)
theorem ent74_2 : Enters Try.prog 74 := enters_of Try.func74 (by decide +kernel) (by decide +kernel)
theorem elT25_2 : ElemT Try.prog 25 50 (.agg #[.int .i64 0, .int .i64 0, .int .i64 0, .int .i64 0, .slice none 0 0]) 5 56 := ⟨by kernel_rfl, by kernel_rfl, by kernel_rfl, by decide⟩
theorem eqH24_2 (f g : Nat → UInt8) (w : World) : (binOp .eql 24 (.agg #[.int .u8 ((f 0).toNat), .int .u8 ((f 1).toNat), .int .u8 ((f 2).toNat), .int .u8 ((f 3).toNat), .int .u8 ((f 4).toNat), .int .u8 ((f 5).toNat), .int .u8 ((f 6).toNat), .int .u8 ((f 7).toNat), .int .u8 ((f 8).toNat), .int .u8 ((f 9).toNat), .int .u8 ((f 10).toNat), .int .u8 ((f 11).toNat), .int .u8 ((f 12).toNat), .int .u8 ((f 13).toNat), .int .u8 ((f 14).toNat), .int .u8 ((f 15).toNat), .int .u8 ((f 16).toNat), .int .u8 ((f 17).toNat), .int .u8 ((f 18).toNat), .int .u8 ((f 19).toNat), .int .u8 ((f 20).toNat), .int .u8 ((f 21).toNat), .int .u8 ((f 22).toNat), .int .u8 ((f 23).toNat), .int .u8 ((f 24).toNat), .int .u8 ((f 25).toNat), .int .u8 ((f 26).toNat), .int .u8 ((f 27).toNat), .int .u8 ((f 28).toNat), .int .u8 ((f 29).toNat), .int .u8 ((f 30).toNat), .int .u8 ((f 31).toNat)]) (.agg #[.int .u8 ((g 0).toNat), .int .u8 ((g 1).toNat), .int .u8 ((g 2).toNat), .int .u8 ((g 3).toNat), .int .u8 ((g 4).toNat), .int .u8 ((g 5).toNat), .int .u8 ((g 6).toNat), .int .u8 ((g 7).toNat), .int .u8 ((g 8).toNat), .int .u8 ((g 9).toNat), .int .u8 ((g 10).toNat), .int .u8 ((g 11).toNat), .int .u8 ((g 12).toNat), .int .u8 ((g 13).toNat), .int .u8 ((g 14).toNat), .int .u8 ((g 15).toNat), .int .u8 ((g 16).toNat), .int .u8 ((g 17).toNat), .int .u8 ((g 18).toNat), .int .u8 ((g 19).toNat), .int .u8 ((g 20).toNat), .int .u8 ((g 21).toNat), .int .u8 ((g 22).toNat), .int .u8 ((g 23).toNat), .int .u8 ((g 24).toNat), .int .u8 ((g 25).toNat), .int .u8 ((g 26).toNat), .int .u8 ((g 27).toNat), .int .u8 ((g 28).toNat), .int .u8 ((g 29).toNat), .int .u8 ((g 30).toNat), .int .u8 ((g 31).toNat)])).run Try.prog w = .ok (.bool (hashEq f g)) w := by
  have h1 : ∀ f : Nat → UInt8, (#[.int .u8 ((f 0).toNat), .int .u8 ((f 1).toNat), .int .u8 ((f 2).toNat), .int .u8 ((f 3).toNat), .int .u8 ((f 4).toNat), .int .u8 ((f 5).toNat), .int .u8 ((f 6).toNat), .int .u8 ((f 7).toNat), .int .u8 ((f 8).toNat), .int .u8 ((f 9).toNat), .int .u8 ((f 10).toNat), .int .u8 ((f 11).toNat), .int .u8 ((f 12).toNat), .int .u8 ((f 13).toNat), .int .u8 ((f 14).toNat), .int .u8 ((f 15).toNat), .int .u8 ((f 16).toNat), .int .u8 ((f 17).toNat), .int .u8 ((f 18).toNat), .int .u8 ((f 19).toNat), .int .u8 ((f 20).toNat), .int .u8 ((f 21).toNat), .int .u8 ((f 22).toNat), .int .u8 ((f 23).toNat), .int .u8 ((f 24).toNat), .int .u8 ((f 25).toNat), .int .u8 ((f 26).toNat), .int .u8 ((f 27).toNat), .int .u8 ((f 28).toNat), .int .u8 ((f 29).toNat), .int .u8 ((f 30).toNat), .int .u8 ((f 31).toNat)] : Array Value) = hcells f := fun f => by kernel_rfl
  rw [h1 f, h1 g]; exact run_eqHash Try.underlying24 Try.underlying5 (by kernel_rfl) f g
theorem eqH24n_2 (f g : Nat → UInt8) (w : World) : (binOp .neq 24 (.agg #[.int .u8 ((f 0).toNat), .int .u8 ((f 1).toNat), .int .u8 ((f 2).toNat), .int .u8 ((f 3).toNat), .int .u8 ((f 4).toNat), .int .u8 ((f 5).toNat), .int .u8 ((f 6).toNat), .int .u8 ((f 7).toNat), .int .u8 ((f 8).toNat), .int .u8 ((f 9).toNat), .int .u8 ((f 10).toNat), .int .u8 ((f 11).toNat), .int .u8 ((f 12).toNat), .int .u8 ((f 13).toNat), .int .u8 ((f 14).toNat), .int .u8 ((f 15).toNat), .int .u8 ((f 16).toNat), .int .u8 ((f 17).toNat), .int .u8 ((f 18).toNat), .int .u8 ((f 19).toNat), .int .u8 ((f 20).toNat), .int .u8 ((f 21).toNat), .int .u8 ((f 22).toNat), .int .u8 ((f 23).toNat), .int .u8 ((f 24).toNat), .int .u8 ((f 25).toNat), .int .u8 ((f 26).toNat), .int .u8 ((f 27).toNat), .int .u8 ((f 28).toNat), .int .u8 ((f 29).toNat), .int .u8 ((f 30).toNat), .int .u8 ((f 31).toNat)]) (.agg #[.int .u8 ((g 0).toNat), .int .u8 ((g 1).toNat), .int .u8 ((g 2).toNat), .int .u8 ((g 3).toNat), .int .u8 ((g 4).toNat), .int .u8 ((g 5).toNat), .int .u8 ((g 6).toNat), .int .u8 ((g 7).toNat), .int .u8 ((g 8).toNat), .int .u8 ((g 9).toNat), .int .u8 ((g 10).toNat), .int .u8 ((g 11).toNat), .int .u8 ((g 12).toNat), .int .u8 ((g 13).toNat), .int .u8 ((g 14).toNat), .int .u8 ((g 15).toNat), .int .u8 ((g 16).toNat), .int .u8 ((g 17).toNat), .int .u8 ((g 18).toNat), .int .u8 ((g 19).toNat), .int .u8 ((g 20).toNat), .int .u8 ((g 21).toNat), .int .u8 ((g 22).toNat), .int .u8 ((g 23).toNat), .int .u8 ((g 24).toNat), .int .u8 ((g 25).toNat), .int .u8 ((g 26).toNat), .int .u8 ((g 27).toNat), .int .u8 ((g 28).toNat), .int .u8 ((g 29).toNat), .int .u8 ((g 30).toNat), .int .u8 ((g 31).toNat)])).run Try.prog w = .ok (.bool (!hashEq f g)) w := by
  have h1 : ∀ f : Nat → UInt8, (#[.int .u8 ((f 0).toNat), .int .u8 ((f 1).toNat), .int .u8 ((f 2).toNat), .int .u8 ((f 3).toNat), .int .u8 ((f 4).toNat), .int .u8 ((f 5).toNat), .int .u8 ((f 6).toNat), .int .u8 ((f 7).toNat), .int .u8 ((f 8).toNat), .int .u8 ((f 9).toNat), .int .u8 ((f 10).toNat), .int .u8 ((f 11).toNat), .int .u8 ((f 12).toNat), .int .u8 ((f 13).toNat), .int .u8 ((f 14).toNat), .int .u8 ((f 15).toNat), .int .u8 ((f 16).toNat), .int .u8 ((f 17).toNat), .int .u8 ((f 18).toNat), .int .u8 ((f 19).toNat), .int .u8 ((f 20).toNat), .int .u8 ((f 21).toNat), .int .u8 ((f 22).toNat), .int .u8 ((f 23).toNat), .int .u8 ((f 24).toNat), .int .u8 ((f 25).toNat), .int .u8 ((f 26).toNat), .int .u8 ((f 27).toNat), .int .u8 ((f 28).toNat), .int .u8 ((f 29).toNat), .int .u8 ((f 30).toNat), .int .u8 ((f 31).toNat)] : Array Value) = hcells f := fun f => by kernel_rfl
  rw [h1 f, h1 g]; exact run_neHash Try.underlying24 Try.underlying5 (by kernel_rfl) f g
theorem eqT30_2 (x0 x1 y0 y1 : Int) (w : World) : (binOp .eql 30 (.agg #[.int .i64 x0, .int .i64 x1]) (.agg #[.int .i64 y0, .int .i64 y1])).run Try.prog w = .ok (.bool (decide (x0 = y0 ∧ x1 = y1))) w := by
  simp [go_sem]; repeat' split
  all_goals simp_all
theorem eqT30n_2 (x0 x1 y0 y1 : Int) (w : World) : (binOp .neq 30 (.agg #[.int .i64 x0, .int .i64 x1]) (.agg #[.int .i64 y0, .int .i64 y1])).run Try.prog w = .ok (.bool (!decide (x0 = y0 ∧ x1 = y1))) w := by
  simp [go_sem]; repeat' split
  all_goals simp_all
set_option maxRecDepth 100000 in
set_option maxHeartbeats 1000000 in
theorem G.format_Decode_spec {m : Mem} {a0 : List UInt8} {a0_a : Option Addr} {a0_c : Nat} (a0_f : Els isU8 m 1 a0_a a0_c a0) {r : G.Delta × G.Fault} (h : G.format_Decode a0 = some r) :
  Spec Try.prog 14 #[.slice a0_a a0.length a0_c] m [] fun v m' L => ∃ (r0_commands_g : Option Nat) (r0_commands_c : Nat), L = [rowOf 50 5 r0_commands_g r0_commands_c r.1.commands] ∧ v = .tuple #[.agg (G_Delta_cells r.1 (adr r0_commands_g) r0_commands_c), .agg #[.int .i64 r.2.code, .int .i64 r.2.at_]] ∧ Els is_G_Command m' 5 (adr r0_commands_g) r0_commands_c r.1.commands := by
 unfold G.format_Decode at h
 refine enter (args := [_]) 72 Try.func14 rfl rfl (by simp) fun fr hK => ?_
 have hS := St.refl (Ow.nil m)
 replace hK : Kn 72 fr [(0, .slice a0_a a0.length a0_c)] := hK
 refine w_seq (w_region ?_)
 refine qo 2 hK (s_alloc (.agg #[.int .i64 0, .int .i64 0, .int .u8 0, .int .u8 0, .int .u8 0, .int .u8 0, .int .u8 0, .int .u8 0, .int .u8 0, .int .u8 0, .int .u8 0, .int .u8 0, .int .u8 0, .int .u8 0, .int .u8 0, .int .u8 0, .int .u8 0, .int .u8 0, .int .u8 0, .int .u8 0, .int .u8 0, .int .u8 0, .int .u8 0, .int .u8 0, .int .u8 0, .int .u8 0, .int .u8 0, .int .u8 0, .int .u8 0, .int .u8 0, .int .u8 0, .int .u8 0, .int .u8 0, .int .u8 0, .int .u8 0, .int .u8 0, .int .u8 0, .int .u8 0, .int .u8 0, .int .u8 0, .int .u8 0, .int .u8 0, .int .u8 0, .int .u8 0, .int .u8 0, .int .u8 0, .int .u8 0, .int .u8 0, .int .u8 0, .int .u8 0, .int .u8 0, .int .u8 0, .int .u8 0, .int .u8 0, .int .u8 0, .int .u8 0, .int .u8 0, .int .u8 0, .int .u8 0, .int .u8 0, .int .u8 0, .int .u8 0, .int .u8 0, .int .u8 0, .int .u8 0, .int .u8 0, .slice none 0 0]) hK.at_ hS rfl (by kernel_rfl) ?_)
 clear hK fr hS; intro m1 b1 b1z l1 hS fr hK
 refine qo 3 hK (s_alloc (.agg #[.int .i64 0, .int .i64 0]) hK.at_ hS rfl (by kernel_rfl) ?_)
 clear hK fr hS; intro m2 b2 b2z l2 hS fr hK
 replace hS : St _ m m2 [.box b2 #[.int .i64 0, .int .i64 0] 30, .box b1 (G_Delta_cells (⟨0, 0, (fun _ => (0 : UInt8)), (fun _ => (0 : UInt8)), ([] : List G.Command)⟩ : G.Delta) none 0) 27] := hS
 refine wpList_nil (then_n ?_)
 refine w_seq (w_region ?_)
 refine qp 8 (.slice a0_a a0.length a0_c) hK fun fr hK => ?_
 replace a0_f := Els.mono rep_U8 a0_f (l1.trans l2)
 obtain ⟨y1, hy1, h⟩ := bind_some h
 refine qo 9 hK (s_call hK.at_ hS ent37_2 rfl rfl rfl rfl (G.wire_New_spec a0_f hy1) (by kernel_rfl) ?_)
 clear hK fr hS; rintro _ m3 _ l3 hS ⟨c1r0_b, c1r0_position_b_a, c1r0_position_b_c, rfl, rfl, c1r0_position_b_f⟩ fr hK
 refine qp 10 (.agg #[.pointer (some ⟨c1r0_b, 0, none⟩)]) hK fun fr hK => ?_
 refine qo 4 hK (s_alloc (.agg #[.pointer none]) hK.at_ hS rfl (by kernel_rfl) ?_)
 clear hK fr hS; intro m4 b3 b3z l4 hS fr hK
 refine qo0 hK (s_storeAll hK.at_ 0 hS rfl rfl rfl rfl (by kernel_rfl) (by kernel_rfl) (by kernel_rfl) ?_)
 clear hK fr hS; intro m5 l5 hS fr hK
 replace hS : St _ m m5 [.box b3 #[.pointer (some ⟨c1r0_b, 0, none⟩)] 61, .box c1r0_b #[.slice c1r0_position_b_a y1.position.b.length c1r0_position_b_c, .int .i64 y1.position.at_, .int .i64 y1.position.fault.code, .int .i64 y1.position.fault.at_] 110, .box b2 #[.int .i64 0, .int .i64 0] 30, .box b1 (G_Delta_cells (⟨0, 0, (fun _ => (0 : UInt8)), (fun _ => (0 : UInt8)), ([] : List G.Command)⟩ : G.Delta) none 0) 27] := hS
 refine wpList_nil (then_n ?_)
 refine w_seq (w_region ?_)
 refine qp 11 (.pointer (some ⟨b3, 0, none⟩)) hK fun fr hK => ?_
 refine qo 12 hK (s_load hK.at_ hS 0 rfl rfl rfl rfl (by kernel_rfl) ?_)
 clear hK fr; intro fr hK
 refine qo 13 hK (s_buildRow (elem := 5) #[.int .u8 71, .int .u8 82, .int .u8 70, .int .u8 84] hK.at_ hS rfl (by kernel_rfl) (by kernel_rfl) ?_)
 clear hK fr hS; intro m6 b4 l6 hS hA1 fr hK
 have f1 : Els isU8 m6 1 (some ⟨b4, 0, none⟩) 4 ([(71 : UInt8), (82 : UInt8), (70 : UInt8), (84 : UInt8)] : List UInt8) := els_lit rep_U8 [[.int .u8 71], [.int .u8 82], [.int .u8 70], [.int .u8 84]] hA1 (by simp) (by decide) (.cons rfl (.cons rfl (.cons rfl (.cons rfl .nil))))
 replace hS : St _ m m6 [rowOf 5 1 (some b4) 4 ([(71 : UInt8), (82 : UInt8), (70 : UInt8), (84 : UInt8)] : List UInt8), .box b3 #[.pointer (some ⟨c1r0_b, 0, none⟩)] 61, .box c1r0_b #[.slice c1r0_position_b_a y1.position.b.length c1r0_position_b_c, .int .i64 y1.position.at_, .int .i64 y1.position.fault.code, .int .i64 y1.position.fault.at_] 110, .box b2 #[.int .i64 0, .int .i64 0] 30, .box b1 (G_Delta_cells (⟨0, 0, (fun _ => (0 : UInt8)), (fun _ => (0 : UInt8)), ([] : List G.Command)⟩ : G.Delta) none 0) 27] := hS
 replace hK : Kn 72 fr [(13, .slice (adr (some b4)) (([(71 : UInt8), (82 : UInt8), (70 : UInt8), (84 : UInt8)] : List UInt8).length) 4), (12, .pointer (some ⟨c1r0_b, 0, none⟩)), (11, .pointer (some ⟨b3, 0, none⟩)), (4, .pointer (some ⟨b3, 0, none⟩)), (10, .agg #[.pointer (some ⟨c1r0_b, 0, none⟩)]), (9, .pointer (some ⟨c1r0_b, 0, none⟩)), (8, .slice a0_a a0.length a0_c), (3, .pointer (some ⟨b2, 0, none⟩)), (2, .pointer (some ⟨b1, 0, none⟩)), (0, .slice a0_a a0.length a0_c)] := hK.only [13, 12, 11, 4, 10, 9, 8, 3, 2, 0]
 refine qo 14 hK (s_stringishRow hK.at_ hS rfl rfl Try.underlying22 Try.underlying5 ?_)
 clear hK fr hS; intro m7 l7 hS fr hK
 replace hS : St _ m m7 [.box b3 #[.pointer (some ⟨c1r0_b, 0, none⟩)] 61, .box c1r0_b #[.slice c1r0_position_b_a y1.position.b.length c1r0_position_b_c, .int .i64 y1.position.at_, .int .i64 y1.position.fault.code, .int .i64 y1.position.fault.at_] 110, .box b2 #[.int .i64 0, .int .i64 0] 30, .box b1 (G_Delta_cells (⟨0, 0, (fun _ => (0 : UInt8)), (fun _ => (0 : UInt8)), ([] : List G.Command)⟩ : G.Delta) none 0) 27] := hS
 replace c1r0_position_b_f := Els.mono rep_U8 c1r0_position_b_f (l4.trans (l5.trans (l6.trans l7)))
 replace f1 := Els.mono rep_U8 f1 l7
 obtain ⟨y2, hy2, h⟩ := bind_some h
 replace hS := hS.front 1 rfl
 replace hS : St _ m m7 [.box c1r0_b #[.slice c1r0_position_b_a y1.position.b.length c1r0_position_b_c, .int .i64 y1.position.at_, .int .i64 y1.position.fault.code, .int .i64 y1.position.fault.at_] 110, .box b3 #[.pointer (some ⟨c1r0_b, 0, none⟩)] 61, .box b2 #[.int .i64 0, .int .i64 0] 30, .box b1 (G_Delta_cells (⟨0, 0, (fun _ => (0 : UInt8)), (fun _ => (0 : UInt8)), ([] : List G.Command)⟩ : G.Delta) none 0) 27] := hS
 refine qo 15 hK (s_callM (R := [.box c1r0_b #[.slice c1r0_position_b_a y1.position.b.length c1r0_position_b_c, .int .i64 y1.position.at_, .int .i64 y1.position.fault.code, .int .i64 y1.position.fault.at_] 110]) (L := [.box b3 #[.pointer (some ⟨c1r0_b, 0, none⟩)] 61, .box b2 #[.int .i64 0, .int .i64 0] 30, .box b1 (G_Delta_cells (⟨0, 0, (fun _ => (0 : UInt8)), (fun _ => (0 : UInt8)), ([] : List G.Command)⟩ : G.Delta) none 0) 27]) hK.at_ hS ent38_2 rfl rfl rfl rfl (G.wire_Reader_Expect_spec c1r0_position_b_f f1 hy2 (Ow.left (L := [.box c1r0_b #[.slice c1r0_position_b_a y1.position.b.length c1r0_position_b_c, .int .i64 y1.position.at_, .int .i64 y1.position.fault.code, .int .i64 y1.position.fault.at_] 110]) hS.ow)) (by kernel_rfl) ?_)
 clear hK fr hS; rintro _ m8 _ l8 hS ⟨rfl, rfl, c2re0⟩ fr hK
 replace hS : St _ m m8 [.box c1r0_b #[.slice c1r0_position_b_a y2.2.position.b.length c1r0_position_b_c, .int .i64 y2.2.position.at_, .int .i64 y2.2.position.fault.code, .int .i64 y2.2.position.fault.at_] 110, .box b3 #[.pointer (some ⟨c1r0_b, 0, none⟩)] 61, .box b2 #[.int .i64 0, .int .i64 0] 30, .box b1 (G_Delta_cells (⟨0, 0, (fun _ => (0 : UInt8)), (fun _ => (0 : UInt8)), ([] : List G.Command)⟩ : G.Delta) none 0) 27] := hS
 refine wpList_nil (then_n ?_)
 refine w_seq ?_
 refine w_seq (w_region ?_)
 refine qp 16 (.pointer (some ⟨b3, 0, none⟩)) hK fun fr hK => ?_
 refine qo 17 hK (s_load hK.at_ hS 1 rfl rfl rfl rfl (by kernel_rfl) ?_)
 clear hK fr; intro fr hK
 replace c1r0_position_b_f := Els.mono rep_U8 c1r0_position_b_f l8
 have f2 : Els isU8 m8 1 c1r0_position_b_a c1r0_position_b_c y2.2.position.b := Els.cast c2re0.symm c1r0_position_b_f
 obtain ⟨y3, hy3, h⟩ := bind_some h
 replace hS : St _ m m8 [.box c1r0_b #[.slice c1r0_position_b_a y2.2.position.b.length c1r0_position_b_c, .int .i64 y2.2.position.at_, .int .i64 y2.2.position.fault.code, .int .i64 y2.2.position.fault.at_] 110, .box b3 #[.pointer (some ⟨c1r0_b, 0, none⟩)] 61, .box b2 #[.int .i64 0, .int .i64 0] 30, .box b1 (G_Delta_cells (⟨0, 0, (fun _ => (0 : UInt8)), (fun _ => (0 : UInt8)), ([] : List G.Command)⟩ : G.Delta) none 0) 27] := hS
 refine qo 18 hK (s_callM (R := [.box c1r0_b #[.slice c1r0_position_b_a y2.2.position.b.length c1r0_position_b_c, .int .i64 y2.2.position.at_, .int .i64 y2.2.position.fault.code, .int .i64 y2.2.position.fault.at_] 110]) (L := [.box b3 #[.pointer (some ⟨c1r0_b, 0, none⟩)] 61, .box b2 #[.int .i64 0, .int .i64 0] 30, .box b1 (G_Delta_cells (⟨0, 0, (fun _ => (0 : UInt8)), (fun _ => (0 : UInt8)), ([] : List G.Command)⟩ : G.Delta) none 0) 27]) hK.at_ hS ent39_2 rfl rfl rfl rfl (G.wire_Reader_Uint_spec f2 hy3 (Ow.left (L := [.box c1r0_b #[.slice c1r0_position_b_a y2.2.position.b.length c1r0_position_b_c, .int .i64 y2.2.position.at_, .int .i64 y2.2.position.fault.code, .int .i64 y2.2.position.fault.at_] 110]) hS.ow)) (by kernel_rfl) ?_)
 clear hK fr hS; rintro _ m9 _ l9 hS ⟨rfl, rfl, c3re0⟩ fr hK
 replace hS : St _ m m9 [.box c1r0_b #[.slice c1r0_position_b_a y3.2.position.b.length c1r0_position_b_c, .int .i64 y3.2.position.at_, .int .i64 y3.2.position.fault.code, .int .i64 y3.2.position.fault.at_] 110, .box b3 #[.pointer (some ⟨c1r0_b, 0, none⟩)] 61, .box b2 #[.int .i64 0, .int .i64 0] 30, .box b1 (G_Delta_cells (⟨0, 0, (fun _ => (0 : UInt8)), (fun _ => (0 : UInt8)), ([] : List G.Command)⟩ : G.Delta) none 0) 27] := hS
 refine qp 5 (.int .u64 y3.1) hK fun fr hK => ?_
 refine wpList_nil (then_n ?_)
 refine w_seq (w_region ?_)
 refine qp 19 (.int .u64 y3.1) hK fun fr hK => ?_
 refine qp 20 (.bool (y3.1 != 1)) hK fun fr hK => ?_
 refine wpList_nil (then_n ?_)
 obtain ⟨v1, hv1, h⟩ := bind_some h
 refine w_join (fun fr ww => ∃ m10 : Mem, m10.w = ww ∧ Kn 72 fr [(2, .pointer (some ⟨b1, 0, none⟩)), (3, .pointer (some ⟨b2, 0, none⟩)), (4, .pointer (some ⟨b3, 0, none⟩))] ∧ Le m9 m10 ∧ St (blocksOf []) m m10 [.box c1r0_b #[.slice c1r0_position_b_a ((((v1).position).b).length) c1r0_position_b_c, .int .i64 (((v1).position).at_), .int .i64 ((((v1).position).fault).code), .int .i64 ((((v1).position).fault).at_)] 110, .box b3 #[.pointer (some ⟨c1r0_b, 0, none⟩)] 61, .box b2 #[.int .i64 0, .int .i64 0] 30, .box b1 (G_Delta_cells (⟨0, 0, (fun _ => (0 : UInt8)), (fun _ => (0 : UInt8)), ([] : List G.Command)⟩ : G.Delta) none 0) 27] ∧ ((v1).position).b = y1.position.b) ?_ ?_
 ·
  clear hK hS fr hv1
  rintro fr _ ⟨m10, rfl, hK, l10, hS, he1⟩
  refine then_n ?_
  refine w_seq ?_
  replace c1r0_position_b_f := Els.mono rep_U8 c1r0_position_b_f (l9.trans l10)
  replace f2 := Els.mono rep_U8 f2 (l9.trans l10)
  have f3 : Els isU8 m10 1 c1r0_position_b_a c1r0_position_b_c y3.2.position.b := Els.cast c3re0.symm f2
  have f4 : Els isU8 m10 1 c1r0_position_b_a c1r0_position_b_c (((v1).position).b) := Els.cast he1.symm c1r0_position_b_f
  obtain ⟨y4, hy4, h⟩ := bind_some h
  obtain ⟨y5, hy5, h⟩ := bind_some h
  obtain ⟨y6, hy6, h⟩ := bind_some h
  obtain ⟨y7, hy7, h⟩ := bind_some h
  have hm0 : ∀ p ∈ ([(fun _ A _ => A = [.box c1r0_b #[.slice c1r0_position_b_a ((((v1).position).b).length) c1r0_position_b_c, .int .i64 (((v1).position).at_), .int .i64 ((((v1).position).fault).code), .int .i64 ((((v1).position).fault).at_)] 110]), (fun l A M => l[0]? = some (.int .i64 y4.1) ∧ A = [.box c1r0_b #[.slice c1r0_position_b_a y4.2.position.b.length c1r0_position_b_c, .int .i64 y4.2.position.at_, .int .i64 y4.2.position.fault.code, .int .i64 y4.2.position.fault.at_] 110] ∧ y4.2.position.b = ((v1).position).b), (fun l A M => l[0]? = some (.int .i64 y4.1) ∧ l[1]? = some (.int .i64 y5.1) ∧ A = [.box c1r0_b #[.slice c1r0_position_b_a y5.2.position.b.length c1r0_position_b_c, .int .i64 y5.2.position.at_, .int .i64 y5.2.position.fault.code, .int .i64 y5.2.position.fault.at_] 110] ∧ y4.2.position.b = ((v1).position).b ∧ y5.2.position.b = y4.2.position.b), (fun l A M => l[0]? = some (.int .i64 y4.1) ∧ l[1]? = some (.int .i64 y5.1) ∧ l[2]? = some (.agg #[.int .u8 ((y6.1 0).toNat : Int), .int .u8 ((y6.1 1).toNat : Int), .int .u8 ((y6.1 2).toNat : Int), .int .u8 ((y6.1 3).toNat : Int), .int .u8 ((y6.1 4).toNat : Int), .int .u8 ((y6.1 5).toNat : Int), .int .u8 ((y6.1 6).toNat : Int), .int .u8 ((y6.1 7).toNat : Int), .int .u8 ((y6.1 8).toNat : Int), .int .u8 ((y6.1 9).toNat : Int), .int .u8 ((y6.1 10).toNat : Int), .int .u8 ((y6.1 11).toNat : Int), .int .u8 ((y6.1 12).toNat : Int), .int .u8 ((y6.1 13).toNat : Int), .int .u8 ((y6.1 14).toNat : Int), .int .u8 ((y6.1 15).toNat : Int), .int .u8 ((y6.1 16).toNat : Int), .int .u8 ((y6.1 17).toNat : Int), .int .u8 ((y6.1 18).toNat : Int), .int .u8 ((y6.1 19).toNat : Int), .int .u8 ((y6.1 20).toNat : Int), .int .u8 ((y6.1 21).toNat : Int), .int .u8 ((y6.1 22).toNat : Int), .int .u8 ((y6.1 23).toNat : Int), .int .u8 ((y6.1 24).toNat : Int), .int .u8 ((y6.1 25).toNat : Int), .int .u8 ((y6.1 26).toNat : Int), .int .u8 ((y6.1 27).toNat : Int), .int .u8 ((y6.1 28).toNat : Int), .int .u8 ((y6.1 29).toNat : Int), .int .u8 ((y6.1 30).toNat : Int), .int .u8 ((y6.1 31).toNat : Int)]) ∧ A = [.box c1r0_b #[.slice c1r0_position_b_a y6.2.position.b.length c1r0_position_b_c, .int .i64 y6.2.position.at_, .int .i64 y6.2.position.fault.code, .int .i64 y6.2.position.fault.at_] 110] ∧ y4.2.position.b = ((v1).position).b ∧ y5.2.position.b = y4.2.position.b ∧ y6.2.position.b = y5.2.position.b), (fun l A M => l[0]? = some (.int .i64 y4.1) ∧ l[1]? = some (.int .i64 y5.1) ∧ l[2]? = some (.agg #[.int .u8 ((y6.1 0).toNat : Int), .int .u8 ((y6.1 1).toNat : Int), .int .u8 ((y6.1 2).toNat : Int), .int .u8 ((y6.1 3).toNat : Int), .int .u8 ((y6.1 4).toNat : Int), .int .u8 ((y6.1 5).toNat : Int), .int .u8 ((y6.1 6).toNat : Int), .int .u8 ((y6.1 7).toNat : Int), .int .u8 ((y6.1 8).toNat : Int), .int .u8 ((y6.1 9).toNat : Int), .int .u8 ((y6.1 10).toNat : Int), .int .u8 ((y6.1 11).toNat : Int), .int .u8 ((y6.1 12).toNat : Int), .int .u8 ((y6.1 13).toNat : Int), .int .u8 ((y6.1 14).toNat : Int), .int .u8 ((y6.1 15).toNat : Int), .int .u8 ((y6.1 16).toNat : Int), .int .u8 ((y6.1 17).toNat : Int), .int .u8 ((y6.1 18).toNat : Int), .int .u8 ((y6.1 19).toNat : Int), .int .u8 ((y6.1 20).toNat : Int), .int .u8 ((y6.1 21).toNat : Int), .int .u8 ((y6.1 22).toNat : Int), .int .u8 ((y6.1 23).toNat : Int), .int .u8 ((y6.1 24).toNat : Int), .int .u8 ((y6.1 25).toNat : Int), .int .u8 ((y6.1 26).toNat : Int), .int .u8 ((y6.1 27).toNat : Int), .int .u8 ((y6.1 28).toNat : Int), .int .u8 ((y6.1 29).toNat : Int), .int .u8 ((y6.1 30).toNat : Int), .int .u8 ((y6.1 31).toNat : Int)]) ∧ l[3]? = some (.agg #[.int .u8 ((y7.1 0).toNat : Int), .int .u8 ((y7.1 1).toNat : Int), .int .u8 ((y7.1 2).toNat : Int), .int .u8 ((y7.1 3).toNat : Int), .int .u8 ((y7.1 4).toNat : Int), .int .u8 ((y7.1 5).toNat : Int), .int .u8 ((y7.1 6).toNat : Int), .int .u8 ((y7.1 7).toNat : Int), .int .u8 ((y7.1 8).toNat : Int), .int .u8 ((y7.1 9).toNat : Int), .int .u8 ((y7.1 10).toNat : Int), .int .u8 ((y7.1 11).toNat : Int), .int .u8 ((y7.1 12).toNat : Int), .int .u8 ((y7.1 13).toNat : Int), .int .u8 ((y7.1 14).toNat : Int), .int .u8 ((y7.1 15).toNat : Int), .int .u8 ((y7.1 16).toNat : Int), .int .u8 ((y7.1 17).toNat : Int), .int .u8 ((y7.1 18).toNat : Int), .int .u8 ((y7.1 19).toNat : Int), .int .u8 ((y7.1 20).toNat : Int), .int .u8 ((y7.1 21).toNat : Int), .int .u8 ((y7.1 22).toNat : Int), .int .u8 ((y7.1 23).toNat : Int), .int .u8 ((y7.1 24).toNat : Int), .int .u8 ((y7.1 25).toNat : Int), .int .u8 ((y7.1 26).toNat : Int), .int .u8 ((y7.1 27).toNat : Int), .int .u8 ((y7.1 28).toNat : Int), .int .u8 ((y7.1 29).toNat : Int), .int .u8 ((y7.1 30).toNat : Int), .int .u8 ((y7.1 31).toNat : Int)]) ∧ A = [.box c1r0_b #[.slice c1r0_position_b_a y7.2.position.b.length c1r0_position_b_c, .int .i64 y7.2.position.at_, .int .i64 y7.2.position.fault.code, .int .i64 y7.2.position.fault.at_] 110] ∧ y4.2.position.b = ((v1).position).b ∧ y5.2.position.b = y4.2.position.b ∧ y6.2.position.b = y5.2.position.b ∧ y7.2.position.b = y6.2.position.b)] : List D.Stage), D.MonoP p := D.allP_cons (fun _ _ _ _ h _ => h) (D.allP_cons (fun _ _ _ _ ⟨el0, eA, eq0⟩ hl => ⟨el0, eA, eq0⟩) (D.allP_cons (fun _ _ _ _ ⟨el0, el1, eA, eq0, eq1⟩ hl => ⟨el0, el1, eA, eq0, eq1⟩) (D.allP_cons (fun _ _ _ _ ⟨el0, el1, el2, eA, eq0, eq1, eq2⟩ hl => ⟨el0, el1, el2, eA, eq0, eq1, eq2⟩) (D.allP_cons (fun _ _ _ _ ⟨el0, el1, el2, el3, eA, eq0, eq1, eq2, eq3⟩ hl => ⟨el0, el1, el2, el3, eA, eq0, eq1, eq2, eq3⟩) (D.allP_nil)))))
  have hm1 : ∀ p ∈ ([(fun _ A _ => A = []), (fun l A M => ∃ (b5 : Nat), l[0]? = some (.pointer (some ⟨b5, 0, none⟩)) ∧ A = [.box b5 (G_Delta_cells (⟨0, 0, (fun _ => (0 : UInt8)), (fun _ => (0 : UInt8)), ([] : List G.Command)⟩ : G.Delta) none 0) 27])] : List D.Stage), D.MonoP p := D.allP_cons (fun _ _ _ _ h _ => h) (D.allP_cons (fun _ _ _ _ ⟨b5, el0, eA⟩ hl => ⟨b5, el0, eA⟩) (D.allP_nil))
  have hCm := D.C2_mono [.box b3 #[.pointer (some ⟨c1r0_b, 0, none⟩)] 61, .box b2 #[.int .i64 0, .int .i64 0] 30, .box b1 (G_Delta_cells (⟨0, 0, (fun _ => (0 : UInt8)), (fun _ => (0 : UInt8)), ([] : List G.Command)⟩ : G.Delta) none 0) 27] hm0 hm1
  refine D.wp_drawM (m0 := m10) 12 [[2, 5, 7, 9], [11]] [([(4, none)], [(0, 0), (0, 1)], none), ([(24, some 0)], [(0, 0), (0, 1)], none), ([(25, some 0)], [(0, 0), (0, 1)], some 0), ([(4, none)], [(0, 1), (0, 1)], none), ([(27, some 0)], [(0, 1), (0, 1)], none), ([(28, some 0)], [(1, 1), (0, 1)], some 0), ([(4, none)], [(0, 2), (0, 1)], none), ([(30, some 0)], [(2, 2), (0, 1)], some 0), ([(4, none)], [(0, 3), (0, 1)], none), ([(32, some 0)], [(3, 3), (0, 1)], some 0), ([(26, some 7), (29, some 4), (31, some 2), (33, some 0)], [(4, 4), (0, 1)], none), ([], [(0, 4), (0, 0)], some 1)] (D.SM m10 m (blocksOf []) (D.C2 [(fun _ A _ => A = [.box c1r0_b #[.slice c1r0_position_b_a ((((v1).position).b).length) c1r0_position_b_c, .int .i64 (((v1).position).at_), .int .i64 ((((v1).position).fault).code), .int .i64 ((((v1).position).fault).at_)] 110]), (fun l A M => l[0]? = some (.int .i64 y4.1) ∧ A = [.box c1r0_b #[.slice c1r0_position_b_a y4.2.position.b.length c1r0_position_b_c, .int .i64 y4.2.position.at_, .int .i64 y4.2.position.fault.code, .int .i64 y4.2.position.fault.at_] 110] ∧ y4.2.position.b = ((v1).position).b), (fun l A M => l[0]? = some (.int .i64 y4.1) ∧ l[1]? = some (.int .i64 y5.1) ∧ A = [.box c1r0_b #[.slice c1r0_position_b_a y5.2.position.b.length c1r0_position_b_c, .int .i64 y5.2.position.at_, .int .i64 y5.2.position.fault.code, .int .i64 y5.2.position.fault.at_] 110] ∧ y4.2.position.b = ((v1).position).b ∧ y5.2.position.b = y4.2.position.b), (fun l A M => l[0]? = some (.int .i64 y4.1) ∧ l[1]? = some (.int .i64 y5.1) ∧ l[2]? = some (.agg #[.int .u8 ((y6.1 0).toNat : Int), .int .u8 ((y6.1 1).toNat : Int), .int .u8 ((y6.1 2).toNat : Int), .int .u8 ((y6.1 3).toNat : Int), .int .u8 ((y6.1 4).toNat : Int), .int .u8 ((y6.1 5).toNat : Int), .int .u8 ((y6.1 6).toNat : Int), .int .u8 ((y6.1 7).toNat : Int), .int .u8 ((y6.1 8).toNat : Int), .int .u8 ((y6.1 9).toNat : Int), .int .u8 ((y6.1 10).toNat : Int), .int .u8 ((y6.1 11).toNat : Int), .int .u8 ((y6.1 12).toNat : Int), .int .u8 ((y6.1 13).toNat : Int), .int .u8 ((y6.1 14).toNat : Int), .int .u8 ((y6.1 15).toNat : Int), .int .u8 ((y6.1 16).toNat : Int), .int .u8 ((y6.1 17).toNat : Int), .int .u8 ((y6.1 18).toNat : Int), .int .u8 ((y6.1 19).toNat : Int), .int .u8 ((y6.1 20).toNat : Int), .int .u8 ((y6.1 21).toNat : Int), .int .u8 ((y6.1 22).toNat : Int), .int .u8 ((y6.1 23).toNat : Int), .int .u8 ((y6.1 24).toNat : Int), .int .u8 ((y6.1 25).toNat : Int), .int .u8 ((y6.1 26).toNat : Int), .int .u8 ((y6.1 27).toNat : Int), .int .u8 ((y6.1 28).toNat : Int), .int .u8 ((y6.1 29).toNat : Int), .int .u8 ((y6.1 30).toNat : Int), .int .u8 ((y6.1 31).toNat : Int)]) ∧ A = [.box c1r0_b #[.slice c1r0_position_b_a y6.2.position.b.length c1r0_position_b_c, .int .i64 y6.2.position.at_, .int .i64 y6.2.position.fault.code, .int .i64 y6.2.position.fault.at_] 110] ∧ y4.2.position.b = ((v1).position).b ∧ y5.2.position.b = y4.2.position.b ∧ y6.2.position.b = y5.2.position.b), (fun l A M => l[0]? = some (.int .i64 y4.1) ∧ l[1]? = some (.int .i64 y5.1) ∧ l[2]? = some (.agg #[.int .u8 ((y6.1 0).toNat : Int), .int .u8 ((y6.1 1).toNat : Int), .int .u8 ((y6.1 2).toNat : Int), .int .u8 ((y6.1 3).toNat : Int), .int .u8 ((y6.1 4).toNat : Int), .int .u8 ((y6.1 5).toNat : Int), .int .u8 ((y6.1 6).toNat : Int), .int .u8 ((y6.1 7).toNat : Int), .int .u8 ((y6.1 8).toNat : Int), .int .u8 ((y6.1 9).toNat : Int), .int .u8 ((y6.1 10).toNat : Int), .int .u8 ((y6.1 11).toNat : Int), .int .u8 ((y6.1 12).toNat : Int), .int .u8 ((y6.1 13).toNat : Int), .int .u8 ((y6.1 14).toNat : Int), .int .u8 ((y6.1 15).toNat : Int), .int .u8 ((y6.1 16).toNat : Int), .int .u8 ((y6.1 17).toNat : Int), .int .u8 ((y6.1 18).toNat : Int), .int .u8 ((y6.1 19).toNat : Int), .int .u8 ((y6.1 20).toNat : Int), .int .u8 ((y6.1 21).toNat : Int), .int .u8 ((y6.1 22).toNat : Int), .int .u8 ((y6.1 23).toNat : Int), .int .u8 ((y6.1 24).toNat : Int), .int .u8 ((y6.1 25).toNat : Int), .int .u8 ((y6.1 26).toNat : Int), .int .u8 ((y6.1 27).toNat : Int), .int .u8 ((y6.1 28).toNat : Int), .int .u8 ((y6.1 29).toNat : Int), .int .u8 ((y6.1 30).toNat : Int), .int .u8 ((y6.1 31).toNat : Int)]) ∧ l[3]? = some (.agg #[.int .u8 ((y7.1 0).toNat : Int), .int .u8 ((y7.1 1).toNat : Int), .int .u8 ((y7.1 2).toNat : Int), .int .u8 ((y7.1 3).toNat : Int), .int .u8 ((y7.1 4).toNat : Int), .int .u8 ((y7.1 5).toNat : Int), .int .u8 ((y7.1 6).toNat : Int), .int .u8 ((y7.1 7).toNat : Int), .int .u8 ((y7.1 8).toNat : Int), .int .u8 ((y7.1 9).toNat : Int), .int .u8 ((y7.1 10).toNat : Int), .int .u8 ((y7.1 11).toNat : Int), .int .u8 ((y7.1 12).toNat : Int), .int .u8 ((y7.1 13).toNat : Int), .int .u8 ((y7.1 14).toNat : Int), .int .u8 ((y7.1 15).toNat : Int), .int .u8 ((y7.1 16).toNat : Int), .int .u8 ((y7.1 17).toNat : Int), .int .u8 ((y7.1 18).toNat : Int), .int .u8 ((y7.1 19).toNat : Int), .int .u8 ((y7.1 20).toNat : Int), .int .u8 ((y7.1 21).toNat : Int), .int .u8 ((y7.1 22).toNat : Int), .int .u8 ((y7.1 23).toNat : Int), .int .u8 ((y7.1 24).toNat : Int), .int .u8 ((y7.1 25).toNat : Int), .int .u8 ((y7.1 26).toNat : Int), .int .u8 ((y7.1 27).toNat : Int), .int .u8 ((y7.1 28).toNat : Int), .int .u8 ((y7.1 29).toNat : Int), .int .u8 ((y7.1 30).toNat : Int), .int .u8 ((y7.1 31).toNat : Int)]) ∧ A = [.box c1r0_b #[.slice c1r0_position_b_a y7.2.position.b.length c1r0_position_b_c, .int .i64 y7.2.position.at_, .int .i64 y7.2.position.fault.code, .int .i64 y7.2.position.fault.at_] 110] ∧ y4.2.position.b = ((v1).position).b ∧ y5.2.position.b = y4.2.position.b ∧ y6.2.position.b = y5.2.position.b ∧ y7.2.position.b = y6.2.position.b)] [(fun _ A _ => A = []), (fun l A M => ∃ (b5 : Nat), l[0]? = some (.pointer (some ⟨b5, 0, none⟩)) ∧ A = [.box b5 (G_Delta_cells (⟨0, 0, (fun _ => (0 : UInt8)), (fun _ => (0 : UInt8)), ([] : List G.Command)⟩ : G.Delta) none 0) 27])] [.box b3 #[.pointer (some ⟨c1r0_b, 0, none⟩)] 61, .box b2 #[.int .i64 0, .int .i64 0] 30, .box b1 (G_Delta_cells (⟨0, 0, (fun _ => (0 : UInt8)), (fun _ => (0 : UInt8)), ([] : List G.Command)⟩ : G.Delta) none 0) 27])) hK.size (by kernel_rfl) (by kernel_rfl) (by kernel_rfl) (D.start2 hS (fun _ => rfl) (fun _ => rfl)) ?_
  refine D.onP [(4, .pointer (some ⟨b3, 0, none⟩))] (.pointer (some ⟨b3, 0, none⟩)) (fun ac MM hk => (.cons (hk.1.trans (hK.at_ 4 _ rfl)) (.nil _))) ?_
  refine D.onA (fun uu _ => uu = .pointer (some ⟨c1r0_b, 0, none⟩)) (fun _ _ _ h _ => h) (by
   intro ac MM vs hbd hcor hS00 hk; have hS0 := hS00
   obtain ⟨hle, LL, hC, hSt⟩ := hS0
   have hSt0 := hSt
   have hC0 := hC; obtain ⟨A0, A1, h0, h1, rfl⟩ := hC
   have hS := D.St_right (D.St_right (hSt))
   have k24 : ac.eval (.tmp 24) = .pointer (some ⟨b3, 0, none⟩) := hk.1
   have hKe : Ke ac [(24, .pointer (some ⟨b3, 0, none⟩))] := (.cons k24 (.nil _))
   exact ⟨D.wanted0 rfl, s_load hKe hS 0 rfl rfl rfl rfl (by kernel_rfl) ⟨MM, rfl, Le.refl _, rfl, hS00⟩⟩) ?_
  refine D.onA (fun uu _ => uu = .int .i64 y4.1) (fun _ _ _ h _ => h) (by
   intro ac MM vs hbd hcor hS00 hk; have hS0 := hS00
   obtain ⟨hle, LL, hC, hSt⟩ := hS0
   have hSt0 := hSt
   have hC0 := hC; obtain ⟨A0, A1, h0, h1, rfl⟩ := hC
   have hn := D.bd_eq hbd 0 0 rfl
   obtain rfl := D.CH.at h0 hn rfl
   replace hSt := hSt
   have k25 : ac.eval (.tmp 25) = .pointer (some ⟨c1r0_b, 0, none⟩) := hk.1
   have hKe : Ke ac [(25, .pointer (some ⟨c1r0_b, 0, none⟩))] := (.cons k25 (.nil _))
   replace f4 := Els.mono rep_U8 f4 hle
   exact ⟨D.wanted0 rfl, s_callM (R := [.box c1r0_b #[.slice c1r0_position_b_a ((((v1).position).b).length) c1r0_position_b_c, .int .i64 (((v1).position).at_), .int .i64 ((((v1).position).fault).code), .int .i64 ((((v1).position).fault).at_)] 110]) hKe hSt ent41_2 rfl rfl rfl rfl (G.wire_Reader_Length_spec f4 hy4 (Ow.left (L := [.box c1r0_b #[.slice c1r0_position_b_a ((((v1).position).b).length) c1r0_position_b_c, .int .i64 (((v1).position).at_), .int .i64 ((((v1).position).fault).code), .int .i64 ((((v1).position).fault).at_)] 110]) hSt.ow)) (by kernel_rfl) (by
     rintro _ M2 _ l2 hS2 ⟨rfl, rfl, eq0⟩
     exact ⟨M2, rfl, l2, rfl, hle.trans l2, _, ⟨_, _, D.CH.push hn rfl ⟨D.get_push hn, rfl, eq0⟩, D.CH.mono hm1 h1 l2, rfl⟩, hS2⟩)⟩) ?_
  refine D.onP [(4, .pointer (some ⟨b3, 0, none⟩))] (.pointer (some ⟨b3, 0, none⟩)) (fun ac MM hk => (.cons (hk.1.trans (hK.at_ 4 _ rfl)) (.nil _))) ?_
  refine D.onA (fun uu _ => uu = .pointer (some ⟨c1r0_b, 0, none⟩)) (fun _ _ _ h _ => h) (by
   intro ac MM vs hbd hcor hS00 hk; have hS0 := hS00
   obtain ⟨hle, LL, hC, hSt⟩ := hS0
   have hSt0 := hSt
   have hC0 := hC; obtain ⟨A0, A1, h0, h1, rfl⟩ := hC
   have hS := D.St_right (D.St_right (hSt))
   have k27 : ac.eval (.tmp 27) = .pointer (some ⟨b3, 0, none⟩) := hk.1
   have hKe : Ke ac [(27, .pointer (some ⟨b3, 0, none⟩))] := (.cons k27 (.nil _))
   exact ⟨D.wanted0 rfl, s_load hKe hS 0 rfl rfl rfl rfl (by kernel_rfl) ⟨MM, rfl, Le.refl _, rfl, hS00⟩⟩) ?_
  refine D.onA (fun uu _ => uu = .int .i64 y5.1) (fun _ _ _ h _ => h) (by
   intro ac MM vs hbd hcor hS00 hk; have hS0 := hS00
   obtain ⟨hle, LL, hC, hSt⟩ := hS0
   have hSt0 := hSt
   have hC0 := hC; obtain ⟨A0, A1, h0, h1, rfl⟩ := hC
   have hn := D.bd_eq hbd 0 1 rfl
   obtain ⟨el0, rfl, eq0⟩ := D.CH.at h0 hn rfl
   replace hSt := hSt
   have k28 : ac.eval (.tmp 28) = .pointer (some ⟨c1r0_b, 0, none⟩) := hk.1
   have hKe : Ke ac [(28, .pointer (some ⟨c1r0_b, 0, none⟩))] := (.cons k28 (.nil _))
   replace f4 := Els.mono rep_U8 f4 hle
   have f5 : Els isU8 MM 1 c1r0_position_b_a c1r0_position_b_c y4.2.position.b := Els.cast eq0.symm f4
   exact ⟨D.wanted0 rfl, s_callM (R := [.box c1r0_b #[.slice c1r0_position_b_a y4.2.position.b.length c1r0_position_b_c, .int .i64 y4.2.position.at_, .int .i64 y4.2.position.fault.code, .int .i64 y4.2.position.fault.at_] 110]) hKe hSt ent41_2 rfl rfl rfl rfl (G.wire_Reader_Length_spec f5 hy5 (Ow.left (L := [.box c1r0_b #[.slice c1r0_position_b_a y4.2.position.b.length c1r0_position_b_c, .int .i64 y4.2.position.at_, .int .i64 y4.2.position.fault.code, .int .i64 y4.2.position.fault.at_] 110]) hSt.ow)) (by kernel_rfl) (by
     rintro _ M2 _ l2 hS2 ⟨rfl, rfl, eq1⟩
     exact ⟨M2, rfl, l2, rfl, hle.trans l2, _, ⟨_, _, D.CH.push hn rfl ⟨D.get_old el0, D.get_push hn, rfl, eq0, eq1⟩, D.CH.mono hm1 h1 l2, rfl⟩, hS2⟩)⟩) ?_
  refine D.onA (fun uu _ => uu = .agg #[.pointer (some ⟨c1r0_b, 0, none⟩)]) (fun _ _ _ h _ => h) (by
   intro ac MM vs hbd hcor hS00 hk; have hS0 := hS00
   obtain ⟨hle, LL, hC, hSt⟩ := hS0
   have hSt0 := hSt
   have hC0 := hC; obtain ⟨A0, A1, h0, h1, rfl⟩ := hC
   have hS := D.St_right (D.St_right (hSt))
   have k4 : ac.eval (.tmp 4) = .pointer (some ⟨b3, 0, none⟩) := hk.1.trans (hK.at_ 4 _ rfl)
   have hKe : Ke ac [(4, .pointer (some ⟨b3, 0, none⟩))] := (.cons k4 (.nil _))
   exact ⟨D.wanted0 rfl, s_loadAll hKe hS 0 rfl rfl rfl (by kernel_rfl) ⟨MM, rfl, Le.refl _, rfl, hS00⟩⟩) ?_
  refine D.onA (fun uu _ => uu = .agg #[.int .u8 ((y6.1 0).toNat : Int), .int .u8 ((y6.1 1).toNat : Int), .int .u8 ((y6.1 2).toNat : Int), .int .u8 ((y6.1 3).toNat : Int), .int .u8 ((y6.1 4).toNat : Int), .int .u8 ((y6.1 5).toNat : Int), .int .u8 ((y6.1 6).toNat : Int), .int .u8 ((y6.1 7).toNat : Int), .int .u8 ((y6.1 8).toNat : Int), .int .u8 ((y6.1 9).toNat : Int), .int .u8 ((y6.1 10).toNat : Int), .int .u8 ((y6.1 11).toNat : Int), .int .u8 ((y6.1 12).toNat : Int), .int .u8 ((y6.1 13).toNat : Int), .int .u8 ((y6.1 14).toNat : Int), .int .u8 ((y6.1 15).toNat : Int), .int .u8 ((y6.1 16).toNat : Int), .int .u8 ((y6.1 17).toNat : Int), .int .u8 ((y6.1 18).toNat : Int), .int .u8 ((y6.1 19).toNat : Int), .int .u8 ((y6.1 20).toNat : Int), .int .u8 ((y6.1 21).toNat : Int), .int .u8 ((y6.1 22).toNat : Int), .int .u8 ((y6.1 23).toNat : Int), .int .u8 ((y6.1 24).toNat : Int), .int .u8 ((y6.1 25).toNat : Int), .int .u8 ((y6.1 26).toNat : Int), .int .u8 ((y6.1 27).toNat : Int), .int .u8 ((y6.1 28).toNat : Int), .int .u8 ((y6.1 29).toNat : Int), .int .u8 ((y6.1 30).toNat : Int), .int .u8 ((y6.1 31).toNat : Int)]) (fun _ _ _ h _ => h) (by
   intro ac MM vs hbd hcor hS00 hk; have hS0 := hS00
   obtain ⟨hle, LL, hC, hSt⟩ := hS0
   have hSt0 := hSt
   have hC0 := hC; obtain ⟨A0, A1, h0, h1, rfl⟩ := hC
   have hn := D.bd_eq hbd 0 2 rfl
   obtain ⟨el0, el1, rfl, eq0, eq1⟩ := D.CH.at h0 hn rfl
   replace hSt := hSt
   have k30 : ac.eval (.tmp 30) = .agg #[.pointer (some ⟨c1r0_b, 0, none⟩)] := hk.1
   have hKe : Ke ac [(30, .agg #[.pointer (some ⟨c1r0_b, 0, none⟩)])] := (.cons k30 (.nil _))
   replace f4 := Els.mono rep_U8 f4 hle
   have f6 : Els isU8 MM 1 c1r0_position_b_a c1r0_position_b_c y4.2.position.b := Els.cast eq0.symm f4
   have f7 : Els isU8 MM 1 c1r0_position_b_a c1r0_position_b_c y5.2.position.b := Els.cast eq1.symm f6
   exact ⟨D.wanted0 rfl, s_callM (R := [.box c1r0_b #[.slice c1r0_position_b_a y5.2.position.b.length c1r0_position_b_c, .int .i64 y5.2.position.at_, .int .i64 y5.2.position.fault.code, .int .i64 y5.2.position.fault.at_] 110]) hKe hSt ent42_2 rfl rfl rfl rfl (G.format_decoder_hash_spec f7 hy6 (Ow.left (L := [.box c1r0_b #[.slice c1r0_position_b_a y5.2.position.b.length c1r0_position_b_c, .int .i64 y5.2.position.at_, .int .i64 y5.2.position.fault.code, .int .i64 y5.2.position.fault.at_] 110]) hSt.ow)) (by kernel_rfl) (by
     rintro _ M2 _ l2 hS2 ⟨rfl, rfl, eq2⟩
     exact ⟨M2, rfl, l2, rfl, hle.trans l2, _, ⟨_, _, D.CH.push hn rfl ⟨D.get_old el0, D.get_old el1, D.get_push hn, rfl, eq0, eq1, eq2⟩, D.CH.mono hm1 h1 l2, rfl⟩, hS2⟩)⟩) ?_
  refine D.onA (fun uu _ => uu = .agg #[.pointer (some ⟨c1r0_b, 0, none⟩)]) (fun _ _ _ h _ => h) (by
   intro ac MM vs hbd hcor hS00 hk; have hS0 := hS00
   obtain ⟨hle, LL, hC, hSt⟩ := hS0
   have hSt0 := hSt
   have hC0 := hC; obtain ⟨A0, A1, h0, h1, rfl⟩ := hC
   have hS := D.St_right (D.St_right (hSt))
   have k4 : ac.eval (.tmp 4) = .pointer (some ⟨b3, 0, none⟩) := hk.1.trans (hK.at_ 4 _ rfl)
   have hKe : Ke ac [(4, .pointer (some ⟨b3, 0, none⟩))] := (.cons k4 (.nil _))
   exact ⟨D.wanted0 rfl, s_loadAll hKe hS 0 rfl rfl rfl (by kernel_rfl) ⟨MM, rfl, Le.refl _, rfl, hS00⟩⟩) ?_
  refine D.onA (fun uu _ => uu = .agg #[.int .u8 ((y7.1 0).toNat : Int), .int .u8 ((y7.1 1).toNat : Int), .int .u8 ((y7.1 2).toNat : Int), .int .u8 ((y7.1 3).toNat : Int), .int .u8 ((y7.1 4).toNat : Int), .int .u8 ((y7.1 5).toNat : Int), .int .u8 ((y7.1 6).toNat : Int), .int .u8 ((y7.1 7).toNat : Int), .int .u8 ((y7.1 8).toNat : Int), .int .u8 ((y7.1 9).toNat : Int), .int .u8 ((y7.1 10).toNat : Int), .int .u8 ((y7.1 11).toNat : Int), .int .u8 ((y7.1 12).toNat : Int), .int .u8 ((y7.1 13).toNat : Int), .int .u8 ((y7.1 14).toNat : Int), .int .u8 ((y7.1 15).toNat : Int), .int .u8 ((y7.1 16).toNat : Int), .int .u8 ((y7.1 17).toNat : Int), .int .u8 ((y7.1 18).toNat : Int), .int .u8 ((y7.1 19).toNat : Int), .int .u8 ((y7.1 20).toNat : Int), .int .u8 ((y7.1 21).toNat : Int), .int .u8 ((y7.1 22).toNat : Int), .int .u8 ((y7.1 23).toNat : Int), .int .u8 ((y7.1 24).toNat : Int), .int .u8 ((y7.1 25).toNat : Int), .int .u8 ((y7.1 26).toNat : Int), .int .u8 ((y7.1 27).toNat : Int), .int .u8 ((y7.1 28).toNat : Int), .int .u8 ((y7.1 29).toNat : Int), .int .u8 ((y7.1 30).toNat : Int), .int .u8 ((y7.1 31).toNat : Int)]) (fun _ _ _ h _ => h) (by
   intro ac MM vs hbd hcor hS00 hk; have hS0 := hS00
   obtain ⟨hle, LL, hC, hSt⟩ := hS0
   have hSt0 := hSt
   have hC0 := hC; obtain ⟨A0, A1, h0, h1, rfl⟩ := hC
   have hn := D.bd_eq hbd 0 3 rfl
   obtain ⟨el0, el1, el2, rfl, eq0, eq1, eq2⟩ := D.CH.at h0 hn rfl
   replace hSt := hSt
   have k32 : ac.eval (.tmp 32) = .agg #[.pointer (some ⟨c1r0_b, 0, none⟩)] := hk.1
   have hKe : Ke ac [(32, .agg #[.pointer (some ⟨c1r0_b, 0, none⟩)])] := (.cons k32 (.nil _))
   replace f4 := Els.mono rep_U8 f4 hle
   have f8 : Els isU8 MM 1 c1r0_position_b_a c1r0_position_b_c y4.2.position.b := Els.cast eq0.symm f4
   have f9 : Els isU8 MM 1 c1r0_position_b_a c1r0_position_b_c y5.2.position.b := Els.cast eq1.symm f8
   have f10 : Els isU8 MM 1 c1r0_position_b_a c1r0_position_b_c y6.2.position.b := Els.cast eq2.symm f9
   exact ⟨D.wanted0 rfl, s_callM (R := [.box c1r0_b #[.slice c1r0_position_b_a y6.2.position.b.length c1r0_position_b_c, .int .i64 y6.2.position.at_, .int .i64 y6.2.position.fault.code, .int .i64 y6.2.position.fault.at_] 110]) hKe hSt ent42_2 rfl rfl rfl rfl (G.format_decoder_hash_spec f10 hy7 (Ow.left (L := [.box c1r0_b #[.slice c1r0_position_b_a y6.2.position.b.length c1r0_position_b_c, .int .i64 y6.2.position.at_, .int .i64 y6.2.position.fault.code, .int .i64 y6.2.position.fault.at_] 110]) hSt.ow)) (by kernel_rfl) (by
     rintro _ M2 _ l2 hS2 ⟨rfl, rfl, eq3⟩
     exact ⟨M2, rfl, l2, rfl, hle.trans l2, _, ⟨_, _, D.CH.push hn rfl ⟨D.get_old el0, D.get_old el1, D.get_old el2, D.get_push hn, rfl, eq0, eq1, eq2, eq3⟩, D.CH.mono hm1 h1 l2, rfl⟩, hS2⟩)⟩) ?_
  refine D.onP [(26, .int .i64 y4.1), (29, .int .i64 y5.1), (31, .agg #[.int .u8 ((y6.1 0).toNat : Int), .int .u8 ((y6.1 1).toNat : Int), .int .u8 ((y6.1 2).toNat : Int), .int .u8 ((y6.1 3).toNat : Int), .int .u8 ((y6.1 4).toNat : Int), .int .u8 ((y6.1 5).toNat : Int), .int .u8 ((y6.1 6).toNat : Int), .int .u8 ((y6.1 7).toNat : Int), .int .u8 ((y6.1 8).toNat : Int), .int .u8 ((y6.1 9).toNat : Int), .int .u8 ((y6.1 10).toNat : Int), .int .u8 ((y6.1 11).toNat : Int), .int .u8 ((y6.1 12).toNat : Int), .int .u8 ((y6.1 13).toNat : Int), .int .u8 ((y6.1 14).toNat : Int), .int .u8 ((y6.1 15).toNat : Int), .int .u8 ((y6.1 16).toNat : Int), .int .u8 ((y6.1 17).toNat : Int), .int .u8 ((y6.1 18).toNat : Int), .int .u8 ((y6.1 19).toNat : Int), .int .u8 ((y6.1 20).toNat : Int), .int .u8 ((y6.1 21).toNat : Int), .int .u8 ((y6.1 22).toNat : Int), .int .u8 ((y6.1 23).toNat : Int), .int .u8 ((y6.1 24).toNat : Int), .int .u8 ((y6.1 25).toNat : Int), .int .u8 ((y6.1 26).toNat : Int), .int .u8 ((y6.1 27).toNat : Int), .int .u8 ((y6.1 28).toNat : Int), .int .u8 ((y6.1 29).toNat : Int), .int .u8 ((y6.1 30).toNat : Int), .int .u8 ((y6.1 31).toNat : Int)]), (33, .agg #[.int .u8 ((y7.1 0).toNat : Int), .int .u8 ((y7.1 1).toNat : Int), .int .u8 ((y7.1 2).toNat : Int), .int .u8 ((y7.1 3).toNat : Int), .int .u8 ((y7.1 4).toNat : Int), .int .u8 ((y7.1 5).toNat : Int), .int .u8 ((y7.1 6).toNat : Int), .int .u8 ((y7.1 7).toNat : Int), .int .u8 ((y7.1 8).toNat : Int), .int .u8 ((y7.1 9).toNat : Int), .int .u8 ((y7.1 10).toNat : Int), .int .u8 ((y7.1 11).toNat : Int), .int .u8 ((y7.1 12).toNat : Int), .int .u8 ((y7.1 13).toNat : Int), .int .u8 ((y7.1 14).toNat : Int), .int .u8 ((y7.1 15).toNat : Int), .int .u8 ((y7.1 16).toNat : Int), .int .u8 ((y7.1 17).toNat : Int), .int .u8 ((y7.1 18).toNat : Int), .int .u8 ((y7.1 19).toNat : Int), .int .u8 ((y7.1 20).toNat : Int), .int .u8 ((y7.1 21).toNat : Int), .int .u8 ((y7.1 22).toNat : Int), .int .u8 ((y7.1 23).toNat : Int), .int .u8 ((y7.1 24).toNat : Int), .int .u8 ((y7.1 25).toNat : Int), .int .u8 ((y7.1 26).toNat : Int), .int .u8 ((y7.1 27).toNat : Int), .int .u8 ((y7.1 28).toNat : Int), .int .u8 ((y7.1 29).toNat : Int), .int .u8 ((y7.1 30).toNat : Int), .int .u8 ((y7.1 31).toNat : Int)])] (.agg (G_Delta_cells (⟨y4.1, y5.1, y6.1, y7.1, ([] : List G.Command)⟩ : G.Delta) none 0)) (fun ac MM hk => (.cons (hk.1) (.cons (hk.2.1) (.cons (hk.2.2.1) (.cons (hk.2.2.2.1) (.nil _)))))) ?_
  refine D.onA (fun uu MM => ∃ (b5 : Nat), uu = .pointer (some ⟨b5, 0, none⟩)) (fun _ _ _ ⟨b5, e⟩ g => ⟨b5, e⟩) (by
   intro ac MM vs hbd hcor hS00 hk; have hS0 := hS00
   obtain ⟨hle, LL, hC, hSt⟩ := hS0
   have hSt0 := hSt
   have hC0 := hC; obtain ⟨A0, A1, h0, h1, rfl⟩ := hC
   have hn := D.bd_eq hbd 1 0 rfl
   obtain rfl := D.CH.at h1 hn rfl
   replace hSt := D.sw hSt
   have hKe : Ke ac [] := (.nil _)
   exact ⟨D.wanted0 rfl, s_alloc (.agg (G_Delta_cells (⟨0, 0, (fun _ => (0 : UInt8)), (fun _ => (0 : UInt8)), ([] : List G.Command)⟩ : G.Delta) none 0)) hKe hSt rfl (by kernel_rfl) (by
     intro M2 b5 hz l2 hS2; replace hS2 := D.sw (A := [.box b5 (G_Delta_cells (⟨0, 0, (fun _ => (0 : UInt8)), (fun _ => (0 : UInt8)), ([] : List G.Command)⟩ : G.Delta) none 0) 27]) (E := A0) (R := [.box b3 #[.pointer (some ⟨c1r0_b, 0, none⟩)] 61, .box b2 #[.int .i64 0, .int .i64 0] 30, .box b1 (G_Delta_cells (⟨0, 0, (fun _ => (0 : UInt8)), (fun _ => (0 : UInt8)), ([] : List G.Command)⟩ : G.Delta) none 0) 27]) hS2
     exact ⟨M2, rfl, l2, ⟨b5, rfl⟩, hle.trans l2, _, ⟨_, _, D.CH.mono hm0 h0 l2, D.CH.push hn rfl ⟨b5, D.get_push hn, rfl⟩, rfl⟩, hS2⟩)⟩) ?_
  intro fr2 m11 vs hlen hcor hS2 hE; obtain ⟨l11, LL, hC, hS2⟩ := hS2
  obtain ⟨A0, A1, h0, h1, rfl⟩ := hC
  obtain ⟨el0_0, el0_1, el0_2, el0_3, rfl, eq0_0, eq0_1, eq0_2, eq0_3⟩ := D.CH.at h0 (hlen 0) rfl
  obtain ⟨b5, el1_0, rfl⟩ := D.CH.at h1 (hlen 1) rfl
  replace hS2 : St _ m m11 [.box c1r0_b #[.slice c1r0_position_b_a y7.2.position.b.length c1r0_position_b_c, .int .i64 y7.2.position.at_, .int .i64 y7.2.position.fault.code, .int .i64 y7.2.position.fault.at_] 110, .box b5 (G_Delta_cells (⟨0, 0, (fun _ => (0 : UInt8)), (fun _ => (0 : UInt8)), ([] : List G.Command)⟩ : G.Delta) none 0) 27, .box b3 #[.pointer (some ⟨c1r0_b, 0, none⟩)] 61, .box b2 #[.int .i64 0, .int .i64 0] 30, .box b1 (G_Delta_cells (⟨0, 0, (fun _ => (0 : UInt8)), (fun _ => (0 : UInt8)), ([] : List G.Command)⟩ : G.Delta) none 0) 27] := hS2
  have kl6 : fr2.eval (.tmp 6) = .pointer (some ⟨b5, 0, none⟩) := hcor 1 0 _ _ _ _ rfl rfl rfl el1_0
  have hK2 := D.kn_endsM [(24, .pointer (some ⟨b3, 0, none⟩)), (25, .pointer (some ⟨c1r0_b, 0, none⟩)), (26, .int .i64 y4.1), (27, .pointer (some ⟨b3, 0, none⟩)), (28, .pointer (some ⟨c1r0_b, 0, none⟩)), (29, .int .i64 y5.1), (30, .agg #[.pointer (some ⟨c1r0_b, 0, none⟩)]), (31, .agg #[.int .u8 ((y6.1 0).toNat : Int), .int .u8 ((y6.1 1).toNat : Int), .int .u8 ((y6.1 2).toNat : Int), .int .u8 ((y6.1 3).toNat : Int), .int .u8 ((y6.1 4).toNat : Int), .int .u8 ((y6.1 5).toNat : Int), .int .u8 ((y6.1 6).toNat : Int), .int .u8 ((y6.1 7).toNat : Int), .int .u8 ((y6.1 8).toNat : Int), .int .u8 ((y6.1 9).toNat : Int), .int .u8 ((y6.1 10).toNat : Int), .int .u8 ((y6.1 11).toNat : Int), .int .u8 ((y6.1 12).toNat : Int), .int .u8 ((y6.1 13).toNat : Int), .int .u8 ((y6.1 14).toNat : Int), .int .u8 ((y6.1 15).toNat : Int), .int .u8 ((y6.1 16).toNat : Int), .int .u8 ((y6.1 17).toNat : Int), .int .u8 ((y6.1 18).toNat : Int), .int .u8 ((y6.1 19).toNat : Int), .int .u8 ((y6.1 20).toNat : Int), .int .u8 ((y6.1 21).toNat : Int), .int .u8 ((y6.1 22).toNat : Int), .int .u8 ((y6.1 23).toNat : Int), .int .u8 ((y6.1 24).toNat : Int), .int .u8 ((y6.1 25).toNat : Int), .int .u8 ((y6.1 26).toNat : Int), .int .u8 ((y6.1 27).toNat : Int), .int .u8 ((y6.1 28).toNat : Int), .int .u8 ((y6.1 29).toNat : Int), .int .u8 ((y6.1 30).toNat : Int), .int .u8 ((y6.1 31).toNat : Int)]), (32, .agg #[.pointer (some ⟨c1r0_b, 0, none⟩)]), (33, .agg #[.int .u8 ((y7.1 0).toNat : Int), .int .u8 ((y7.1 1).toNat : Int), .int .u8 ((y7.1 2).toNat : Int), .int .u8 ((y7.1 3).toNat : Int), .int .u8 ((y7.1 4).toNat : Int), .int .u8 ((y7.1 5).toNat : Int), .int .u8 ((y7.1 6).toNat : Int), .int .u8 ((y7.1 7).toNat : Int), .int .u8 ((y7.1 8).toNat : Int), .int .u8 ((y7.1 9).toNat : Int), .int .u8 ((y7.1 10).toNat : Int), .int .u8 ((y7.1 11).toNat : Int), .int .u8 ((y7.1 12).toNat : Int), .int .u8 ((y7.1 13).toNat : Int), .int .u8 ((y7.1 14).toNat : Int), .int .u8 ((y7.1 15).toNat : Int), .int .u8 ((y7.1 16).toNat : Int), .int .u8 ((y7.1 17).toNat : Int), .int .u8 ((y7.1 18).toNat : Int), .int .u8 ((y7.1 19).toNat : Int), .int .u8 ((y7.1 20).toNat : Int), .int .u8 ((y7.1 21).toNat : Int), .int .u8 ((y7.1 22).toNat : Int), .int .u8 ((y7.1 23).toNat : Int), .int .u8 ((y7.1 24).toNat : Int), .int .u8 ((y7.1 25).toNat : Int), .int .u8 ((y7.1 26).toNat : Int), .int .u8 ((y7.1 27).toNat : Int), .int .u8 ((y7.1 28).toNat : Int), .int .u8 ((y7.1 29).toNat : Int), .int .u8 ((y7.1 30).toNat : Int), .int .u8 ((y7.1 31).toNat : Int)]), (34, .agg (G_Delta_cells (⟨y4.1, y5.1, y6.1, y7.1, ([] : List G.Command)⟩ : G.Delta) none 0)), (6, .pointer (some ⟨b5, 0, none⟩))] hK hE rfl (by kernel_rfl) (.cons (hE.slots 24) (.cons (hE.slots 25) (.cons (hcor 0 0 _ _ _ _ rfl rfl rfl el0_0) (.cons (hE.slots 27) (.cons (hE.slots 28) (.cons (hcor 0 1 _ _ _ _ rfl rfl rfl el0_1) (.cons (hE.slots 30) (.cons (hcor 0 2 _ _ _ _ rfl rfl rfl el0_2) (.cons (hE.slots 32) (.cons (hcor 0 3 _ _ _ _ rfl rfl rfl el0_3) (.cons (hE.slots 34) (.cons (kl6) (.nil _)))))))))))))
  replace hK2 : Kn 72 fr2 [(24, .pointer (some ⟨b3, 0, none⟩)), (25, .pointer (some ⟨c1r0_b, 0, none⟩)), (26, .int .i64 y4.1), (27, .pointer (some ⟨b3, 0, none⟩)), (28, .pointer (some ⟨c1r0_b, 0, none⟩)), (29, .int .i64 y5.1), (30, .agg #[.pointer (some ⟨c1r0_b, 0, none⟩)]), (31, .agg #[.int .u8 ((y6.1 0).toNat : Int), .int .u8 ((y6.1 1).toNat : Int), .int .u8 ((y6.1 2).toNat : Int), .int .u8 ((y6.1 3).toNat : Int), .int .u8 ((y6.1 4).toNat : Int), .int .u8 ((y6.1 5).toNat : Int), .int .u8 ((y6.1 6).toNat : Int), .int .u8 ((y6.1 7).toNat : Int), .int .u8 ((y6.1 8).toNat : Int), .int .u8 ((y6.1 9).toNat : Int), .int .u8 ((y6.1 10).toNat : Int), .int .u8 ((y6.1 11).toNat : Int), .int .u8 ((y6.1 12).toNat : Int), .int .u8 ((y6.1 13).toNat : Int), .int .u8 ((y6.1 14).toNat : Int), .int .u8 ((y6.1 15).toNat : Int), .int .u8 ((y6.1 16).toNat : Int), .int .u8 ((y6.1 17).toNat : Int), .int .u8 ((y6.1 18).toNat : Int), .int .u8 ((y6.1 19).toNat : Int), .int .u8 ((y6.1 20).toNat : Int), .int .u8 ((y6.1 21).toNat : Int), .int .u8 ((y6.1 22).toNat : Int), .int .u8 ((y6.1 23).toNat : Int), .int .u8 ((y6.1 24).toNat : Int), .int .u8 ((y6.1 25).toNat : Int), .int .u8 ((y6.1 26).toNat : Int), .int .u8 ((y6.1 27).toNat : Int), .int .u8 ((y6.1 28).toNat : Int), .int .u8 ((y6.1 29).toNat : Int), .int .u8 ((y6.1 30).toNat : Int), .int .u8 ((y6.1 31).toNat : Int)]), (32, .agg #[.pointer (some ⟨c1r0_b, 0, none⟩)]), (33, .agg #[.int .u8 ((y7.1 0).toNat : Int), .int .u8 ((y7.1 1).toNat : Int), .int .u8 ((y7.1 2).toNat : Int), .int .u8 ((y7.1 3).toNat : Int), .int .u8 ((y7.1 4).toNat : Int), .int .u8 ((y7.1 5).toNat : Int), .int .u8 ((y7.1 6).toNat : Int), .int .u8 ((y7.1 7).toNat : Int), .int .u8 ((y7.1 8).toNat : Int), .int .u8 ((y7.1 9).toNat : Int), .int .u8 ((y7.1 10).toNat : Int), .int .u8 ((y7.1 11).toNat : Int), .int .u8 ((y7.1 12).toNat : Int), .int .u8 ((y7.1 13).toNat : Int), .int .u8 ((y7.1 14).toNat : Int), .int .u8 ((y7.1 15).toNat : Int), .int .u8 ((y7.1 16).toNat : Int), .int .u8 ((y7.1 17).toNat : Int), .int .u8 ((y7.1 18).toNat : Int), .int .u8 ((y7.1 19).toNat : Int), .int .u8 ((y7.1 20).toNat : Int), .int .u8 ((y7.1 21).toNat : Int), .int .u8 ((y7.1 22).toNat : Int), .int .u8 ((y7.1 23).toNat : Int), .int .u8 ((y7.1 24).toNat : Int), .int .u8 ((y7.1 25).toNat : Int), .int .u8 ((y7.1 26).toNat : Int), .int .u8 ((y7.1 27).toNat : Int), .int .u8 ((y7.1 28).toNat : Int), .int .u8 ((y7.1 29).toNat : Int), .int .u8 ((y7.1 30).toNat : Int), .int .u8 ((y7.1 31).toNat : Int)]), (34, .agg (G_Delta_cells (⟨y4.1, y5.1, y6.1, y7.1, ([] : List G.Command)⟩ : G.Delta) none 0)), (6, .pointer (some ⟨b5, 0, none⟩)), (2, .pointer (some ⟨b1, 0, none⟩)), (3, .pointer (some ⟨b2, 0, none⟩)), (4, .pointer (some ⟨b3, 0, none⟩))] := hK2.only [24, 25, 26, 27, 28, 29, 30, 31, 32, 33, 34, 6, 2, 3, 4]
  clear hE hK hcor hlen kl6 h0 el0_0 el0_1 el0_2 el0_3 h1 el1_0; revert hK2; clear hS; revert fr2; clear fr; intro fr hK; have hS := hS2; clear hS2 hCm hm0 hm1
  refine qo0 hK (s_storeAll hK.at_ 1 hS rfl rfl rfl rfl (by kernel_rfl) (by kernel_rfl) (by kernel_rfl) ?_)
  clear hK fr hS; intro m12 l12 hS fr hK
  replace hS : St _ m m12 [.box b5 (G_Delta_cells (⟨y4.1, y5.1, y6.1, y7.1, ([] : List G.Command)⟩ : G.Delta) none 0) 27, .box c1r0_b #[.slice c1r0_position_b_a y7.2.position.b.length c1r0_position_b_c, .int .i64 y7.2.position.at_, .int .i64 y7.2.position.fault.code, .int .i64 y7.2.position.fault.at_] 110, .box b3 #[.pointer (some ⟨c1r0_b, 0, none⟩)] 61, .box b2 #[.int .i64 0, .int .i64 0] 30, .box b1 (G_Delta_cells (⟨0, 0, (fun _ => (0 : UInt8)), (fun _ => (0 : UInt8)), ([] : List G.Command)⟩ : G.Delta) none 0) 27] := hS
  refine wpList_nil (then_n ?_)
  refine w_seq ?_
  refine w_seq (w_region ?_)
  refine qp 35 (.pointer (some ⟨b3, 0, none⟩)) hK fun fr hK => ?_
  refine qo 36 hK (s_load hK.at_ hS 2 rfl rfl rfl rfl (by kernel_rfl) ?_)
  clear hK fr; intro fr hK
  replace f4 := Els.mono rep_U8 f4 (l11.trans l12)
  have f11 : Els isU8 m12 1 c1r0_position_b_a c1r0_position_b_c y4.2.position.b := Els.cast eq0_0.symm f4
  have f12 : Els isU8 m12 1 c1r0_position_b_a c1r0_position_b_c y5.2.position.b := Els.cast eq0_1.symm f11
  have f13 : Els isU8 m12 1 c1r0_position_b_a c1r0_position_b_c y6.2.position.b := Els.cast eq0_2.symm f12
  have f14 : Els isU8 m12 1 c1r0_position_b_a c1r0_position_b_c y7.2.position.b := Els.cast eq0_3.symm f13
  obtain ⟨y8, hy8, h⟩ := bind_some h
  replace hS := hS.front 1 rfl
  replace hS : St _ m m12 [.box c1r0_b #[.slice c1r0_position_b_a y7.2.position.b.length c1r0_position_b_c, .int .i64 y7.2.position.at_, .int .i64 y7.2.position.fault.code, .int .i64 y7.2.position.fault.at_] 110, .box b5 (G_Delta_cells (⟨y4.1, y5.1, y6.1, y7.1, ([] : List G.Command)⟩ : G.Delta) none 0) 27, .box b3 #[.pointer (some ⟨c1r0_b, 0, none⟩)] 61, .box b2 #[.int .i64 0, .int .i64 0] 30, .box b1 (G_Delta_cells (⟨0, 0, (fun _ => (0 : UInt8)), (fun _ => (0 : UInt8)), ([] : List G.Command)⟩ : G.Delta) none 0) 27] := hS
  refine qo 37 hK (s_callM (R := [.box c1r0_b #[.slice c1r0_position_b_a y7.2.position.b.length c1r0_position_b_c, .int .i64 y7.2.position.at_, .int .i64 y7.2.position.fault.code, .int .i64 y7.2.position.fault.at_] 110]) (L := [.box b5 (G_Delta_cells (⟨y4.1, y5.1, y6.1, y7.1, ([] : List G.Command)⟩ : G.Delta) none 0) 27, .box b3 #[.pointer (some ⟨c1r0_b, 0, none⟩)] 61, .box b2 #[.int .i64 0, .int .i64 0] 30, .box b1 (G_Delta_cells (⟨0, 0, (fun _ => (0 : UInt8)), (fun _ => (0 : UInt8)), ([] : List G.Command)⟩ : G.Delta) none 0) 27]) hK.at_ hS ent39_2 rfl rfl rfl rfl (G.wire_Reader_Uint_spec f14 hy8 (Ow.left (L := [.box c1r0_b #[.slice c1r0_position_b_a y7.2.position.b.length c1r0_position_b_c, .int .i64 y7.2.position.at_, .int .i64 y7.2.position.fault.code, .int .i64 y7.2.position.fault.at_] 110]) hS.ow)) (by kernel_rfl) ?_)
  clear hK fr hS; rintro _ m13 _ l13 hS ⟨rfl, rfl, c8re0⟩ fr hK
  replace hS : St _ m m13 [.box c1r0_b #[.slice c1r0_position_b_a y8.2.position.b.length c1r0_position_b_c, .int .i64 y8.2.position.at_, .int .i64 y8.2.position.fault.code, .int .i64 y8.2.position.fault.at_] 110, .box b5 (G_Delta_cells (⟨y4.1, y5.1, y6.1, y7.1, ([] : List G.Command)⟩ : G.Delta) none 0) 27, .box b3 #[.pointer (some ⟨c1r0_b, 0, none⟩)] 61, .box b2 #[.int .i64 0, .int .i64 0] 30, .box b1 (G_Delta_cells (⟨0, 0, (fun _ => (0 : UInt8)), (fun _ => (0 : UInt8)), ([] : List G.Command)⟩ : G.Delta) none 0) 27] := hS
  refine qp 7 (.int .u64 y8.1) hK fun fr hK => ?_
  refine wpList_nil (then_n ?_)
  obtain ⟨v2, hv2, h⟩ := bind_some h
  refine w_join (fun fr ww => ∃ (g1 : Option Nat), ∃ (g2 : Nat), ∃ m14 : Mem, m14.w = ww ∧ Kn 72 fr [(2, .pointer (some ⟨b1, 0, none⟩)), (3, .pointer (some ⟨b2, 0, none⟩)), (4, .pointer (some ⟨b3, 0, none⟩)), (6, .pointer (some ⟨b5, 0, none⟩))] ∧ Le m13 m14 ∧ St (blocksOf []) m m14 [.box c1r0_b #[.slice c1r0_position_b_a ((((v2.1).position).b).length) c1r0_position_b_c, .int .i64 (((v2.1).position).at_), .int .i64 ((((v2.1).position).fault).code), .int .i64 ((((v2.1).position).fault).at_)] 110, .box b5 (G_Delta_cells (⟨y4.1, y5.1, y6.1, y7.1, v2.2⟩ : G.Delta) (adr g1) (g2)) 27, rowOf 50 5 g1 g2 v2.2, .box b3 #[.pointer (some ⟨c1r0_b, 0, none⟩)] 61, .box b2 #[.int .i64 0, .int .i64 0] 30, .box b1 (G_Delta_cells (⟨0, 0, (fun _ => (0 : UInt8)), (fun _ => (0 : UInt8)), ([] : List G.Command)⟩ : G.Delta) none 0) 27] ∧ Els is_G_Command m14 5 (adr g1) g2 v2.2 ∧ ((v2.1).position).b = y1.position.b) ?_ ?_
  ·
   clear hK hS fr hv2
   rintro fr _ ⟨g1, g2, m14, rfl, hK, l14, hS, f16, he2⟩
   refine then_n ?_
   refine w_seq ?_
   refine w_seq (w_region ?_)
   refine qp 53 (.pointer (some ⟨b3, 0, none⟩)) hK fun fr hK => ?_
   refine qo 54 hK (s_load hK.at_ hS 3 rfl rfl rfl rfl (by kernel_rfl) ?_)
   clear hK fr; intro fr hK
   replace c1r0_position_b_f := Els.mono rep_U8 c1r0_position_b_f (l11.trans (l12.trans (l13.trans l14)))
   have f17 : Els isU8 m14 1 c1r0_position_b_a c1r0_position_b_c (((v2.1).position).b) := Els.cast he2.symm c1r0_position_b_f
   obtain ⟨y9, hy9, h⟩ := bind_some h
   replace hS : St _ m m14 [.box c1r0_b #[.slice c1r0_position_b_a ((((v2.1).position).b).length) c1r0_position_b_c, .int .i64 (((v2.1).position).at_), .int .i64 ((((v2.1).position).fault).code), .int .i64 ((((v2.1).position).fault).at_)] 110, .box b5 (G_Delta_cells (⟨y4.1, y5.1, y6.1, y7.1, v2.2⟩ : G.Delta) (adr g1) (g2)) 27, rowOf 50 5 g1 g2 v2.2, .box b3 #[.pointer (some ⟨c1r0_b, 0, none⟩)] 61, .box b2 #[.int .i64 0, .int .i64 0] 30, .box b1 (G_Delta_cells (⟨0, 0, (fun _ => (0 : UInt8)), (fun _ => (0 : UInt8)), ([] : List G.Command)⟩ : G.Delta) none 0) 27] := hS
   refine qo 55 hK (s_callM (R := [.box c1r0_b #[.slice c1r0_position_b_a ((((v2.1).position).b).length) c1r0_position_b_c, .int .i64 (((v2.1).position).at_), .int .i64 ((((v2.1).position).fault).code), .int .i64 ((((v2.1).position).fault).at_)] 110]) (L := [.box b5 (G_Delta_cells (⟨y4.1, y5.1, y6.1, y7.1, v2.2⟩ : G.Delta) (adr g1) (g2)) 27, rowOf 50 5 g1 g2 v2.2, .box b3 #[.pointer (some ⟨c1r0_b, 0, none⟩)] 61, .box b2 #[.int .i64 0, .int .i64 0] 30, .box b1 (G_Delta_cells (⟨0, 0, (fun _ => (0 : UInt8)), (fun _ => (0 : UInt8)), ([] : List G.Command)⟩ : G.Delta) none 0) 27]) hK.at_ hS ent45_2 rfl rfl rfl rfl (G.wire_Reader_Rest_spec f17 hy9 (Ow.left (L := [.box c1r0_b #[.slice c1r0_position_b_a ((((v2.1).position).b).length) c1r0_position_b_c, .int .i64 (((v2.1).position).at_), .int .i64 ((((v2.1).position).fault).code), .int .i64 ((((v2.1).position).fault).at_)] 110]) hS.ow)) (by kernel_rfl) ?_)
   clear hK fr hS; rintro _ m15 _ l15 hS ⟨rfl, rfl⟩ fr hK
   replace hS : St _ m m15 [.box c1r0_b #[.slice c1r0_position_b_a ((((v2.1).position).b).length) c1r0_position_b_c, .int .i64 (((v2.1).position).at_), .int .i64 ((((v2.1).position).fault).code), .int .i64 ((((v2.1).position).fault).at_)] 110, .box b5 (G_Delta_cells (⟨y4.1, y5.1, y6.1, y7.1, v2.2⟩ : G.Delta) (adr g1) (g2)) 27, rowOf 50 5 g1 g2 v2.2, .box b3 #[.pointer (some ⟨c1r0_b, 0, none⟩)] 61, .box b2 #[.int .i64 0, .int .i64 0] 30, .box b1 (G_Delta_cells (⟨0, 0, (fun _ => (0 : UInt8)), (fun _ => (0 : UInt8)), ([] : List G.Command)⟩ : G.Delta) none 0) 27] := hS
   refine qp 56 (.bool (decide (y9 > 0))) hK fun fr hK => ?_
   refine wpList_nil (then_n ?_)
   obtain ⟨v3, hv3, h⟩ := bind_some h
   refine w_join (fun fr ww => ∃ m16 : Mem, m16.w = ww ∧ Kn 72 fr [(2, .pointer (some ⟨b1, 0, none⟩)), (3, .pointer (some ⟨b2, 0, none⟩)), (4, .pointer (some ⟨b3, 0, none⟩)), (6, .pointer (some ⟨b5, 0, none⟩))] ∧ Le m15 m16 ∧ St (blocksOf []) m m16 [.box c1r0_b #[.slice c1r0_position_b_a ((((v3).position).b).length) c1r0_position_b_c, .int .i64 (((v3).position).at_), .int .i64 ((((v3).position).fault).code), .int .i64 ((((v3).position).fault).at_)] 110, .box b5 (G_Delta_cells (⟨y4.1, y5.1, y6.1, y7.1, v2.2⟩ : G.Delta) (adr g1) (g2)) 27, .box b3 #[.pointer (some ⟨c1r0_b, 0, none⟩)] 61, .box b2 #[.int .i64 0, .int .i64 0] 30, .box b1 (G_Delta_cells (⟨0, 0, (fun _ => (0 : UInt8)), (fun _ => (0 : UInt8)), ([] : List G.Command)⟩ : G.Delta) none 0) 27, rowOf 50 5 g1 g2 v2.2] ∧ ((v3).position).b = y1.position.b) ?_ ?_
   ·
    clear hK hS fr hv3
    rintro fr _ ⟨m16, rfl, hK, l16, hS, he3⟩
    refine then_n ?_
    refine w_seq ?_
    refine w_seq (w_region ?_)
    refine qo 63 hK (s_loadAll hK.at_ hS 2 rfl rfl rfl (by kernel_rfl) ?_)
    clear hK fr; intro fr hK
    replace c1r0_position_b_f := Els.mono rep_U8 c1r0_position_b_f (l15.trans l16)
    have f18 : Els isU8 m16 1 c1r0_position_b_a c1r0_position_b_c (((v3).position).b) := Els.cast he3.symm c1r0_position_b_f
    obtain ⟨y10, hy10, h⟩ := bind_some h
    replace hS : St _ m m16 [.box c1r0_b #[.slice c1r0_position_b_a ((((v3).position).b).length) c1r0_position_b_c, .int .i64 (((v3).position).at_), .int .i64 ((((v3).position).fault).code), .int .i64 ((((v3).position).fault).at_)] 110, .box b5 (G_Delta_cells (⟨y4.1, y5.1, y6.1, y7.1, v2.2⟩ : G.Delta) (adr g1) (g2)) 27, .box b3 #[.pointer (some ⟨c1r0_b, 0, none⟩)] 61, .box b2 #[.int .i64 0, .int .i64 0] 30, .box b1 (G_Delta_cells (⟨0, 0, (fun _ => (0 : UInt8)), (fun _ => (0 : UInt8)), ([] : List G.Command)⟩ : G.Delta) none 0) 27, rowOf 50 5 g1 g2 v2.2] := hS
    refine qo 64 hK (s_callM (R := [.box c1r0_b #[.slice c1r0_position_b_a ((((v3).position).b).length) c1r0_position_b_c, .int .i64 (((v3).position).at_), .int .i64 ((((v3).position).fault).code), .int .i64 ((((v3).position).fault).at_)] 110]) (L := [.box b5 (G_Delta_cells (⟨y4.1, y5.1, y6.1, y7.1, v2.2⟩ : G.Delta) (adr g1) (g2)) 27, .box b3 #[.pointer (some ⟨c1r0_b, 0, none⟩)] 61, .box b2 #[.int .i64 0, .int .i64 0] 30, .box b1 (G_Delta_cells (⟨0, 0, (fun _ => (0 : UInt8)), (fun _ => (0 : UInt8)), ([] : List G.Command)⟩ : G.Delta) none 0) 27, rowOf 50 5 g1 g2 v2.2]) hK.at_ hS ent43_2 rfl rfl rfl rfl (G.format_decoder_ok_spec f18 hy10 (Ow.left (L := [.box c1r0_b #[.slice c1r0_position_b_a ((((v3).position).b).length) c1r0_position_b_c, .int .i64 (((v3).position).at_), .int .i64 ((((v3).position).fault).code), .int .i64 ((((v3).position).fault).at_)] 110]) hS.ow)) (by kernel_rfl) ?_)
    clear hK fr hS; rintro _ m17 _ l17 hS ⟨rfl, rfl⟩ fr hK
    replace hS : St _ m m17 [.box c1r0_b #[.slice c1r0_position_b_a ((((v3).position).b).length) c1r0_position_b_c, .int .i64 (((v3).position).at_), .int .i64 ((((v3).position).fault).code), .int .i64 ((((v3).position).fault).at_)] 110, .box b5 (G_Delta_cells (⟨y4.1, y5.1, y6.1, y7.1, v2.2⟩ : G.Delta) (adr g1) (g2)) 27, .box b3 #[.pointer (some ⟨c1r0_b, 0, none⟩)] 61, .box b2 #[.int .i64 0, .int .i64 0] 30, .box b1 (G_Delta_cells (⟨0, 0, (fun _ => (0 : UInt8)), (fun _ => (0 : UInt8)), ([] : List G.Command)⟩ : G.Delta) none 0) 27, rowOf 50 5 g1 g2 v2.2] := hS
    refine qp 65 (.bool (!y10)) hK fun fr hK => ?_
    refine wpList_nil (then_n ?_)
    refine w_cond hK rfl (fun hb1 => ?_) (fun hb1 => ?_)
    ·
     replace hK := hK.more (t := 65) (v' := .bool true) rfl (by rw [hb1])
     replace h := ite_t ((Bool.not_eq_true' _).mp hb1) h
     refine w_seq (w_region ?_)
     refine qp 66 (.agg (G_Delta_cells (⟨0, 0, (fun _ => (0 : UInt8)), (fun _ => (0 : UInt8)), ([] : List G.Command)⟩ : G.Delta) none 0)) hK fun fr hK => ?_
     refine qp 67 (.pointer (some ⟨b3, 0, none⟩)) hK fun fr hK => ?_
     refine qo 68 hK (s_load hK.at_ hS 2 rfl rfl rfl rfl (by kernel_rfl) ?_)
     clear hK fr; intro fr hK
     replace f18 := Els.mono rep_U8 f18 l17
     obtain ⟨y11, hy11, h⟩ := bind_some h
     replace hS : St _ m m17 [.box c1r0_b #[.slice c1r0_position_b_a ((((v3).position).b).length) c1r0_position_b_c, .int .i64 (((v3).position).at_), .int .i64 ((((v3).position).fault).code), .int .i64 ((((v3).position).fault).at_)] 110, .box b5 (G_Delta_cells (⟨y4.1, y5.1, y6.1, y7.1, v2.2⟩ : G.Delta) (adr g1) (g2)) 27, .box b3 #[.pointer (some ⟨c1r0_b, 0, none⟩)] 61, .box b2 #[.int .i64 0, .int .i64 0] 30, .box b1 (G_Delta_cells (⟨0, 0, (fun _ => (0 : UInt8)), (fun _ => (0 : UInt8)), ([] : List G.Command)⟩ : G.Delta) none 0) 27, rowOf 50 5 g1 g2 v2.2] := hS
     refine qo 69 hK (s_callM (R := [.box c1r0_b #[.slice c1r0_position_b_a ((((v3).position).b).length) c1r0_position_b_c, .int .i64 (((v3).position).at_), .int .i64 ((((v3).position).fault).code), .int .i64 ((((v3).position).fault).at_)] 110]) (L := [.box b5 (G_Delta_cells (⟨y4.1, y5.1, y6.1, y7.1, v2.2⟩ : G.Delta) (adr g1) (g2)) 27, .box b3 #[.pointer (some ⟨c1r0_b, 0, none⟩)] 61, .box b2 #[.int .i64 0, .int .i64 0] 30, .box b1 (G_Delta_cells (⟨0, 0, (fun _ => (0 : UInt8)), (fun _ => (0 : UInt8)), ([] : List G.Command)⟩ : G.Delta) none 0) 27, rowOf 50 5 g1 g2 v2.2]) hK.at_ hS ent47_2 rfl rfl rfl rfl (G.wire_Reader_Fault_spec f18 hy11 (Ow.left (L := [.box c1r0_b #[.slice c1r0_position_b_a ((((v3).position).b).length) c1r0_position_b_c, .int .i64 (((v3).position).at_), .int .i64 ((((v3).position).fault).code), .int .i64 ((((v3).position).fault).at_)] 110]) hS.ow)) (by kernel_rfl) ?_)
     clear hK fr hS; rintro _ m18 _ l18 hS ⟨rfl, rfl⟩ fr hK
     refine qo0 hK (s_storeAll hK.at_ 4 hS rfl rfl rfl rfl (by kernel_rfl) (by kernel_rfl) (by kernel_rfl) ?_)
     clear hK fr hS; intro m19 l19 hS fr hK
     refine qo0 hK (s_storeAll hK.at_ 4 hS rfl rfl rfl rfl (by kernel_rfl) (by kernel_rfl) (by kernel_rfl) ?_)
     clear hK fr hS; intro m20 l20 hS fr hK
     replace hS : St _ m m20 [.box b2 #[.int .i64 y11.code, .int .i64 y11.at_] 30, .box b1 (G_Delta_cells (⟨0, 0, (fun _ => (0 : UInt8)), (fun _ => (0 : UInt8)), ([] : List G.Command)⟩ : G.Delta) none 0) 27, .box c1r0_b #[.slice c1r0_position_b_a ((((v3).position).b).length) c1r0_position_b_c, .int .i64 (((v3).position).at_), .int .i64 ((((v3).position).fault).code), .int .i64 ((((v3).position).fault).at_)] 110, .box b5 (G_Delta_cells (⟨y4.1, y5.1, y6.1, y7.1, v2.2⟩ : G.Delta) (adr g1) (g2)) 27, .box b3 #[.pointer (some ⟨c1r0_b, 0, none⟩)] 61, rowOf 50 5 g1 g2 v2.2] := hS
     refine wpList_nil (then_n ?_)
     refine wp_ret ?_
     refine then_r ?_
     replace hS := hS.addRow (α := G.Command) 50 5
     replace h := Option.some.inj h; subst h
     replace hS : St _ m m20 [rowOf 50 5 none 0 ([] : List G.Command), .box b2 #[.int .i64 y11.code, .int .i64 y11.at_] 30, .box b1 (G_Delta_cells (⟨0, 0, (fun _ => (0 : UInt8)), (fun _ => (0 : UInt8)), ([] : List G.Command)⟩ : G.Delta) none 0) 27, .box c1r0_b #[.slice c1r0_position_b_a ((((v3).position).b).length) c1r0_position_b_c, .int .i64 (((v3).position).at_), .int .i64 ((((v3).position).fault).code), .int .i64 ((((v3).position).fault).at_)] 110, .box b5 (G_Delta_cells (⟨y4.1, y5.1, y6.1, y7.1, v2.2⟩ : G.Delta) (adr g1) (g2)) 27, .box b3 #[.pointer (some ⟨c1r0_b, 0, none⟩)] 61, rowOf 50 5 g1 g2 v2.2] := hS
     refine ret_of [.cell 2 27, .cell 3 30] [.agg (G_Delta_cells (⟨0, 0, (fun _ => (0 : UInt8)), (fun _ => (0 : UInt8)), ([] : List G.Command)⟩ : G.Delta) none 0), .agg #[.int .i64 y11.code, .int .i64 y11.at_]] rfl hK (ResL.box hS 2 rfl rfl (by kernel_rfl) (ResL.box hS 1 rfl rfl (by kernel_rfl) .nil)) (St.keep (L := [rowOf 50 5 none 0 ([] : List G.Command)]) (R := [.box b2 #[.int .i64 y11.code, .int .i64 y11.at_] 30, .box b1 (G_Delta_cells (⟨0, 0, (fun _ => (0 : UInt8)), (fun _ => (0 : UInt8)), ([] : List G.Command)⟩ : G.Delta) none 0) 27, .box c1r0_b #[.slice c1r0_position_b_a ((((v3).position).b).length) c1r0_position_b_c, .int .i64 (((v3).position).at_), .int .i64 ((((v3).position).fault).code), .int .i64 ((((v3).position).fault).at_)] 110, .box b5 (G_Delta_cells (⟨y4.1, y5.1, y6.1, y7.1, v2.2⟩ : G.Delta) (adr g1) (g2)) 27, .box b3 #[.pointer (some ⟨c1r0_b, 0, none⟩)] 61, rowOf 50 5 g1 g2 v2.2]) hS) ?_
     exact ⟨none, 0, rfl, rfl, (Els.nil _ _)⟩
    ·
     replace hK := hK.more (t := 65) (v' := .bool false) rfl (by rw [hb1])
     replace h := ite_f (not_false_of ((Bool.not_eq_false' _).mp hb1)) h
     refine wp_skip ?_
     refine then_n ?_
     refine w_seq (w_region ?_)
     refine qo 70 hK (s_loadAll hK.at_ hS 1 rfl rfl rfl (by kernel_rfl) ?_)
     clear hK fr; intro fr hK
     refine qp 71 (.agg #[.int .i64 0, .int .i64 0]) hK fun fr hK => ?_
     refine qo0 hK (s_storeAll hK.at_ 4 hS rfl rfl rfl rfl (by kernel_rfl) (by kernel_rfl) (by kernel_rfl) ?_)
     clear hK fr hS; intro m21 l21 hS fr hK
     refine qo0 hK (s_storeAll hK.at_ 4 hS rfl rfl rfl rfl (by kernel_rfl) (by kernel_rfl) (by kernel_rfl) ?_)
     clear hK fr hS; intro m22 l22 hS fr hK
     replace hS : St _ m m22 [.box b2 #[.int .i64 0, .int .i64 0] 30, .box b1 (G_Delta_cells (⟨y4.1, y5.1, y6.1, y7.1, v2.2⟩ : G.Delta) (adr g1) (g2)) 27, .box c1r0_b #[.slice c1r0_position_b_a ((((v3).position).b).length) c1r0_position_b_c, .int .i64 (((v3).position).at_), .int .i64 ((((v3).position).fault).code), .int .i64 ((((v3).position).fault).at_)] 110, .box b5 (G_Delta_cells (⟨y4.1, y5.1, y6.1, y7.1, v2.2⟩ : G.Delta) (adr g1) (g2)) 27, .box b3 #[.pointer (some ⟨c1r0_b, 0, none⟩)] 61, rowOf 50 5 g1 g2 v2.2] := hS
     refine wpList_nil (then_n ?_)
     refine wp_ret ?_
     replace f16 := Els.mono rep_G_Command f16 (l15.trans (l16.trans (l17.trans (l21.trans l22))))
     replace h := Option.some.inj h; subst h
     replace hS := hS.front 5 rfl
     replace hS : St _ m m22 [rowOf 50 5 g1 g2 v2.2, .box b2 #[.int .i64 0, .int .i64 0] 30, .box b1 (G_Delta_cells (⟨y4.1, y5.1, y6.1, y7.1, v2.2⟩ : G.Delta) (adr g1) (g2)) 27, .box c1r0_b #[.slice c1r0_position_b_a ((((v3).position).b).length) c1r0_position_b_c, .int .i64 (((v3).position).at_), .int .i64 ((((v3).position).fault).code), .int .i64 ((((v3).position).fault).at_)] 110, .box b5 (G_Delta_cells (⟨y4.1, y5.1, y6.1, y7.1, v2.2⟩ : G.Delta) (adr g1) (g2)) 27, .box b3 #[.pointer (some ⟨c1r0_b, 0, none⟩)] 61] := hS
     refine ret_of [.cell 2 27, .cell 3 30] [.agg (G_Delta_cells (⟨y4.1, y5.1, y6.1, y7.1, v2.2⟩ : G.Delta) (adr g1) (g2)), .agg #[.int .i64 0, .int .i64 0]] rfl hK (ResL.box hS 2 rfl rfl (by kernel_rfl) (ResL.box hS 1 rfl rfl (by kernel_rfl) .nil)) (St.keep (L := [rowOf 50 5 g1 g2 v2.2]) (R := [.box b2 #[.int .i64 0, .int .i64 0] 30, .box b1 (G_Delta_cells (⟨y4.1, y5.1, y6.1, y7.1, v2.2⟩ : G.Delta) (adr g1) (g2)) 27, .box c1r0_b #[.slice c1r0_position_b_a ((((v3).position).b).length) c1r0_position_b_c, .int .i64 (((v3).position).at_), .int .i64 ((((v3).position).fault).code), .int .i64 ((((v3).position).fault).at_)] 110, .box b5 (G_Delta_cells (⟨y4.1, y5.1, y6.1, y7.1, v2.2⟩ : G.Delta) (adr g1) (g2)) 27, .box b3 #[.pointer (some ⟨c1r0_b, 0, none⟩)] 61]) hS) ?_
     exact ⟨g1, g2, rfl, rfl, f16⟩
   ·
    replace h := hv3; clear hv3
    refine w_cond hK rfl (fun hb2 => ?_) (fun hb2 => ?_)
    ·
     replace hK := hK.more (t := 56) (v' := .bool true) rfl (by rw [hb2])
     replace h := ite_t (of_decide_eq_true hb2) h
     replace c1r0_position_b_f := Els.mono rep_U8 c1r0_position_b_f l15
     replace f2 := Els.mono rep_U8 f2 (l11.trans (l12.trans (l13.trans (l14.trans l15))))
     replace f3 := Els.mono rep_U8 f3 (l11.trans (l12.trans (l13.trans (l14.trans l15))))
     replace f4 := Els.mono rep_U8 f4 (l13.trans (l14.trans l15))
     replace f11 := Els.mono rep_U8 f11 (l13.trans (l14.trans l15))
     replace f12 := Els.mono rep_U8 f12 (l13.trans (l14.trans l15))
     replace f13 := Els.mono rep_U8 f13 (l13.trans (l14.trans l15))
     replace f14 := Els.mono rep_U8 f14 (l13.trans (l14.trans l15))
     have f15 : Els isU8 m15 1 c1r0_position_b_a c1r0_position_b_c y8.2.position.b := Els.cast c8re0.symm f14
     replace f16 := Els.mono rep_G_Command f16 l15
     replace f17 := Els.mono rep_U8 f17 l15
     obtain ⟨y12, hy12, h⟩ := bind_some h
     have hlt0 : ∀ bq ∈ blocksOf [.box c1r0_b #[.slice c1r0_position_b_a ((((v2.1).position).b).length) c1r0_position_b_c, .int .i64 (((v2.1).position).at_), .int .i64 ((((v2.1).position).fault).code), .int .i64 ((((v2.1).position).fault).at_)] 110, .box b5 (G_Delta_cells (⟨y4.1, y5.1, y6.1, y7.1, v2.2⟩ : G.Delta) (adr g1) (g2)) 27, rowOf 50 5 g1 g2 v2.2, .box b3 #[.pointer (some ⟨c1r0_b, 0, none⟩)] 61, .box b2 #[.int .i64 0, .int .i64 0] 30, .box b1 (G_Delta_cells (⟨0, 0, (fun _ => (0 : UInt8)), (fun _ => (0 : UInt8)), ([] : List G.Command)⟩ : G.Delta) none 0) 27], bq < m15.w.heap.size := fun bq hbq => hS.ow.lt hbq
     refine D.wp_draw (Gr := D.GO m15 none) (S := D.SO none (blocksOf []) m m15 (fun kq => match kq with | 0 => [.box c1r0_b #[.slice c1r0_position_b_a ((((v2.1).position).b).length) c1r0_position_b_c, .int .i64 (((v2.1).position).at_), .int .i64 ((((v2.1).position).fault).code), .int .i64 ((((v2.1).position).fault).at_)] 110, .box b5 (G_Delta_cells (⟨y4.1, y5.1, y6.1, y7.1, v2.2⟩ : G.Delta) (adr g1) (g2)) 27, rowOf 50 5 g1 g2 v2.2, .box b3 #[.pointer (some ⟨c1r0_b, 0, none⟩)] 61, .box b2 #[.int .i64 0, .int .i64 0] 30, .box b1 (G_Delta_cells (⟨0, 0, (fun _ => (0 : UInt8)), (fun _ => (0 : UInt8)), ([] : List G.Command)⟩ : G.Delta) none 0) 27] | _ => [.box c1r0_b #[.slice c1r0_position_b_a ((((v2.1).position).b).length) c1r0_position_b_c, .int .i64 (((v2.1).position).at_), .int .i64 ((((v2.1).position).fault).code), .int .i64 ((((v2.1).position).fault).at_)] 110, .box b5 (G_Delta_cells (⟨y4.1, y5.1, y6.1, y7.1, v2.2⟩ : G.Delta) (adr g1) (g2)) 27, rowOf 50 5 g1 g2 v2.2, .box b3 #[.pointer (some ⟨c1r0_b, 0, none⟩)] 61, .box b2 #[.int .i64 0, .int .i64 0] 30, .box b1 (G_Delta_cells (⟨0, 0, (fun _ => (0 : UInt8)), (fun _ => (0 : UInt8)), ([] : List G.Command)⟩ : G.Delta) none 0) 27]) (fun _ => True)) (N := 1) 5 [4] [([(4, none)], 0, 1, false), ([(57, some 0)], 0, 1, false), ([(4, none)], 0, 0, false), ([(59, some 0)], 0, 0, false), ([(60, some 0)], 0, 0, true)] hK.size (by kernel_rfl) (by kernel_rfl) (by kernel_rfl) rfl (D.startO hS trivial) ?_
     refine D.on_pure (D.GO_refl _ _) [(4, .pointer (some ⟨b3, 0, none⟩))] (.pointer (some ⟨b3, 0, none⟩)) (fun ac ww hk => (.cons (hk.1.trans (hK.at_ 4 _ rfl)) (.nil _))) ?_
     refine D.on_op (fun uu _ => uu = .pointer (some ⟨c1r0_b, 0, none⟩)) (fun _ _ _ h _ => h) (by
      intro ac ww kk hlo hhi hb hk
      obtain rfl | rfl : kk = 0 ∨ kk = 1 := by omega
      all_goals (
       have h0 := hS; replace hS := hb.2.1
       have k57 : ac.eval (.tmp 57) = .pointer (some ⟨b3, 0, none⟩) := hk.1
       have hKe : Ke ac [(57, .pointer (some ⟨b3, 0, none⟩))] := (.cons k57 (.nil _))
       exact ⟨D.wanted0 rfl, D.valO (m := m15) hb (fun Post hp => s_load hKe hS 3 rfl rfl rfl rfl (by kernel_rfl) hp) rfl⟩)) ?_
     refine D.on_pure (D.GO_refl _ _) [(4, .pointer (some ⟨b3, 0, none⟩))] (.pointer (some ⟨b3, 0, none⟩)) (fun ac ww hk => (.cons (hk.1.trans (hK.at_ 4 _ rfl)) (.nil _))) ?_
     refine D.on_op (fun uu _ => uu = .pointer (some ⟨c1r0_b, 0, none⟩)) (fun _ _ _ h _ => h) (by
      intro ac ww kk hlo hhi hb hk
      obtain rfl : kk = 0 := by omega
      have h0 := hS; replace hS := hb.2.1
      have k59 : ac.eval (.tmp 59) = .pointer (some ⟨b3, 0, none⟩) := hk.1
      have hKe : Ke ac [(59, .pointer (some ⟨b3, 0, none⟩))] := (.cons k59 (.nil _))
      exact ⟨D.wanted0 rfl, D.valO (m := m15) hb (fun Post hp => s_load hKe hS 3 rfl rfl rfl rfl (by kernel_rfl) hp) rfl⟩) ?_
     refine D.on_op (fun uu _ => uu = .int .i64 y12) (fun _ _ _ h _ => h) (by
      intro ac ww kk hlo hhi hb hk
      obtain rfl : kk = 0 := by omega
      have h0 := hS; replace hS := hb.2.1
      have k60 : ac.eval (.tmp 60) = .pointer (some ⟨c1r0_b, 0, none⟩) := hk.1
      have hKe : Ke ac [(60, .pointer (some ⟨c1r0_b, 0, none⟩))] := (.cons k60 (.nil _))
      replace f17 := Els.mono rep_U8 f17 hb.1
      exact ⟨D.wanted0 rfl, D.callMO (k := 0) (Rr := [.box c1r0_b #[.slice c1r0_position_b_a ((((v2.1).position).b).length) c1r0_position_b_c, .int .i64 (((v2.1).position).at_), .int .i64 ((((v2.1).position).fault).code), .int .i64 ((((v2.1).position).fault).at_)] 110]) (Ll := [.box b5 (G_Delta_cells (⟨y4.1, y5.1, y6.1, y7.1, v2.2⟩ : G.Delta) (adr g1) (g2)) 27, rowOf 50 5 g1 g2 v2.2, .box b3 #[.pointer (some ⟨c1r0_b, 0, none⟩)] 61, .box b2 #[.int .i64 0, .int .i64 0] 30, .box b1 (G_Delta_cells (⟨0, 0, (fun _ => (0 : UInt8)), (fun _ => (0 : UInt8)), ([] : List G.Command)⟩ : G.Delta) none 0) 27]) h0 (fun bq hbq => hlt0 bq (by revert hbq; simp [blocksOf, Ent.box, rowOf, Ent.row]; try omega)) (fun bq hbq => hlt0 bq (by revert hbq; simp [blocksOf, Ent.box, rowOf, Ent.row]; try omega)) ⟨hb.1, hS⟩ hKe ent46_2 rfl rfl rfl rfl (G.wire_Reader_At_spec f17 hy12 (Ow.left (L := [.box c1r0_b #[.slice c1r0_position_b_a ((((v2.1).position).b).length) c1r0_position_b_c, .int .i64 (((v2.1).position).at_), .int .i64 ((((v2.1).position).fault).code), .int .i64 ((((v2.1).position).fault).at_)] 110]) hS.ow)) (by kernel_rfl) (by
    rintro _ m' _ hg hl hnw hS2 ⟨rfl, rfl⟩
    exact ⟨rfl, hS2, trivial⟩)⟩) ?_
     refine D.finO ?_
     intro fr2 m23 hm1 l23 hS2 hF2 hE
     replace hS2 : St _ m m23 [.box c1r0_b #[.slice c1r0_position_b_a ((((v2.1).position).b).length) c1r0_position_b_c, .int .i64 (((v2.1).position).at_), .int .i64 ((((v2.1).position).fault).code), .int .i64 ((((v2.1).position).fault).at_)] 110, .box b5 (G_Delta_cells (⟨y4.1, y5.1, y6.1, y7.1, v2.2⟩ : G.Delta) (adr g1) (g2)) 27, rowOf 50 5 g1 g2 v2.2, .box b3 #[.pointer (some ⟨c1r0_b, 0, none⟩)] 61, .box b2 #[.int .i64 0, .int .i64 0] 30, .box b1 (G_Delta_cells (⟨0, 0, (fun _ => (0 : UInt8)), (fun _ => (0 : UInt8)), ([] : List G.Command)⟩ : G.Delta) none 0) 27] := hS2
     have hK2 := D.kn_ends [(57, .pointer (some ⟨b3, 0, none⟩)), (58, .pointer (some ⟨c1r0_b, 0, none⟩)), (59, .pointer (some ⟨b3, 0, none⟩)), (60, .pointer (some ⟨c1r0_b, 0, none⟩)), (61, .int .i64 y12)] hK hE rfl (by kernel_rfl) (.cons (hE.slots 57) (.cons (hE.slots 58) (.cons (hE.slots 59) (.cons (hE.slots 60) (.cons (hE.slots 61) (.nil _))))))
     replace hK2 : Kn 72 fr2 [(57, .pointer (some ⟨b3, 0, none⟩)), (58, .pointer (some ⟨c1r0_b, 0, none⟩)), (59, .pointer (some ⟨b3, 0, none⟩)), (60, .pointer (some ⟨c1r0_b, 0, none⟩)), (61, .int .i64 y12), (56, .bool true), (55, .int .i64 y9), (54, .pointer (some ⟨c1r0_b, 0, none⟩)), (53, .pointer (some ⟨b3, 0, none⟩)), (2, .pointer (some ⟨b1, 0, none⟩)), (3, .pointer (some ⟨b2, 0, none⟩)), (4, .pointer (some ⟨b3, 0, none⟩)), (6, .pointer (some ⟨b5, 0, none⟩))] := hK2.only [57, 58, 59, 60, 61, 56, 55, 54, 53, 2, 3, 4, 6]
     clear hE hK; revert hK2; clear hm1 hS hlt0; revert fr2; clear fr; intro fr hK; have hS := hS2; clear hS2
     replace hS : St _ m m23 [.box c1r0_b #[.slice c1r0_position_b_a ((((v2.1).position).b).length) c1r0_position_b_c, .int .i64 (((v2.1).position).at_), .int .i64 ((((v2.1).position).fault).code), .int .i64 ((((v2.1).position).fault).at_)] 110, .box b5 (G_Delta_cells (⟨y4.1, y5.1, y6.1, y7.1, v2.2⟩ : G.Delta) (adr g1) (g2)) 27, rowOf 50 5 g1 g2 v2.2, .box b3 #[.pointer (some ⟨c1r0_b, 0, none⟩)] 61, .box b2 #[.int .i64 0, .int .i64 0] 30, .box b1 (G_Delta_cells (⟨0, 0, (fun _ => (0 : UInt8)), (fun _ => (0 : UInt8)), ([] : List G.Command)⟩ : G.Delta) none 0) 27] := hS
     replace f17 := Els.mono rep_U8 f17 l23
     obtain ⟨y13, hy13, h⟩ := bind_some h
     replace hS : St _ m m23 [.box c1r0_b #[.slice c1r0_position_b_a ((((v2.1).position).b).length) c1r0_position_b_c, .int .i64 (((v2.1).position).at_), .int .i64 ((((v2.1).position).fault).code), .int .i64 ((((v2.1).position).fault).at_)] 110, .box b5 (G_Delta_cells (⟨y4.1, y5.1, y6.1, y7.1, v2.2⟩ : G.Delta) (adr g1) (g2)) 27, rowOf 50 5 g1 g2 v2.2, .box b3 #[.pointer (some ⟨c1r0_b, 0, none⟩)] 61, .box b2 #[.int .i64 0, .int .i64 0] 30, .box b1 (G_Delta_cells (⟨0, 0, (fun _ => (0 : UInt8)), (fun _ => (0 : UInt8)), ([] : List G.Command)⟩ : G.Delta) none 0) 27] := hS
     refine qo 62 hK (s_callM (R := [.box c1r0_b #[.slice c1r0_position_b_a ((((v2.1).position).b).length) c1r0_position_b_c, .int .i64 (((v2.1).position).at_), .int .i64 ((((v2.1).position).fault).code), .int .i64 ((((v2.1).position).fault).at_)] 110]) (L := [.box b5 (G_Delta_cells (⟨y4.1, y5.1, y6.1, y7.1, v2.2⟩ : G.Delta) (adr g1) (g2)) 27, rowOf 50 5 g1 g2 v2.2, .box b3 #[.pointer (some ⟨c1r0_b, 0, none⟩)] 61, .box b2 #[.int .i64 0, .int .i64 0] 30, .box b1 (G_Delta_cells (⟨0, 0, (fun _ => (0 : UInt8)), (fun _ => (0 : UInt8)), ([] : List G.Command)⟩ : G.Delta) none 0) 27]) hK.at_ hS ent40_2 rfl rfl rfl rfl (G.wire_Reader_Fail_spec f17 hy13 (Ow.left (L := [.box c1r0_b #[.slice c1r0_position_b_a ((((v2.1).position).b).length) c1r0_position_b_c, .int .i64 (((v2.1).position).at_), .int .i64 ((((v2.1).position).fault).code), .int .i64 ((((v2.1).position).fault).at_)] 110]) hS.ow)) (by kernel_rfl) ?_)
     clear hK fr hS; rintro _ m24 _ l24 hS ⟨rfl, rfl, c13re0⟩ fr hK
     replace hS : St _ m m24 [.box c1r0_b #[.slice c1r0_position_b_a y13.position.b.length c1r0_position_b_c, .int .i64 y13.position.at_, .int .i64 y13.position.fault.code, .int .i64 y13.position.fault.at_] 110, .box b5 (G_Delta_cells (⟨y4.1, y5.1, y6.1, y7.1, v2.2⟩ : G.Delta) (adr g1) (g2)) 27, rowOf 50 5 g1 g2 v2.2, .box b3 #[.pointer (some ⟨c1r0_b, 0, none⟩)] 61, .box b2 #[.int .i64 0, .int .i64 0] 30, .box b1 (G_Delta_cells (⟨0, 0, (fun _ => (0 : UInt8)), (fun _ => (0 : UInt8)), ([] : List G.Command)⟩ : G.Delta) none 0) 27] := hS
     refine wpList_nil (then_n ?_)
     replace f17 := Els.mono rep_U8 f17 l24
     have f19 : Els isU8 m24 1 c1r0_position_b_a c1r0_position_b_c y13.position.b := Els.cast c13re0.symm f17
     replace hS := hS.front 2 rfl
     replace hS := hS.front 5 rfl
     replace hS := hS.front 5 rfl
     replace hS := hS.front 5 rfl
     replace hS := hS.front 5 rfl
     replace hS := hS.front 5 rfl
     replace hS : St _ m m24 [.box c1r0_b #[.slice c1r0_position_b_a y13.position.b.length c1r0_position_b_c, .int .i64 y13.position.at_, .int .i64 y13.position.fault.code, .int .i64 y13.position.fault.at_] 110, .box b5 (G_Delta_cells (⟨y4.1, y5.1, y6.1, y7.1, v2.2⟩ : G.Delta) (adr g1) (g2)) 27, .box b3 #[.pointer (some ⟨c1r0_b, 0, none⟩)] 61, .box b2 #[.int .i64 0, .int .i64 0] 30, .box b1 (G_Delta_cells (⟨0, 0, (fun _ => (0 : UInt8)), (fun _ => (0 : UInt8)), ([] : List G.Command)⟩ : G.Delta) none 0) 27, rowOf 50 5 g1 g2 v2.2] := hS
     replace h := Option.some.inj h; subst h
     exact ⟨m24, rfl, hK.only [2, 3, 4, 6], l23.trans l24, hS, (c13re0.trans he2)⟩
    ·
     replace hK := hK.more (t := 56) (v' := .bool false) rfl (by rw [hb2])
     replace h := ite_f (of_decide_eq_false hb2) h
     refine wp_skip ?_
     refine then_n ?_
     replace f17 := Els.mono rep_U8 f17 l15
     replace hS := hS.front 2 rfl
     replace hS := hS.front 5 rfl
     replace hS := hS.front 5 rfl
     replace hS := hS.front 5 rfl
     replace hS := hS.front 5 rfl
     replace hS := hS.front 5 rfl
     replace hS : St _ m m15 [.box c1r0_b #[.slice c1r0_position_b_a ((((v2.1).position).b).length) c1r0_position_b_c, .int .i64 (((v2.1).position).at_), .int .i64 ((((v2.1).position).fault).code), .int .i64 ((((v2.1).position).fault).at_)] 110, .box b5 (G_Delta_cells (⟨y4.1, y5.1, y6.1, y7.1, v2.2⟩ : G.Delta) (adr g1) (g2)) 27, .box b3 #[.pointer (some ⟨c1r0_b, 0, none⟩)] 61, .box b2 #[.int .i64 0, .int .i64 0] 30, .box b1 (G_Delta_cells (⟨0, 0, (fun _ => (0 : UInt8)), (fun _ => (0 : UInt8)), ([] : List G.Command)⟩ : G.Delta) none 0) 27, rowOf 50 5 g1 g2 v2.2] := hS
     replace h := Option.some.inj h; subst h
     exact ⟨m15, rfl, hK.only [2, 3, 4, 6], Le.refl _, hS, he2⟩
  ·
   replace h := hv2; clear hv2
   refine wp_block ?_
   replace f14 := Els.mono rep_U8 f14 l13
   have f15 : Els isU8 m13 1 c1r0_position_b_a c1r0_position_b_c y8.2.position.b := Els.cast c8re0.symm f14
   replace hS := hS.addRow (α := G.Command) 50 5
   replace hS := hS.front 5 rfl
   replace hS := hS.front 5 rfl
   replace hS := hS.front 5 rfl
   replace hS := hS.front 3 rfl
   replace hS := hS.front 5 rfl
   replace hS := hS.front 5 rfl
   replace hS : St _ m m13 [.box c1r0_b #[.slice c1r0_position_b_a y8.2.position.b.length c1r0_position_b_c, .int .i64 y8.2.position.at_, .int .i64 y8.2.position.fault.code, .int .i64 y8.2.position.fault.at_] 110, .box b5 (G_Delta_cells (⟨y4.1, y5.1, y6.1, y7.1, ([] : List G.Command)⟩ : G.Delta) none 0) 27, rowOf 50 5 none 0 ([] : List G.Command), .box b3 #[.pointer (some ⟨c1r0_b, 0, none⟩)] 61, .box b2 #[.int .i64 0, .int .i64 0] 30, .box b1 (G_Delta_cells (⟨0, 0, (fun _ => (0 : UInt8)), (fun _ => (0 : UInt8)), ([] : List G.Command)⟩ : G.Delta) none 0) 27] := hS
   refine w_loopL h (fun (s1 : G.wire_Reader × (List G.Command) × Int) fr ww => ∃ (g3 : Option Nat), ∃ (g4 : Nat), ∃ m25 : Mem, m25.w = ww ∧ Kn 72 fr [(2, .pointer (some ⟨b1, 0, none⟩)), (3, .pointer (some ⟨b2, 0, none⟩)), (4, .pointer (some ⟨b3, 0, none⟩)), (6, .pointer (some ⟨b5, 0, none⟩)), (7, .int .u64 s1.2.2)] ∧ Le m13 m25 ∧ St (blocksOf []) m m25 [.box c1r0_b #[.slice c1r0_position_b_a ((((s1.1).position).b).length) c1r0_position_b_c, .int .i64 (((s1.1).position).at_), .int .i64 ((((s1.1).position).fault).code), .int .i64 ((((s1.1).position).fault).at_)] 110, .box b5 (G_Delta_cells (⟨y4.1, y5.1, y6.1, y7.1, s1.2.1⟩ : G.Delta) (adr g3) (g4)) 27, rowOf 50 5 g3 g4 s1.2.1, .box b3 #[.pointer (some ⟨c1r0_b, 0, none⟩)] 61, .box b2 #[.int .i64 0, .int .i64 0] 30, .box b1 (G_Delta_cells (⟨0, 0, (fun _ => (0 : UInt8)), (fun _ => (0 : UInt8)), ([] : List G.Command)⟩ : G.Delta) none 0) 27] ∧ Els is_G_Command m25 5 (adr g3) g4 s1.2.1 ∧ ((s1.1).position).b = y1.position.b) ?_ ?_
   · exact ⟨none, 0, m13, rfl, hK.only [2, 3, 4, 6, 7], Le.refl _, hS, (Els.nil _ _), (c8re0.trans (eq0_3.trans (eq0_2.trans (eq0_1.trans (eq0_0.trans he1)))))⟩
   clear hK hS fr h
   rintro k1 s1 x1 fr _ ⟨g3, g4, m25, rfl, hK, l25, hS, f20, he4⟩ h hn1
   unfold G.format_Decode_l1 at h
   refine w_seq ?_
   refine w_seq ?_
   obtain ⟨v4, hv4, h⟩ := bind_some h
   refine w_join (fun fr ww => ∃ m26 : Mem, m26.w = ww ∧ Kn 72 fr [(2, .pointer (some ⟨b1, 0, none⟩)), (3, .pointer (some ⟨b2, 0, none⟩)), (4, .pointer (some ⟨b3, 0, none⟩)), (6, .pointer (some ⟨b5, 0, none⟩)), (7, .int .u64 s1.2.2), (43, .bool v4)] ∧ Le m25 m26 ∧ St (blocksOf []) m m26 [.box c1r0_b #[.slice c1r0_position_b_a ((((s1.1).position).b).length) c1r0_position_b_c, .int .i64 (((s1.1).position).at_), .int .i64 ((((s1.1).position).fault).code), .int .i64 ((((s1.1).position).fault).at_)] 110, .box b5 (G_Delta_cells (⟨y4.1, y5.1, y6.1, y7.1, s1.2.1⟩ : G.Delta) (adr g3) (g4)) 27, .box b3 #[.pointer (some ⟨c1r0_b, 0, none⟩)] 61, .box b2 #[.int .i64 0, .int .i64 0] 30, .box b1 (G_Delta_cells (⟨0, 0, (fun _ => (0 : UInt8)), (fun _ => (0 : UInt8)), ([] : List G.Command)⟩ : G.Delta) none 0) 27, rowOf 50 5 g3 g4 s1.2.1]) ?_ ?_
   ·
    clear hK hS fr hv4
    rintro fr _ ⟨m26, rfl, hK, l26, hS⟩
    refine then_n ?_
    refine w_cond hK rfl (fun hb3 => ?_) (fun hb3 => ?_)
    ·
     replace hK := hK.more (t := 43) (v' := .bool true) rfl (by rw [hb3])
     replace h := ite_t (hb3) h
     refine wp_skip ?_
     refine then_n ?_
     refine w_seq ?_
     refine wp_block ?_
     replace c1r0_position_b_f := Els.mono rep_U8 c1r0_position_b_f (l11.trans (l12.trans (l13.trans (l25.trans l26))))
     replace f2 := Els.mono rep_U8 f2 (l11.trans (l12.trans (l13.trans (l25.trans l26))))
     replace f3 := Els.mono rep_U8 f3 (l11.trans (l12.trans (l13.trans (l25.trans l26))))
     replace f4 := Els.mono rep_U8 f4 (l13.trans (l25.trans l26))
     replace f11 := Els.mono rep_U8 f11 (l13.trans (l25.trans l26))
     replace f12 := Els.mono rep_U8 f12 (l13.trans (l25.trans l26))
     replace f13 := Els.mono rep_U8 f13 (l13.trans (l25.trans l26))
     replace f14 := Els.mono rep_U8 f14 (l25.trans l26)
     replace f15 := Els.mono rep_U8 f15 (l25.trans l26)
     replace f20 := Els.mono rep_G_Command f20 l26
     have f21 : Els isU8 m26 1 c1r0_position_b_a c1r0_position_b_c (((s1.1).position).b) := Els.cast he4.symm c1r0_position_b_f
     obtain ⟨y14, hy14, h⟩ := bind_some h
     have hm0 : ∀ p ∈ ([(fun _ A _ => A = [.box c1r0_b #[.slice c1r0_position_b_a ((((s1.1).position).b).length) c1r0_position_b_c, .int .i64 (((s1.1).position).at_), .int .i64 ((((s1.1).position).fault).code), .int .i64 ((((s1.1).position).fault).at_)] 110]), (fun l A M => ∃ (c14r0_data_a : Option Addr) (c14r0_data_c : Nat), l[0]? = some (.agg #[.int .i64 y14.1.kind, .int .i64 y14.1.to, .int .i64 y14.1.from_, .int .i64 y14.1.len, .slice c14r0_data_a y14.1.data.length c14r0_data_c]) ∧ A = [.box c1r0_b #[.slice c1r0_position_b_a y14.2.position.b.length c1r0_position_b_c, .int .i64 y14.2.position.at_, .int .i64 y14.2.position.fault.code, .int .i64 y14.2.position.fault.at_] 110] ∧ Els isU8 M 1 c14r0_data_a c14r0_data_c y14.1.data ∧ y14.2.position.b = ((s1.1).position).b), (fun l A M => ∃ (c14r0_data_a : Option Addr) (c14r0_data_c : Nat) (b6 : Nat), l[0]? = some (.agg #[.int .i64 y14.1.kind, .int .i64 y14.1.to, .int .i64 y14.1.from_, .int .i64 y14.1.len, .slice c14r0_data_a y14.1.data.length c14r0_data_c]) ∧ l[1]? = some (.slice (adr (some b6)) (([y14.1] : List G.Command).length) 1) ∧ A = [rowOf 50 5 (some b6) 1 ([y14.1] : List G.Command), .box c1r0_b #[.slice c1r0_position_b_a y14.2.position.b.length c1r0_position_b_c, .int .i64 y14.2.position.at_, .int .i64 y14.2.position.fault.code, .int .i64 y14.2.position.fault.at_] 110] ∧ Els isU8 M 1 c14r0_data_a c14r0_data_c y14.1.data ∧ Els is_G_Command M 5 (adr (some b6)) 1 ([y14.1] : List G.Command) ∧ y14.2.position.b = ((s1.1).position).b)] : List D.Stage), D.MonoP p := D.allP_cons (fun _ _ _ _ h _ => h) (D.allP_cons (fun _ _ _ _ ⟨c14r0_data_a, c14r0_data_c, el0, eA, c14r0_data_f, eq0⟩ hl => ⟨c14r0_data_a, c14r0_data_c, el0, eA, Els.mono rep_U8 c14r0_data_f hl, eq0⟩) (D.allP_cons (fun _ _ _ _ ⟨c14r0_data_a, c14r0_data_c, b6, el0, el1, eA, c14r0_data_f, f23, eq0⟩ hl => ⟨c14r0_data_a, c14r0_data_c, b6, el0, el1, eA, Els.mono rep_U8 c14r0_data_f hl, Els.mono rep_G_Command f23 hl, eq0⟩) (D.allP_nil)))
     have hCm := D.C1_mono [.box b5 (G_Delta_cells (⟨y4.1, y5.1, y6.1, y7.1, s1.2.1⟩ : G.Delta) (adr g3) (g4)) 27, .box b3 #[.pointer (some ⟨c1r0_b, 0, none⟩)] 61, .box b2 #[.int .i64 0, .int .i64 0] 30, .box b1 (G_Delta_cells (⟨0, 0, (fun _ => (0 : UInt8)), (fun _ => (0 : UInt8)), ([] : List G.Command)⟩ : G.Delta) none 0) 27, rowOf 50 5 g3 g4 s1.2.1] hm0
     refine D.wp_drawM (m0 := m26) 5 [[3, 4]] [([(6, none)], [(0, 2)], none), ([(46, some 0)], [(0, 2)], none), ([(4, none)], [(0, 0)], none), ([(48, some 0)], [(0, 0)], some 0), ([(49, some 0)], [(1, 1)], some 0)] (D.SM m26 m (blocksOf []) (D.C1 [(fun _ A _ => A = [.box c1r0_b #[.slice c1r0_position_b_a ((((s1.1).position).b).length) c1r0_position_b_c, .int .i64 (((s1.1).position).at_), .int .i64 ((((s1.1).position).fault).code), .int .i64 ((((s1.1).position).fault).at_)] 110]), (fun l A M => ∃ (c14r0_data_a : Option Addr) (c14r0_data_c : Nat), l[0]? = some (.agg #[.int .i64 y14.1.kind, .int .i64 y14.1.to, .int .i64 y14.1.from_, .int .i64 y14.1.len, .slice c14r0_data_a y14.1.data.length c14r0_data_c]) ∧ A = [.box c1r0_b #[.slice c1r0_position_b_a y14.2.position.b.length c1r0_position_b_c, .int .i64 y14.2.position.at_, .int .i64 y14.2.position.fault.code, .int .i64 y14.2.position.fault.at_] 110] ∧ Els isU8 M 1 c14r0_data_a c14r0_data_c y14.1.data ∧ y14.2.position.b = ((s1.1).position).b), (fun l A M => ∃ (c14r0_data_a : Option Addr) (c14r0_data_c : Nat) (b6 : Nat), l[0]? = some (.agg #[.int .i64 y14.1.kind, .int .i64 y14.1.to, .int .i64 y14.1.from_, .int .i64 y14.1.len, .slice c14r0_data_a y14.1.data.length c14r0_data_c]) ∧ l[1]? = some (.slice (adr (some b6)) (([y14.1] : List G.Command).length) 1) ∧ A = [rowOf 50 5 (some b6) 1 ([y14.1] : List G.Command), .box c1r0_b #[.slice c1r0_position_b_a y14.2.position.b.length c1r0_position_b_c, .int .i64 y14.2.position.at_, .int .i64 y14.2.position.fault.code, .int .i64 y14.2.position.fault.at_] 110] ∧ Els isU8 M 1 c14r0_data_a c14r0_data_c y14.1.data ∧ Els is_G_Command M 5 (adr (some b6)) 1 ([y14.1] : List G.Command) ∧ y14.2.position.b = ((s1.1).position).b)] [.box b5 (G_Delta_cells (⟨y4.1, y5.1, y6.1, y7.1, s1.2.1⟩ : G.Delta) (adr g3) (g4)) 27, .box b3 #[.pointer (some ⟨c1r0_b, 0, none⟩)] 61, .box b2 #[.int .i64 0, .int .i64 0] 30, .box b1 (G_Delta_cells (⟨0, 0, (fun _ => (0 : UInt8)), (fun _ => (0 : UInt8)), ([] : List G.Command)⟩ : G.Delta) none 0) 27, rowOf 50 5 g3 g4 s1.2.1])) hK.size (by kernel_rfl) (by kernel_rfl) (by kernel_rfl) (D.start1 hS (fun _ => rfl)) ?_
     refine D.onP [(6, .pointer (some ⟨b5, 0, none⟩))] (.pointer (some ⟨b5, 66, none⟩)) (fun ac MM hk => (.cons (hk.1.trans (hK.at_ 6 _ rfl)) (.nil _))) ?_
     refine D.onA (fun uu _ => uu = .slice (adr g3) s1.2.1.length g4) (fun _ _ _ h _ => h) (by
      intro ac MM vs hbd hcor hS00 hk; have hS0 := hS00
      obtain ⟨hle, LL, hC, hSt⟩ := hS0
      have hSt0 := hSt
      have hC0 := hC; obtain ⟨A0, h0, rfl⟩ := hC
      have hS := D.St_right (hSt)
      have k46 : ac.eval (.tmp 46) = .pointer (some ⟨b5, 66, none⟩) := hk.1
      have hKe : Ke ac [(46, .pointer (some ⟨b5, 66, none⟩))] := (.cons k46 (.nil _))
      exact ⟨D.wanted0 rfl, s_load hKe hS 0 rfl rfl rfl rfl (by kernel_rfl) ⟨MM, rfl, Le.refl _, rfl, hS00⟩⟩) ?_
     refine D.onA (fun uu _ => uu = .agg #[.pointer (some ⟨c1r0_b, 0, none⟩)]) (fun _ _ _ h _ => h) (by
      intro ac MM vs hbd hcor hS00 hk; have hS0 := hS00
      obtain ⟨hle, LL, hC, hSt⟩ := hS0
      have hSt0 := hSt
      have hC0 := hC; obtain ⟨A0, h0, rfl⟩ := hC
      have hS := D.St_right (hSt)
      have k4 : ac.eval (.tmp 4) = .pointer (some ⟨b3, 0, none⟩) := hk.1.trans (hK.at_ 4 _ rfl)
      have hKe : Ke ac [(4, .pointer (some ⟨b3, 0, none⟩))] := (.cons k4 (.nil _))
      exact ⟨D.wanted0 rfl, s_loadAll hKe hS 1 rfl rfl rfl (by kernel_rfl) ⟨MM, rfl, Le.refl _, rfl, hS00⟩⟩) ?_
     refine D.onA (fun uu MM => ∃ (c14r0_data_a : Option Addr) (c14r0_data_c : Nat), uu = .agg #[.int .i64 y14.1.kind, .int .i64 y14.1.to, .int .i64 y14.1.from_, .int .i64 y14.1.len, .slice c14r0_data_a y14.1.data.length c14r0_data_c] ∧ Els isU8 MM 1 c14r0_data_a c14r0_data_c y14.1.data) (fun _ _ _ ⟨c14r0_data_a, c14r0_data_c, e, c14r0_data_f⟩ g => ⟨c14r0_data_a, c14r0_data_c, e, Els.mono rep_U8 c14r0_data_f g⟩) (by
      intro ac MM vs hbd hcor hS00 hk; have hS0 := hS00
      obtain ⟨hle, LL, hC, hSt⟩ := hS0
      have hSt0 := hSt
      have hC0 := hC; obtain ⟨A0, h0, rfl⟩ := hC
      have hn := D.bd_eq hbd 0 0 rfl
      obtain rfl := D.CH.at h0 hn rfl
      replace hSt := hSt
      have k48 : ac.eval (.tmp 48) = .agg #[.pointer (some ⟨c1r0_b, 0, none⟩)] := hk.1
      have hKe : Ke ac [(48, .agg #[.pointer (some ⟨c1r0_b, 0, none⟩)])] := (.cons k48 (.nil _))
      replace f21 := Els.mono rep_U8 f21 hle
      exact ⟨D.wanted0 rfl, s_callM (R := [.box c1r0_b #[.slice c1r0_position_b_a ((((s1.1).position).b).length) c1r0_position_b_c, .int .i64 (((s1.1).position).at_), .int .i64 ((((s1.1).position).fault).code), .int .i64 ((((s1.1).position).fault).at_)] 110]) hKe hSt ent44_2 rfl rfl rfl rfl (G.format_decoder_command_spec f21 hy14 (Ow.left (L := [.box c1r0_b #[.slice c1r0_position_b_a ((((s1.1).position).b).length) c1r0_position_b_c, .int .i64 (((s1.1).position).at_), .int .i64 ((((s1.1).position).fault).code), .int .i64 ((((s1.1).position).fault).at_)] 110]) hSt.ow)) (by kernel_rfl) (by
        rintro _ M2 _ l2 hS2 ⟨c14r0_data_a, c14r0_data_c, rfl, rfl, c14r0_data_f, eq0⟩
        exact ⟨M2, rfl, l2, ⟨c14r0_data_a, c14r0_data_c, rfl, c14r0_data_f⟩, hle.trans l2, _, ⟨_, D.CH.push hn rfl ⟨c14r0_data_a, c14r0_data_c, D.get_push hn, rfl, c14r0_data_f, eq0⟩, rfl⟩, hS2⟩)⟩) ?_
     refine D.onA (fun uu MM => ∃ (b6 : Nat), uu = .slice (adr (some b6)) (([y14.1] : List G.Command).length) 1 ∧ Els is_G_Command MM 5 (adr (some b6)) 1 ([y14.1] : List G.Command)) (fun _ _ _ ⟨b6, e, f23⟩ g => ⟨b6, e, Els.mono rep_G_Command f23 g⟩) (by
      intro ac MM vs hbd hcor hS00 hk; have hS0 := hS00
      obtain ⟨hle, LL, hC, hSt⟩ := hS0
      have hSt0 := hSt
      have hC0 := hC; obtain ⟨A0, h0, rfl⟩ := hC
      have hn := D.bd_eq hbd 0 1 rfl
      obtain ⟨c14r0_data_a, c14r0_data_c, el0, rfl, c14r0_data_f, eq0⟩ := D.CH.at h0 hn rfl
      replace hSt := hSt
      have k49 : ac.eval (.tmp 49) = .agg #[.int .i64 y14.1.kind, .int .i64 y14.1.to, .int .i64 y14.1.from_, .int .i64 y14.1.len, .slice c14r0_data_a y14.1.data.length c14r0_data_c] := hcor 0 0 _ _ _ _ rfl rfl rfl el0
      have hKe : Ke ac [(49, .agg #[.int .i64 y14.1.kind, .int .i64 y14.1.to, .int .i64 y14.1.from_, .int .i64 y14.1.len, .slice c14r0_data_a y14.1.data.length c14r0_data_c])] := (.cons k49 (.nil _))
      exact ⟨D.wanted0 rfl, s_buildRow (elem := 50) #[.int .i64 y14.1.kind, .int .i64 y14.1.to, .int .i64 y14.1.from_, .int .i64 y14.1.len, .slice c14r0_data_a y14.1.data.length c14r0_data_c] hKe hSt rfl (by kernel_rfl) (by kernel_rfl) (by
        intro M2 b6 l2 hS2 hA2
        replace c14r0_data_f := Els.mono rep_U8 c14r0_data_f l2
        have f23 : Els is_G_Command M2 5 (some ⟨b6, 0, none⟩) 1 ([y14.1] : List G.Command) := els_lit rep_G_Command [[.int .i64 y14.1.kind, .int .i64 y14.1.to, .int .i64 y14.1.from_, .int .i64 y14.1.len, .slice c14r0_data_a y14.1.data.length c14r0_data_c]] hA2 (by simp) (by decide) (.cons ⟨c14r0_data_a, c14r0_data_c, rfl, c14r0_data_f⟩ .nil)
        exact ⟨M2, rfl, l2, ⟨b6, rfl, f23⟩, hle.trans l2, _, ⟨_, D.CH.push hn rfl ⟨c14r0_data_a, c14r0_data_c, b6, D.get_old el0, D.get_push hn, rfl, c14r0_data_f, f23, eq0⟩, rfl⟩, hS2⟩)⟩) ?_
     intro fr2 m27 vs hlen hcor hS2 hE; obtain ⟨l27, LL, hC, hS2⟩ := hS2
     obtain ⟨A0, h0, rfl⟩ := hC
     obtain ⟨c14r0_data_a, c14r0_data_c, b6, el0_0, el0_1, rfl, c14r0_data_f, f23, eq0_0⟩ := D.CH.at h0 (hlen 0) rfl
     replace hS2 : St _ m m27 [rowOf 50 5 (some b6) 1 ([y14.1] : List G.Command), .box c1r0_b #[.slice c1r0_position_b_a y14.2.position.b.length c1r0_position_b_c, .int .i64 y14.2.position.at_, .int .i64 y14.2.position.fault.code, .int .i64 y14.2.position.fault.at_] 110, .box b5 (G_Delta_cells (⟨y4.1, y5.1, y6.1, y7.1, s1.2.1⟩ : G.Delta) (adr g3) (g4)) 27, .box b3 #[.pointer (some ⟨c1r0_b, 0, none⟩)] 61, .box b2 #[.int .i64 0, .int .i64 0] 30, .box b1 (G_Delta_cells (⟨0, 0, (fun _ => (0 : UInt8)), (fun _ => (0 : UInt8)), ([] : List G.Command)⟩ : G.Delta) none 0) 27, rowOf 50 5 g3 g4 s1.2.1] := hS2
     have kl49 : fr2.eval (.tmp 49) = .agg #[.int .i64 y14.1.kind, .int .i64 y14.1.to, .int .i64 y14.1.from_, .int .i64 y14.1.len, .slice c14r0_data_a y14.1.data.length c14r0_data_c] := hcor 0 0 _ _ _ _ rfl rfl rfl el0_0
     have kl50 : fr2.eval (.tmp 50) = .slice (adr (some b6)) (([y14.1] : List G.Command).length) 1 := hcor 0 1 _ _ _ _ rfl rfl rfl el0_1
     have hK2 := D.kn_endsM [(46, .pointer (some ⟨b5, 66, none⟩)), (47, .slice (adr g3) s1.2.1.length g4), (48, .agg #[.pointer (some ⟨c1r0_b, 0, none⟩)]), (49, .agg #[.int .i64 y14.1.kind, .int .i64 y14.1.to, .int .i64 y14.1.from_, .int .i64 y14.1.len, .slice c14r0_data_a y14.1.data.length c14r0_data_c]), (50, .slice (adr (some b6)) (([y14.1] : List G.Command).length) 1)] hK hE rfl (by kernel_rfl) (.cons (hE.slots 46) (.cons (hE.slots 47) (.cons (hE.slots 48) (.cons (kl49) (.cons (kl50) (.nil _))))))
     replace hK2 : Kn 72 fr2 [(46, .pointer (some ⟨b5, 66, none⟩)), (47, .slice (adr g3) s1.2.1.length g4), (48, .agg #[.pointer (some ⟨c1r0_b, 0, none⟩)]), (49, .agg #[.int .i64 y14.1.kind, .int .i64 y14.1.to, .int .i64 y14.1.from_, .int .i64 y14.1.len, .slice c14r0_data_a y14.1.data.length c14r0_data_c]), (50, .slice (adr (some b6)) (([y14.1] : List G.Command).length) 1), (43, .bool true), (2, .pointer (some ⟨b1, 0, none⟩)), (3, .pointer (some ⟨b2, 0, none⟩)), (4, .pointer (some ⟨b3, 0, none⟩)), (6, .pointer (some ⟨b5, 0, none⟩)), (7, .int .u64 s1.2.2)] := hK2.only [46, 47, 48, 49, 50, 43, 2, 3, 4, 6, 7]
     clear hE hK hcor hlen kl49 kl50 h0 el0_0 el0_1; revert hK2; clear hS; revert fr2; clear fr; intro fr hK; have hS := hS2; clear hS2 hCm hm0
     replace hS : St _ m m27 [rowOf 50 5 (some b6) 1 ([y14.1] : List G.Command), .box c1r0_b #[.slice c1r0_position_b_a y14.2.position.b.length c1r0_position_b_c, .int .i64 y14.2.position.at_, .int .i64 y14.2.position.fault.code, .int .i64 y14.2.position.fault.at_] 110, .box b5 (G_Delta_cells (⟨y4.1, y5.1, y6.1, y7.1, s1.2.1⟩ : G.Delta) (adr g3) (g4)) 27, .box b3 #[.pointer (some ⟨c1r0_b, 0, none⟩)] 61, .box b2 #[.int .i64 0, .int .i64 0] 30, .box b1 (G_Delta_cells (⟨0, 0, (fun _ => (0 : UInt8)), (fun _ => (0 : UInt8)), ([] : List G.Command)⟩ : G.Delta) none 0) 27, rowOf 50 5 g3 g4 s1.2.1] := hS
     replace f20 := Els.mono rep_G_Command f20 l27
     obtain ⟨x2, hy15, h⟩ := bind_some h
     refine qo 51 hK (s_app elT25_2 rep_G_Command hy15 hK.at_ 6 hS rfl f20 f23 rfl rfl rfl (by decide) ?_)
     clear hK fr hS; intro m28 g5 cp1 l28 hS f25 fr hK
     replace hS : St _ m m28 [rowOf 50 5 g5 cp1 x2, rowOf 50 5 (some b6) 1 ([y14.1] : List G.Command), .box c1r0_b #[.slice c1r0_position_b_a y14.2.position.b.length c1r0_position_b_c, .int .i64 y14.2.position.at_, .int .i64 y14.2.position.fault.code, .int .i64 y14.2.position.fault.at_] 110, .box b5 (G_Delta_cells (⟨y4.1, y5.1, y6.1, y7.1, s1.2.1⟩ : G.Delta) (adr g3) (g4)) 27, .box b3 #[.pointer (some ⟨c1r0_b, 0, none⟩)] 61, .box b2 #[.int .i64 0, .int .i64 0] 30, .box b1 (G_Delta_cells (⟨0, 0, (fun _ => (0 : UInt8)), (fun _ => (0 : UInt8)), ([] : List G.Command)⟩ : G.Delta) none 0) 27] := hS
     refine qp 52 (.pointer (some ⟨b5, 66, none⟩)) hK fun fr hK => ?_
     refine qo0 hK (s_store hK.at_ 3 hS rfl rfl rfl rfl (by kernel_rfl) (by kernel_rfl) (by kernel_rfl) ?_)
     clear hK fr hS; intro m29 l29 hS fr hK
     have hf1 : putAt (G_Delta_cells (⟨y4.1, y5.1, y6.1, y7.1, s1.2.1⟩ : G.Delta) (adr g3) (g4)) 66 [.slice (adr g5) x2.length cp1] = G_Delta_cells (⟨y4.1, y5.1, y6.1, y7.1, x2⟩ : G.Delta) (adr g5) cp1 := by kernel_rfl
     replace hS : St _ m m29 [.box b5 (putAt (G_Delta_cells (⟨y4.1, y5.1, y6.1, y7.1, s1.2.1⟩ : G.Delta) (adr g3) (g4)) 66 [.slice (adr g5) x2.length cp1]) 27, rowOf 50 5 g5 cp1 x2, rowOf 50 5 (some b6) 1 ([y14.1] : List G.Command), .box c1r0_b #[.slice c1r0_position_b_a y14.2.position.b.length c1r0_position_b_c, .int .i64 y14.2.position.at_, .int .i64 y14.2.position.fault.code, .int .i64 y14.2.position.fault.at_] 110, .box b3 #[.pointer (some ⟨c1r0_b, 0, none⟩)] 61, .box b2 #[.int .i64 0, .int .i64 0] 30, .box b1 (G_Delta_cells (⟨0, 0, (fun _ => (0 : UInt8)), (fun _ => (0 : UInt8)), ([] : List G.Command)⟩ : G.Delta) none 0) 27] := hS
     rw [hf1] at hS
     replace hS : St _ m m29 [.box b5 (G_Delta_cells (⟨y4.1, y5.1, y6.1, y7.1, x2⟩ : G.Delta) (adr g5) cp1) 27, rowOf 50 5 g5 cp1 x2, rowOf 50 5 (some b6) 1 ([y14.1] : List G.Command), .box c1r0_b #[.slice c1r0_position_b_a y14.2.position.b.length c1r0_position_b_c, .int .i64 y14.2.position.at_, .int .i64 y14.2.position.fault.code, .int .i64 y14.2.position.fault.at_] 110, .box b3 #[.pointer (some ⟨c1r0_b, 0, none⟩)] 61, .box b2 #[.int .i64 0, .int .i64 0] 30, .box b1 (G_Delta_cells (⟨0, 0, (fun _ => (0 : UInt8)), (fun _ => (0 : UInt8)), ([] : List G.Command)⟩ : G.Delta) none 0) 27] := hS
     refine wpList_nil ?_
     refine blk_n ?_
     refine then_n ?_
     refine w_region ?_
     refine qp 44 (.int .u64 s1.2.2) hK fun fr hK => ?_
     refine qp 45 (.int .u64 (IntKind.u64.wrap (s1.2.2 - 1))) hK fun fr hK => ?_
     refine qp 7 (.int .u64 (IntKind.u64.wrap (s1.2.2 - 1))) hK fun fr hK => ?_
     refine wpList_nil (then_n ?_)
     replace f21 := Els.mono rep_U8 f21 (l27.trans (l28.trans l29))
     have f24 : Els isU8 m29 1 c1r0_position_b_a c1r0_position_b_c y14.2.position.b := Els.cast eq0_0.symm f21
     replace f25 := Els.mono rep_G_Command f25 l29
     replace hS := hS.front 6 rfl
     replace hS := hS.front 6 rfl
     replace hS := hS.front 6 rfl
     replace hS := hS.front 4 rfl
     replace hS := hS.front 4 rfl
     replace hS := hS.front 6 rfl
     replace hS := St.keep (L := [.box c1r0_b #[.slice c1r0_position_b_a y14.2.position.b.length c1r0_position_b_c, .int .i64 y14.2.position.at_, .int .i64 y14.2.position.fault.code, .int .i64 y14.2.position.fault.at_] 110, .box b5 (G_Delta_cells (⟨y4.1, y5.1, y6.1, y7.1, x2⟩ : G.Delta) (adr g5) cp1) 27, rowOf 50 5 g5 cp1 x2, .box b3 #[.pointer (some ⟨c1r0_b, 0, none⟩)] 61, .box b2 #[.int .i64 0, .int .i64 0] 30, .box b1 (G_Delta_cells (⟨0, 0, (fun _ => (0 : UInt8)), (fun _ => (0 : UInt8)), ([] : List G.Command)⟩ : G.Delta) none 0) 27]) (R := [rowOf 50 5 (some b6) 1 ([y14.1] : List G.Command)]) hS
     replace h := Option.some.inj h; subst h
     obtain ⟨kq, hk1, hk2⟩ := hn1
     exact ⟨kq, hk1, _, hk2, g5, cp1, m29, rfl, hK.only [2, 3, 4, 6, 7], l25.trans (l26.trans (l27.trans (l28.trans l29))), hS, f25, (eq0_0.trans he4)⟩
    ·
     replace hK := hK.more (t := 43) (v' := .bool false) rfl (by rw [hb3])
     replace h := ite_f (ne_true_of_eq_false hb3) h
     refine wp_exit ?_
     refine then_x ?_
     refine then_x ?_
     refine blk_e ?_
     refine then_n ?_
     replace c1r0_position_b_f := Els.mono rep_U8 c1r0_position_b_f (l11.trans (l12.trans (l13.trans (l25.trans l26))))
     have f21 : Els isU8 m26 1 c1r0_position_b_a c1r0_position_b_c (((s1.1).position).b) := Els.cast he4.symm c1r0_position_b_f
     replace f20 := Els.mono rep_G_Command f20 l26
     replace hS := hS.front 4 rfl
     replace hS := hS.front 4 rfl
     replace hS := hS.front 4 rfl
     replace hS := hS.front 5 rfl
     replace hS := hS.front 5 rfl
     replace hS := hS.front 5 rfl
     replace hS : St _ m m26 [.box c1r0_b #[.slice c1r0_position_b_a ((((s1.1).position).b).length) c1r0_position_b_c, .int .i64 (((s1.1).position).at_), .int .i64 ((((s1.1).position).fault).code), .int .i64 ((((s1.1).position).fault).at_)] 110, .box b5 (G_Delta_cells (⟨y4.1, y5.1, y6.1, y7.1, s1.2.1⟩ : G.Delta) (adr g3) (g4)) 27, rowOf 50 5 g3 g4 s1.2.1, .box b3 #[.pointer (some ⟨c1r0_b, 0, none⟩)] 61, .box b2 #[.int .i64 0, .int .i64 0] 30, .box b1 (G_Delta_cells (⟨0, 0, (fun _ => (0 : UInt8)), (fun _ => (0 : UInt8)), ([] : List G.Command)⟩ : G.Delta) none 0) 27] := hS
     replace h := Option.some.inj h; subst h
     replace h := Option.some.inj (loop_out hn1); subst h
     exact ⟨g3, g4, m26, rfl, hK.only [2, 3, 4, 6], l25.trans l26, hS, f20, he4⟩
   ·
    replace h := hv4; clear hv4
    refine w_region ?_
    refine qp 38 (.int .u64 s1.2.2) hK fun fr hK => ?_
    refine qp 39 (.bool (decide (s1.2.2 > 0))) hK fun fr hK => ?_
    refine qp 40 (.bool (decide (s1.2.2 > 0))) hK fun fr hK => ?_
    refine split_b (x := decide (s1.2.2 > 0)) (fun hb4 => ?_) (fun hb4 => ?_)
    ·
     replace hK := hK.more (t := 40) (v' := .bool true) rfl (by rw [hb4])
     replace hK := hK.more (t := 39) (v' := .bool true) rfl (by rw [hb4])
     replace h := ite_t (of_decide_eq_true hb4) h
     refine qo 41 hK (s_loadAll hK.at_ hS 3 rfl rfl rfl (by kernel_rfl) ?_)
     clear hK fr; intro fr hK
     replace c1r0_position_b_f := Els.mono rep_U8 c1r0_position_b_f (l11.trans (l12.trans (l13.trans l25)))
     have f21 : Els isU8 m25 1 c1r0_position_b_a c1r0_position_b_c (((s1.1).position).b) := Els.cast he4.symm c1r0_position_b_f
     obtain ⟨y15, hy16, h⟩ := bind_some h
     replace hS : St _ m m25 [.box c1r0_b #[.slice c1r0_position_b_a ((((s1.1).position).b).length) c1r0_position_b_c, .int .i64 (((s1.1).position).at_), .int .i64 ((((s1.1).position).fault).code), .int .i64 ((((s1.1).position).fault).at_)] 110, .box b5 (G_Delta_cells (⟨y4.1, y5.1, y6.1, y7.1, s1.2.1⟩ : G.Delta) (adr g3) (g4)) 27, rowOf 50 5 g3 g4 s1.2.1, .box b3 #[.pointer (some ⟨c1r0_b, 0, none⟩)] 61, .box b2 #[.int .i64 0, .int .i64 0] 30, .box b1 (G_Delta_cells (⟨0, 0, (fun _ => (0 : UInt8)), (fun _ => (0 : UInt8)), ([] : List G.Command)⟩ : G.Delta) none 0) 27] := hS
     refine qo 42 hK (s_callM (R := [.box c1r0_b #[.slice c1r0_position_b_a ((((s1.1).position).b).length) c1r0_position_b_c, .int .i64 (((s1.1).position).at_), .int .i64 ((((s1.1).position).fault).code), .int .i64 ((((s1.1).position).fault).at_)] 110]) (L := [.box b5 (G_Delta_cells (⟨y4.1, y5.1, y6.1, y7.1, s1.2.1⟩ : G.Delta) (adr g3) (g4)) 27, rowOf 50 5 g3 g4 s1.2.1, .box b3 #[.pointer (some ⟨c1r0_b, 0, none⟩)] 61, .box b2 #[.int .i64 0, .int .i64 0] 30, .box b1 (G_Delta_cells (⟨0, 0, (fun _ => (0 : UInt8)), (fun _ => (0 : UInt8)), ([] : List G.Command)⟩ : G.Delta) none 0) 27]) hK.at_ hS ent43_2 rfl rfl rfl rfl (G.format_decoder_ok_spec f21 hy16 (Ow.left (L := [.box c1r0_b #[.slice c1r0_position_b_a ((((s1.1).position).b).length) c1r0_position_b_c, .int .i64 (((s1.1).position).at_), .int .i64 ((((s1.1).position).fault).code), .int .i64 ((((s1.1).position).fault).at_)] 110]) hS.ow)) (by kernel_rfl) ?_)
     clear hK fr hS; rintro _ m30 _ l30 hS ⟨rfl, rfl⟩ fr hK
     replace hS : St _ m m30 [.box c1r0_b #[.slice c1r0_position_b_a ((((s1.1).position).b).length) c1r0_position_b_c, .int .i64 (((s1.1).position).at_), .int .i64 ((((s1.1).position).fault).code), .int .i64 ((((s1.1).position).fault).at_)] 110, .box b5 (G_Delta_cells (⟨y4.1, y5.1, y6.1, y7.1, s1.2.1⟩ : G.Delta) (adr g3) (g4)) 27, rowOf 50 5 g3 g4 s1.2.1, .box b3 #[.pointer (some ⟨c1r0_b, 0, none⟩)] 61, .box b2 #[.int .i64 0, .int .i64 0] 30, .box b1 (G_Delta_cells (⟨0, 0, (fun _ => (0 : UInt8)), (fun _ => (0 : UInt8)), ([] : List G.Command)⟩ : G.Delta) none 0) 27] := hS
     refine qp 43 (.bool y15) hK fun fr hK => ?_
     refine wpList_nil (then_n ?_)
     replace hS := hS.front 2 rfl
     replace hS := hS.front 5 rfl
     replace hS := hS.front 5 rfl
     replace hS := hS.front 5 rfl
     replace hS := hS.front 5 rfl
     replace hS := hS.front 5 rfl
     replace hS : St _ m m30 [.box c1r0_b #[.slice c1r0_position_b_a ((((s1.1).position).b).length) c1r0_position_b_c, .int .i64 (((s1.1).position).at_), .int .i64 ((((s1.1).position).fault).code), .int .i64 ((((s1.1).position).fault).at_)] 110, .box b5 (G_Delta_cells (⟨y4.1, y5.1, y6.1, y7.1, s1.2.1⟩ : G.Delta) (adr g3) (g4)) 27, .box b3 #[.pointer (some ⟨c1r0_b, 0, none⟩)] 61, .box b2 #[.int .i64 0, .int .i64 0] 30, .box b1 (G_Delta_cells (⟨0, 0, (fun _ => (0 : UInt8)), (fun _ => (0 : UInt8)), ([] : List G.Command)⟩ : G.Delta) none 0) 27, rowOf 50 5 g3 g4 s1.2.1] := hS
     replace h := Option.some.inj h; subst h
     exact ⟨m30, rfl, hK.only [2, 3, 4, 6, 7, 43], l30, hS⟩
    ·
     replace hK := hK.more (t := 40) (v' := .bool false) rfl (by rw [hb4])
     replace hK := hK.more (t := 39) (v' := .bool false) rfl (by rw [hb4])
     replace h := ite_f (of_decide_eq_false hb4) h
     refine qs 41 hK ?_
     clear hK fr; intro fr hK
     refine qs 42 hK ?_
     clear hK fr; intro fr hK
     refine qp 43 (.bool false) hK fun fr hK => ?_
     refine wpList_nil (then_n ?_)
     replace hS := hS.front 2 rfl
     replace hS := hS.front 5 rfl
     replace hS := hS.front 5 rfl
     replace hS := hS.front 5 rfl
     replace hS := hS.front 5 rfl
     replace hS := hS.front 5 rfl
     replace hS : St _ m m25 [.box c1r0_b #[.slice c1r0_position_b_a ((((s1.1).position).b).length) c1r0_position_b_c, .int .i64 (((s1.1).position).at_), .int .i64 ((((s1.1).position).fault).code), .int .i64 ((((s1.1).position).fault).at_)] 110, .box b5 (G_Delta_cells (⟨y4.1, y5.1, y6.1, y7.1, s1.2.1⟩ : G.Delta) (adr g3) (g4)) 27, .box b3 #[.pointer (some ⟨c1r0_b, 0, none⟩)] 61, .box b2 #[.int .i64 0, .int .i64 0] 30, .box b1 (G_Delta_cells (⟨0, 0, (fun _ => (0 : UInt8)), (fun _ => (0 : UInt8)), ([] : List G.Command)⟩ : G.Delta) none 0) 27, rowOf 50 5 g3 g4 s1.2.1] := hS
     replace h := Option.some.inj h; subst h
     exact ⟨m25, rfl, hK.only [2, 3, 4, 6, 7, 43], Le.refl _, hS⟩
 ·
  replace h := hv1; clear hv1
  refine w_cond hK rfl (fun hb5 => ?_) (fun hb5 => ?_)
  ·
   replace hK := hK.more (t := 20) (v' := .bool true) rfl (by rw [hb5])
   replace h := ite_t (ne_of_bne hb5) h
   refine w_region ?_
   refine qp 21 (.pointer (some ⟨b3, 0, none⟩)) hK fun fr hK => ?_
   refine qo 22 hK (s_load hK.at_ hS 1 rfl rfl rfl rfl (by kernel_rfl) ?_)
   clear hK fr; intro fr hK
   replace f2 := Els.mono rep_U8 f2 l9
   have f3 : Els isU8 m9 1 c1r0_position_b_a c1r0_position_b_c y3.2.position.b := Els.cast c3re0.symm f2
   obtain ⟨y16, hy17, h⟩ := bind_some h
   replace hS : St _ m m9 [.box c1r0_b #[.slice c1r0_position_b_a y3.2.position.b.length c1r0_position_b_c, .int .i64 y3.2.position.at_, .int .i64 y3.2.position.fault.code, .int .i64 y3.2.position.fault.at_] 110, .box b3 #[.pointer (some ⟨c1r0_b, 0, none⟩)] 61, .box b2 #[.int .i64 0, .int .i64 0] 30, .box b1 (G_Delta_cells (⟨0, 0, (fun _ => (0 : UInt8)), (fun _ => (0 : UInt8)), ([] : List G.Command)⟩ : G.Delta) none 0) 27] := hS
   refine qo 23 hK (s_callM (R := [.box c1r0_b #[.slice c1r0_position_b_a y3.2.position.b.length c1r0_position_b_c, .int .i64 y3.2.position.at_, .int .i64 y3.2.position.fault.code, .int .i64 y3.2.position.fault.at_] 110]) (L := [.box b3 #[.pointer (some ⟨c1r0_b, 0, none⟩)] 61, .box b2 #[.int .i64 0, .int .i64 0] 30, .box b1 (G_Delta_cells (⟨0, 0, (fun _ => (0 : UInt8)), (fun _ => (0 : UInt8)), ([] : List G.Command)⟩ : G.Delta) none 0) 27]) hK.at_ hS ent40_2 rfl rfl rfl rfl (G.wire_Reader_Fail_spec f3 hy17 (Ow.left (L := [.box c1r0_b #[.slice c1r0_position_b_a y3.2.position.b.length c1r0_position_b_c, .int .i64 y3.2.position.at_, .int .i64 y3.2.position.fault.code, .int .i64 y3.2.position.fault.at_] 110]) hS.ow)) (by kernel_rfl) ?_)
   clear hK fr hS; rintro _ m31 _ l31 hS ⟨rfl, rfl, c16re0⟩ fr hK
   replace hS : St _ m m31 [.box c1r0_b #[.slice c1r0_position_b_a y16.position.b.length c1r0_position_b_c, .int .i64 y16.position.at_, .int .i64 y16.position.fault.code, .int .i64 y16.position.fault.at_] 110, .box b3 #[.pointer (some ⟨c1r0_b, 0, none⟩)] 61, .box b2 #[.int .i64 0, .int .i64 0] 30, .box b1 (G_Delta_cells (⟨0, 0, (fun _ => (0 : UInt8)), (fun _ => (0 : UInt8)), ([] : List G.Command)⟩ : G.Delta) none 0) 27] := hS
   refine wpList_nil (then_n ?_)
   replace f3 := Els.mono rep_U8 f3 l31
   have f26 : Els isU8 m31 1 c1r0_position_b_a c1r0_position_b_c y16.position.b := Els.cast c16re0.symm f3
   replace hS := hS.front 3 rfl
   replace hS := hS.front 3 rfl
   replace hS := hS.front 3 rfl
   replace hS := hS.front 3 rfl
   replace hS : St _ m m31 [.box c1r0_b #[.slice c1r0_position_b_a y16.position.b.length c1r0_position_b_c, .int .i64 y16.position.at_, .int .i64 y16.position.fault.code, .int .i64 y16.position.fault.at_] 110, .box b3 #[.pointer (some ⟨c1r0_b, 0, none⟩)] 61, .box b2 #[.int .i64 0, .int .i64 0] 30, .box b1 (G_Delta_cells (⟨0, 0, (fun _ => (0 : UInt8)), (fun _ => (0 : UInt8)), ([] : List G.Command)⟩ : G.Delta) none 0) 27] := hS
   replace h := Option.some.inj h; subst h
   exact ⟨m31, rfl, hK.only [2, 3, 4], l31, hS, (c16re0.trans (c3re0.trans c2re0))⟩
  ·
   replace hK := hK.more (t := 20) (v' := .bool false) rfl (by rw [hb5])
   replace h := ite_f (not_not_intro (eq_of_bne hb5)) h
   refine wp_skip ?_
   refine then_n ?_
   replace f2 := Els.mono rep_U8 f2 l9
   have f3 : Els isU8 m9 1 c1r0_position_b_a c1r0_position_b_c y3.2.position.b := Els.cast c3re0.symm f2
   replace hS := hS.front 3 rfl
   replace hS := hS.front 3 rfl
   replace hS := hS.front 3 rfl
   replace hS := hS.front 3 rfl
   replace hS : St _ m m9 [.box c1r0_b #[.slice c1r0_position_b_a y3.2.position.b.length c1r0_position_b_c, .int .i64 y3.2.position.at_, .int .i64 y3.2.position.fault.code, .int .i64 y3.2.position.fault.at_] 110, .box b3 #[.pointer (some ⟨c1r0_b, 0, none⟩)] 61, .box b2 #[.int .i64 0, .int .i64 0] 30, .box b1 (G_Delta_cells (⟨0, 0, (fun _ => (0 : UInt8)), (fun _ => (0 : UInt8)), ([] : List G.Command)⟩ : G.Delta) none 0) 27] := hS
   replace h := Option.some.inj h; subst h
   exact ⟨m9, rfl, hK.only [2, 3, 4], Le.refl _, hS, (c3re0.trans c2re0)⟩
set_option maxRecDepth 100000 in
set_option maxHeartbeats 1000000 in
theorem G.graftref04_Same_spec {m : Mem} {a0 : G.Command} {a0_data_a : Option Addr} {a0_data_c : Nat} {a1 : G.Command} {a1_data_a : Option Addr} {a1_data_c : Nat} (a0_data_f : Els isU8 m 1 a0_data_a a0_data_c a0.data) (a1_data_f : Els isU8 m 1 a1_data_a a1_data_c a1.data) {r : Bool} (h : G.graftref04_Same a0 a1 = some r) :
  Spec Try.prog 74 #[.agg #[.int .i64 a0.kind, .int .i64 a0.to, .int .i64 a0.from_, .int .i64 a0.len, .slice a0_data_a a0.data.length a0_data_c], .agg #[.int .i64 a1.kind, .int .i64 a1.to, .int .i64 a1.from_, .int .i64 a1.len, .slice a1_data_a a1.data.length a1_data_c]] m [] fun v m' L => L = [] ∧ v = .bool r := by
 unfold G.graftref04_Same at h
 refine enter (args := [_, _]) 40 Try.func74 rfl rfl (by simp) fun fr hK => ?_
 have hS := St.refl (Ow.nil m)
 replace hK : Kn 40 fr [(0, .agg #[.int .i64 a0.kind, .int .i64 a0.to, .int .i64 a0.from_, .int .i64 a0.len, .slice a0_data_a a0.data.length a0_data_c]), (1, .agg #[.int .i64 a1.kind, .int .i64 a1.to, .int .i64 a1.from_, .int .i64 a1.len, .slice a1_data_a a1.data.length a1_data_c])] := hK
 refine w_seq (w_region ?_)
 refine qo 2 hK (s_box hK.at_ hS rfl rfl ?_)
 clear hK fr hS; intro m1 b1 b1z l1 hS fr hK
 refine qo 3 hK (s_box hK.at_ hS rfl rfl ?_)
 clear hK fr hS; intro m2 b2 b2z l2 hS fr hK
 replace hS : St _ m m2 [.box b2 #[.int .i64 a1.kind, .int .i64 a1.to, .int .i64 a1.from_, .int .i64 a1.len, .slice a1_data_a a1.data.length a1_data_c] 50, .box b1 #[.int .i64 a0.kind, .int .i64 a0.to, .int .i64 a0.from_, .int .i64 a0.len, .slice a0_data_a a0.data.length a0_data_c] 50] := hS
 refine qp 4 (.bool false) hK fun fr hK => ?_
 refine wpList_nil (then_n ?_)
 refine w_seq (w_region ?_)
 refine qp 5 (.pointer (some ⟨b1, 0, none⟩)) hK fun fr hK => ?_
 refine qo 6 hK (s_load hK.at_ hS 1 rfl rfl rfl rfl (by kernel_rfl) ?_)
 clear hK fr; intro fr hK
 refine qp 7 (.pointer (some ⟨b2, 0, none⟩)) hK fun fr hK => ?_
 refine qo 8 hK (s_load hK.at_ hS 0 rfl rfl rfl rfl (by kernel_rfl) ?_)
 clear hK fr; intro fr hK
 refine qp 9 (.bool (a0.kind == a1.kind)) hK fun fr hK => ?_
 refine qp 10 (.bool (a0.kind == a1.kind)) hK fun fr hK => ?_
 refine split_b (x := (a0.kind == a1.kind)) (fun hb1 => ?_) (fun hb1 => ?_)
 ·
  replace hK := hK.more (t := 10) (v' := .bool true) rfl (by rw [hb1])
  replace hK := hK.more (t := 9) (v' := .bool true) rfl (by rw [hb1])
  replace h := ite_t (eq_of_beq hb1) h
  refine qp 11 (.pointer (some ⟨b1, 1, none⟩)) hK fun fr hK => ?_
  refine qo 12 hK (s_load hK.at_ hS 1 rfl rfl rfl rfl (by kernel_rfl) ?_)
  clear hK fr; intro fr hK
  refine qp 13 (.pointer (some ⟨b2, 1, none⟩)) hK fun fr hK => ?_
  refine qo 14 hK (s_load hK.at_ hS 0 rfl rfl rfl rfl (by kernel_rfl) ?_)
  clear hK fr; intro fr hK
  refine qp 15 (.bool (a0.to == a1.to)) hK fun fr hK => ?_
  refine qp 16 (.bool (a0.to == a1.to)) hK fun fr hK => ?_
  refine qp 17 (.bool (a0.to == a1.to)) hK fun fr hK => ?_
  refine split_b (x := (a0.to == a1.to)) (fun hb2 => ?_) (fun hb2 => ?_)
  ·
   replace hK := hK.more (t := 17) (v' := .bool true) rfl (by rw [hb2])
   replace hK := hK.more (t := 16) (v' := .bool true) rfl (by rw [hb2])
   replace hK := hK.more (t := 15) (v' := .bool true) rfl (by rw [hb2])
   replace h := ite_t (eq_of_beq hb2) h
   refine qp 18 (.pointer (some ⟨b1, 2, none⟩)) hK fun fr hK => ?_
   refine qo 19 hK (s_load hK.at_ hS 1 rfl rfl rfl rfl (by kernel_rfl) ?_)
   clear hK fr; intro fr hK
   refine qp 20 (.pointer (some ⟨b2, 2, none⟩)) hK fun fr hK => ?_
   refine qo 21 hK (s_load hK.at_ hS 0 rfl rfl rfl rfl (by kernel_rfl) ?_)
   clear hK fr; intro fr hK
   refine qp 22 (.bool (a0.from_ == a1.from_)) hK fun fr hK => ?_
   refine qp 23 (.bool (a0.from_ == a1.from_)) hK fun fr hK => ?_
   refine qp 24 (.bool (a0.from_ == a1.from_)) hK fun fr hK => ?_
   refine split_b (x := (a0.from_ == a1.from_)) (fun hb3 => ?_) (fun hb3 => ?_)
   ·
    replace hK := hK.more (t := 24) (v' := .bool true) rfl (by rw [hb3])
    replace hK := hK.more (t := 23) (v' := .bool true) rfl (by rw [hb3])
    replace hK := hK.more (t := 22) (v' := .bool true) rfl (by rw [hb3])
    replace h := ite_t (eq_of_beq hb3) h
    refine qp 25 (.pointer (some ⟨b1, 3, none⟩)) hK fun fr hK => ?_
    refine qo 26 hK (s_load hK.at_ hS 1 rfl rfl rfl rfl (by kernel_rfl) ?_)
    clear hK fr; intro fr hK
    refine qp 27 (.pointer (some ⟨b2, 3, none⟩)) hK fun fr hK => ?_
    refine qo 28 hK (s_load hK.at_ hS 0 rfl rfl rfl rfl (by kernel_rfl) ?_)
    clear hK fr; intro fr hK
    refine qp 29 (.bool (a0.len == a1.len)) hK fun fr hK => ?_
    refine qp 30 (.bool (a0.len == a1.len)) hK fun fr hK => ?_
    refine qp 31 (.bool (a0.len == a1.len)) hK fun fr hK => ?_
    refine split_b (x := (a0.len == a1.len)) (fun hb4 => ?_) (fun hb4 => ?_)
    ·
     replace hK := hK.more (t := 31) (v' := .bool true) rfl (by rw [hb4])
     replace hK := hK.more (t := 30) (v' := .bool true) rfl (by rw [hb4])
     replace hK := hK.more (t := 29) (v' := .bool true) rfl (by rw [hb4])
     replace h := ite_t (eq_of_beq hb4) h
     refine qp 32 (.pointer (some ⟨b1, 4, none⟩)) hK fun fr hK => ?_
     refine qo 33 hK (s_load hK.at_ hS 1 rfl rfl rfl rfl (by kernel_rfl) ?_)
     clear hK fr; intro fr hK
     replace a0_data_f := Els.mono rep_U8 a0_data_f (l1.trans l2)
     refine qr 34 (.string (str a0.data)) hK (by exact run_toStr rfl rfl Try.underlying22 Try.underlying5 Try.underlying9 a0_data_f) ?_
     clear hK fr; intro fr hK
     refine qp 35 (.pointer (some ⟨b2, 4, none⟩)) hK fun fr hK => ?_
     refine qo 36 hK (s_load hK.at_ hS 0 rfl rfl rfl rfl (by kernel_rfl) ?_)
     clear hK fr; intro fr hK
     replace a1_data_f := Els.mono rep_U8 a1_data_f (l1.trans l2)
     refine qr 37 (.string (str a1.data)) hK (by exact run_toStr rfl rfl Try.underlying22 Try.underlying5 Try.underlying9 a1_data_f) ?_
     clear hK fr; intro fr hK
     refine qe 38 (.bool (decide (a0.data = a1.data))) (.bool ((str a0.data).toList == (str a1.data).toList)) hK (by exact v_bool (str_beq _ _)) ?_
     clear hK fr; intro fr hK
     refine qp 39 (.bool (decide (a0.data = a1.data))) hK fun fr hK => ?_
     refine qp 4 (.bool (decide (a0.data = a1.data))) hK fun fr hK => ?_
     refine wpList_nil (then_n ?_)
     refine wp_ret ?_
     replace h := Option.some.inj h; subst h
     refine ret_of [.tmp 4] [.bool (decide (a0.data = a1.data))] rfl hK (.tmp rfl .nil) hS.dropAll ?_
     exact ⟨rfl, rfl⟩
    ·
     replace hK := hK.more (t := 31) (v' := .bool false) rfl (by rw [hb4])
     replace hK := hK.more (t := 30) (v' := .bool false) rfl (by rw [hb4])
     replace hK := hK.more (t := 29) (v' := .bool false) rfl (by rw [hb4])
     replace h := ite_f (ne_of_beq_false hb4) h
     refine qs 32 hK ?_
     clear hK fr; intro fr hK
     refine qs 33 hK ?_
     clear hK fr; intro fr hK
     refine qs 34 hK ?_
     clear hK fr; intro fr hK
     refine qs 35 hK ?_
     clear hK fr; intro fr hK
     refine qs 36 hK ?_
     clear hK fr; intro fr hK
     refine qs 37 hK ?_
     clear hK fr; intro fr hK
     refine qs 38 hK ?_
     clear hK fr; intro fr hK
     refine qp 39 (.bool false) hK fun fr hK => ?_
     refine qp 4 (.bool false) hK fun fr hK => ?_
     refine wpList_nil (then_n ?_)
     refine wp_ret ?_
     replace h := Option.some.inj h; subst h
     refine ret_of [.tmp 4] [.bool false] rfl hK (.tmp rfl .nil) hS.dropAll ?_
     exact ⟨rfl, rfl⟩
   ·
    replace hK := hK.more (t := 24) (v' := .bool false) rfl (by rw [hb3])
    replace hK := hK.more (t := 23) (v' := .bool false) rfl (by rw [hb3])
    replace hK := hK.more (t := 22) (v' := .bool false) rfl (by rw [hb3])
    replace h := ite_f (ne_of_beq_false hb3) h
    refine qs 25 hK ?_
    clear hK fr; intro fr hK
    refine qs 26 hK ?_
    clear hK fr; intro fr hK
    refine qs 27 hK ?_
    clear hK fr; intro fr hK
    refine qs 28 hK ?_
    clear hK fr; intro fr hK
    refine qs 29 hK ?_
    clear hK fr; intro fr hK
    refine qp 30 (.bool false) hK fun fr hK => ?_
    refine qp 31 (.bool false) hK fun fr hK => ?_
    refine qs 32 hK ?_
    clear hK fr; intro fr hK
    refine qs 33 hK ?_
    clear hK fr; intro fr hK
    refine qs 34 hK ?_
    clear hK fr; intro fr hK
    refine qs 35 hK ?_
    clear hK fr; intro fr hK
    refine qs 36 hK ?_
    clear hK fr; intro fr hK
    refine qs 37 hK ?_
    clear hK fr; intro fr hK
    refine qs 38 hK ?_
    clear hK fr; intro fr hK
    refine qp 39 (.bool false) hK fun fr hK => ?_
    refine qp 4 (.bool false) hK fun fr hK => ?_
    refine wpList_nil (then_n ?_)
    refine wp_ret ?_
    replace h := Option.some.inj h; subst h
    refine ret_of [.tmp 4] [.bool false] rfl hK (.tmp rfl .nil) hS.dropAll ?_
    exact ⟨rfl, rfl⟩
  ·
   replace hK := hK.more (t := 17) (v' := .bool false) rfl (by rw [hb2])
   replace hK := hK.more (t := 16) (v' := .bool false) rfl (by rw [hb2])
   replace hK := hK.more (t := 15) (v' := .bool false) rfl (by rw [hb2])
   replace h := ite_f (ne_of_beq_false hb2) h
   refine qs 18 hK ?_
   clear hK fr; intro fr hK
   refine qs 19 hK ?_
   clear hK fr; intro fr hK
   refine qs 20 hK ?_
   clear hK fr; intro fr hK
   refine qs 21 hK ?_
   clear hK fr; intro fr hK
   refine qs 22 hK ?_
   clear hK fr; intro fr hK
   refine qp 23 (.bool false) hK fun fr hK => ?_
   refine qp 24 (.bool false) hK fun fr hK => ?_
   refine qs 25 hK ?_
   clear hK fr; intro fr hK
   refine qs 26 hK ?_
   clear hK fr; intro fr hK
   refine qs 27 hK ?_
   clear hK fr; intro fr hK
   refine qs 28 hK ?_
   clear hK fr; intro fr hK
   refine qs 29 hK ?_
   clear hK fr; intro fr hK
   refine qp 30 (.bool false) hK fun fr hK => ?_
   refine qp 31 (.bool false) hK fun fr hK => ?_
   refine qs 32 hK ?_
   clear hK fr; intro fr hK
   refine qs 33 hK ?_
   clear hK fr; intro fr hK
   refine qs 34 hK ?_
   clear hK fr; intro fr hK
   refine qs 35 hK ?_
   clear hK fr; intro fr hK
   refine qs 36 hK ?_
   clear hK fr; intro fr hK
   refine qs 37 hK ?_
   clear hK fr; intro fr hK
   refine qs 38 hK ?_
   clear hK fr; intro fr hK
   refine qp 39 (.bool false) hK fun fr hK => ?_
   refine qp 4 (.bool false) hK fun fr hK => ?_
   refine wpList_nil (then_n ?_)
   refine wp_ret ?_
   replace h := Option.some.inj h; subst h
   refine ret_of [.tmp 4] [.bool false] rfl hK (.tmp rfl .nil) hS.dropAll ?_
   exact ⟨rfl, rfl⟩
 ·
  replace hK := hK.more (t := 10) (v' := .bool false) rfl (by rw [hb1])
  replace hK := hK.more (t := 9) (v' := .bool false) rfl (by rw [hb1])
  replace h := ite_f (ne_of_beq_false hb1) h
  refine qs 11 hK ?_
  clear hK fr; intro fr hK
  refine qs 12 hK ?_
  clear hK fr; intro fr hK
  refine qs 13 hK ?_
  clear hK fr; intro fr hK
  refine qs 14 hK ?_
  clear hK fr; intro fr hK
  refine qs 15 hK ?_
  clear hK fr; intro fr hK
  refine qp 16 (.bool false) hK fun fr hK => ?_
  refine qp 17 (.bool false) hK fun fr hK => ?_
  refine qs 18 hK ?_
  clear hK fr; intro fr hK
  refine qs 19 hK ?_
  clear hK fr; intro fr hK
  refine qs 20 hK ?_
  clear hK fr; intro fr hK
  refine qs 21 hK ?_
  clear hK fr; intro fr hK
  refine qs 22 hK ?_
  clear hK fr; intro fr hK
  refine qp 23 (.bool false) hK fun fr hK => ?_
  refine qp 24 (.bool false) hK fun fr hK => ?_
  refine qs 25 hK ?_
  clear hK fr; intro fr hK
  refine qs 26 hK ?_
  clear hK fr; intro fr hK
  refine qs 27 hK ?_
  clear hK fr; intro fr hK
  refine qs 28 hK ?_
  clear hK fr; intro fr hK
  refine qs 29 hK ?_
  clear hK fr; intro fr hK
  refine qp 30 (.bool false) hK fun fr hK => ?_
  refine qp 31 (.bool false) hK fun fr hK => ?_
  refine qs 32 hK ?_
  clear hK fr; intro fr hK
  refine qs 33 hK ?_
  clear hK fr; intro fr hK
  refine qs 34 hK ?_
  clear hK fr; intro fr hK
  refine qs 35 hK ?_
  clear hK fr; intro fr hK
  refine qs 36 hK ?_
  clear hK fr; intro fr hK
  refine qs 37 hK ?_
  clear hK fr; intro fr hK
  refine qs 38 hK ?_
  clear hK fr; intro fr hK
  refine qp 39 (.bool false) hK fun fr hK => ?_
  refine qp 4 (.bool false) hK fun fr hK => ?_
  refine wpList_nil (then_n ?_)
  refine wp_ret ?_
  replace h := Option.some.inj h; subst h
  refine ret_of [.tmp 4] [.bool false] rfl hK (.tmp rfl .nil) hS.dropAll ?_
  exact ⟨rfl, rfl⟩
set_option maxRecDepth 100000 in
set_option maxHeartbeats 1000000 in
theorem G.graftref04_All_spec {m : Mem} {a0 : List G.Command} {a0_a : Option Addr} {a0_c : Nat} {a1 : List G.Command} {a1_a : Option Addr} {a1_c : Nat} (a0_f : Els is_G_Command m 5 a0_a a0_c a0) (a1_f : Els is_G_Command m 5 a1_a a1_c a1) {r : Bool} (h : G.graftref04_All a0 a1 = some r) :
  Spec Try.prog 36 #[.slice a0_a a0.length a0_c, .slice a1_a a1.length a1_c] m [] fun v m' L => L = [] ∧ v = .bool r := by
 unfold G.graftref04_All at h
 refine enter (args := [_, _]) 27 Try.func36 rfl rfl (by simp) fun fr hK => ?_
 have hS := St.refl (Ow.nil m)
 replace hK : Kn 27 fr [(0, .slice a0_a a0.length a0_c), (1, .slice a1_a a1.length a1_c)] := hK
 refine w_seq (w_region ?_)
 refine qp 4 (.bool false) hK fun fr hK => ?_
 refine wpList_nil (then_n ?_)
 refine w_seq ?_
 refine w_seq (w_region ?_)
 refine qp 6 (.slice a0_a a0.length a0_c) hK fun fr hK => ?_
 refine qp 7 (.int .i64 (a0.length : Int)) hK fun fr hK => ?_
 refine qp 8 (.slice a1_a a1.length a1_c) hK fun fr hK => ?_
 refine qp 9 (.int .i64 (a1.length : Int)) hK fun fr hK => ?_
 refine qp 10 (.bool ((a0.length : Int) != (a1.length : Int))) hK fun fr hK => ?_
 refine wpList_nil (then_n ?_)
 refine w_cond hK rfl (fun hb1 => ?_) (fun hb1 => ?_)
 ·
  replace hK := hK.more (t := 10) (v' := .bool true) rfl (by rw [hb1])
  replace h := ite_t (ne_of_bne hb1) h
  refine w_seq (w_region ?_)
  refine qp 4 (.bool false) hK fun fr hK => ?_
  refine wpList_nil (then_n ?_)
  refine wp_ret ?_
  refine then_r ?_
  replace h := Option.some.inj h; subst h
  refine ret_of [.tmp 4] [.bool false] rfl hK (.tmp rfl .nil) hS.dropAll ?_
  exact ⟨rfl, rfl⟩
 ·
  replace hK := hK.more (t := 10) (v' := .bool false) rfl (by rw [hb1])
  replace h := ite_f (not_not_intro (eq_of_bne hb1)) h
  refine wp_skip ?_
  refine then_n ?_
  refine w_seq ?_
  refine w_seq (w_region ?_)
  refine qp 5 (.int .i64 0) hK fun fr hK => ?_
  refine wpList_nil (then_n ?_)
  refine wp_block ?_
  refine w_loopL h (fun (s1 : Int) fr ww => ∃ m1 : Mem, m1.w = ww ∧ Kn 27 fr [(0, .slice a0_a a0.length a0_c), (1, .slice a1_a a1.length a1_c), (5, .int .i64 s1)] ∧ Le m m1 ∧ St (blocksOf []) m m1 []) ?_ ?_
  · exact ⟨m, rfl, hK.only [0, 1, 5], Le.refl _, hS⟩
  clear hK hS fr h
  rintro k1 s1 x1 fr _ ⟨m1, rfl, hK, l1, hS⟩ h hn1
  unfold G.graftref04_All_l1 at h
  refine w_seq ?_
  refine w_seq (w_region ?_)
  refine qp 11 (.int .i64 s1) hK fun fr hK => ?_
  refine qp 12 (.slice a0_a a0.length a0_c) hK fun fr hK => ?_
  refine qp 13 (.int .i64 (a0.length : Int)) hK fun fr hK => ?_
  refine qp 14 (.bool (decide (s1 < (a0.length : Int)))) hK fun fr hK => ?_
  refine wpList_nil (then_n ?_)
  refine w_cond hK rfl (fun hb2 => ?_) (fun hb2 => ?_)
  ·
   replace hK := hK.more (t := 14) (v' := .bool true) rfl (by rw [hb2])
   replace h := ite_t (of_decide_eq_true hb2) h
   refine wp_skip ?_
   refine then_n ?_
   refine w_seq ?_
   refine wp_block ?_
   refine w_seq ?_
   replace a0_f := Els.mono rep_G_Command a0_f l1
   replace a1_f := Els.mono rep_G_Command a1_f l1
   obtain ⟨x2, hy1, h⟩ := bind_some h
   obtain ⟨x3, hy2, h⟩ := bind_some h
   have hlt0 : ∀ bq ∈ blocksOf [], bq < m1.w.heap.size := fun bq hbq => hS.ow.lt hbq
   refine D.wp_draw (Gr := D.GO m1 none) (S := D.SO none (blocksOf []) m m1 (fun _ => []) (fun _ => True)) (N := 0) 8 [] [([(0, none)], 0, 0, false), ([(5, none)], 0, 0, false), ([(17, some 1), (18, some 0)], 0, 0, false), ([(19, some 0)], 0, 0, false), ([(1, none)], 0, 0, false), ([(5, none)], 0, 0, false), ([(21, some 1), (22, some 0)], 0, 0, false), ([(23, some 0)], 0, 0, false)] hK.size (by kernel_rfl) (by kernel_rfl) (by kernel_rfl) rfl (D.startO hS trivial) ?_
   refine D.on_pure (D.GO_refl _ _) [(0, .slice a0_a a0.length a0_c)] (.slice a0_a a0.length a0_c) (fun ac ww hk => (.cons (hk.1.trans (hK.at_ 0 _ rfl)) (.nil _))) ?_
   refine D.on_pure (D.GO_refl _ _) [(5, .int .i64 s1)] (.int .i64 s1) (fun ac ww hk => (.cons (hk.1.trans (hK.at_ 5 _ rfl)) (.nil _))) ?_
   refine D.on_op (fun uu ww => ∃ (b1 : Nat) (p1 : Nat) (e1_data_a : Option Addr) (e1_data_c : Nat), uu = .pointer (some ⟨b1, p1, none⟩) ∧ At (m1.upO none ww) b1 p1 [.int .i64 x2.kind, .int .i64 x2.to, .int .i64 x2.from_, .int .i64 x2.len, .slice e1_data_a x2.data.length e1_data_c] ∧ Els isU8 (m1.upO none ww) 1 e1_data_a e1_data_c x2.data) (fun _ _ _ ⟨b1, p1, e1_data_a, e1_data_c, e, hA1, e1_data_f⟩ g => ⟨b1, p1, e1_data_a, e1_data_c, e, hA1.mono g.1, Els.mono rep_U8 e1_data_f g.1⟩) (by
    intro ac ww kk hlo hhi hb hk
    obtain rfl : kk = 0 := by omega
    have h0 := hS; replace hS := hb.2.1
    have k17 : ac.eval (.tmp 17) = .slice a0_a a0.length a0_c := hk.1
    have k18 : ac.eval (.tmp 18) = .int .i64 s1 := hk.2.1
    have hKe : Ke ac [(17, .slice a0_a a0.length a0_c), (18, .int .i64 s1)] := (.cons k17 (.cons k18 (.nil _)))
    replace a0_f := Els.mono rep_G_Command a0_f hb.1
    exact ⟨D.wanted0 rfl, (s_idx elT25_2 a0_f hy1 hKe rfl rfl rfl (by
    intro b1 p1 cs1 hR1 hA1
    obtain ⟨e1_data_a, e1_data_c, rfl, e1_data_f⟩ := hR1
    exact ⟨⟨b1, p1, e1_data_a, e1_data_c, rfl, hA1, e1_data_f⟩, D.GO_refl _ _ _, hb⟩))⟩) ?_
   refine D.on_op (fun uu ww => ∃ (b1 : Nat) (p1 : Nat) (e1_data_a : Option Addr) (e1_data_c : Nat), uu = .agg #[.int .i64 x2.kind, .int .i64 x2.to, .int .i64 x2.from_, .int .i64 x2.len, .slice e1_data_a x2.data.length e1_data_c] ∧ At (m1.upO none ww) b1 p1 [.int .i64 x2.kind, .int .i64 x2.to, .int .i64 x2.from_, .int .i64 x2.len, .slice e1_data_a x2.data.length e1_data_c] ∧ Els isU8 (m1.upO none ww) 1 e1_data_a e1_data_c x2.data) (fun _ _ _ ⟨b1, p1, e1_data_a, e1_data_c, e, hA1, e1_data_f⟩ g => ⟨b1, p1, e1_data_a, e1_data_c, e, hA1.mono g.1, Els.mono rep_U8 e1_data_f g.1⟩) (by
    intro ac ww kk hlo hhi hb hk
    obtain rfl : kk = 0 := by omega
    have h0 := hS; replace hS := hb.2.1
    obtain ⟨b1, p1, e1_data_a, e1_data_c, k19, hA1, e1_data_f⟩ : ∃ (b1 : Nat) (p1 : Nat) (e1_data_a : Option Addr) (e1_data_c : Nat), ac.eval (.tmp 19) = .pointer (some ⟨b1, p1, none⟩) ∧ At (m1.upO none ww) b1 p1 [.int .i64 x2.kind, .int .i64 x2.to, .int .i64 x2.from_, .int .i64 x2.len, .slice e1_data_a x2.data.length e1_data_c] ∧ Els isU8 (m1.upO none ww) 1 e1_data_a e1_data_c x2.data := hk.1
    have hKe : Ke ac [(19, .pointer (some ⟨b1, p1, none⟩))] := (.cons k19 (.nil _))
    exact ⟨D.wanted0 rfl, D.valO (m := m1) hb (fun Post hp => s_loadAtN [.int .i64 x2.kind, .int .i64 x2.to, .int .i64 x2.from_, .int .i64 x2.len, .slice e1_data_a x2.data.length e1_data_c] hKe hA1 0 rfl rfl rfl (by kernel_rfl) (by kernel_rfl) hp) ⟨b1, p1, e1_data_a, e1_data_c, rfl, hA1, e1_data_f⟩⟩) ?_
   refine D.on_pure (D.GO_refl _ _) [(1, .slice a1_a a1.length a1_c)] (.slice a1_a a1.length a1_c) (fun ac ww hk => (.cons (hk.1.trans (hK.at_ 1 _ rfl)) (.nil _))) ?_
   refine D.on_pure (D.GO_refl _ _) [(5, .int .i64 s1)] (.int .i64 s1) (fun ac ww hk => (.cons (hk.1.trans (hK.at_ 5 _ rfl)) (.nil _))) ?_
   refine D.on_op (fun uu ww => ∃ (b2 : Nat) (p2 : Nat) (e2_data_a : Option Addr) (e2_data_c : Nat), uu = .pointer (some ⟨b2, p2, none⟩) ∧ At (m1.upO none ww) b2 p2 [.int .i64 x3.kind, .int .i64 x3.to, .int .i64 x3.from_, .int .i64 x3.len, .slice e2_data_a x3.data.length e2_data_c] ∧ Els isU8 (m1.upO none ww) 1 e2_data_a e2_data_c x3.data) (fun _ _ _ ⟨b2, p2, e2_data_a, e2_data_c, e, hA2, e2_data_f⟩ g => ⟨b2, p2, e2_data_a, e2_data_c, e, hA2.mono g.1, Els.mono rep_U8 e2_data_f g.1⟩) (by
    intro ac ww kk hlo hhi hb hk
    obtain rfl : kk = 0 := by omega
    have h0 := hS; replace hS := hb.2.1
    have k21 : ac.eval (.tmp 21) = .slice a1_a a1.length a1_c := hk.1
    have k22 : ac.eval (.tmp 22) = .int .i64 s1 := hk.2.1
    have hKe : Ke ac [(21, .slice a1_a a1.length a1_c), (22, .int .i64 s1)] := (.cons k21 (.cons k22 (.nil _)))
    replace a1_f := Els.mono rep_G_Command a1_f hb.1
    exact ⟨D.wanted0 rfl, (s_idx elT25_2 a1_f hy2 hKe rfl rfl rfl (by
    intro b2 p2 cs2 hR2 hA2
    obtain ⟨e2_data_a, e2_data_c, rfl, e2_data_f⟩ := hR2
    exact ⟨⟨b2, p2, e2_data_a, e2_data_c, rfl, hA2, e2_data_f⟩, D.GO_refl _ _ _, hb⟩))⟩) ?_
   refine D.on_op (fun uu ww => ∃ (b2 : Nat) (p2 : Nat) (e2_data_a : Option Addr) (e2_data_c : Nat), uu = .agg #[.int .i64 x3.kind, .int .i64 x3.to, .int .i64 x3.from_, .int .i64 x3.len, .slice e2_data_a x3.data.length e2_data_c] ∧ At (m1.upO none ww) b2 p2 [.int .i64 x3.kind, .int .i64 x3.to, .int .i64 x3.from_, .int .i64 x3.len, .slice e2_data_a x3.data.length e2_data_c] ∧ Els isU8 (m1.upO none ww) 1 e2_data_a e2_data_c x3.data) (fun _ _ _ ⟨b2, p2, e2_data_a, e2_data_c, e, hA2, e2_data_f⟩ g => ⟨b2, p2, e2_data_a, e2_data_c, e, hA2.mono g.1, Els.mono rep_U8 e2_data_f g.1⟩) (by
    intro ac ww kk hlo hhi hb hk
    obtain rfl : kk = 0 := by omega
    have h0 := hS; replace hS := hb.2.1
    obtain ⟨b2, p2, e2_data_a, e2_data_c, k23, hA2, e2_data_f⟩ : ∃ (b2 : Nat) (p2 : Nat) (e2_data_a : Option Addr) (e2_data_c : Nat), ac.eval (.tmp 23) = .pointer (some ⟨b2, p2, none⟩) ∧ At (m1.upO none ww) b2 p2 [.int .i64 x3.kind, .int .i64 x3.to, .int .i64 x3.from_, .int .i64 x3.len, .slice e2_data_a x3.data.length e2_data_c] ∧ Els isU8 (m1.upO none ww) 1 e2_data_a e2_data_c x3.data := hk.1
    have hKe : Ke ac [(23, .pointer (some ⟨b2, p2, none⟩))] := (.cons k23 (.nil _))
    exact ⟨D.wanted0 rfl, D.valO (m := m1) hb (fun Post hp => s_loadAtN [.int .i64 x3.kind, .int .i64 x3.to, .int .i64 x3.from_, .int .i64 x3.len, .slice e2_data_a x3.data.length e2_data_c] hKe hA2 0 rfl rfl rfl (by kernel_rfl) (by kernel_rfl) hp) ⟨b2, p2, e2_data_a, e2_data_c, rfl, hA2, e2_data_f⟩⟩) ?_
   refine D.finO ?_
   intro fr2 m2 hm1 l2 hS2 hF2 hE
   replace hS2 : St _ m m2 [] := hS2
   obtain ⟨b1, p1, e1_data_a, e1_data_c, k20, hA1, e1_data_f⟩ : ∃ (b1 : Nat) (p1 : Nat) (e1_data_a : Option Addr) (e1_data_c : Nat), fr2.eval (.tmp 20) = .agg #[.int .i64 x2.kind, .int .i64 x2.to, .int .i64 x2.from_, .int .i64 x2.len, .slice e1_data_a x2.data.length e1_data_c] ∧ At (m1.upO none m2.w) b1 p1 [.int .i64 x2.kind, .int .i64 x2.to, .int .i64 x2.from_, .int .i64 x2.len, .slice e1_data_a x2.data.length e1_data_c] ∧ Els isU8 (m1.upO none m2.w) 1 e1_data_a e1_data_c x2.data := hE.slots 20
   rw [hm1] at hA1
   rw [hm1] at e1_data_f
   obtain ⟨b2, p2, e2_data_a, e2_data_c, k24, hA2, e2_data_f⟩ : ∃ (b2 : Nat) (p2 : Nat) (e2_data_a : Option Addr) (e2_data_c : Nat), fr2.eval (.tmp 24) = .agg #[.int .i64 x3.kind, .int .i64 x3.to, .int .i64 x3.from_, .int .i64 x3.len, .slice e2_data_a x3.data.length e2_data_c] ∧ At (m1.upO none m2.w) b2 p2 [.int .i64 x3.kind, .int .i64 x3.to, .int .i64 x3.from_, .int .i64 x3.len, .slice e2_data_a x3.data.length e2_data_c] ∧ Els isU8 (m1.upO none m2.w) 1 e2_data_a e2_data_c x3.data := hE.slots 24
   rw [hm1] at hA2
   rw [hm1] at e2_data_f
   have hK2 := D.kn_ends [(17, .slice a0_a a0.length a0_c), (18, .int .i64 s1), (19, fr2.eval (.tmp 19)), (20, .agg #[.int .i64 x2.kind, .int .i64 x2.to, .int .i64 x2.from_, .int .i64 x2.len, .slice e1_data_a x2.data.length e1_data_c]), (21, .slice a1_a a1.length a1_c), (22, .int .i64 s1), (23, fr2.eval (.tmp 23)), (24, .agg #[.int .i64 x3.kind, .int .i64 x3.to, .int .i64 x3.from_, .int .i64 x3.len, .slice e2_data_a x3.data.length e2_data_c])] hK hE rfl (by kernel_rfl) (.cons (hE.slots 17) (.cons (hE.slots 18) (.cons (rfl) (.cons (k20) (.cons (hE.slots 21) (.cons (hE.slots 22) (.cons (rfl) (.cons (k24) (.nil _)))))))))
   replace hK2 : Kn 27 fr2 [(17, .slice a0_a a0.length a0_c), (18, .int .i64 s1), (20, .agg #[.int .i64 x2.kind, .int .i64 x2.to, .int .i64 x2.from_, .int .i64 x2.len, .slice e1_data_a x2.data.length e1_data_c]), (21, .slice a1_a a1.length a1_c), (22, .int .i64 s1), (24, .agg #[.int .i64 x3.kind, .int .i64 x3.to, .int .i64 x3.from_, .int .i64 x3.len, .slice e2_data_a x3.data.length e2_data_c]), (14, .bool true), (13, .int .i64 (a0.length : Int)), (12, .slice a0_a a0.length a0_c), (11, .int .i64 s1), (0, .slice a0_a a0.length a0_c), (1, .slice a1_a a1.length a1_c), (5, .int .i64 s1)] := hK2.only [17, 18, 20, 21, 22, 24, 14, 13, 12, 11, 0, 1, 5]
   clear hE hK k20 k24; revert hK2; clear hm1 hS hlt0; revert fr2; clear fr; intro fr hK; have hS := hS2; clear hS2
   replace hS : St _ m m2 [] := hS
   obtain ⟨y1, hy3, h⟩ := bind_some h
   refine qo 25 hK (s_call hK.at_ hS ent74_2 rfl rfl rfl rfl (G.graftref04_Same_spec e1_data_f e2_data_f hy3) (by kernel_rfl) ?_)
   clear hK fr hS; rintro _ m3 _ l3 hS ⟨rfl, rfl⟩ fr hK
   replace hS : St _ m m3 [] := hS
   refine qp 26 (.bool (!y1)) hK fun fr hK => ?_
   refine wpList_nil (then_n ?_)
   refine w_cond hK rfl (fun hb3 => ?_) (fun hb3 => ?_)
   ·
    replace hK := hK.more (t := 26) (v' := .bool true) rfl (by rw [hb3])
    replace h := ite_t ((Bool.not_eq_true' _).mp hb3) h
    refine w_seq (w_region ?_)
    refine qp 4 (.bool false) hK fun fr hK => ?_
    refine wpList_nil (then_n ?_)
    refine wp_ret ?_
    refine blk_r ?_
    refine then_r ?_
    refine then_r ?_
    refine blk_r ?_
    refine then_r ?_
    replace h := Option.some.inj h; subst h
    replace h := Option.some.inj (loop_out hn1); subst h
    refine ret_of [.tmp 4] [.bool false] rfl hK (.tmp rfl .nil) hS.dropAll ?_
    exact ⟨rfl, rfl⟩
   ·
    replace hK := hK.more (t := 26) (v' := .bool false) rfl (by rw [hb3])
    replace h := ite_f (not_false_of ((Bool.not_eq_false' _).mp hb3)) h
    refine wp_skip ?_
    refine blk_n ?_
    refine then_n ?_
    refine w_region ?_
    refine qp 15 (.int .i64 s1) hK fun fr hK => ?_
    refine qp 16 (.int .i64 (IntKind.i64.wrap (s1 + 1))) hK fun fr hK => ?_
    refine qp 5 (.int .i64 (IntKind.i64.wrap (s1 + 1))) hK fun fr hK => ?_
    refine wpList_nil (then_n ?_)
    replace h := Option.some.inj h; subst h
    obtain ⟨kq, hk1, hk2⟩ := hn1
    exact ⟨kq, hk1, _, hk2, m3, rfl, hK.only [0, 1, 5], l1.trans (l2.trans l3), hS⟩
  ·
   replace hK := hK.more (t := 14) (v' := .bool false) rfl (by rw [hb2])
   replace h := ite_f (of_decide_eq_false hb2) h
   refine wp_exit ?_
   refine then_x ?_
   refine then_x ?_
   refine blk_e ?_
   refine then_n ?_
   refine w_seq (w_region ?_)
   refine qp 4 (.bool true) hK fun fr hK => ?_
   refine wpList_nil (then_n ?_)
   refine wp_ret ?_
   replace h := Option.some.inj h; subst h
   replace h := Option.some.inj (loop_out hn1); subst h
   refine ret_of [.tmp 4] [.bool true] rfl hK (.tmp rfl .nil) hS.dropAll ?_
   exact ⟨rfl, rfl⟩
set_option maxRecDepth 100000 in
set_option maxHeartbeats 1000000 in
theorem G.graftref05_Same_spec {m : Mem} {a0 : G.Delta} {a0_commands_a : Option Addr} {a0_commands_c : Nat} {a1 : G.Delta} {a1_commands_a : Option Addr} {a1_commands_c : Nat} (a0_commands_f : Els is_G_Command m 5 a0_commands_a a0_commands_c a0.commands) (a1_commands_f : Els is_G_Command m 5 a1_commands_a a1_commands_c a1.commands) {r : Bool} (h : G.graftref05_Same a0 a1 = some r) :
  Spec Try.prog 16 #[.agg (G_Delta_cells a0 a0_commands_a a0_commands_c), .agg (G_Delta_cells a1 a1_commands_a a1_commands_c)] m [] fun v m' L => L = [] ∧ v = .bool r := by
 unfold G.graftref05_Same at h
 refine enter (args := [_, _]) 38 Try.func16 rfl rfl (by simp) fun fr hK => ?_
 have hS := St.refl (Ow.nil m)
 replace hK : Kn 38 fr [(0, .agg (G_Delta_cells a0 a0_commands_a a0_commands_c)), (1, .agg (G_Delta_cells a1 a1_commands_a a1_commands_c))] := hK
 refine w_seq (w_region ?_)
 refine qo 2 hK (s_box hK.at_ hS rfl rfl ?_)
 clear hK fr hS; intro m1 b1 b1z l1 hS fr hK
 refine qo 3 hK (s_box hK.at_ hS rfl rfl ?_)
 clear hK fr hS; intro m2 b2 b2z l2 hS fr hK
 replace hS : St _ m m2 [.box b2 (G_Delta_cells a1 a1_commands_a a1_commands_c) 27, .box b1 (G_Delta_cells a0 a0_commands_a a0_commands_c) 27] := hS
 refine qp 4 (.bool false) hK fun fr hK => ?_
 refine wpList_nil (then_n ?_)
 refine w_seq (w_region ?_)
 refine qp 5 (.pointer (some ⟨b1, 0, none⟩)) hK fun fr hK => ?_
 refine qo 6 hK (s_load hK.at_ hS 1 rfl rfl rfl rfl (by kernel_rfl) ?_)
 clear hK fr; intro fr hK
 refine qp 7 (.pointer (some ⟨b2, 0, none⟩)) hK fun fr hK => ?_
 refine qo 8 hK (s_load hK.at_ hS 0 rfl rfl rfl rfl (by kernel_rfl) ?_)
 clear hK fr; intro fr hK
 refine qp 9 (.bool (a0.oldLen == a1.oldLen)) hK fun fr hK => ?_
 refine qp 10 (.bool (a0.oldLen == a1.oldLen)) hK fun fr hK => ?_
 refine split_b (x := (a0.oldLen == a1.oldLen)) (fun hb1 => ?_) (fun hb1 => ?_)
 ·
  replace hK := hK.more (t := 10) (v' := .bool true) rfl (by rw [hb1])
  replace hK := hK.more (t := 9) (v' := .bool true) rfl (by rw [hb1])
  replace h := ite_t (eq_of_beq hb1) h
  refine qp 11 (.pointer (some ⟨b1, 1, none⟩)) hK fun fr hK => ?_
  refine qo 12 hK (s_load hK.at_ hS 1 rfl rfl rfl rfl (by kernel_rfl) ?_)
  clear hK fr; intro fr hK
  refine qp 13 (.pointer (some ⟨b2, 1, none⟩)) hK fun fr hK => ?_
  refine qo 14 hK (s_load hK.at_ hS 0 rfl rfl rfl rfl (by kernel_rfl) ?_)
  clear hK fr; intro fr hK
  refine qp 15 (.bool (a0.newLen == a1.newLen)) hK fun fr hK => ?_
  refine qp 16 (.bool (a0.newLen == a1.newLen)) hK fun fr hK => ?_
  refine qp 17 (.bool (a0.newLen == a1.newLen)) hK fun fr hK => ?_
  refine split_b (x := (a0.newLen == a1.newLen)) (fun hb2 => ?_) (fun hb2 => ?_)
  ·
   replace hK := hK.more (t := 17) (v' := .bool true) rfl (by rw [hb2])
   replace hK := hK.more (t := 16) (v' := .bool true) rfl (by rw [hb2])
   replace hK := hK.more (t := 15) (v' := .bool true) rfl (by rw [hb2])
   replace h := ite_t (eq_of_beq hb2) h
   refine qp 18 (.pointer (some ⟨b1, 2, none⟩)) hK fun fr hK => ?_
   refine qo 19 hK (s_loadN [.int .u8 ((a0.oldHash 0).toNat : Int), .int .u8 ((a0.oldHash 1).toNat : Int), .int .u8 ((a0.oldHash 2).toNat : Int), .int .u8 ((a0.oldHash 3).toNat : Int), .int .u8 ((a0.oldHash 4).toNat : Int), .int .u8 ((a0.oldHash 5).toNat : Int), .int .u8 ((a0.oldHash 6).toNat : Int), .int .u8 ((a0.oldHash 7).toNat : Int), .int .u8 ((a0.oldHash 8).toNat : Int), .int .u8 ((a0.oldHash 9).toNat : Int), .int .u8 ((a0.oldHash 10).toNat : Int), .int .u8 ((a0.oldHash 11).toNat : Int), .int .u8 ((a0.oldHash 12).toNat : Int), .int .u8 ((a0.oldHash 13).toNat : Int), .int .u8 ((a0.oldHash 14).toNat : Int), .int .u8 ((a0.oldHash 15).toNat : Int), .int .u8 ((a0.oldHash 16).toNat : Int), .int .u8 ((a0.oldHash 17).toNat : Int), .int .u8 ((a0.oldHash 18).toNat : Int), .int .u8 ((a0.oldHash 19).toNat : Int), .int .u8 ((a0.oldHash 20).toNat : Int), .int .u8 ((a0.oldHash 21).toNat : Int), .int .u8 ((a0.oldHash 22).toNat : Int), .int .u8 ((a0.oldHash 23).toNat : Int), .int .u8 ((a0.oldHash 24).toNat : Int), .int .u8 ((a0.oldHash 25).toNat : Int), .int .u8 ((a0.oldHash 26).toNat : Int), .int .u8 ((a0.oldHash 27).toNat : Int), .int .u8 ((a0.oldHash 28).toNat : Int), .int .u8 ((a0.oldHash 29).toNat : Int), .int .u8 ((a0.oldHash 30).toNat : Int), .int .u8 ((a0.oldHash 31).toNat : Int)] hK.at_ hS 1 rfl rfl rfl (by kernel_rfl) (by kernel_rfl) ?_)
   clear hK fr; intro fr hK
   refine qp 20 (.pointer (some ⟨b2, 2, none⟩)) hK fun fr hK => ?_
   refine qo 21 hK (s_loadN [.int .u8 ((a1.oldHash 0).toNat : Int), .int .u8 ((a1.oldHash 1).toNat : Int), .int .u8 ((a1.oldHash 2).toNat : Int), .int .u8 ((a1.oldHash 3).toNat : Int), .int .u8 ((a1.oldHash 4).toNat : Int), .int .u8 ((a1.oldHash 5).toNat : Int), .int .u8 ((a1.oldHash 6).toNat : Int), .int .u8 ((a1.oldHash 7).toNat : Int), .int .u8 ((a1.oldHash 8).toNat : Int), .int .u8 ((a1.oldHash 9).toNat : Int), .int .u8 ((a1.oldHash 10).toNat : Int), .int .u8 ((a1.oldHash 11).toNat : Int), .int .u8 ((a1.oldHash 12).toNat : Int), .int .u8 ((a1.oldHash 13).toNat : Int), .int .u8 ((a1.oldHash 14).toNat : Int), .int .u8 ((a1.oldHash 15).toNat : Int), .int .u8 ((a1.oldHash 16).toNat : Int), .int .u8 ((a1.oldHash 17).toNat : Int), .int .u8 ((a1.oldHash 18).toNat : Int), .int .u8 ((a1.oldHash 19).toNat : Int), .int .u8 ((a1.oldHash 20).toNat : Int), .int .u8 ((a1.oldHash 21).toNat : Int), .int .u8 ((a1.oldHash 22).toNat : Int), .int .u8 ((a1.oldHash 23).toNat : Int), .int .u8 ((a1.oldHash 24).toNat : Int), .int .u8 ((a1.oldHash 25).toNat : Int), .int .u8 ((a1.oldHash 26).toNat : Int), .int .u8 ((a1.oldHash 27).toNat : Int), .int .u8 ((a1.oldHash 28).toNat : Int), .int .u8 ((a1.oldHash 29).toNat : Int), .int .u8 ((a1.oldHash 30).toNat : Int), .int .u8 ((a1.oldHash 31).toNat : Int)] hK.at_ hS 0 rfl rfl rfl (by kernel_rfl) (by kernel_rfl) ?_)
   clear hK fr; intro fr hK
   refine qr 22 (.bool (hashEq a0.oldHash a1.oldHash)) hK (by exact run_binAgg rfl rfl rfl (by kernel_rfl) (eqH24_2 a0.oldHash a1.oldHash _)) ?_
   clear hK fr; intro fr hK
   refine qp 23 (.bool (hashEq a0.oldHash a1.oldHash)) hK fun fr hK => ?_
   refine qp 24 (.bool (hashEq a0.oldHash a1.oldHash)) hK fun fr hK => ?_
   refine split_b (x := (hashEq a0.oldHash a1.oldHash)) (fun hb3 => ?_) (fun hb3 => ?_)
   ·
    replace hK := hK.more (t := 24) (v' := .bool true) rfl (by rw [hb3])
    replace hK := hK.more (t := 23) (v' := .bool true) rfl (by rw [hb3])
    replace hK := hK.more (t := 22) (v' := .bool true) rfl (by rw [hb3])
    replace h := ite_t (hb3) h
    refine qp 25 (.pointer (some ⟨b1, 34, none⟩)) hK fun fr hK => ?_
    refine qo 26 hK (s_loadN [.int .u8 ((a0.newHash 0).toNat : Int), .int .u8 ((a0.newHash 1).toNat : Int), .int .u8 ((a0.newHash 2).toNat : Int), .int .u8 ((a0.newHash 3).toNat : Int), .int .u8 ((a0.newHash 4).toNat : Int), .int .u8 ((a0.newHash 5).toNat : Int), .int .u8 ((a0.newHash 6).toNat : Int), .int .u8 ((a0.newHash 7).toNat : Int), .int .u8 ((a0.newHash 8).toNat : Int), .int .u8 ((a0.newHash 9).toNat : Int), .int .u8 ((a0.newHash 10).toNat : Int), .int .u8 ((a0.newHash 11).toNat : Int), .int .u8 ((a0.newHash 12).toNat : Int), .int .u8 ((a0.newHash 13).toNat : Int), .int .u8 ((a0.newHash 14).toNat : Int), .int .u8 ((a0.newHash 15).toNat : Int), .int .u8 ((a0.newHash 16).toNat : Int), .int .u8 ((a0.newHash 17).toNat : Int), .int .u8 ((a0.newHash 18).toNat : Int), .int .u8 ((a0.newHash 19).toNat : Int), .int .u8 ((a0.newHash 20).toNat : Int), .int .u8 ((a0.newHash 21).toNat : Int), .int .u8 ((a0.newHash 22).toNat : Int), .int .u8 ((a0.newHash 23).toNat : Int), .int .u8 ((a0.newHash 24).toNat : Int), .int .u8 ((a0.newHash 25).toNat : Int), .int .u8 ((a0.newHash 26).toNat : Int), .int .u8 ((a0.newHash 27).toNat : Int), .int .u8 ((a0.newHash 28).toNat : Int), .int .u8 ((a0.newHash 29).toNat : Int), .int .u8 ((a0.newHash 30).toNat : Int), .int .u8 ((a0.newHash 31).toNat : Int)] hK.at_ hS 1 rfl rfl rfl (by kernel_rfl) (by kernel_rfl) ?_)
    clear hK fr; intro fr hK
    refine qp 27 (.pointer (some ⟨b2, 34, none⟩)) hK fun fr hK => ?_
    refine qo 28 hK (s_loadN [.int .u8 ((a1.newHash 0).toNat : Int), .int .u8 ((a1.newHash 1).toNat : Int), .int .u8 ((a1.newHash 2).toNat : Int), .int .u8 ((a1.newHash 3).toNat : Int), .int .u8 ((a1.newHash 4).toNat : Int), .int .u8 ((a1.newHash 5).toNat : Int), .int .u8 ((a1.newHash 6).toNat : Int), .int .u8 ((a1.newHash 7).toNat : Int), .int .u8 ((a1.newHash 8).toNat : Int), .int .u8 ((a1.newHash 9).toNat : Int), .int .u8 ((a1.newHash 10).toNat : Int), .int .u8 ((a1.newHash 11).toNat : Int), .int .u8 ((a1.newHash 12).toNat : Int), .int .u8 ((a1.newHash 13).toNat : Int), .int .u8 ((a1.newHash 14).toNat : Int), .int .u8 ((a1.newHash 15).toNat : Int), .int .u8 ((a1.newHash 16).toNat : Int), .int .u8 ((a1.newHash 17).toNat : Int), .int .u8 ((a1.newHash 18).toNat : Int), .int .u8 ((a1.newHash 19).toNat : Int), .int .u8 ((a1.newHash 20).toNat : Int), .int .u8 ((a1.newHash 21).toNat : Int), .int .u8 ((a1.newHash 22).toNat : Int), .int .u8 ((a1.newHash 23).toNat : Int), .int .u8 ((a1.newHash 24).toNat : Int), .int .u8 ((a1.newHash 25).toNat : Int), .int .u8 ((a1.newHash 26).toNat : Int), .int .u8 ((a1.newHash 27).toNat : Int), .int .u8 ((a1.newHash 28).toNat : Int), .int .u8 ((a1.newHash 29).toNat : Int), .int .u8 ((a1.newHash 30).toNat : Int), .int .u8 ((a1.newHash 31).toNat : Int)] hK.at_ hS 0 rfl rfl rfl (by kernel_rfl) (by kernel_rfl) ?_)
    clear hK fr; intro fr hK
    refine qr 29 (.bool (hashEq a0.newHash a1.newHash)) hK (by exact run_binAgg rfl rfl rfl (by kernel_rfl) (eqH24_2 a0.newHash a1.newHash _)) ?_
    clear hK fr; intro fr hK
    refine qp 30 (.bool (hashEq a0.newHash a1.newHash)) hK fun fr hK => ?_
    refine qp 31 (.bool (hashEq a0.newHash a1.newHash)) hK fun fr hK => ?_
    refine split_b (x := (hashEq a0.newHash a1.newHash)) (fun hb4 => ?_) (fun hb4 => ?_)
    ·
     replace hK := hK.more (t := 31) (v' := .bool true) rfl (by rw [hb4])
     replace hK := hK.more (t := 30) (v' := .bool true) rfl (by rw [hb4])
     replace hK := hK.more (t := 29) (v' := .bool true) rfl (by rw [hb4])
     replace h := ite_t (hb4) h
     refine qp 32 (.pointer (some ⟨b1, 66, none⟩)) hK fun fr hK => ?_
     refine qo 33 hK (s_load hK.at_ hS 1 rfl rfl rfl rfl (by kernel_rfl) ?_)
     clear hK fr; intro fr hK
     refine qp 34 (.pointer (some ⟨b2, 66, none⟩)) hK fun fr hK => ?_
     refine qo 35 hK (s_load hK.at_ hS 0 rfl rfl rfl rfl (by kernel_rfl) ?_)
     clear hK fr; intro fr hK
     replace a0_commands_f := Els.mono rep_G_Command a0_commands_f (l1.trans l2)
     replace a1_commands_f := Els.mono rep_G_Command a1_commands_f (l1.trans l2)
     obtain ⟨y1, hy1, h⟩ := bind_some h
     refine qo 36 hK (s_call hK.at_ hS ent36_2 rfl rfl rfl rfl (G.graftref04_All_spec a0_commands_f a1_commands_f hy1) (by kernel_rfl) ?_)
     clear hK fr hS; rintro _ m3 _ l3 hS ⟨rfl, rfl⟩ fr hK
     replace hS : St _ m m3 [.box b2 (G_Delta_cells a1 a1_commands_a a1_commands_c) 27, .box b1 (G_Delta_cells a0 a0_commands_a a0_commands_c) 27] := hS
     refine qp 37 (.bool y1) hK fun fr hK => ?_
     refine qp 4 (.bool y1) hK fun fr hK => ?_
     refine wpList_nil (then_n ?_)
     refine wp_ret ?_
     replace h := Option.some.inj h; subst h
     refine ret_of [.tmp 4] [.bool y1] rfl hK (.tmp rfl .nil) hS.dropAll ?_
     exact ⟨rfl, rfl⟩
    ·
     replace hK := hK.more (t := 31) (v' := .bool false) rfl (by rw [hb4])
     replace hK := hK.more (t := 30) (v' := .bool false) rfl (by rw [hb4])
     replace hK := hK.more (t := 29) (v' := .bool false) rfl (by rw [hb4])
     replace h := ite_f (ne_true_of_eq_false hb4) h
     refine qs 32 hK ?_
     clear hK fr; intro fr hK
     refine qs 33 hK ?_
     clear hK fr; intro fr hK
     refine qs 34 hK ?_
     clear hK fr; intro fr hK
     refine qs 35 hK ?_
     clear hK fr; intro fr hK
     refine qs 36 hK ?_
     clear hK fr; intro fr hK
     refine qp 37 (.bool false) hK fun fr hK => ?_
     refine qp 4 (.bool false) hK fun fr hK => ?_
     refine wpList_nil (then_n ?_)
     refine wp_ret ?_
     replace h := Option.some.inj h; subst h
     refine ret_of [.tmp 4] [.bool false] rfl hK (.tmp rfl .nil) hS.dropAll ?_
     exact ⟨rfl, rfl⟩
   ·
    replace hK := hK.more (t := 24) (v' := .bool false) rfl (by rw [hb3])
    replace hK := hK.more (t := 23) (v' := .bool false) rfl (by rw [hb3])
    replace hK := hK.more (t := 22) (v' := .bool false) rfl (by rw [hb3])
    replace h := ite_f (ne_true_of_eq_false hb3) h
    refine qs 25 hK ?_
    clear hK fr; intro fr hK
    refine qs 26 hK ?_
    clear hK fr; intro fr hK
    refine qs 27 hK ?_
    clear hK fr; intro fr hK
    refine qs 28 hK ?_
    clear hK fr; intro fr hK
    refine qs 29 hK ?_
    clear hK fr; intro fr hK
    refine qp 30 (.bool false) hK fun fr hK => ?_
    refine qp 31 (.bool false) hK fun fr hK => ?_
    refine qs 32 hK ?_
    clear hK fr; intro fr hK
    refine qs 33 hK ?_
    clear hK fr; intro fr hK
    refine qs 34 hK ?_
    clear hK fr; intro fr hK
    refine qs 35 hK ?_
    clear hK fr; intro fr hK
    refine qs 36 hK ?_
    clear hK fr; intro fr hK
    refine qp 37 (.bool false) hK fun fr hK => ?_
    refine qp 4 (.bool false) hK fun fr hK => ?_
    refine wpList_nil (then_n ?_)
    refine wp_ret ?_
    replace h := Option.some.inj h; subst h
    refine ret_of [.tmp 4] [.bool false] rfl hK (.tmp rfl .nil) hS.dropAll ?_
    exact ⟨rfl, rfl⟩
  ·
   replace hK := hK.more (t := 17) (v' := .bool false) rfl (by rw [hb2])
   replace hK := hK.more (t := 16) (v' := .bool false) rfl (by rw [hb2])
   replace hK := hK.more (t := 15) (v' := .bool false) rfl (by rw [hb2])
   replace h := ite_f (ne_of_beq_false hb2) h
   refine qs 18 hK ?_
   clear hK fr; intro fr hK
   refine qs 19 hK ?_
   clear hK fr; intro fr hK
   refine qs 20 hK ?_
   clear hK fr; intro fr hK
   refine qs 21 hK ?_
   clear hK fr; intro fr hK
   refine qs 22 hK ?_
   clear hK fr; intro fr hK
   refine qp 23 (.bool false) hK fun fr hK => ?_
   refine qp 24 (.bool false) hK fun fr hK => ?_
   refine qs 25 hK ?_
   clear hK fr; intro fr hK
   refine qs 26 hK ?_
   clear hK fr; intro fr hK
   refine qs 27 hK ?_
   clear hK fr; intro fr hK
   refine qs 28 hK ?_
   clear hK fr; intro fr hK
   refine qs 29 hK ?_
   clear hK fr; intro fr hK
   refine qp 30 (.bool false) hK fun fr hK => ?_
   refine qp 31 (.bool false) hK fun fr hK => ?_
   refine qs 32 hK ?_
   clear hK fr; intro fr hK
   refine qs 33 hK ?_
   clear hK fr; intro fr hK
   refine qs 34 hK ?_
   clear hK fr; intro fr hK
   refine qs 35 hK ?_
   clear hK fr; intro fr hK
   refine qs 36 hK ?_
   clear hK fr; intro fr hK
   refine qp 37 (.bool false) hK fun fr hK => ?_
   refine qp 4 (.bool false) hK fun fr hK => ?_
   refine wpList_nil (then_n ?_)
   refine wp_ret ?_
   replace h := Option.some.inj h; subst h
   refine ret_of [.tmp 4] [.bool false] rfl hK (.tmp rfl .nil) hS.dropAll ?_
   exact ⟨rfl, rfl⟩
 ·
  replace hK := hK.more (t := 10) (v' := .bool false) rfl (by rw [hb1])
  replace hK := hK.more (t := 9) (v' := .bool false) rfl (by rw [hb1])
  replace h := ite_f (ne_of_beq_false hb1) h
  refine qs 11 hK ?_
  clear hK fr; intro fr hK
  refine qs 12 hK ?_
  clear hK fr; intro fr hK
  refine qs 13 hK ?_
  clear hK fr; intro fr hK
  refine qs 14 hK ?_
  clear hK fr; intro fr hK
  refine qs 15 hK ?_
  clear hK fr; intro fr hK
  refine qp 16 (.bool false) hK fun fr hK => ?_
  refine qp 17 (.bool false) hK fun fr hK => ?_
  refine qs 18 hK ?_
  clear hK fr; intro fr hK
  refine qs 19 hK ?_
  clear hK fr; intro fr hK
  refine qs 20 hK ?_
  clear hK fr; intro fr hK
  refine qs 21 hK ?_
  clear hK fr; intro fr hK
  refine qs 22 hK ?_
  clear hK fr; intro fr hK
  refine qp 23 (.bool false) hK fun fr hK => ?_
  refine qp 24 (.bool false) hK fun fr hK => ?_
  refine qs 25 hK ?_
  clear hK fr; intro fr hK
  refine qs 26 hK ?_
  clear hK fr; intro fr hK
  refine qs 27 hK ?_
  clear hK fr; intro fr hK
  refine qs 28 hK ?_
  clear hK fr; intro fr hK
  refine qs 29 hK ?_
  clear hK fr; intro fr hK
  refine qp 30 (.bool false) hK fun fr hK => ?_
  refine qp 31 (.bool false) hK fun fr hK => ?_
  refine qs 32 hK ?_
  clear hK fr; intro fr hK
  refine qs 33 hK ?_
  clear hK fr; intro fr hK
  refine qs 34 hK ?_
  clear hK fr; intro fr hK
  refine qs 35 hK ?_
  clear hK fr; intro fr hK
  refine qs 36 hK ?_
  clear hK fr; intro fr hK
  refine qp 37 (.bool false) hK fun fr hK => ?_
  refine qp 4 (.bool false) hK fun fr hK => ?_
  refine wpList_nil (then_n ?_)
  refine wp_ret ?_
  replace h := Option.some.inj h; subst h
  refine ret_of [.tmp 4] [.bool false] rfl hK (.tmp rfl .nil) hS.dropAll ?_
  exact ⟨rfl, rfl⟩
set_option maxRecDepth 100000 in
set_option maxHeartbeats 1000000 in
theorem G.format_Size_spec {m : Mem} {a0 : G.Delta} {a0_commands_a : Option Addr} {a0_commands_c : Nat} (a0_commands_f : Els is_G_Command m 5 a0_commands_a a0_commands_c a0.commands) {r : Int} (h : G.format_Size a0 = some r) :
  Spec Try.prog 21 #[.agg (G_Delta_cells a0 a0_commands_a a0_commands_c)] m [] fun v m' L => L = [] ∧ v = .int .i64 r := by
 unfold G.format_Size at h
 refine enter (args := [_]) 29 Try.func21 rfl rfl (by simp) fun fr hK => ?_
 have hS := St.refl (Ow.nil m)
 replace hK : Kn 29 fr [(0, .agg (G_Delta_cells a0 a0_commands_a a0_commands_c))] := hK
 refine w_seq (w_region ?_)
 refine qo 1 hK (s_box hK.at_ hS rfl rfl ?_)
 clear hK fr hS; intro m1 b1 b1z l1 hS fr hK
 replace hS : St _ m m1 [.box b1 (G_Delta_cells a0 a0_commands_a a0_commands_c) 27] := hS
 refine qp 2 (.int .i64 0) hK fun fr hK => ?_
 refine wpList_nil (then_n ?_)
 refine w_seq ?_
 refine w_seq (w_region ?_)
 refine qo 6 hK (s_loadAll hK.at_ hS 0 rfl rfl rfl (by kernel_rfl) ?_)
 clear hK fr; intro fr hK
 replace a0_commands_f := Els.mono rep_G_Command a0_commands_f l1
 obtain ⟨y1, hy1, h⟩ := bind_some h
 refine qo 7 hK (s_call hK.at_ hS ent55_2 rfl rfl rfl rfl (G.format_check_spec a0_commands_f hy1) (by kernel_rfl) ?_)
 clear hK fr hS; rintro _ m2 _ l2 hS ⟨rfl, rfl⟩ fr hK
 replace hS : St _ m m2 [.box b1 (G_Delta_cells a0 a0_commands_a a0_commands_c) 27] := hS
 refine qp 8 (.bool (y1 != 0)) hK fun fr hK => ?_
 refine wpList_nil (then_n ?_)
 refine w_cond hK rfl (fun hb1 => ?_) (fun hb1 => ?_)
 ·
  replace hK := hK.more (t := 8) (v' := .bool true) rfl (by rw [hb1])
  replace h := ite_t (ne_of_bne hb1) h
  refine w_seq (w_region ?_)
  refine qp 2 (.int .i64 0) hK fun fr hK => ?_
  refine wpList_nil (then_n ?_)
  refine wp_ret ?_
  refine then_r ?_
  replace h := Option.some.inj h; subst h
  refine ret_of [.tmp 2] [.int .i64 0] rfl hK (.tmp rfl .nil) hS.dropAll ?_
  exact ⟨rfl, rfl⟩
 ·
  replace hK := hK.more (t := 8) (v' := .bool false) rfl (by rw [hb1])
  replace h := ite_f (not_not_intro (eq_of_bne hb1)) h
  refine wp_skip ?_
  refine then_n ?_
  refine w_seq (w_region ?_)
  refine qp 3 (.int .i64 89) hK fun fr hK => ?_
  refine wpList_nil (then_n ?_)
  refine w_seq ?_
  refine w_seq (w_region ?_)
  refine qp 9 (.pointer (some ⟨b1, 66, none⟩)) hK fun fr hK => ?_
  refine qo 10 hK (s_load hK.at_ hS 0 rfl rfl rfl rfl (by kernel_rfl) ?_)
  clear hK fr; intro fr hK
  refine qp 11 (.int .i64 (a0.commands.length : Int)) hK fun fr hK => ?_
  refine qp 12 (.int .i64 0) hK fun fr hK => ?_
  refine wpList_nil (then_n ?_)
  refine wp_block ?_
  replace hS := St.keep (L := []) (R := [.box b1 (G_Delta_cells a0 a0_commands_a a0_commands_c) 27]) hS
  refine w_loopL h (fun (s1 : Int × Int) fr ww => ∃ m3 : Mem, m3.w = ww ∧ Kn 29 fr [(3, .int .i64 s1.1), (10, .slice a0_commands_a a0.commands.length a0_commands_c), (11, .int .i64 (a0.commands.length : Int)), (12, .int .i64 s1.2)] ∧ Le m2 m3 ∧ St (blocksOf []) m m3 []) ?_ ?_
  · exact ⟨m2, rfl, hK.only [3, 10, 11, 12], Le.refl _, hS⟩
  clear hK hS fr h
  rintro k1 s1 x1 fr _ ⟨m3, rfl, hK, l3, hS⟩ h hn1
  unfold G.format_Size_l1 at h
  refine w_seq (w_region ?_)
  refine qp 13 (.bool (decide (s1.2 < (a0.commands.length : Int)))) hK fun fr hK => ?_
  refine wpList_nil (then_n ?_)
  refine w_seq ?_
  refine w_cond hK rfl (fun hb2 => ?_) (fun hb2 => ?_)
  ·
   replace hK := hK.more (t := 13) (v' := .bool true) rfl (by rw [hb2])
   replace h := ite_t (of_decide_eq_true hb2) h
   refine wp_skip ?_
   refine then_n ?_
   refine w_seq ?_
   refine wp_block ?_
   refine w_seq (w_region ?_)
   replace a0_commands_f := Els.mono rep_G_Command a0_commands_f (l2.trans l3)
   obtain ⟨x2, hy2, h⟩ := bind_some h
   refine qo 14 hK (s_idx elT25_2 a0_commands_f hy2 hK.at_ rfl rfl rfl ?_)
   clear hK fr; intro b2 p1 cs1 hR1 hA1 fr hK
   obtain ⟨e1_data_a, e1_data_c, rfl, e1_data_f⟩ := hR1
   refine qo 15 hK (s_loadAtN [.int .i64 x2.kind, .int .i64 x2.to, .int .i64 x2.from_, .int .i64 x2.len, .slice e1_data_a x2.data.length e1_data_c] hK.at_ hA1 0 rfl rfl rfl (by kernel_rfl) (by kernel_rfl) ?_)
   clear hK fr; intro fr hK
   refine qo 5 hK (s_alloc (.agg #[.int .i64 0, .int .i64 0, .int .i64 0, .int .i64 0, .slice none 0 0]) hK.at_ hS rfl (by kernel_rfl) ?_)
   clear hK fr hS; intro m4 b3 b3z l4 hS fr hK
   refine qo0 hK (s_storeAll hK.at_ 0 hS rfl rfl rfl rfl (by kernel_rfl) (by kernel_rfl) (by kernel_rfl) ?_)
   clear hK fr hS; intro m5 l5 hS fr hK
   replace hS : St _ m m5 [.box b3 #[.int .i64 x2.kind, .int .i64 x2.to, .int .i64 x2.from_, .int .i64 x2.len, .slice e1_data_a x2.data.length e1_data_c] 50] := hS
   refine wpList_nil (then_n ?_)
   refine w_seq (w_region ?_)
   refine qp 16 (.int .i64 s1.1) hK fun fr hK => ?_
   refine qp 17 (.pointer (some ⟨b3, 4, none⟩)) hK fun fr hK => ?_
   refine qo 18 hK (s_load hK.at_ hS 0 rfl rfl rfl rfl (by kernel_rfl) ?_)
   clear hK fr; intro fr hK
   refine qp 19 (.int .i64 (x2.data.length : Int)) hK fun fr hK => ?_
   refine qp 20 (.int .i64 (IntKind.i64.wrap (17 + (x2.data.length : Int)))) hK fun fr hK => ?_
   refine qp 21 (.int .i64 (IntKind.i64.wrap (s1.1 + (IntKind.i64.wrap (17 + (x2.data.length : Int)))))) hK fun fr hK => ?_
   refine qp 3 (.int .i64 (IntKind.i64.wrap (s1.1 + (IntKind.i64.wrap (17 + (x2.data.length : Int)))))) hK fun fr hK => ?_
   refine wpList_nil (then_n ?_)
   refine w_seq (w_region ?_)
   refine qp 22 (.pointer (some ⟨b3, 0, none⟩)) hK fun fr hK => ?_
   refine qo 23 hK (s_load hK.at_ hS 0 rfl rfl rfl rfl (by kernel_rfl) ?_)
   clear hK fr; intro fr hK
   refine qp 24 (.bool (x2.kind == 1)) hK fun fr hK => ?_
   refine wpList_nil (then_n ?_)
   refine w_cond hK rfl (fun hb3 => ?_) (fun hb3 => ?_)
   ·
    replace hK := hK.more (t := 24) (v' := .bool true) rfl (by rw [hb3])
    replace h := ite_t (eq_of_beq hb3) h
    refine w_region ?_
    refine qp 25 (.int .i64 (IntKind.i64.wrap (s1.1 + (IntKind.i64.wrap (17 + (x2.data.length : Int)))))) hK fun fr hK => ?_
    refine qp 26 (.int .i64 (IntKind.i64.wrap ((IntKind.i64.wrap (s1.1 + (IntKind.i64.wrap (17 + (x2.data.length : Int))))) + 8))) hK fun fr hK => ?_
    refine qp 3 (.int .i64 (IntKind.i64.wrap ((IntKind.i64.wrap (s1.1 + (IntKind.i64.wrap (17 + (x2.data.length : Int))))) + 8))) hK fun fr hK => ?_
    refine wpList_nil ?_
    refine blk_n ?_
    refine then_n ?_
    refine w_region ?_
    refine qp 27 (.int .i64 (IntKind.i64.wrap (s1.2 + 1))) hK fun fr hK => ?_
    refine qp 12 (.int .i64 (IntKind.i64.wrap (s1.2 + 1))) hK fun fr hK => ?_
    refine wpList_nil (then_n ?_)
    replace hS := St.keep (L := []) (R := [.box b3 #[.int .i64 x2.kind, .int .i64 x2.to, .int .i64 x2.from_, .int .i64 x2.len, .slice e1_data_a x2.data.length e1_data_c] 50]) hS
    replace h := Option.some.inj h; subst h
    obtain ⟨kq, hk1, hk2⟩ := hn1
    exact ⟨kq, hk1, _, hk2, m5, rfl, hK.only [3, 10, 11, 12], l3.trans (l4.trans l5), hS⟩
   ·
    replace hK := hK.more (t := 24) (v' := .bool false) rfl (by rw [hb3])
    replace h := ite_f (ne_of_beq_false hb3) h
    refine wp_skip ?_
    refine blk_n ?_
    refine then_n ?_
    refine w_region ?_
    refine qp 27 (.int .i64 (IntKind.i64.wrap (s1.2 + 1))) hK fun fr hK => ?_
    refine qp 12 (.int .i64 (IntKind.i64.wrap (s1.2 + 1))) hK fun fr hK => ?_
    refine wpList_nil (then_n ?_)
    replace hS := St.keep (L := []) (R := [.box b3 #[.int .i64 x2.kind, .int .i64 x2.to, .int .i64 x2.from_, .int .i64 x2.len, .slice e1_data_a x2.data.length e1_data_c] 50]) hS
    replace h := Option.some.inj h; subst h
    obtain ⟨kq, hk1, hk2⟩ := hn1
    exact ⟨kq, hk1, _, hk2, m5, rfl, hK.only [3, 10, 11, 12], l3.trans (l4.trans l5), hS⟩
  ·
   replace hK := hK.more (t := 13) (v' := .bool false) rfl (by rw [hb2])
   replace h := ite_f (of_decide_eq_false hb2) h
   refine wp_exit ?_
   refine then_x ?_
   refine then_x ?_
   refine blk_e ?_
   refine then_n ?_
   refine w_seq (w_region ?_)
   refine qp 28 (.int .i64 s1.1) hK fun fr hK => ?_
   refine qp 2 (.int .i64 s1.1) hK fun fr hK => ?_
   refine wpList_nil (then_n ?_)
   refine wp_ret ?_
   replace h := Option.some.inj h; subst h
   replace h := Option.some.inj (loop_out hn1); subst h
   refine ret_of [.tmp 2] [.int .i64 s1.1] rfl hK (.tmp rfl .nil) hS.dropAll ?_
   exact ⟨rfl, rfl⟩
set_option maxRecDepth 100000 in
set_option maxHeartbeats 1000000 in
theorem G.graftlaw07_alive_spec {m : Mem} {r : Bool} (h : G.graftlaw07_alive = some r) :
  Spec Try.prog 13 #[] m [] fun v m' L => L = [] ∧ v = .bool r := by
 unfold G.graftlaw07_alive at h
 refine enter (args := []) 50 Try.func13 rfl rfl (by simp) fun fr hK => ?_
 have hS := St.refl (Ow.nil m)
 replace hK : Kn 50 fr [] := hK
 refine w_seq (w_region ?_)
 refine qp 0 (.bool false) hK fun fr hK => ?_
 refine wpList_nil (then_n ?_)
 refine w_seq (w_region ?_)
 refine qp 8 (.agg (G_Delta_cells (⟨0, 0, (fun _ => (0 : UInt8)), (fun _ => (0 : UInt8)), ([] : List G.Command)⟩ : G.Delta) none 0)) hK fun fr hK => ?_
 obtain ⟨y1, hy1, h⟩ := bind_some h
 refine qo 9 hK (s_call hK.at_ hS ent19_2 rfl rfl rfl rfl (G.format_Encode_spec (Els.nil m 5) hy1) (by kernel_rfl) ?_)
 clear hK fr hS; rintro _ m1 _ l1 hS ⟨c1r0_g, c1r0_c, rfl, rfl, c1r0_f⟩ fr hK
 replace hS : St _ m m1 [rowOf 5 1 c1r0_g c1r0_c y1.1] := hS
 refine qp 7 (.tuple #[.slice (adr c1r0_g) y1.1.length c1r0_c, .int .i64 y1.2]) hK fun fr hK => ?_
 refine qp 10 (.slice (adr c1r0_g) y1.1.length c1r0_c) hK fun fr hK => ?_
 refine qp 11 (.int .i64 y1.2) hK fun fr hK => ?_
 refine qp 1 (.slice (adr c1r0_g) y1.1.length c1r0_c) hK fun fr hK => ?_
 refine qp 2 (.int .i64 y1.2) hK fun fr hK => ?_
 refine wpList_nil (then_n ?_)
 refine w_seq (w_region ?_)
 refine qp 13 (.slice (adr c1r0_g) y1.1.length c1r0_c) hK fun fr hK => ?_
 obtain ⟨y2, hy2, h⟩ := bind_some h
 refine qo 14 hK (s_call hK.at_ hS ent14_2 rfl rfl rfl rfl (G.format_Decode_spec c1r0_f hy2) (by kernel_rfl) ?_)
 clear hK fr hS; rintro _ m2 _ l2 hS ⟨c2r0_commands_g, c2r0_commands_c, rfl, rfl, c2r0_commands_f⟩ fr hK
 refine qp 12 (.tuple #[.agg (G_Delta_cells y2.1 (adr c2r0_commands_g) c2r0_commands_c), .agg #[.int .i64 y2.2.code, .int .i64 y2.2.at_]]) hK fun fr hK => ?_
 refine qp 15 (.agg (G_Delta_cells y2.1 (adr c2r0_commands_g) c2r0_commands_c)) hK fun fr hK => ?_
 refine qp 16 (.agg #[.int .i64 y2.2.code, .int .i64 y2.2.at_]) hK fun fr hK => ?_
 refine qo 3 hK (s_alloc (.agg #[.int .i64 0, .int .i64 0, .int .u8 0, .int .u8 0, .int .u8 0, .int .u8 0, .int .u8 0, .int .u8 0, .int .u8 0, .int .u8 0, .int .u8 0, .int .u8 0, .int .u8 0, .int .u8 0, .int .u8 0, .int .u8 0, .int .u8 0, .int .u8 0, .int .u8 0, .int .u8 0, .int .u8 0, .int .u8 0, .int .u8 0, .int .u8 0, .int .u8 0, .int .u8 0, .int .u8 0, .int .u8 0, .int .u8 0, .int .u8 0, .int .u8 0, .int .u8 0, .int .u8 0, .int .u8 0, .int .u8 0, .int .u8 0, .int .u8 0, .int .u8 0, .int .u8 0, .int .u8 0, .int .u8 0, .int .u8 0, .int .u8 0, .int .u8 0, .int .u8 0, .int .u8 0, .int .u8 0, .int .u8 0, .int .u8 0, .int .u8 0, .int .u8 0, .int .u8 0, .int .u8 0, .int .u8 0, .int .u8 0, .int .u8 0, .int .u8 0, .int .u8 0, .int .u8 0, .int .u8 0, .int .u8 0, .int .u8 0, .int .u8 0, .int .u8 0, .int .u8 0, .int .u8 0, .slice none 0 0]) hK.at_ hS rfl (by kernel_rfl) ?_)
 clear hK fr hS; intro m3 b1 b1z l3 hS fr hK
 refine qo 4 hK (s_alloc (.agg #[.int .i64 0, .int .i64 0]) hK.at_ hS rfl (by kernel_rfl) ?_)
 clear hK fr hS; intro m4 b2 b2z l4 hS fr hK
 refine qo0 hK (s_storeAll hK.at_ 1 hS rfl rfl rfl rfl (by kernel_rfl) (by kernel_rfl) (by kernel_rfl) ?_)
 clear hK fr hS; intro m5 l5 hS fr hK
 refine qo0 hK (s_storeAll hK.at_ 1 hS rfl rfl rfl rfl (by kernel_rfl) (by kernel_rfl) (by kernel_rfl) ?_)
 clear hK fr hS; intro m6 l6 hS fr hK
 replace hS : St _ m m6 [.box b2 #[.int .i64 y2.2.code, .int .i64 y2.2.at_] 30, .box b1 (G_Delta_cells y2.1 (adr c2r0_commands_g) c2r0_commands_c) 27, rowOf 50 5 c2r0_commands_g c2r0_commands_c y2.1.commands, rowOf 5 1 c1r0_g c1r0_c y1.1] := hS
 refine wpList_nil (then_n ?_)
 refine w_seq (w_region ?_)
 refine qo 18 hK (s_buildRow (elem := 5) #[.int .u8 71, .int .u8 82, .int .u8 70] hK.at_ hS rfl (by kernel_rfl) (by kernel_rfl) ?_)
 clear hK fr hS; intro m7 b3 l7 hS hA1 fr hK
 have f1 : Els isU8 m7 1 (some ⟨b3, 0, none⟩) 3 ([(71 : UInt8), (82 : UInt8), (70 : UInt8)] : List UInt8) := els_lit rep_U8 [[.int .u8 71], [.int .u8 82], [.int .u8 70]] hA1 (by simp) (by decide) (.cons rfl (.cons rfl (.cons rfl .nil)))
 replace hS : St _ m m7 [rowOf 5 1 (some b3) 3 ([(71 : UInt8), (82 : UInt8), (70 : UInt8)] : List UInt8), .box b2 #[.int .i64 y2.2.code, .int .i64 y2.2.at_] 30, .box b1 (G_Delta_cells y2.1 (adr c2r0_commands_g) c2r0_commands_c) 27, rowOf 50 5 c2r0_commands_g c2r0_commands_c y2.1.commands, rowOf 5 1 c1r0_g c1r0_c y1.1] := hS
 replace hK : Kn 50 fr [(18, .slice (adr (some b3)) (([(71 : UInt8), (82 : UInt8), (70 : UInt8)] : List UInt8).length) 3), (4, .pointer (some ⟨b2, 0, none⟩)), (3, .pointer (some ⟨b1, 0, none⟩)), (16, .agg #[.int .i64 y2.2.code, .int .i64 y2.2.at_]), (15, .agg (G_Delta_cells y2.1 (adr c2r0_commands_g) c2r0_commands_c)), (12, .tuple #[.agg (G_Delta_cells y2.1 (adr c2r0_commands_g) c2r0_commands_c), .agg #[.int .i64 y2.2.code, .int .i64 y2.2.at_]]), (14, .tuple #[.agg (G_Delta_cells y2.1 (adr c2r0_commands_g) c2r0_commands_c), .agg #[.int .i64 y2.2.code, .int .i64 y2.2.at_]]), (13, .slice (adr c1r0_g) y1.1.length c1r0_c), (2, .int .i64 y1.2), (1, .slice (adr c1r0_g) y1.1.length c1r0_c), (11, .int .i64 y1.2), (10, .slice (adr c1r0_g) y1.1.length c1r0_c), (7, .tuple #[.slice (adr c1r0_g) y1.1.length c1r0_c, .int .i64 y1.2]), (9, .tuple #[.slice (adr c1r0_g) y1.1.length c1r0_c, .int .i64 y1.2]), (8, .agg (G_Delta_cells (⟨0, 0, (fun _ => (0 : UInt8)), (fun _ => (0 : UInt8)), ([] : List G.Command)⟩ : G.Delta) none 0)), (0, .bool false)] := hK.only [18, 4, 3, 16, 15, 12, 14, 13, 2, 1, 11, 10, 7, 9, 8, 0]
 refine qo 19 hK (s_stringishRow hK.at_ hS rfl rfl Try.underlying22 Try.underlying5 ?_)
 clear hK fr hS; intro m8 l8 hS fr hK
 replace hS : St _ m m8 [.box b2 #[.int .i64 y2.2.code, .int .i64 y2.2.at_] 30, .box b1 (G_Delta_cells y2.1 (adr c2r0_commands_g) c2r0_commands_c) 27, rowOf 50 5 c2r0_commands_g c2r0_commands_c y2.1.commands, rowOf 5 1 c1r0_g c1r0_c y1.1] := hS
 replace f1 := Els.mono rep_U8 f1 l8
 obtain ⟨y3, hy3, h⟩ := bind_some h
 refine qo 20 hK (s_call hK.at_ hS ent14_2 rfl rfl rfl rfl (G.format_Decode_spec f1 hy3) (by kernel_rfl) ?_)
 clear hK fr hS; rintro _ m9 _ l9 hS ⟨c3r0_commands_g, c3r0_commands_c, rfl, rfl, c3r0_commands_f⟩ fr hK
 refine qp 17 (.tuple #[.agg (G_Delta_cells y3.1 (adr c3r0_commands_g) c3r0_commands_c), .agg #[.int .i64 y3.2.code, .int .i64 y3.2.at_]]) hK fun fr hK => ?_
 refine qp 21 (.agg (G_Delta_cells y3.1 (adr c3r0_commands_g) c3r0_commands_c)) hK fun fr hK => ?_
 refine qp 22 (.agg #[.int .i64 y3.2.code, .int .i64 y3.2.at_]) hK fun fr hK => ?_
 refine qo 5 hK (s_alloc (.agg #[.int .i64 0, .int .i64 0, .int .u8 0, .int .u8 0, .int .u8 0, .int .u8 0, .int .u8 0, .int .u8 0, .int .u8 0, .int .u8 0, .int .u8 0, .int .u8 0, .int .u8 0, .int .u8 0, .int .u8 0, .int .u8 0, .int .u8 0, .int .u8 0, .int .u8 0, .int .u8 0, .int .u8 0, .int .u8 0, .int .u8 0, .int .u8 0, .int .u8 0, .int .u8 0, .int .u8 0, .int .u8 0, .int .u8 0, .int .u8 0, .int .u8 0, .int .u8 0, .int .u8 0, .int .u8 0, .int .u8 0, .int .u8 0, .int .u8 0, .int .u8 0, .int .u8 0, .int .u8 0, .int .u8 0, .int .u8 0, .int .u8 0, .int .u8 0, .int .u8 0, .int .u8 0, .int .u8 0, .int .u8 0, .int .u8 0, .int .u8 0, .int .u8 0, .int .u8 0, .int .u8 0, .int .u8 0, .int .u8 0, .int .u8 0, .int .u8 0, .int .u8 0, .int .u8 0, .int .u8 0, .int .u8 0, .int .u8 0, .int .u8 0, .int .u8 0, .int .u8 0, .int .u8 0, .slice none 0 0]) hK.at_ hS rfl (by kernel_rfl) ?_)
 clear hK fr hS; intro m10 b4 b4z l10 hS fr hK
 refine qo 6 hK (s_alloc (.agg #[.int .i64 0, .int .i64 0]) hK.at_ hS rfl (by kernel_rfl) ?_)
 clear hK fr hS; intro m11 b5 b5z l11 hS fr hK
 refine qo0 hK (s_storeAll hK.at_ 1 hS rfl rfl rfl rfl (by kernel_rfl) (by kernel_rfl) (by kernel_rfl) ?_)
 clear hK fr hS; intro m12 l12 hS fr hK
 refine qo0 hK (s_storeAll hK.at_ 1 hS rfl rfl rfl rfl (by kernel_rfl) (by kernel_rfl) (by kernel_rfl) ?_)
 clear hK fr hS; intro m13 l13 hS fr hK
 replace hS : St _ m m13 [.box b5 #[.int .i64 y3.2.code, .int .i64 y3.2.at_] 30, .box b4 (G_Delta_cells y3.1 (adr c3r0_commands_g) c3r0_commands_c) 27, rowOf 50 5 c3r0_commands_g c3r0_commands_c y3.1.commands, .box b2 #[.int .i64 y2.2.code, .int .i64 y2.2.at_] 30, .box b1 (G_Delta_cells y2.1 (adr c2r0_commands_g) c2r0_commands_c) 27, rowOf 50 5 c2r0_commands_g c2r0_commands_c y2.1.commands, rowOf 5 1 c1r0_g c1r0_c y1.1] := hS
 refine wpList_nil (then_n ?_)
 refine w_seq (w_region ?_)
 refine qp 23 (.slice (adr c1r0_g) y1.1.length c1r0_c) hK fun fr hK => ?_
 refine qp 24 (.int .i64 (y1.1.length : Int)) hK fun fr hK => ?_
 refine qp 25 (.bool ((y1.1.length : Int) == 89)) hK fun fr hK => ?_
 refine qp 26 (.bool ((y1.1.length : Int) == 89)) hK fun fr hK => ?_
 refine split_b (x := ((y1.1.length : Int) == 89)) (fun hb1 => ?_) (fun hb1 => ?_)
 ·
  replace hK := hK.more (t := 26) (v' := .bool true) rfl (by rw [hb1])
  replace hK := hK.more (t := 25) (v' := .bool true) rfl (by rw [hb1])
  replace h := ite_t (eq_of_beq hb1) h
  refine qp 27 (.int .i64 y1.2) hK fun fr hK => ?_
  refine qp 28 (.bool (y1.2 == 0)) hK fun fr hK => ?_
  refine qp 29 (.bool (y1.2 == 0)) hK fun fr hK => ?_
  refine qp 30 (.bool (y1.2 == 0)) hK fun fr hK => ?_
  refine split_b (x := (y1.2 == 0)) (fun hb2 => ?_) (fun hb2 => ?_)
  ·
   replace hK := hK.more (t := 30) (v' := .bool true) rfl (by rw [hb2])
   replace hK := hK.more (t := 29) (v' := .bool true) rfl (by rw [hb2])
   replace hK := hK.more (t := 28) (v' := .bool true) rfl (by rw [hb2])
   replace h := ite_t (eq_of_beq hb2) h
   refine qo 31 hK (s_loadAll hK.at_ hS 4 rfl rfl rfl (by kernel_rfl) ?_)
   clear hK fr; intro fr hK
   refine qp 32 (.agg (G_Delta_cells (⟨0, 0, (fun _ => (0 : UInt8)), (fun _ => (0 : UInt8)), ([] : List G.Command)⟩ : G.Delta) none 0)) hK fun fr hK => ?_
   replace c2r0_commands_f := Els.mono rep_G_Command c2r0_commands_f (l3.trans (l4.trans (l5.trans (l6.trans (l7.trans (l8.trans (l9.trans (l10.trans (l11.trans (l12.trans l13))))))))))
   obtain ⟨y4, hy4, h⟩ := bind_some h
   refine qo 33 hK (s_call hK.at_ hS ent16_2 rfl rfl rfl rfl (G.graftref05_Same_spec c2r0_commands_f (Els.nil m13 5) hy4) (by kernel_rfl) ?_)
   clear hK fr hS; rintro _ m14 _ l14 hS ⟨rfl, rfl⟩ fr hK
   replace hS : St _ m m14 [.box b5 #[.int .i64 y3.2.code, .int .i64 y3.2.at_] 30, .box b4 (G_Delta_cells y3.1 (adr c3r0_commands_g) c3r0_commands_c) 27, rowOf 50 5 c3r0_commands_g c3r0_commands_c y3.1.commands, .box b2 #[.int .i64 y2.2.code, .int .i64 y2.2.at_] 30, .box b1 (G_Delta_cells y2.1 (adr c2r0_commands_g) c2r0_commands_c) 27, rowOf 50 5 c2r0_commands_g c2r0_commands_c y2.1.commands, rowOf 5 1 c1r0_g c1r0_c y1.1] := hS
   refine qp 34 (.bool y4) hK fun fr hK => ?_
   refine qp 35 (.bool y4) hK fun fr hK => ?_
   refine split_b (x := y4) (fun hb3 => ?_) (fun hb3 => ?_)
   ·
    replace hK := hK.more (t := 35) (v' := .bool true) rfl (by rw [hb3])
    replace hK := hK.more (t := 34) (v' := .bool true) rfl (by rw [hb3])
    replace hK := hK.more (t := 33) (v' := .bool true) rfl (by rw [hb3])
    replace h := ite_t (hb3) h
    refine qo 36 hK (s_loadAll hK.at_ hS 3 rfl rfl rfl (by kernel_rfl) ?_)
    clear hK fr; intro fr hK
    refine qp 37 (.agg #[.int .i64 0, .int .i64 0]) hK fun fr hK => ?_
    refine qr 38 (.bool (decide (y2.2.code = 0 ∧ y2.2.at_ = 0))) hK (by exact run_binAgg rfl rfl rfl (by kernel_rfl) (eqT30_2 _ _ _ _ _)) ?_
    clear hK fr; intro fr hK
    refine qp 39 (.bool (decide (y2.2.code = 0 ∧ y2.2.at_ = 0))) hK fun fr hK => ?_
    refine qp 40 (.bool (decide (y2.2.code = 0 ∧ y2.2.at_ = 0))) hK fun fr hK => ?_
    refine split_b (x := decide (y2.2.code = 0 ∧ y2.2.at_ = 0)) (fun hb4 => ?_) (fun hb4 => ?_)
    ·
     replace hK := hK.more (t := 40) (v' := .bool true) rfl (by rw [hb4])
     replace hK := hK.more (t := 39) (v' := .bool true) rfl (by rw [hb4])
     replace hK := hK.more (t := 38) (v' := .bool true) rfl (by rw [hb4])
     replace h := ite_t (of_decide_eq_true hb4) h
     refine qo 41 hK (s_loadAll hK.at_ hS 0 rfl rfl rfl (by kernel_rfl) ?_)
     clear hK fr; intro fr hK
     refine qp 42 (.agg #[.int .i64 8, .int .i64 3]) hK fun fr hK => ?_
     refine qr 43 (.bool (decide (y3.2.code = 8 ∧ y3.2.at_ = 3))) hK (by exact run_binAgg rfl rfl rfl (by kernel_rfl) (eqT30_2 _ _ _ _ _)) ?_
     clear hK fr; intro fr hK
     refine qp 44 (.bool (decide (y3.2.code = 8 ∧ y3.2.at_ = 3))) hK fun fr hK => ?_
     refine qp 45 (.bool (decide (y3.2.code = 8 ∧ y3.2.at_ = 3))) hK fun fr hK => ?_
     refine split_b (x := decide (y3.2.code = 8 ∧ y3.2.at_ = 3)) (fun hb5 => ?_) (fun hb5 => ?_)
     ·
      replace hK := hK.more (t := 45) (v' := .bool true) rfl (by rw [hb5])
      replace hK := hK.more (t := 44) (v' := .bool true) rfl (by rw [hb5])
      replace hK := hK.more (t := 43) (v' := .bool true) rfl (by rw [hb5])
      replace h := ite_t (of_decide_eq_true hb5) h
      refine qp 46 (.agg (G_Delta_cells (⟨0, 0, (fun _ => (0 : UInt8)), (fun _ => (0 : UInt8)), ([] : List G.Command)⟩ : G.Delta) none 0)) hK fun fr hK => ?_
      obtain ⟨y5, hy5, h⟩ := bind_some h
      refine qo 47 hK (s_call hK.at_ hS ent21_2 rfl rfl rfl rfl (G.format_Size_spec (Els.nil m14 5) hy5) (by kernel_rfl) ?_)
      clear hK fr hS; rintro _ m15 _ l15 hS ⟨rfl, rfl⟩ fr hK
      replace hS : St _ m m15 [.box b5 #[.int .i64 y3.2.code, .int .i64 y3.2.at_] 30, .box b4 (G_Delta_cells y3.1 (adr c3r0_commands_g) c3r0_commands_c) 27, rowOf 50 5 c3r0_commands_g c3r0_commands_c y3.1.commands, .box b2 #[.int .i64 y2.2.code, .int .i64 y2.2.at_] 30, .box b1 (G_Delta_cells y2.1 (adr c2r0_commands_g) c2r0_commands_c) 27, rowOf 50 5 c2r0_commands_g c2r0_commands_c y2.1.commands, rowOf 5 1 c1r0_g c1r0_c y1.1] := hS
      refine qp 48 (.bool (y5 == 89)) hK fun fr hK => ?_
      refine qp 49 (.bool (y5 == 89)) hK fun fr hK => ?_
      refine qp 0 (.bool (y5 == 89)) hK fun fr hK => ?_
      refine wpList_nil (then_n ?_)
      refine wp_ret ?_
      replace h := Option.some.inj h; subst h
      refine ret_of [.tmp 0] [.bool (y5 == 89)] rfl hK (.tmp rfl .nil) hS.dropAll ?_
      exact ⟨rfl, rfl⟩
     ·
      replace hK := hK.more (t := 45) (v' := .bool false) rfl (by rw [hb5])
      replace hK := hK.more (t := 44) (v' := .bool false) rfl (by rw [hb5])
      replace hK := hK.more (t := 43) (v' := .bool false) rfl (by rw [hb5])
      replace h := ite_f (of_decide_eq_false hb5) h
      refine qs 46 hK ?_
      clear hK fr; intro fr hK
      refine qs 47 hK ?_
      clear hK fr; intro fr hK
      refine qs 48 hK ?_
      clear hK fr; intro fr hK
      refine qp 49 (.bool false) hK fun fr hK => ?_
      refine qp 0 (.bool false) hK fun fr hK => ?_
      refine wpList_nil (then_n ?_)
      refine wp_ret ?_
      replace h := Option.some.inj h; subst h
      refine ret_of [.tmp 0] [.bool false] rfl hK (.tmp rfl .nil) hS.dropAll ?_
      exact ⟨rfl, rfl⟩
    ·
     replace hK := hK.more (t := 40) (v' := .bool false) rfl (by rw [hb4])
     replace hK := hK.more (t := 39) (v' := .bool false) rfl (by rw [hb4])
     replace hK := hK.more (t := 38) (v' := .bool false) rfl (by rw [hb4])
     replace h := ite_f (of_decide_eq_false hb4) h
     refine qs 41 hK ?_
     clear hK fr; intro fr hK
     refine qs 42 hK ?_
     clear hK fr; intro fr hK
     refine qs 43 hK ?_
     clear hK fr; intro fr hK
     refine qp 44 (.bool false) hK fun fr hK => ?_
     refine qp 45 (.bool false) hK fun fr hK => ?_
     refine qs 46 hK ?_
     clear hK fr; intro fr hK
     refine qs 47 hK ?_
     clear hK fr; intro fr hK
     refine qs 48 hK ?_
     clear hK fr; intro fr hK
     refine qp 49 (.bool false) hK fun fr hK => ?_
     refine qp 0 (.bool false) hK fun fr hK => ?_
     refine wpList_nil (then_n ?_)
     refine wp_ret ?_
     replace h := Option.some.inj h; subst h
     refine ret_of [.tmp 0] [.bool false] rfl hK (.tmp rfl .nil) hS.dropAll ?_
     exact ⟨rfl, rfl⟩
   ·
    replace hK := hK.more (t := 35) (v' := .bool false) rfl (by rw [hb3])
    replace hK := hK.more (t := 34) (v' := .bool false) rfl (by rw [hb3])
    replace hK := hK.more (t := 33) (v' := .bool false) rfl (by rw [hb3])
    replace h := ite_f (ne_true_of_eq_false hb3) h
    refine qs 36 hK ?_
    clear hK fr; intro fr hK
    refine qs 37 hK ?_
    clear hK fr; intro fr hK
    refine qs 38 hK ?_
    clear hK fr; intro fr hK
    refine qp 39 (.bool false) hK fun fr hK => ?_
    refine qp 40 (.bool false) hK fun fr hK => ?_
    refine qs 41 hK ?_
    clear hK fr; intro fr hK
    refine qs 42 hK ?_
    clear hK fr; intro fr hK
    refine qs 43 hK ?_
    clear hK fr; intro fr hK
    refine qp 44 (.bool false) hK fun fr hK => ?_
    refine qp 45 (.bool false) hK fun fr hK => ?_
    refine qs 46 hK ?_
    clear hK fr; intro fr hK
    refine qs 47 hK ?_
    clear hK fr; intro fr hK
    refine qs 48 hK ?_
    clear hK fr; intro fr hK
    refine qp 49 (.bool false) hK fun fr hK => ?_
    refine qp 0 (.bool false) hK fun fr hK => ?_
    refine wpList_nil (then_n ?_)
    refine wp_ret ?_
    replace h := Option.some.inj h; subst h
    refine ret_of [.tmp 0] [.bool false] rfl hK (.tmp rfl .nil) hS.dropAll ?_
    exact ⟨rfl, rfl⟩
  ·
   replace hK := hK.more (t := 30) (v' := .bool false) rfl (by rw [hb2])
   replace hK := hK.more (t := 29) (v' := .bool false) rfl (by rw [hb2])
   replace hK := hK.more (t := 28) (v' := .bool false) rfl (by rw [hb2])
   replace h := ite_f (ne_of_beq_false hb2) h
   refine qs 31 hK ?_
   clear hK fr; intro fr hK
   refine qs 32 hK ?_
   clear hK fr; intro fr hK
   refine qs 33 hK ?_
   clear hK fr; intro fr hK
   refine qp 34 (.bool false) hK fun fr hK => ?_
   refine qp 35 (.bool false) hK fun fr hK => ?_
   refine qs 36 hK ?_
   clear hK fr; intro fr hK
   refine qs 37 hK ?_
   clear hK fr; intro fr hK
   refine qs 38 hK ?_
   clear hK fr; intro fr hK
   refine qp 39 (.bool false) hK fun fr hK => ?_
   refine qp 40 (.bool false) hK fun fr hK => ?_
   refine qs 41 hK ?_
   clear hK fr; intro fr hK
   refine qs 42 hK ?_
   clear hK fr; intro fr hK
   refine qs 43 hK ?_
   clear hK fr; intro fr hK
   refine qp 44 (.bool false) hK fun fr hK => ?_
   refine qp 45 (.bool false) hK fun fr hK => ?_
   refine qs 46 hK ?_
   clear hK fr; intro fr hK
   refine qs 47 hK ?_
   clear hK fr; intro fr hK
   refine qs 48 hK ?_
   clear hK fr; intro fr hK
   refine qp 49 (.bool false) hK fun fr hK => ?_
   refine qp 0 (.bool false) hK fun fr hK => ?_
   refine wpList_nil (then_n ?_)
   refine wp_ret ?_
   replace h := Option.some.inj h; subst h
   refine ret_of [.tmp 0] [.bool false] rfl hK (.tmp rfl .nil) hS.dropAll ?_
   exact ⟨rfl, rfl⟩
 ·
  replace hK := hK.more (t := 26) (v' := .bool false) rfl (by rw [hb1])
  replace hK := hK.more (t := 25) (v' := .bool false) rfl (by rw [hb1])
  replace h := ite_f (ne_of_beq_false hb1) h
  refine qs 27 hK ?_
  clear hK fr; intro fr hK
  refine qs 28 hK ?_
  clear hK fr; intro fr hK
  refine qp 29 (.bool false) hK fun fr hK => ?_
  refine qp 30 (.bool false) hK fun fr hK => ?_
  refine qs 31 hK ?_
  clear hK fr; intro fr hK
  refine qs 32 hK ?_
  clear hK fr; intro fr hK
  refine qs 33 hK ?_
  clear hK fr; intro fr hK
  refine qp 34 (.bool false) hK fun fr hK => ?_
  refine qp 35 (.bool false) hK fun fr hK => ?_
  refine qs 36 hK ?_
  clear hK fr; intro fr hK
  refine qs 37 hK ?_
  clear hK fr; intro fr hK
  refine qs 38 hK ?_
  clear hK fr; intro fr hK
  refine qp 39 (.bool false) hK fun fr hK => ?_
  refine qp 40 (.bool false) hK fun fr hK => ?_
  refine qs 41 hK ?_
  clear hK fr; intro fr hK
  refine qs 42 hK ?_
  clear hK fr; intro fr hK
  refine qs 43 hK ?_
  clear hK fr; intro fr hK
  refine qp 44 (.bool false) hK fun fr hK => ?_
  refine qp 45 (.bool false) hK fun fr hK => ?_
  refine qs 46 hK ?_
  clear hK fr; intro fr hK
  refine qs 47 hK ?_
  clear hK fr; intro fr hK
  refine qs 48 hK ?_
  clear hK fr; intro fr hK
  refine qp 49 (.bool false) hK fun fr hK => ?_
  refine qp 0 (.bool false) hK fun fr hK => ?_
  refine wpList_nil (then_n ?_)
  refine wp_ret ?_
  replace h := Option.some.inj h; subst h
  refine ret_of [.tmp 0] [.bool false] rfl hK (.tmp rfl .nil) hS.dropAll ?_
  exact ⟨rfl, rfl⟩
end Go.Proofs.Ytkalbidbhaalmaa
