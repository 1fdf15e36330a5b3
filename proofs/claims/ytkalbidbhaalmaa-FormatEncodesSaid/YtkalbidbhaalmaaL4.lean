/- The program computes the plain functions: graftref06_Append, graftref07_Encode. Printed by a program. -/
import Derived.Test.YtkalbidbhaalmaaProg
import Derived.Test.YtkalbidbhaalmaaGs
import Derived.Test.YtkalbidbhaalmaaRep
namespace Go.Proofs.Ytkalbidbhaalmaa
open Go.RowKit G
theorem ent58_4 : Enters Try.prog 58 := enters_of Try.func58 (by decide +kernel) (by decide +kernel)
theorem elT22_4 : ElemT Try.prog 22 5 (.int .u8 0) 1 1 := ⟨by kernel_rfl, by kernel_rfl, by kernel_rfl, by decide⟩
theorem elT25_4 : ElemT Try.prog 25 50 (.agg #[.int .i64 0, .int .i64 0, .int .i64 0, .int .i64 0, .slice none 0 0]) 5 56 := ⟨by kernel_rfl, by kernel_rfl, by kernel_rfl, by decide⟩
set_option maxRecDepth 100000 in
set_option maxHeartbeats 1000000 in
theorem G.graftref06_Append_spec {m : Mem} {a0 : List UInt8} {a0_a : Option Addr} {a0_c : Nat} {a1 : Int} {a2 : Int} (a0_f : Els isU8 m 1 a0_a a0_c a0) {r : (List UInt8)} (h : G.graftref06_Append a0 a1 a2 = some r) :
  Spec Try.prog 58 #[.slice a0_a a0.length a0_c, .int .u64 a1, .int .i64 a2] m [] fun v m' L => ∃ (r0_g : Option Nat) (r0_c : Nat), L = [rowOf 5 1 r0_g r0_c r] ∧ v = .slice (adr r0_g) r.length r0_c ∧ Els isU8 m' 1 (adr r0_g) r0_c r := by
 unfold G.graftref06_Append at h
 refine enter (args := [_, _, _]) 27 Try.func58 rfl rfl (by simp) fun fr hK => ?_
 have hS := St.refl (Ow.nil m)
 replace hK : Kn 27 fr [(0, .slice a0_a a0.length a0_c), (1, .int .u64 a1), (2, .int .i64 a2)] := hK
 refine w_seq (w_region ?_)
 refine qp 6 (.slice none 0 0) hK fun fr hK => ?_
 refine wpList_nil (then_n ?_)
 refine w_seq (w_region ?_)
 refine qo 9 hK (s_buildRow (elem := 5) #[] hK.at_ hS rfl (by kernel_rfl) (by kernel_rfl) ?_)
 clear hK fr hS; intro m1 b1 l1 hS hA1 fr hK
 have f1 : Els isU8 m1 1 (some ⟨b1, 0, none⟩) 0 ([] : List UInt8) := els_lit rep_U8 [] hA1 (by simp) (by decide) .nil
 replace hS : St _ m m1 [rowOf 5 1 (some b1) 0 ([] : List UInt8)] := hS
 replace hK : Kn 27 fr [(9, .slice (adr (some b1)) (([] : List UInt8).length) 0), (6, .slice none 0 0), (0, .slice a0_a a0.length a0_c), (1, .int .u64 a1), (2, .int .i64 a2)] := hK.only [9, 6, 0, 1, 2]
 refine qp 10 (.slice a0_a a0.length a0_c) hK fun fr hK => ?_
 replace a0_f := Els.mono rep_U8 a0_f l1
 obtain ⟨x1, hy1, h⟩ := bind_some h
 refine qo 11 hK (s_app elT22_4 rep_U8 hy1 hK.at_ 0 hS rfl f1 a0_f rfl rfl rfl (by decide) ?_)
 clear hK fr hS; intro m2 g1 cp1 l2 hS f2 fr hK
 replace hS : St _ m m2 [rowOf 5 1 g1 cp1 x1] := hS
 refine qp 7 (.slice (adr g1) x1.length cp1) hK fun fr hK => ?_
 refine wpList_nil (then_n ?_)
 refine w_seq ?_
 refine w_seq (w_region ?_)
 refine qp 12 (.int .i64 a2) hK fun fr hK => ?_
 refine qp 13 (.int .i64 (IntKind.i64.wrap (a2 - 1))) hK fun fr hK => ?_
 refine qp 8 (.int .i64 (IntKind.i64.wrap (a2 - 1))) hK fun fr hK => ?_
 refine wpList_nil (then_n ?_)
 refine wp_block ?_
 replace hS : St _ m m2 [rowOf 5 1 g1 cp1 x1] := hS
 refine w_loopL h (fun (s1 : (List UInt8) × Int) fr ww => ∃ (g2 : Option Nat), ∃ (g3 : Nat), ∃ m3 : Mem, m3.w = ww ∧ Kn 27 fr [(1, .int .u64 a1), (7, .slice (adr g2) s1.1.length g3), (8, .int .i64 s1.2)] ∧ Le m2 m3 ∧ St (blocksOf []) m m3 [rowOf 5 1 g2 g3 s1.1] ∧ Els isU8 m3 1 (adr g2) g3 s1.1) ?_ ?_
 · exact ⟨g1, cp1, m2, rfl, hK.only [1, 7, 8], Le.refl _, hS, f2⟩
 clear hK hS fr h
 rintro k1 s1 x2 fr _ ⟨g2, g3, m3, rfl, hK, l3, hS, f3⟩ h hn1
 unfold G.graftref06_Append_l1 at h
 refine w_seq ?_
 refine w_seq (w_region ?_)
 refine qp 14 (.int .i64 s1.2) hK fun fr hK => ?_
 refine qp 15 (.bool (decide (s1.2 ≥ 0))) hK fun fr hK => ?_
 refine wpList_nil (then_n ?_)
 refine w_cond hK rfl (fun hb1 => ?_) (fun hb1 => ?_)
 ·
  replace hK := hK.more (t := 15) (v' := .bool true) rfl (by rw [hb1])
  replace h := ite_t (of_decide_eq_true hb1) h
  refine wp_skip ?_
  refine then_n ?_
  refine w_seq ?_
  refine wp_block ?_
  refine w_region ?_
  refine qp 18 (.slice (adr g2) s1.1.length g3) hK fun fr hK => ?_
  refine qp 19 (.int .u64 a1) hK fun fr hK => ?_
  refine qp 20 (.int .i64 s1.2) hK fun fr hK => ?_
  refine qp 21 (.int .i64 (IntKind.i64.wrap (8 * s1.2))) hK fun fr hK => ?_
  obtain ⟨y1, hy2, h⟩ := bind_some h
  refine qr 22 (.int .u64 (ishr .u64 a1 (IntKind.i64.wrap (8 * s1.2)))) hK (by exact run_shr (chk_some hy2) rfl rfl rfl) ?_
  clear hK fr; intro fr hK
  refine qe 23 (.int .u8 ((u8 (ishr .u64 a1 (IntKind.i64.wrap (8 * s1.2)))).toNat : Int)) (.int .u8 (IntKind.u8.wrap (ishr .u64 a1 (IntKind.i64.wrap (8 * s1.2))))) hK (by exact v_int (u8_wrap _)) ?_
  clear hK fr; intro fr hK
  refine qo 24 hK (s_buildSlice (elem := 5) #[.int .u8 ((u8 (ishr .u64 a1 (IntKind.i64.wrap (8 * s1.2)))).toNat : Int)] hK.at_ hS rfl (by kernel_rfl) (by kernel_rfl) ?_)
  clear hK fr hS; intro m4 b2 b2z b2n l4 hS hA2 fr hK
  replace hS : St _ m m4 [rowOf 5 1 g2 g3 s1.1] := hS
  have f4 : Els isU8 m4 1 (some ⟨b2, 0, none⟩) 1 ([(u8 (ishr .u64 a1 (IntKind.i64.wrap (8 * s1.2))))] : List UInt8) := els_lit rep_U8 [[.int .u8 ((u8 (ishr .u64 a1 (IntKind.i64.wrap (8 * s1.2)))).toNat : Int)]] hA2 (by simp) (by decide) (.cons rfl .nil)
  replace hK : Kn 27 fr [(24, .slice (some ⟨b2, 0, none⟩) (([(u8 (ishr .u64 a1 (IntKind.i64.wrap (8 * s1.2))))] : List UInt8).length) 1), (23, .int .u8 ((u8 (ishr .u64 a1 (IntKind.i64.wrap (8 * s1.2)))).toNat : Int)), (22, .int .u64 (ishr .u64 a1 (IntKind.i64.wrap (8 * s1.2)))), (21, .int .i64 (IntKind.i64.wrap (8 * s1.2))), (20, .int .i64 s1.2), (19, .int .u64 a1), (18, .slice (adr g2) s1.1.length g3), (15, .bool true), (14, .int .i64 s1.2), (1, .int .u64 a1), (7, .slice (adr g2) s1.1.length g3), (8, .int .i64 s1.2)] := hK.only [24, 23, 22, 21, 20, 19, 18, 15, 14, 1, 7, 8]
  replace f3 := Els.mono rep_U8 f3 l4
  obtain ⟨x3, hy3, h⟩ := bind_some h
  refine qo 25 hK (s_app elT22_4 rep_U8 hy3 hK.at_ 0 hS rfl f3 f4 rfl rfl rfl (by decide) ?_)
  clear hK fr hS; intro m5 g4 cp2 l5 hS f5 fr hK
  replace hS : St _ m m5 [rowOf 5 1 g4 cp2 x3] := hS
  refine qp 7 (.slice (adr g4) x3.length cp2) hK fun fr hK => ?_
  refine wpList_nil ?_
  refine blk_n ?_
  refine then_n ?_
  refine w_region ?_
  refine qp 16 (.int .i64 s1.2) hK fun fr hK => ?_
  refine qp 17 (.int .i64 (IntKind.i64.wrap (s1.2 - 1))) hK fun fr hK => ?_
  refine qp 8 (.int .i64 (IntKind.i64.wrap (s1.2 - 1))) hK fun fr hK => ?_
  refine wpList_nil (then_n ?_)
  replace hS : St _ m m5 [rowOf 5 1 g4 cp2 x3] := hS
  replace h := Option.some.inj h; subst h
  obtain ⟨kq, hk1, hk2⟩ := hn1
  exact ⟨kq, hk1, _, hk2, g4, cp2, m5, rfl, hK.only [1, 7, 8], l3.trans (l4.trans l5), hS, f5⟩
 ·
  replace hK := hK.more (t := 15) (v' := .bool false) rfl (by rw [hb1])
  replace h := ite_f (of_decide_eq_false hb1) h
  refine wp_exit ?_
  refine then_x ?_
  refine then_x ?_
  refine blk_e ?_
  refine then_n ?_
  refine w_seq (w_region ?_)
  refine qp 26 (.slice (adr g2) s1.1.length g3) hK fun fr hK => ?_
  refine qp 6 (.slice (adr g2) s1.1.length g3) hK fun fr hK => ?_
  refine wpList_nil (then_n ?_)
  refine wp_ret ?_
  replace h := Option.some.inj h; subst h
  replace h := Option.some.inj (loop_out hn1); subst h
  replace hS : St _ m m3 [rowOf 5 1 g2 g3 s1.1] := hS
  refine ret_of [.tmp 6] [.slice (adr g2) s1.1.length g3] rfl hK (.tmp rfl .nil) hS ?_
  exact ⟨g2, g3, rfl, rfl, f3⟩
set_option maxRecDepth 100000 in
set_option maxHeartbeats 1000000 in
theorem G.graftref07_Encode_spec {m : Mem} {a0 : G.Delta} {a0_commands_a : Option Addr} {a0_commands_c : Nat} (a0_commands_f : Els is_G_Command m 5 a0_commands_a a0_commands_c a0.commands) {r : (List UInt8)} (h : G.graftref07_Encode a0 = some r) :
  Spec Try.prog 20 #[.agg (G_Delta_cells a0 a0_commands_a a0_commands_c)] m [] fun v m' L => ∃ (r0_g : Option Nat) (r0_c : Nat), L = [rowOf 5 1 r0_g r0_c r] ∧ v = .slice (adr r0_g) r.length r0_c ∧ Els isU8 m' 1 (adr r0_g) r0_c r := by
 unfold G.graftref07_Encode at h
 refine enter (args := [_]) 81 Try.func20 rfl rfl (by simp) fun fr hK => ?_
 have hS := St.refl (Ow.nil m)
 replace hK : Kn 81 fr [(0, .agg (G_Delta_cells a0 a0_commands_a a0_commands_c))] := hK
 refine w_seq (w_region ?_)
 refine qo 1 hK (s_box hK.at_ hS rfl rfl ?_)
 clear hK fr hS; intro m1 b1 b1z l1 hS fr hK
 replace hS : St _ m m1 [.box b1 (G_Delta_cells a0 a0_commands_a a0_commands_c) 27] := hS
 refine qp 2 (.slice none 0 0) hK fun fr hK => ?_
 refine wpList_nil (then_n ?_)
 refine w_seq (w_region ?_)
 refine qo 6 hK (s_buildRow (elem := 5) #[.int .u8 71, .int .u8 82, .int .u8 70, .int .u8 84] hK.at_ hS rfl (by kernel_rfl) (by kernel_rfl) ?_)
 clear hK fr hS; intro m2 b2 l2 hS hA1 fr hK
 have f1 : Els isU8 m2 1 (some ⟨b2, 0, none⟩) 4 ([(71 : UInt8), (82 : UInt8), (70 : UInt8), (84 : UInt8)] : List UInt8) := els_lit rep_U8 [[.int .u8 71], [.int .u8 82], [.int .u8 70], [.int .u8 84]] hA1 (by simp) (by decide) (.cons rfl (.cons rfl (.cons rfl (.cons rfl .nil))))
 replace hS : St _ m m2 [rowOf 5 1 (some b2) 4 ([(71 : UInt8), (82 : UInt8), (70 : UInt8), (84 : UInt8)] : List UInt8), .box b1 (G_Delta_cells a0 a0_commands_a a0_commands_c) 27] := hS
 replace hK : Kn 81 fr [(6, .slice (adr (some b2)) (([(71 : UInt8), (82 : UInt8), (70 : UInt8), (84 : UInt8)] : List UInt8).length) 4), (2, .slice none 0 0), (1, .pointer (some ⟨b1, 0, none⟩)), (0, .agg (G_Delta_cells a0 a0_commands_a a0_commands_c))] := hK.only [6, 2, 1, 0]
 refine qo 7 hK (s_stringishRow hK.at_ hS rfl rfl Try.underlying22 Try.underlying5 ?_)
 clear hK fr hS; intro m3 l3 hS fr hK
 replace hS : St _ m m3 [.box b1 (G_Delta_cells a0 a0_commands_a a0_commands_c) 27] := hS
 refine qo 8 hK (s_buildSlice (elem := 5) #[.int .u8 1] hK.at_ hS rfl (by kernel_rfl) (by kernel_rfl) ?_)
 clear hK fr hS; intro m4 b3 b3z b3n l4 hS hA2 fr hK
 replace hS : St _ m m4 [.box b1 (G_Delta_cells a0 a0_commands_a a0_commands_c) 27] := hS
 have f2 : Els isU8 m4 1 (some ⟨b3, 0, none⟩) 1 ([(1 : UInt8)] : List UInt8) := els_lit rep_U8 [[.int .u8 1]] hA2 (by simp) (by decide) (.cons rfl .nil)
 replace hK : Kn 81 fr [(8, .slice (some ⟨b3, 0, none⟩) (([(1 : UInt8)] : List UInt8).length) 1), (7, .slice (adr (some b2)) (([(71 : UInt8), (82 : UInt8), (70 : UInt8), (84 : UInt8)] : List UInt8).length) 4), (6, .slice (adr (some b2)) (([(71 : UInt8), (82 : UInt8), (70 : UInt8), (84 : UInt8)] : List UInt8).length) 4), (2, .slice none 0 0), (1, .pointer (some ⟨b1, 0, none⟩)), (0, .agg (G_Delta_cells a0 a0_commands_a a0_commands_c))] := hK.only [8, 7, 6, 2, 1, 0]
 replace f1 := Els.mono rep_U8 f1 (l3.trans l4)
 obtain ⟨x1, hy1, h⟩ := bind_some h
 refine qo 9 hK (s_appNew elT22_4 rep_U8 hy1 hK.at_ hS f1 f2 rfl rfl rfl (by decide) (by simp [arrL]) ?_)
 clear hK fr hS; intro m5 g1 cp1 l5 hS f3 fr hK
 replace hS : St _ m m5 [rowOf 5 1 g1 cp1 x1, .box b1 (G_Delta_cells a0 a0_commands_a a0_commands_c) 27] := hS
 refine qp 3 (.slice (adr g1) x1.length cp1) hK fun fr hK => ?_
 refine wpList_nil (then_n ?_)
 refine w_seq (w_region ?_)
 refine qp 10 (.slice (adr g1) x1.length cp1) hK fun fr hK => ?_
 refine qp 11 (.pointer (some ⟨b1, 0, none⟩)) hK fun fr hK => ?_
 refine qo 12 hK (s_load hK.at_ hS 1 rfl rfl rfl rfl (by kernel_rfl) ?_)
 clear hK fr; intro fr hK
 refine qp 13 (.int .u64 (IntKind.u64.wrap a0.oldLen)) hK fun fr hK => ?_
 obtain ⟨y1, hy2, h⟩ := bind_some h
 refine qo 14 hK (s_call hK.at_ hS ent58_4 rfl rfl rfl rfl (G.graftref06_Append_spec f3 hy2) (by kernel_rfl) ?_)
 clear hK fr hS; rintro _ m6 _ l6 hS ⟨c1r0_g, c1r0_c, rfl, rfl, c1r0_f⟩ fr hK
 replace hS : St _ m m6 [rowOf 5 1 c1r0_g c1r0_c y1, rowOf 5 1 g1 cp1 x1, .box b1 (G_Delta_cells a0 a0_commands_a a0_commands_c) 27] := hS
 refine qp 3 (.slice (adr c1r0_g) y1.length c1r0_c) hK fun fr hK => ?_
 refine wpList_nil (then_n ?_)
 refine w_seq (w_region ?_)
 refine qp 15 (.slice (adr c1r0_g) y1.length c1r0_c) hK fun fr hK => ?_
 refine qp 16 (.pointer (some ⟨b1, 1, none⟩)) hK fun fr hK => ?_
 refine qo 17 hK (s_load hK.at_ hS 2 rfl rfl rfl rfl (by kernel_rfl) ?_)
 clear hK fr; intro fr hK
 refine qp 18 (.int .u64 (IntKind.u64.wrap a0.newLen)) hK fun fr hK => ?_
 obtain ⟨y2, hy3, h⟩ := bind_some h
 refine qo 19 hK (s_call hK.at_ hS ent58_4 rfl rfl rfl rfl (G.graftref06_Append_spec c1r0_f hy3) (by kernel_rfl) ?_)
 clear hK fr hS; rintro _ m7 _ l7 hS ⟨c2r0_g, c2r0_c, rfl, rfl, c2r0_f⟩ fr hK
 replace hS : St _ m m7 [rowOf 5 1 c2r0_g c2r0_c y2, rowOf 5 1 c1r0_g c1r0_c y1, rowOf 5 1 g1 cp1 x1, .box b1 (G_Delta_cells a0 a0_commands_a a0_commands_c) 27] := hS
 refine qp 3 (.slice (adr c2r0_g) y2.length c2r0_c) hK fun fr hK => ?_
 refine wpList_nil (then_n ?_)
 refine w_seq ?_
 replace hS := hS.front 3 rfl
 replace hS : St _ m m7 [.box b1 (G_Delta_cells a0 a0_commands_a a0_commands_c) 27, rowOf 5 1 c2r0_g c2r0_c y2, rowOf 5 1 c1r0_g c1r0_c y1, rowOf 5 1 g1 cp1 x1] := hS
 obtain ⟨m8, hw_, l8, hS, hA3⟩ := hS.freeze; rw [← hw_]; clear hw_
 replace hA3 : At m8 b1 0 [.int .i64 a0.oldLen, .int .i64 a0.newLen, .int .u8 ((a0.oldHash 0).toNat : Int), .int .u8 ((a0.oldHash 1).toNat : Int), .int .u8 ((a0.oldHash 2).toNat : Int), .int .u8 ((a0.oldHash 3).toNat : Int), .int .u8 ((a0.oldHash 4).toNat : Int), .int .u8 ((a0.oldHash 5).toNat : Int), .int .u8 ((a0.oldHash 6).toNat : Int), .int .u8 ((a0.oldHash 7).toNat : Int), .int .u8 ((a0.oldHash 8).toNat : Int), .int .u8 ((a0.oldHash 9).toNat : Int), .int .u8 ((a0.oldHash 10).toNat : Int), .int .u8 ((a0.oldHash 11).toNat : Int), .int .u8 ((a0.oldHash 12).toNat : Int), .int .u8 ((a0.oldHash 13).toNat : Int), .int .u8 ((a0.oldHash 14).toNat : Int), .int .u8 ((a0.oldHash 15).toNat : Int), .int .u8 ((a0.oldHash 16).toNat : Int), .int .u8 ((a0.oldHash 17).toNat : Int), .int .u8 ((a0.oldHash 18).toNat : Int), .int .u8 ((a0.oldHash 19).toNat : Int), .int .u8 ((a0.oldHash 20).toNat : Int), .int .u8 ((a0.oldHash 21).toNat : Int), .int .u8 ((a0.oldHash 22).toNat : Int), .int .u8 ((a0.oldHash 23).toNat : Int), .int .u8 ((a0.oldHash 24).toNat : Int), .int .u8 ((a0.oldHash 25).toNat : Int), .int .u8 ((a0.oldHash 26).toNat : Int), .int .u8 ((a0.oldHash 27).toNat : Int), .int .u8 ((a0.oldHash 28).toNat : Int), .int .u8 ((a0.oldHash 29).toNat : Int), .int .u8 ((a0.oldHash 30).toNat : Int), .int .u8 ((a0.oldHash 31).toNat : Int), .int .u8 ((a0.newHash 0).toNat : Int), .int .u8 ((a0.newHash 1).toNat : Int), .int .u8 ((a0.newHash 2).toNat : Int), .int .u8 ((a0.newHash 3).toNat : Int), .int .u8 ((a0.newHash 4).toNat : Int), .int .u8 ((a0.newHash 5).toNat : Int), .int .u8 ((a0.newHash 6).toNat : Int), .int .u8 ((a0.newHash 7).toNat : Int), .int .u8 ((a0.newHash 8).toNat : Int), .int .u8 ((a0.newHash 9).toNat : Int), .int .u8 ((a0.newHash 10).toNat : Int), .int .u8 ((a0.newHash 11).toNat : Int), .int .u8 ((a0.newHash 12).toNat : Int), .int .u8 ((a0.newHash 13).toNat : Int), .int .u8 ((a0.newHash 14).toNat : Int), .int .u8 ((a0.newHash 15).toNat : Int), .int .u8 ((a0.newHash 16).toNat : Int), .int .u8 ((a0.newHash 17).toNat : Int), .int .u8 ((a0.newHash 18).toNat : Int), .int .u8 ((a0.newHash 19).toNat : Int), .int .u8 ((a0.newHash 20).toNat : Int), .int .u8 ((a0.newHash 21).toNat : Int), .int .u8 ((a0.newHash 22).toNat : Int), .int .u8 ((a0.newHash 23).toNat : Int), .int .u8 ((a0.newHash 24).toNat : Int), .int .u8 ((a0.newHash 25).toNat : Int), .int .u8 ((a0.newHash 26).toNat : Int), .int .u8 ((a0.newHash 27).toNat : Int), .int .u8 ((a0.newHash 28).toNat : Int), .int .u8 ((a0.newHash 29).toNat : Int), .int .u8 ((a0.newHash 30).toNat : Int), .int .u8 ((a0.newHash 31).toNat : Int), .slice a0_commands_a a0.commands.length a0_commands_c] := hA3
 replace hS : St _ m m8 [rowOf 5 1 c2r0_g c2r0_c y2, rowOf 5 1 c1r0_g c1r0_c y1, rowOf 5 1 g1 cp1 x1] := hS
 refine w_region ?_
 refine qp 20 (.slice (adr c2r0_g) y2.length c2r0_c) hK fun fr hK => ?_
 refine qp 21 (.pointer (some ⟨b1, 2, none⟩)) hK fun fr hK => ?_
 refine qp 22 (.slice (some ⟨b1, 2, none⟩) 32 32) hK fun fr hK => ?_
 have f4 := els_arr (f := a0.oldHash) (p := 2) (n := 32) hA3 (by kernel_rfl) (by decide)
 replace c2r0_f := Els.mono rep_U8 c2r0_f l8
 obtain ⟨x2, hy4, h⟩ := bind_some h
 refine qo 23 hK (s_app elT22_4 rep_U8 hy4 hK.at_ 0 hS rfl c2r0_f f4 rfl rfl rfl (by decide) ?_)
 clear hK fr hS; intro m9 g2 cp2 l9 hS f5 fr hK
 replace hS : St _ m m9 [rowOf 5 1 g2 cp2 x2, rowOf 5 1 c1r0_g c1r0_c y1, rowOf 5 1 g1 cp1 x1] := hS
 refine qp 3 (.slice (adr g2) x2.length cp2) hK fun fr hK => ?_
 refine wpList_nil (then_n ?_)
 refine w_seq (w_region ?_)
 refine qp 24 (.slice (adr g2) x2.length cp2) hK fun fr hK => ?_
 refine qp 25 (.pointer (some ⟨b1, 34, none⟩)) hK fun fr hK => ?_
 refine qp 26 (.slice (some ⟨b1, 34, none⟩) 32 32) hK fun fr hK => ?_
 replace hA3 := hA3.mono l9
 have f6 := els_arr (f := a0.newHash) (p := 34) (n := 32) hA3 (by kernel_rfl) (by decide)
 obtain ⟨x3, hy5, h⟩ := bind_some h
 refine qo 27 hK (s_app elT22_4 rep_U8 hy5 hK.at_ 0 hS rfl f5 f6 rfl rfl rfl (by decide) ?_)
 clear hK fr hS; intro m10 g3 cp3 l10 hS f7 fr hK
 replace hS : St _ m m10 [rowOf 5 1 g3 cp3 x3, rowOf 5 1 c1r0_g c1r0_c y1, rowOf 5 1 g1 cp1 x1] := hS
 refine qp 3 (.slice (adr g3) x3.length cp3) hK fun fr hK => ?_
 refine wpList_nil (then_n ?_)
 refine w_seq (w_region ?_)
 refine qp 28 (.slice (adr g3) x3.length cp3) hK fun fr hK => ?_
 refine qp 29 (.pointer (some ⟨b1, 66, none⟩)) hK fun fr hK => ?_
 replace hA3 := hA3.mono l10
 refine qo 30 hK (s_loadAt hK.at_ hA3 66 rfl rfl rfl rfl (by kernel_rfl) ?_)
 clear hK fr; intro fr hK
 refine qp 31 (.int .i64 (a0.commands.length : Int)) hK fun fr hK => ?_
 refine qp 32 (.int .u64 (IntKind.u64.wrap (a0.commands.length : Int))) hK fun fr hK => ?_
 obtain ⟨y3, hy6, h⟩ := bind_some h
 refine qo 33 hK (s_call hK.at_ hS ent58_4 rfl rfl rfl rfl (G.graftref06_Append_spec f7 hy6) (by kernel_rfl) ?_)
 clear hK fr hS; rintro _ m11 _ l11 hS ⟨c3r0_g, c3r0_c, rfl, rfl, c3r0_f⟩ fr hK
 replace hS : St _ m m11 [rowOf 5 1 c3r0_g c3r0_c y3, rowOf 5 1 g3 cp3 x3, rowOf 5 1 c1r0_g c1r0_c y1, rowOf 5 1 g1 cp1 x1] := hS
 refine qp 3 (.slice (adr c3r0_g) y3.length c3r0_c) hK fun fr hK => ?_
 refine wpList_nil (then_n ?_)
 refine w_seq ?_
 refine w_seq (w_region ?_)
 refine qp 4 (.int .i64 0) hK fun fr hK => ?_
 refine wpList_nil (then_n ?_)
 refine wp_block ?_
 replace hS := St.keep (L := [rowOf 5 1 c3r0_g c3r0_c y3]) (R := [rowOf 5 1 g3 cp3 x3, rowOf 5 1 c1r0_g c1r0_c y1, rowOf 5 1 g1 cp1 x1]) hS
 refine w_loopL h (fun (s1 : (List UInt8) × Int) fr ww => ∃ (g4 : Option Nat), ∃ (g5 : Nat), ∃ m12 : Mem, m12.w = ww ∧ Kn 81 fr [(1, .pointer (some ⟨b1, 0, none⟩)), (3, .slice (adr g4) s1.1.length g5), (4, .int .i64 s1.2)] ∧ Le m11 m12 ∧ St (blocksOf []) m m12 [rowOf 5 1 g4 g5 s1.1] ∧ Els isU8 m12 1 (adr g4) g5 s1.1) ?_ ?_
 · exact ⟨c3r0_g, c3r0_c, m11, rfl, hK.only [1, 3, 4], Le.refl _, hS, c3r0_f⟩
 clear hK hS fr h
 rintro k1 s1 x4 fr _ ⟨g4, g5, m12, rfl, hK, l12, hS, f8⟩ h hn1
 unfold G.graftref07_Encode_l1 at h
 refine w_seq ?_
 refine w_seq (w_region ?_)
 refine qp 34 (.int .i64 s1.2) hK fun fr hK => ?_
 refine qp 35 (.pointer (some ⟨b1, 66, none⟩)) hK fun fr hK => ?_
 replace hA3 := hA3.mono (l11.trans l12)
 refine qo 36 hK (s_loadAt hK.at_ hA3 66 rfl rfl rfl rfl (by kernel_rfl) ?_)
 clear hK fr; intro fr hK
 refine qp 37 (.int .i64 (a0.commands.length : Int)) hK fun fr hK => ?_
 refine qp 38 (.bool (decide (s1.2 < (a0.commands.length : Int)))) hK fun fr hK => ?_
 refine wpList_nil (then_n ?_)
 refine w_cond hK rfl (fun hb1 => ?_) (fun hb1 => ?_)
 ·
  replace hK := hK.more (t := 38) (v' := .bool true) rfl (by rw [hb1])
  replace h := ite_t (of_decide_eq_true hb1) h
  refine wp_skip ?_
  refine then_n ?_
  refine w_seq ?_
  refine wp_block ?_
  refine w_seq (w_region ?_)
  refine qp 41 (.pointer (some ⟨b1, 66, none⟩)) hK fun fr hK => ?_
  refine qo 42 hK (s_loadAt hK.at_ hA3 66 rfl rfl rfl rfl (by kernel_rfl) ?_)
  clear hK fr; intro fr hK
  refine qp 43 (.int .i64 s1.2) hK fun fr hK => ?_
  replace a0_commands_f := Els.mono rep_G_Command a0_commands_f (l1.trans (l2.trans (l3.trans (l4.trans (l5.trans (l6.trans (l7.trans (l8.trans (l9.trans (l10.trans (l11.trans l12)))))))))))
  obtain ⟨x5, hy7, h⟩ := bind_some h
  refine qo 44 hK (s_idx elT25_4 a0_commands_f hy7 hK.at_ rfl rfl rfl ?_)
  clear hK fr; intro b4 p1 cs1 hR1 hA4 fr hK
  obtain ⟨e1_data_a, e1_data_c, rfl, e1_data_f⟩ := hR1
  refine qo 45 hK (s_loadAtN [.int .i64 x5.kind, .int .i64 x5.to, .int .i64 x5.from_, .int .i64 x5.len, .slice e1_data_a x5.data.length e1_data_c] hK.at_ hA4 0 rfl rfl rfl (by kernel_rfl) (by kernel_rfl) ?_)
  clear hK fr; intro fr hK
  refine qo 5 hK (s_alloc (.agg #[.int .i64 0, .int .i64 0, .int .i64 0, .int .i64 0, .slice none 0 0]) hK.at_ hS rfl (by kernel_rfl) ?_)
  clear hK fr hS; intro m13 b5 b5z l13 hS fr hK
  refine qo0 hK (s_storeAll hK.at_ 0 hS rfl rfl rfl rfl (by kernel_rfl) (by kernel_rfl) (by kernel_rfl) ?_)
  clear hK fr hS; intro m14 l14 hS fr hK
  replace hS : St _ m m14 [.box b5 #[.int .i64 x5.kind, .int .i64 x5.to, .int .i64 x5.from_, .int .i64 x5.len, .slice e1_data_a x5.data.length e1_data_c] 50, rowOf 5 1 g4 g5 s1.1] := hS
  refine wpList_nil (then_n ?_)
  refine w_seq (w_region ?_)
  refine qp 46 (.slice (adr g4) s1.1.length g5) hK fun fr hK => ?_
  refine qp 47 (.pointer (some ⟨b5, 0, none⟩)) hK fun fr hK => ?_
  refine qo 48 hK (s_load hK.at_ hS 0 rfl rfl rfl rfl (by kernel_rfl) ?_)
  clear hK fr; intro fr hK
  refine qe 49 (.int .u8 ((u8 x5.kind).toNat : Int)) (.int .u8 (IntKind.u8.wrap x5.kind)) hK (by exact v_int (u8_wrap _)) ?_
  clear hK fr; intro fr hK
  refine qo 50 hK (s_buildSlice (elem := 5) #[.int .u8 ((u8 x5.kind).toNat : Int)] hK.at_ hS rfl (by kernel_rfl) (by kernel_rfl) ?_)
  clear hK fr hS; intro m15 b6 b6z b6n l15 hS hA5 fr hK
  replace hS : St _ m m15 [.box b5 #[.int .i64 x5.kind, .int .i64 x5.to, .int .i64 x5.from_, .int .i64 x5.len, .slice e1_data_a x5.data.length e1_data_c] 50, rowOf 5 1 g4 g5 s1.1] := hS
  have f9 : Els isU8 m15 1 (some ⟨b6, 0, none⟩) 1 ([(u8 x5.kind)] : List UInt8) := els_lit rep_U8 [[.int .u8 ((u8 x5.kind).toNat : Int)]] hA5 (by simp) (by decide) (.cons rfl .nil)
  replace hK : Kn 81 fr [(50, .slice (some ⟨b6, 0, none⟩) (([(u8 x5.kind)] : List UInt8).length) 1), (49, .int .u8 ((u8 x5.kind).toNat : Int)), (48, .int .i64 x5.kind), (47, .pointer (some ⟨b5, 0, none⟩)), (46, .slice (adr g4) s1.1.length g5), (5, .pointer (some ⟨b5, 0, none⟩)), (45, .agg #[.int .i64 x5.kind, .int .i64 x5.to, .int .i64 x5.from_, .int .i64 x5.len, .slice e1_data_a x5.data.length e1_data_c]), (44, .pointer (some ⟨b4, p1, none⟩)), (43, .int .i64 s1.2), (42, .slice a0_commands_a a0.commands.length a0_commands_c), (41, .pointer (some ⟨b1, 66, none⟩)), (38, .bool true), (37, .int .i64 (a0.commands.length : Int)), (36, .slice a0_commands_a a0.commands.length a0_commands_c), (35, .pointer (some ⟨b1, 66, none⟩)), (34, .int .i64 s1.2), (1, .pointer (some ⟨b1, 0, none⟩)), (3, .slice (adr g4) s1.1.length g5), (4, .int .i64 s1.2)] := hK.only [50, 49, 48, 47, 46, 5, 45, 44, 43, 42, 41, 38, 37, 36, 35, 34, 1, 3, 4]
  replace f8 := Els.mono rep_U8 f8 (l13.trans (l14.trans l15))
  obtain ⟨x6, hy8, h⟩ := bind_some h
  refine qo 51 hK (s_app elT22_4 rep_U8 hy8 hK.at_ 1 hS rfl f8 f9 rfl rfl rfl (by decide) ?_)
  clear hK fr hS; intro m16 g6 cp4 l16 hS f10 fr hK
  replace hS : St _ m m16 [rowOf 5 1 g6 cp4 x6, .box b5 #[.int .i64 x5.kind, .int .i64 x5.to, .int .i64 x5.from_, .int .i64 x5.len, .slice e1_data_a x5.data.length e1_data_c] 50] := hS
  refine qp 3 (.slice (adr g6) x6.length cp4) hK fun fr hK => ?_
  refine wpList_nil (then_n ?_)
  refine w_seq (w_region ?_)
  refine qp 52 (.slice (adr g6) x6.length cp4) hK fun fr hK => ?_
  refine qp 53 (.pointer (some ⟨b5, 1, none⟩)) hK fun fr hK => ?_
  refine qo 54 hK (s_load hK.at_ hS 1 rfl rfl rfl rfl (by kernel_rfl) ?_)
  clear hK fr; intro fr hK
  refine qp 55 (.int .u64 (IntKind.u64.wrap x5.to)) hK fun fr hK => ?_
  obtain ⟨y4, hy9, h⟩ := bind_some h
  refine qo 56 hK (s_call hK.at_ hS ent58_4 rfl rfl rfl rfl (G.graftref06_Append_spec f10 hy9) (by kernel_rfl) ?_)
  clear hK fr hS; rintro _ m17 _ l17 hS ⟨c4r0_g, c4r0_c, rfl, rfl, c4r0_f⟩ fr hK
  replace hS : St _ m m17 [rowOf 5 1 c4r0_g c4r0_c y4, rowOf 5 1 g6 cp4 x6, .box b5 #[.int .i64 x5.kind, .int .i64 x5.to, .int .i64 x5.from_, .int .i64 x5.len, .slice e1_data_a x5.data.length e1_data_c] 50] := hS
  refine qp 3 (.slice (adr c4r0_g) y4.length c4r0_c) hK fun fr hK => ?_
  refine wpList_nil (then_n ?_)
  refine w_seq (w_region ?_)
  refine qp 57 (.pointer (some ⟨b5, 0, none⟩)) hK fun fr hK => ?_
  refine qo 58 hK (s_load hK.at_ hS 2 rfl rfl rfl rfl (by kernel_rfl) ?_)
  clear hK fr; intro fr hK
  refine qp 59 (.bool (x5.kind == 1)) hK fun fr hK => ?_
  refine wpList_nil (then_n ?_)
  refine w_cond hK rfl (fun hb2 => ?_) (fun hb2 => ?_)
  ·
   replace hK := hK.more (t := 59) (v' := .bool true) rfl (by rw [hb2])
   replace h := ite_t (eq_of_beq hb2) h
   refine w_seq (w_region ?_)
   refine qp 60 (.slice (adr c4r0_g) y4.length c4r0_c) hK fun fr hK => ?_
   refine qp 61 (.pointer (some ⟨b5, 2, none⟩)) hK fun fr hK => ?_
   refine qo 62 hK (s_load hK.at_ hS 2 rfl rfl rfl rfl (by kernel_rfl) ?_)
   clear hK fr; intro fr hK
   refine qp 63 (.int .u64 (IntKind.u64.wrap x5.from_)) hK fun fr hK => ?_
   obtain ⟨y5, hy10, h⟩ := bind_some h
   refine qo 64 hK (s_call hK.at_ hS ent58_4 rfl rfl rfl rfl (G.graftref06_Append_spec c4r0_f hy10) (by kernel_rfl) ?_)
   clear hK fr hS; rintro _ m18 _ l18 hS ⟨c5r0_g, c5r0_c, rfl, rfl, c5r0_f⟩ fr hK
   replace hS : St _ m m18 [rowOf 5 1 c5r0_g c5r0_c y5, rowOf 5 1 c4r0_g c4r0_c y4, rowOf 5 1 g6 cp4 x6, .box b5 #[.int .i64 x5.kind, .int .i64 x5.to, .int .i64 x5.from_, .int .i64 x5.len, .slice e1_data_a x5.data.length e1_data_c] 50] := hS
   refine qp 3 (.slice (adr c5r0_g) y5.length c5r0_c) hK fun fr hK => ?_
   refine wpList_nil (then_n ?_)
   refine w_region ?_
   refine qp 65 (.slice (adr c5r0_g) y5.length c5r0_c) hK fun fr hK => ?_
   refine qp 66 (.pointer (some ⟨b5, 3, none⟩)) hK fun fr hK => ?_
   refine qo 67 hK (s_load hK.at_ hS 3 rfl rfl rfl rfl (by kernel_rfl) ?_)
   clear hK fr; intro fr hK
   refine qp 68 (.int .u64 (IntKind.u64.wrap x5.len)) hK fun fr hK => ?_
   obtain ⟨y6, hy11, h⟩ := bind_some h
   refine qo 69 hK (s_call hK.at_ hS ent58_4 rfl rfl rfl rfl (G.graftref06_Append_spec c5r0_f hy11) (by kernel_rfl) ?_)
   clear hK fr hS; rintro _ m19 _ l19 hS ⟨c6r0_g, c6r0_c, rfl, rfl, c6r0_f⟩ fr hK
   replace hS : St _ m m19 [rowOf 5 1 c6r0_g c6r0_c y6, rowOf 5 1 c5r0_g c5r0_c y5, rowOf 5 1 c4r0_g c4r0_c y4, rowOf 5 1 g6 cp4 x6, .box b5 #[.int .i64 x5.kind, .int .i64 x5.to, .int .i64 x5.from_, .int .i64 x5.len, .slice e1_data_a x5.data.length e1_data_c] 50] := hS
   refine qp 3 (.slice (adr c6r0_g) y6.length c6r0_c) hK fun fr hK => ?_
   refine wpList_nil ?_
   refine blk_n ?_
   refine then_n ?_
   refine w_region ?_
   refine qp 39 (.int .i64 s1.2) hK fun fr hK => ?_
   refine qp 40 (.int .i64 (IntKind.i64.wrap (s1.2 + 1))) hK fun fr hK => ?_
   refine qp 4 (.int .i64 (IntKind.i64.wrap (s1.2 + 1))) hK fun fr hK => ?_
   refine wpList_nil (then_n ?_)
   replace hS := St.keep (L := [rowOf 5 1 c6r0_g c6r0_c y6]) (R := [rowOf 5 1 c5r0_g c5r0_c y5, rowOf 5 1 c4r0_g c4r0_c y4, rowOf 5 1 g6 cp4 x6, .box b5 #[.int .i64 x5.kind, .int .i64 x5.to, .int .i64 x5.from_, .int .i64 x5.len, .slice e1_data_a x5.data.length e1_data_c] 50]) hS
   replace h := Option.some.inj h; subst h
   obtain ⟨kq, hk1, hk2⟩ := hn1
   exact ⟨kq, hk1, _, hk2, c6r0_g, c6r0_c, m19, rfl, hK.only [1, 3, 4], l12.trans (l13.trans (l14.trans (l15.trans (l16.trans (l17.trans (l18.trans l19)))))), hS, c6r0_f⟩
  ·
   replace hK := hK.more (t := 59) (v' := .bool false) rfl (by rw [hb2])
   replace h := ite_f (ne_of_beq_false hb2) h
   refine w_seq (w_region ?_)
   refine qp 70 (.slice (adr c4r0_g) y4.length c4r0_c) hK fun fr hK => ?_
   refine qp 71 (.pointer (some ⟨b5, 4, none⟩)) hK fun fr hK => ?_
   refine qo 72 hK (s_load hK.at_ hS 2 rfl rfl rfl rfl (by kernel_rfl) ?_)
   clear hK fr; intro fr hK
   refine qp 73 (.int .i64 (x5.data.length : Int)) hK fun fr hK => ?_
   refine qp 74 (.int .u64 (IntKind.u64.wrap (x5.data.length : Int))) hK fun fr hK => ?_
   obtain ⟨y7, hy12, h⟩ := bind_some h
   refine qo 75 hK (s_call hK.at_ hS ent58_4 rfl rfl rfl rfl (G.graftref06_Append_spec c4r0_f hy12) (by kernel_rfl) ?_)
   clear hK fr hS; rintro _ m20 _ l20 hS ⟨c7r0_g, c7r0_c, rfl, rfl, c7r0_f⟩ fr hK
   replace hS : St _ m m20 [rowOf 5 1 c7r0_g c7r0_c y7, rowOf 5 1 c4r0_g c4r0_c y4, rowOf 5 1 g6 cp4 x6, .box b5 #[.int .i64 x5.kind, .int .i64 x5.to, .int .i64 x5.from_, .int .i64 x5.len, .slice e1_data_a x5.data.length e1_data_c] 50] := hS
   refine qp 3 (.slice (adr c7r0_g) y7.length c7r0_c) hK fun fr hK => ?_
   refine wpList_nil (then_n ?_)
   refine w_region ?_
   refine qp 76 (.slice (adr c7r0_g) y7.length c7r0_c) hK fun fr hK => ?_
   refine qp 77 (.pointer (some ⟨b5, 4, none⟩)) hK fun fr hK => ?_
   refine qo 78 hK (s_load hK.at_ hS 3 rfl rfl rfl rfl (by kernel_rfl) ?_)
   clear hK fr; intro fr hK
   replace e1_data_f := Els.mono rep_U8 e1_data_f (l13.trans (l14.trans (l15.trans (l16.trans (l17.trans l20)))))
   obtain ⟨x7, hy13, h⟩ := bind_some h
   refine qo 79 hK (s_app elT22_4 rep_U8 hy13 hK.at_ 0 hS rfl c7r0_f e1_data_f rfl rfl rfl (by decide) ?_)
   clear hK fr hS; intro m21 g7 cp5 l21 hS f11 fr hK
   replace hS : St _ m m21 [rowOf 5 1 g7 cp5 x7, rowOf 5 1 c4r0_g c4r0_c y4, rowOf 5 1 g6 cp4 x6, .box b5 #[.int .i64 x5.kind, .int .i64 x5.to, .int .i64 x5.from_, .int .i64 x5.len, .slice e1_data_a x5.data.length e1_data_c] 50] := hS
   refine qp 3 (.slice (adr g7) x7.length cp5) hK fun fr hK => ?_
   refine wpList_nil ?_
   refine blk_n ?_
   refine then_n ?_
   refine w_region ?_
   refine qp 39 (.int .i64 s1.2) hK fun fr hK => ?_
   refine qp 40 (.int .i64 (IntKind.i64.wrap (s1.2 + 1))) hK fun fr hK => ?_
   refine qp 4 (.int .i64 (IntKind.i64.wrap (s1.2 + 1))) hK fun fr hK => ?_
   refine wpList_nil (then_n ?_)
   replace hS := St.keep (L := [rowOf 5 1 g7 cp5 x7]) (R := [rowOf 5 1 c4r0_g c4r0_c y4, rowOf 5 1 g6 cp4 x6, .box b5 #[.int .i64 x5.kind, .int .i64 x5.to, .int .i64 x5.from_, .int .i64 x5.len, .slice e1_data_a x5.data.length e1_data_c] 50]) hS
   replace h := Option.some.inj h; subst h
   obtain ⟨kq, hk1, hk2⟩ := hn1
   exact ⟨kq, hk1, _, hk2, g7, cp5, m21, rfl, hK.only [1, 3, 4], l12.trans (l13.trans (l14.trans (l15.trans (l16.trans (l17.trans (l20.trans l21)))))), hS, f11⟩
 ·
  replace hK := hK.more (t := 38) (v' := .bool false) rfl (by rw [hb1])
  replace h := ite_f (of_decide_eq_false hb1) h
  refine wp_exit ?_
  refine then_x ?_
  refine then_x ?_
  refine blk_e ?_
  refine then_n ?_
  refine w_seq (w_region ?_)
  refine qp 80 (.slice (adr g4) s1.1.length g5) hK fun fr hK => ?_
  refine qp 2 (.slice (adr g4) s1.1.length g5) hK fun fr hK => ?_
  refine wpList_nil (then_n ?_)
  refine wp_ret ?_
  replace h := Option.some.inj h; subst h
  replace h := Option.some.inj (loop_out hn1); subst h
  replace hS : St _ m m12 [rowOf 5 1 g4 g5 s1.1] := hS
  refine ret_of [.tmp 2] [.slice (adr g4) s1.1.length g5] rfl hK (.tmp rfl .nil) hS ?_
  exact ⟨g4, g5, rfl, rfl, f8⟩
end Go.Proofs.Ytkalbidbhaalmaa
