/- The program computes the plain functions: graftlaw07_FormatInverse. Printed by a program. -/
import Derived.Test.YtkalbidbhaalmaaProg
import Derived.Test.YtkalbidbhaalmaaGs
import Derived.Test.YtkalbidbhaalmaaRep
import Derived.Test.YtkalbidbhaalmaaL0
import Derived.Test.YtkalbidbhaalmaaL2
import Derived.Test.YtkalbidbhaalmaaL3
namespace Go.Proofs.Ytkalbidbhaalmaa
open Go.RowKit G
theorem ent13_8 : Enters Try.prog 13 := enters_of Try.func13 (by decide +kernel) (by decide +kernel)
theorem ent14_8 : Enters Try.prog 14 := enters_of Try.func14 (by decide +kernel) (by decide +kernel)
theorem ent16_8 : Enters Try.prog 16 := enters_of Try.func16 (by decide +kernel) (by decide +kernel)
theorem ent17_8 : Enters Try.prog 17 := enters_of Try.func17 (by decide +kernel) (by decide +kernel)
theorem ent18_8 : Enters Try.prog 18 := enters_of Try.func18 (by decide +kernel) (by decide +kernel)
theorem ent19_8 : Enters Try.prog 19 := enters_of Try.func19 (by decide +kernel) (by decide +kernel)
theorem elT22_8 : ElemT Try.prog 22 5 (.int .u8 0) 1 1 := ⟨by kernel_rfl, by kernel_rfl, by kernel_rfl, by decide⟩
theorem eqT30_8 (x0 x1 y0 y1 : Int) (w : World) : (binOp .eql 30 (.agg #[.int .i64 x0, .int .i64 x1]) (.agg #[.int .i64 y0, .int .i64 y1])).run Try.prog w = .ok (.bool (decide (x0 = y0 ∧ x1 = y1))) w := by
  simp [go_sem]; repeat' split
  all_goals simp_all
theorem eqT30n_8 (x0 x1 y0 y1 : Int) (w : World) : (binOp .neq 30 (.agg #[.int .i64 x0, .int .i64 x1]) (.agg #[.int .i64 y0, .int .i64 y1])).run Try.prog w = .ok (.bool (!decide (x0 = y0 ∧ x1 = y1))) w := by
  simp [go_sem]; repeat' split
  all_goals simp_all
set_option maxRecDepth 100000 in
set_option maxHeartbeats 1000000 in
theorem G.graftlaw07_FormatInverse_spec {m : Mem} {a0 : G.Delta} {a0_commands_a : Option Addr} {a0_commands_c : Nat} {a1 : List UInt8} {a1_a : Option Addr} {a1_c : Nat} (a0_commands_f : Els is_G_Command m 5 a0_commands_a a0_commands_c a0.commands) (a1_f : Els isU8 m 1 a1_a a1_c a1) {r : Bool} (h : G.graftlaw07_FormatInverse a0 a1 = some r) :
  Spec Try.prog 4 #[.agg (G_Delta_cells a0 a0_commands_a a0_commands_c), .slice a1_a a1.length a1_c] m [] fun v m' L => L = [] ∧ v = .bool r := by
 unfold G.graftlaw07_FormatInverse at h
 refine enter (args := [_, _]) 70 Try.func4 rfl rfl (by simp) fun fr hK => ?_
 have hS := St.refl (Ow.nil m)
 replace hK : Kn 70 fr [(0, .agg (G_Delta_cells a0 a0_commands_a a0_commands_c)), (1, .slice a1_a a1.length a1_c)] := hK
 refine w_seq (w_region ?_)
 refine qo 2 hK (s_box hK.at_ hS rfl rfl ?_)
 clear hK fr hS; intro m1 b1 b1z l1 hS fr hK
 replace hS : St _ m m1 [.box b1 (G_Delta_cells a0 a0_commands_a a0_commands_c) 27] := hS
 refine qp 4 (.bool false) hK fun fr hK => ?_
 refine wpList_nil (then_n ?_)
 refine w_seq ?_
 refine w_seq ?_
 obtain ⟨v1, hv1, h⟩ := bind_some h
 refine w_join (fun fr ww => ∃ m2 : Mem, m2.w = ww ∧ Kn 70 fr [(1, .slice a1_a a1.length a1_c), (2, .pointer (some ⟨b1, 0, none⟩)), (23, .bool v1)] ∧ Le m1 m2 ∧ St (blocksOf []) m m2 [.box b1 (G_Delta_cells a0 a0_commands_a a0_commands_c) 27]) ?_ ?_
 ·
  clear hK hS fr hv1
  rintro fr _ ⟨m2, rfl, hK, l2, hS⟩
  refine then_n ?_
  refine w_cond hK rfl (fun hb1 => ?_) (fun hb1 => ?_)
  ·
   replace hK := hK.more (t := 23) (v' := .bool true) rfl (by rw [hb1])
   replace h := ite_t (hb1) h
   refine w_seq (w_region ?_)
   obtain ⟨y1, hy1, h⟩ := bind_some h
   refine qo 24 hK (s_call hK.at_ hS ent13_8 rfl rfl rfl rfl (G.graftlaw07_alive_spec hy1) (by kernel_rfl) ?_)
   clear hK fr hS; rintro _ m3 _ l3 hS ⟨rfl, rfl⟩ fr hK
   replace hS : St _ m m3 [.box b1 (G_Delta_cells a0 a0_commands_a a0_commands_c) 27] := hS
   refine qp 4 (.bool y1) hK fun fr hK => ?_
   refine wpList_nil (then_n ?_)
   refine wp_ret ?_
   refine then_r ?_
   replace h := Option.some.inj h; subst h
   refine ret_of [.tmp 4] [.bool y1] rfl hK (.tmp rfl .nil) hS.dropAll ?_
   exact ⟨rfl, rfl⟩
  ·
   replace hK := hK.more (t := 23) (v' := .bool false) rfl (by rw [hb1])
   replace h := ite_f (ne_true_of_eq_false hb1) h
   refine wp_skip ?_
   refine then_n ?_
   refine w_seq (w_region ?_)
   refine qo 26 hK (s_loadAll hK.at_ hS 0 rfl rfl rfl (by kernel_rfl) ?_)
   clear hK fr; intro fr hK
   replace a0_commands_f := Els.mono rep_G_Command a0_commands_f (l1.trans l2)
   obtain ⟨y2, hy2, h⟩ := bind_some h
   refine qo 27 hK (s_call hK.at_ hS ent19_8 rfl rfl rfl rfl (G.format_Encode_spec a0_commands_f hy2) (by kernel_rfl) ?_)
   clear hK fr hS; rintro _ m4 _ l4 hS ⟨c2r0_g, c2r0_c, rfl, rfl, c2r0_f⟩ fr hK
   replace hS : St _ m m4 [rowOf 5 1 c2r0_g c2r0_c y2.1, .box b1 (G_Delta_cells a0 a0_commands_a a0_commands_c) 27] := hS
   refine qp 25 (.tuple #[.slice (adr c2r0_g) y2.1.length c2r0_c, .int .i64 y2.2]) hK fun fr hK => ?_
   refine qp 28 (.slice (adr c2r0_g) y2.1.length c2r0_c) hK fun fr hK => ?_
   refine qp 29 (.int .i64 y2.2) hK fun fr hK => ?_
   refine qp 5 (.slice (adr c2r0_g) y2.1.length c2r0_c) hK fun fr hK => ?_
   refine qp 6 (.int .i64 y2.2) hK fun fr hK => ?_
   refine wpList_nil (then_n ?_)
   refine w_seq (w_region ?_)
   refine qp 31 (.slice (adr c2r0_g) y2.1.length c2r0_c) hK fun fr hK => ?_
   obtain ⟨y3, hy3, h⟩ := bind_some h
   refine qo 32 hK (s_call hK.at_ hS ent14_8 rfl rfl rfl rfl (G.format_Decode_spec c2r0_f hy3) (by kernel_rfl) ?_)
   clear hK fr hS; rintro _ m5 _ l5 hS ⟨c3r0_commands_g, c3r0_commands_c, rfl, rfl, c3r0_commands_f⟩ fr hK
   refine qp 30 (.tuple #[.agg (G_Delta_cells y3.1 (adr c3r0_commands_g) c3r0_commands_c), .agg #[.int .i64 y3.2.code, .int .i64 y3.2.at_]]) hK fun fr hK => ?_
   refine qp 33 (.agg (G_Delta_cells y3.1 (adr c3r0_commands_g) c3r0_commands_c)) hK fun fr hK => ?_
   refine qp 34 (.agg #[.int .i64 y3.2.code, .int .i64 y3.2.at_]) hK fun fr hK => ?_
   refine qo 7 hK (s_alloc (.agg #[.int .i64 0, .int .i64 0, .int .u8 0, .int .u8 0, .int .u8 0, .int .u8 0, .int .u8 0, .int .u8 0, .int .u8 0, .int .u8 0, .int .u8 0, .int .u8 0, .int .u8 0, .int .u8 0, .int .u8 0, .int .u8 0, .int .u8 0, .int .u8 0, .int .u8 0, .int .u8 0, .int .u8 0, .int .u8 0, .int .u8 0, .int .u8 0, .int .u8 0, .int .u8 0, .int .u8 0, .int .u8 0, .int .u8 0, .int .u8 0, .int .u8 0, .int .u8 0, .int .u8 0, .int .u8 0, .int .u8 0, .int .u8 0, .int .u8 0, .int .u8 0, .int .u8 0, .int .u8 0, .int .u8 0, .int .u8 0, .int .u8 0, .int .u8 0, .int .u8 0, .int .u8 0, .int .u8 0, .int .u8 0, .int .u8 0, .int .u8 0, .int .u8 0, .int .u8 0, .int .u8 0, .int .u8 0, .int .u8 0, .int .u8 0, .int .u8 0, .int .u8 0, .int .u8 0, .int .u8 0, .int .u8 0, .int .u8 0, .int .u8 0, .int .u8 0, .int .u8 0, .int .u8 0, .slice none 0 0]) hK.at_ hS rfl (by kernel_rfl) ?_)
   clear hK fr hS; intro m6 b2 b2z l6 hS fr hK
   refine qo 8 hK (s_alloc (.agg #[.int .i64 0, .int .i64 0]) hK.at_ hS rfl (by kernel_rfl) ?_)
   clear hK fr hS; intro m7 b3 b3z l7 hS fr hK
   refine qo0 hK (s_storeAll hK.at_ 1 hS rfl rfl rfl rfl (by kernel_rfl) (by kernel_rfl) (by kernel_rfl) ?_)
   clear hK fr hS; intro m8 l8 hS fr hK
   refine qo0 hK (s_storeAll hK.at_ 1 hS rfl rfl rfl rfl (by kernel_rfl) (by kernel_rfl) (by kernel_rfl) ?_)
   clear hK fr hS; intro m9 l9 hS fr hK
   replace hS : St _ m m9 [.box b3 #[.int .i64 y3.2.code, .int .i64 y3.2.at_] 30, .box b2 (G_Delta_cells y3.1 (adr c3r0_commands_g) c3r0_commands_c) 27, rowOf 50 5 c3r0_commands_g c3r0_commands_c y3.1.commands, rowOf 5 1 c2r0_g c2r0_c y2.1, .box b1 (G_Delta_cells a0 a0_commands_a a0_commands_c) 27] := hS
   refine wpList_nil (then_n ?_)
   refine w_seq ?_
   refine w_seq ?_
   obtain ⟨v2, hv2, h⟩ := bind_some h
   refine w_join (fun fr ww => ∃ m10 : Mem, m10.w = ww ∧ Kn 70 fr [(1, .slice a1_a a1.length a1_c), (5, .slice (adr c2r0_g) y2.1.length c2r0_c), (47, .bool v2)] ∧ Le m9 m10 ∧ St (blocksOf []) m m10 [rowOf 5 1 c2r0_g c2r0_c y2.1]) ?_ ?_
   ·
    clear hK hS fr hv2
    rintro fr _ ⟨m10, rfl, hK, l10, hS⟩
    refine then_n ?_
    refine w_cond hK rfl (fun hb2 => ?_) (fun hb2 => ?_)
    ·
     replace hK := hK.more (t := 47) (v' := .bool true) rfl (by rw [hb2])
     replace h := ite_t (hb2) h
     refine w_seq (w_region ?_)
     refine qp 4 (.bool false) hK fun fr hK => ?_
     refine wpList_nil (then_n ?_)
     refine wp_ret ?_
     refine then_r ?_
     replace h := Option.some.inj h; subst h
     refine ret_of [.tmp 4] [.bool false] rfl hK (.tmp rfl .nil) hS.dropAll ?_
     exact ⟨rfl, rfl⟩
    ·
     replace hK := hK.more (t := 47) (v' := .bool false) rfl (by rw [hb2])
     replace h := ite_f (ne_true_of_eq_false hb2) h
     refine wp_skip ?_
     refine then_n ?_
     refine w_seq (w_region ?_)
     refine qo 49 hK (s_buildRow (elem := 5) #[] hK.at_ hS rfl (by kernel_rfl) (by kernel_rfl) ?_)
     clear hK fr hS; intro m11 b4 l11 hS hA1 fr hK
     have f1 : Els isU8 m11 1 (some ⟨b4, 0, none⟩) 0 ([] : List UInt8) := els_lit rep_U8 [] hA1 (by simp) (by decide) .nil
     replace hS : St _ m m11 [rowOf 5 1 (some b4) 0 ([] : List UInt8), rowOf 5 1 c2r0_g c2r0_c y2.1] := hS
     replace hK : Kn 70 fr [(49, .slice (adr (some b4)) (([] : List UInt8).length) 0), (47, .bool false), (1, .slice a1_a a1.length a1_c), (5, .slice (adr c2r0_g) y2.1.length c2r0_c)] := hK.only [49, 47, 1, 5]
     refine qp 50 (.slice (adr c2r0_g) y2.1.length c2r0_c) hK fun fr hK => ?_
     replace c2r0_f := Els.mono rep_U8 c2r0_f (l5.trans (l6.trans (l7.trans (l8.trans (l9.trans (l10.trans l11))))))
     obtain ⟨x1, hy4, h⟩ := bind_some h
     refine qo 51 hK (s_app elT22_8 rep_U8 hy4 hK.at_ 0 hS rfl f1 c2r0_f rfl rfl rfl (by decide) ?_)
     clear hK fr hS; intro m12 g1 cp1 l12 hS f2 fr hK
     replace hS : St _ m m12 [rowOf 5 1 g1 cp1 x1, rowOf 5 1 c2r0_g c2r0_c y2.1] := hS
     refine qp 52 (.slice a1_a a1.length a1_c) hK fun fr hK => ?_
     replace a1_f := Els.mono rep_U8 a1_f (l1.trans (l2.trans (l4.trans (l5.trans (l6.trans (l7.trans (l8.trans (l9.trans (l10.trans (l11.trans l12))))))))))
     obtain ⟨x2, hy5, h⟩ := bind_some h
     refine qo 53 hK (s_app elT22_8 rep_U8 hy5 hK.at_ 0 hS rfl f2 a1_f rfl rfl rfl (by decide) ?_)
     clear hK fr hS; intro m13 g2 cp2 l13 hS f3 fr hK
     replace hS : St _ m m13 [rowOf 5 1 g2 cp2 x2, rowOf 5 1 c2r0_g c2r0_c y2.1] := hS
     obtain ⟨y4, hy6, h⟩ := bind_some h
     refine qo 54 hK (s_call hK.at_ hS ent14_8 rfl rfl rfl rfl (G.format_Decode_spec f3 hy6) (by kernel_rfl) ?_)
     clear hK fr hS; rintro _ m14 _ l14 hS ⟨c4r0_commands_g, c4r0_commands_c, rfl, rfl, c4r0_commands_f⟩ fr hK
     refine qp 48 (.tuple #[.agg (G_Delta_cells y4.1 (adr c4r0_commands_g) c4r0_commands_c), .agg #[.int .i64 y4.2.code, .int .i64 y4.2.at_]]) hK fun fr hK => ?_
     refine qp 55 (.agg (G_Delta_cells y4.1 (adr c4r0_commands_g) c4r0_commands_c)) hK fun fr hK => ?_
     refine qp 56 (.agg #[.int .i64 y4.2.code, .int .i64 y4.2.at_]) hK fun fr hK => ?_
     refine qo 9 hK (s_alloc (.agg #[.int .i64 0, .int .i64 0, .int .u8 0, .int .u8 0, .int .u8 0, .int .u8 0, .int .u8 0, .int .u8 0, .int .u8 0, .int .u8 0, .int .u8 0, .int .u8 0, .int .u8 0, .int .u8 0, .int .u8 0, .int .u8 0, .int .u8 0, .int .u8 0, .int .u8 0, .int .u8 0, .int .u8 0, .int .u8 0, .int .u8 0, .int .u8 0, .int .u8 0, .int .u8 0, .int .u8 0, .int .u8 0, .int .u8 0, .int .u8 0, .int .u8 0, .int .u8 0, .int .u8 0, .int .u8 0, .int .u8 0, .int .u8 0, .int .u8 0, .int .u8 0, .int .u8 0, .int .u8 0, .int .u8 0, .int .u8 0, .int .u8 0, .int .u8 0, .int .u8 0, .int .u8 0, .int .u8 0, .int .u8 0, .int .u8 0, .int .u8 0, .int .u8 0, .int .u8 0, .int .u8 0, .int .u8 0, .int .u8 0, .int .u8 0, .int .u8 0, .int .u8 0, .int .u8 0, .int .u8 0, .int .u8 0, .int .u8 0, .int .u8 0, .int .u8 0, .int .u8 0, .int .u8 0, .slice none 0 0]) hK.at_ hS rfl (by kernel_rfl) ?_)
     clear hK fr hS; intro m15 b5 b5z l15 hS fr hK
     refine qo 10 hK (s_alloc (.agg #[.int .i64 0, .int .i64 0]) hK.at_ hS rfl (by kernel_rfl) ?_)
     clear hK fr hS; intro m16 b6 b6z l16 hS fr hK
     refine qo0 hK (s_storeAll hK.at_ 1 hS rfl rfl rfl rfl (by kernel_rfl) (by kernel_rfl) (by kernel_rfl) ?_)
     clear hK fr hS; intro m17 l17 hS fr hK
     refine qo0 hK (s_storeAll hK.at_ 1 hS rfl rfl rfl rfl (by kernel_rfl) (by kernel_rfl) (by kernel_rfl) ?_)
     clear hK fr hS; intro m18 l18 hS fr hK
     replace hS : St _ m m18 [.box b6 #[.int .i64 y4.2.code, .int .i64 y4.2.at_] 30, .box b5 (G_Delta_cells y4.1 (adr c4r0_commands_g) c4r0_commands_c) 27, rowOf 50 5 c4r0_commands_g c4r0_commands_c y4.1.commands, rowOf 5 1 g2 cp2 x2, rowOf 5 1 c2r0_g c2r0_c y2.1] := hS
     refine wpList_nil (then_n ?_)
     refine w_seq (w_region ?_)
     obtain ⟨y5, hy7, h⟩ := bind_some h
     refine qo 57 hK (s_call hK.at_ hS ent13_8 rfl rfl rfl rfl (G.graftlaw07_alive_spec hy7) (by kernel_rfl) ?_)
     clear hK fr hS; rintro _ m19 _ l19 hS ⟨rfl, rfl⟩ fr hK
     replace hS : St _ m m19 [.box b6 #[.int .i64 y4.2.code, .int .i64 y4.2.at_] 30, .box b5 (G_Delta_cells y4.1 (adr c4r0_commands_g) c4r0_commands_c) 27, rowOf 50 5 c4r0_commands_g c4r0_commands_c y4.1.commands, rowOf 5 1 g2 cp2 x2, rowOf 5 1 c2r0_g c2r0_c y2.1] := hS
     refine qp 58 (.bool y5) hK fun fr hK => ?_
     refine split_b (x := y5) (fun hb3 => ?_) (fun hb3 => ?_)
     ·
      replace hK := hK.more (t := 58) (v' := .bool true) rfl (by rw [hb3])
      replace hK := hK.more (t := 57) (v' := .bool true) rfl (by rw [hb3])
      replace h := ite_t (hb3) h
      refine qp 59 (.slice a1_a a1.length a1_c) hK fun fr hK => ?_
      refine qp 60 (.int .i64 (a1.length : Int)) hK fun fr hK => ?_
      refine qp 61 (.bool ((a1.length : Int) == 0)) hK fun fr hK => ?_
      refine qp 62 (.bool ((a1.length : Int) == 0)) hK fun fr hK => ?_
      refine split_b (x := ((a1.length : Int) == 0)) (fun hb4 => ?_) (fun hb4 => ?_)
      ·
       replace hK := hK.more (t := 62) (v' := .bool true) rfl (by rw [hb4])
       replace hK := hK.more (t := 61) (v' := .bool true) rfl (by rw [hb4])
       replace h := ite_t (eq_of_beq hb4) h
       refine qs 63 hK ?_
       clear hK fr; intro fr hK
       refine qs 64 hK ?_
       clear hK fr; intro fr hK
       refine qs 65 hK ?_
       clear hK fr; intro fr hK
       refine qs 66 hK ?_
       clear hK fr; intro fr hK
       refine qs 67 hK ?_
       clear hK fr; intro fr hK
       refine qp 68 (.bool true) hK fun fr hK => ?_
       refine qp 69 (.bool true) hK fun fr hK => ?_
       refine qp 4 (.bool true) hK fun fr hK => ?_
       refine wpList_nil (then_n ?_)
       refine wp_ret ?_
       replace h := Option.some.inj h; subst h
       refine ret_of [.tmp 4] [.bool true] rfl hK (.tmp rfl .nil) hS.dropAll ?_
       exact ⟨rfl, rfl⟩
      ·
       replace hK := hK.more (t := 62) (v' := .bool false) rfl (by rw [hb4])
       replace hK := hK.more (t := 61) (v' := .bool false) rfl (by rw [hb4])
       replace h := ite_f (ne_of_beq_false hb4) h
       refine qo 63 hK (s_loadAll hK.at_ hS 0 rfl rfl rfl (by kernel_rfl) ?_)
       clear hK fr; intro fr hK
       refine qp 64 (.slice (adr c2r0_g) y2.1.length c2r0_c) hK fun fr hK => ?_
       refine qp 65 (.int .i64 (y2.1.length : Int)) hK fun fr hK => ?_
       refine qp 66 (.agg #[.int .i64 12, .int .i64 (y2.1.length : Int)]) hK fun fr hK => ?_
       refine qr 67 (.bool (decide (y4.2.code = 12 ∧ y4.2.at_ = (y2.1.length : Int)))) hK (by exact run_binAgg rfl rfl rfl (by kernel_rfl) (eqT30_8 _ _ _ _ _)) ?_
       clear hK fr; intro fr hK
       refine qp 68 (.bool (decide (y4.2.code = 12 ∧ y4.2.at_ = (y2.1.length : Int)))) hK fun fr hK => ?_
       refine qp 69 (.bool (decide (y4.2.code = 12 ∧ y4.2.at_ = (y2.1.length : Int)))) hK fun fr hK => ?_
       refine qp 4 (.bool (decide (y4.2.code = 12 ∧ y4.2.at_ = (y2.1.length : Int)))) hK fun fr hK => ?_
       refine wpList_nil (then_n ?_)
       refine wp_ret ?_
       replace h := Option.some.inj h; subst h
       refine ret_of [.tmp 4] [.bool (decide (y4.2.code = 12 ∧ y4.2.at_ = (y2.1.length : Int)))] rfl hK (.tmp rfl .nil) hS.dropAll ?_
       exact ⟨rfl, rfl⟩
     ·
      replace hK := hK.more (t := 58) (v' := .bool false) rfl (by rw [hb3])
      replace hK := hK.more (t := 57) (v' := .bool false) rfl (by rw [hb3])
      replace h := ite_f (ne_true_of_eq_false hb3) h
      refine qs 59 hK ?_
      clear hK fr; intro fr hK
      refine qs 60 hK ?_
      clear hK fr; intro fr hK
      refine qs 61 hK ?_
      clear hK fr; intro fr hK
      refine qs 62 hK ?_
      clear hK fr; intro fr hK
      refine qs 63 hK ?_
      clear hK fr; intro fr hK
      refine qs 64 hK ?_
      clear hK fr; intro fr hK
      refine qs 65 hK ?_
      clear hK fr; intro fr hK
      refine qs 66 hK ?_
      clear hK fr; intro fr hK
      refine qs 67 hK ?_
      clear hK fr; intro fr hK
      refine qs 68 hK ?_
      clear hK fr; intro fr hK
      refine qp 69 (.bool false) hK fun fr hK => ?_
      refine qp 4 (.bool false) hK fun fr hK => ?_
      refine wpList_nil (then_n ?_)
      refine wp_ret ?_
      replace h := Option.some.inj h; subst h
      refine ret_of [.tmp 4] [.bool false] rfl hK (.tmp rfl .nil) hS.dropAll ?_
      exact ⟨rfl, rfl⟩
   ·
    replace h := hv2; clear hv2
    refine w_region ?_
    refine qp 35 (.int .i64 y2.2) hK fun fr hK => ?_
    refine qp 36 (.bool (y2.2 != 0)) hK fun fr hK => ?_
    refine qp 37 (.bool (y2.2 != 0)) hK fun fr hK => ?_
    refine split_b (x := (y2.2 != 0)) (fun hb5 => ?_) (fun hb5 => ?_)
    ·
     replace hK := hK.more (t := 37) (v' := .bool true) rfl (by rw [hb5])
     replace hK := hK.more (t := 36) (v' := .bool true) rfl (by rw [hb5])
     replace h := ite_t (ne_of_bne hb5) h
     refine qs 38 hK ?_
     clear hK fr; intro fr hK
     refine qs 39 hK ?_
     clear hK fr; intro fr hK
     refine qs 40 hK ?_
     clear hK fr; intro fr hK
     refine qp 41 (.bool true) hK fun fr hK => ?_
     refine qp 42 (.bool true) hK fun fr hK => ?_
     refine qs 43 hK ?_
     clear hK fr; intro fr hK
     refine qs 44 hK ?_
     clear hK fr; intro fr hK
     refine qs 45 hK ?_
     clear hK fr; intro fr hK
     refine qs 46 hK ?_
     clear hK fr; intro fr hK
     refine qp 47 (.bool true) hK fun fr hK => ?_
     refine wpList_nil (then_n ?_)
     replace hS := hS.front 3 rfl
     replace hS := St.keep (L := [rowOf 5 1 c2r0_g c2r0_c y2.1]) (R := [.box b3 #[.int .i64 y3.2.code, .int .i64 y3.2.at_] 30, .box b2 (G_Delta_cells y3.1 (adr c3r0_commands_g) c3r0_commands_c) 27, rowOf 50 5 c3r0_commands_g c3r0_commands_c y3.1.commands, .box b1 (G_Delta_cells a0 a0_commands_a a0_commands_c) 27]) hS
     replace h := Option.some.inj h; subst h
     exact ⟨m9, rfl, hK.only [1, 5, 47], Le.refl _, hS⟩
    ·
     replace hK := hK.more (t := 37) (v' := .bool false) rfl (by rw [hb5])
     replace hK := hK.more (t := 36) (v' := .bool false) rfl (by rw [hb5])
     replace h := ite_f (not_not_intro (eq_of_bne hb5)) h
     refine qo 38 hK (s_loadAll hK.at_ hS 0 rfl rfl rfl (by kernel_rfl) ?_)
     clear hK fr; intro fr hK
     refine qp 39 (.agg #[.int .i64 0, .int .i64 0]) hK fun fr hK => ?_
     refine qr 40 (.bool (!decide (y3.2.code = 0 ∧ y3.2.at_ = 0))) hK (by exact run_binAgg rfl rfl rfl (by kernel_rfl) (eqT30n_8 _ _ _ _ _)) ?_
     clear hK fr; intro fr hK
     refine qp 41 (.bool (!decide (y3.2.code = 0 ∧ y3.2.at_ = 0))) hK fun fr hK => ?_
     refine qp 42 (.bool (!decide (y3.2.code = 0 ∧ y3.2.at_ = 0))) hK fun fr hK => ?_
     refine split_b (x := (!decide (y3.2.code = 0 ∧ y3.2.at_ = 0))) (fun hb6 => ?_) (fun hb6 => ?_)
     ·
      replace hK := hK.more (t := 42) (v' := .bool true) rfl (by rw [hb6])
      replace hK := hK.more (t := 41) (v' := .bool true) rfl (by rw [hb6])
      replace hK := hK.more (t := 40) (v' := .bool true) rfl (by rw [hb6])
      replace h := ite_t ((Bool.not_eq_true' _).mp hb6) h
      refine qs 43 hK ?_
      clear hK fr; intro fr hK
      refine qs 44 hK ?_
      clear hK fr; intro fr hK
      refine qs 45 hK ?_
      clear hK fr; intro fr hK
      refine qs 46 hK ?_
      clear hK fr; intro fr hK
      refine qp 47 (.bool true) hK fun fr hK => ?_
      refine wpList_nil (then_n ?_)
      replace hS := hS.front 3 rfl
      replace hS := St.keep (L := [rowOf 5 1 c2r0_g c2r0_c y2.1]) (R := [.box b3 #[.int .i64 y3.2.code, .int .i64 y3.2.at_] 30, .box b2 (G_Delta_cells y3.1 (adr c3r0_commands_g) c3r0_commands_c) 27, rowOf 50 5 c3r0_commands_g c3r0_commands_c y3.1.commands, .box b1 (G_Delta_cells a0 a0_commands_a a0_commands_c) 27]) hS
      replace h := Option.some.inj h; subst h
      exact ⟨m9, rfl, hK.only [1, 5, 47], Le.refl _, hS⟩
     ·
      replace hK := hK.more (t := 42) (v' := .bool false) rfl (by rw [hb6])
      replace hK := hK.more (t := 41) (v' := .bool false) rfl (by rw [hb6])
      replace hK := hK.more (t := 40) (v' := .bool false) rfl (by rw [hb6])
      replace h := ite_f (not_false_of ((Bool.not_eq_false' _).mp hb6)) h
      refine qo 43 hK (s_loadAll hK.at_ hS 1 rfl rfl rfl (by kernel_rfl) ?_)
      clear hK fr; intro fr hK
      refine qo 44 hK (s_loadAll hK.at_ hS 4 rfl rfl rfl (by kernel_rfl) ?_)
      clear hK fr; intro fr hK
      replace c3r0_commands_f := Els.mono rep_G_Command c3r0_commands_f (l6.trans (l7.trans (l8.trans l9)))
      replace a0_commands_f := Els.mono rep_G_Command a0_commands_f (l4.trans (l5.trans (l6.trans (l7.trans (l8.trans l9)))))
      obtain ⟨y6, hy8, h⟩ := bind_some h
      refine qo 45 hK (s_call hK.at_ hS ent16_8 rfl rfl rfl rfl (G.graftref05_Same_spec c3r0_commands_f a0_commands_f hy8) (by kernel_rfl) ?_)
      clear hK fr hS; rintro _ m20 _ l20 hS ⟨rfl, rfl⟩ fr hK
      replace hS : St _ m m20 [.box b3 #[.int .i64 y3.2.code, .int .i64 y3.2.at_] 30, .box b2 (G_Delta_cells y3.1 (adr c3r0_commands_g) c3r0_commands_c) 27, rowOf 50 5 c3r0_commands_g c3r0_commands_c y3.1.commands, rowOf 5 1 c2r0_g c2r0_c y2.1, .box b1 (G_Delta_cells a0 a0_commands_a a0_commands_c) 27] := hS
      refine qp 46 (.bool (!y6)) hK fun fr hK => ?_
      refine qp 47 (.bool (!y6)) hK fun fr hK => ?_
      refine wpList_nil (then_n ?_)
      replace hS := hS.front 3 rfl
      replace hS := St.keep (L := [rowOf 5 1 c2r0_g c2r0_c y2.1]) (R := [.box b3 #[.int .i64 y3.2.code, .int .i64 y3.2.at_] 30, .box b2 (G_Delta_cells y3.1 (adr c3r0_commands_g) c3r0_commands_c) 27, rowOf 50 5 c3r0_commands_g c3r0_commands_c y3.1.commands, .box b1 (G_Delta_cells a0 a0_commands_a a0_commands_c) 27]) hS
      replace h := Option.some.inj h; subst h
      exact ⟨m20, rfl, hK.only [1, 5, 47], l20, hS⟩
 ·
  replace h := hv1; clear hv1
  refine w_region ?_
  refine qo 11 hK (s_loadAll hK.at_ hS 0 rfl rfl rfl (by kernel_rfl) ?_)
  clear hK fr; intro fr hK
  replace a0_commands_f := Els.mono rep_G_Command a0_commands_f l1
  obtain ⟨y7, hy9, h⟩ := bind_some h
  refine qo 12 hK (s_call hK.at_ hS ent17_8 rfl rfl rfl rfl (G.graftref05_Few_spec a0_commands_f hy9) (by kernel_rfl) ?_)
  clear hK fr hS; rintro _ m21 _ l21 hS ⟨rfl, rfl⟩ fr hK
  replace hS : St _ m m21 [.box b1 (G_Delta_cells a0 a0_commands_a a0_commands_c) 27] := hS
  refine qp 13 (.bool (!y7)) hK fun fr hK => ?_
  refine qp 14 (.bool (!y7)) hK fun fr hK => ?_
  refine split_b (x := (!y7)) (fun hb7 => ?_) (fun hb7 => ?_)
  ·
   replace hK := hK.more (t := 14) (v' := .bool true) rfl (by rw [hb7])
   replace hK := hK.more (t := 13) (v' := .bool true) rfl (by rw [hb7])
   replace h := ite_t ((Bool.not_eq_true' _).mp hb7) h
   refine qs 15 hK ?_
   clear hK fr; intro fr hK
   refine qs 16 hK ?_
   clear hK fr; intro fr hK
   refine qs 17 hK ?_
   clear hK fr; intro fr hK
   refine qp 18 (.bool true) hK fun fr hK => ?_
   refine qp 19 (.bool true) hK fun fr hK => ?_
   refine qs 20 hK ?_
   clear hK fr; intro fr hK
   refine qs 21 hK ?_
   clear hK fr; intro fr hK
   refine qs 22 hK ?_
   clear hK fr; intro fr hK
   refine qp 23 (.bool true) hK fun fr hK => ?_
   refine wpList_nil (then_n ?_)
   replace hS : St _ m m21 [.box b1 (G_Delta_cells a0 a0_commands_a a0_commands_c) 27] := hS
   replace h := Option.some.inj h; subst h
   exact ⟨m21, rfl, hK.only [1, 2, 23], l21, hS⟩
  ·
   replace hK := hK.more (t := 14) (v' := .bool false) rfl (by rw [hb7])
   replace hK := hK.more (t := 13) (v' := .bool false) rfl (by rw [hb7])
   replace h := ite_f (not_false_of ((Bool.not_eq_false' _).mp hb7)) h
   refine qo 15 hK (s_loadAll hK.at_ hS 0 rfl rfl rfl (by kernel_rfl) ?_)
   clear hK fr; intro fr hK
   replace a0_commands_f := Els.mono rep_G_Command a0_commands_f l21
   obtain ⟨y8, hy10, h⟩ := bind_some h
   refine qo 16 hK (s_call hK.at_ hS ent18_8 rfl rfl rfl rfl (G.graftref07_Wrong_spec a0_commands_f hy10) (by kernel_rfl) ?_)
   clear hK fr hS; rintro _ m22 _ l22 hS ⟨rfl, rfl⟩ fr hK
   replace hS : St _ m m22 [.box b1 (G_Delta_cells a0 a0_commands_a a0_commands_c) 27] := hS
   refine qp 17 (.bool (y8 != 0)) hK fun fr hK => ?_
   refine qp 18 (.bool (y8 != 0)) hK fun fr hK => ?_
   refine qp 19 (.bool (y8 != 0)) hK fun fr hK => ?_
   refine split_b (x := (y8 != 0)) (fun hb8 => ?_) (fun hb8 => ?_)
   ·
    replace hK := hK.more (t := 19) (v' := .bool true) rfl (by rw [hb8])
    replace hK := hK.more (t := 18) (v' := .bool true) rfl (by rw [hb8])
    replace hK := hK.more (t := 17) (v' := .bool true) rfl (by rw [hb8])
    replace h := ite_t (ne_of_bne hb8) h
    refine qs 20 hK ?_
    clear hK fr; intro fr hK
    refine qs 21 hK ?_
    clear hK fr; intro fr hK
    refine qs 22 hK ?_
    clear hK fr; intro fr hK
    refine qp 23 (.bool true) hK fun fr hK => ?_
    refine wpList_nil (then_n ?_)
    replace hS : St _ m m22 [.box b1 (G_Delta_cells a0 a0_commands_a a0_commands_c) 27] := hS
    replace h := Option.some.inj h; subst h
    exact ⟨m22, rfl, hK.only [1, 2, 23], l21.trans l22, hS⟩
   ·
    replace hK := hK.more (t := 19) (v' := .bool false) rfl (by rw [hb8])
    replace hK := hK.more (t := 18) (v' := .bool false) rfl (by rw [hb8])
    replace hK := hK.more (t := 17) (v' := .bool false) rfl (by rw [hb8])
    replace h := ite_f (not_not_intro (eq_of_bne hb8)) h
    refine qp 20 (.slice a1_a a1.length a1_c) hK fun fr hK => ?_
    refine qp 21 (.int .i64 (a1.length : Int)) hK fun fr hK => ?_
    refine qp 22 (.bool (decide ((a1.length : Int) > 100))) hK fun fr hK => ?_
    refine qp 23 (.bool (decide ((a1.length : Int) > 100))) hK fun fr hK => ?_
    refine wpList_nil (then_n ?_)
    replace hS : St _ m m22 [.box b1 (G_Delta_cells a0 a0_commands_a a0_commands_c) 27] := hS
    replace h := Option.some.inj h; subst h
    exact ⟨m22, rfl, hK.only [1, 2, 23], l21.trans l22, hS⟩
end Go.Proofs.Ytkalbidbhaalmaa
