/- The program computes the plain functions: delta_Totals, graftref05_Totals, graftlaw05_DeltaTotals. Printed by a program. -/
import Derived.Test.YtkalbidbhaalmaaProg
import Derived.Test.YtkalbidbhaalmaaGs
import Derived.Test.YtkalbidbhaalmaaRep
import Derived.Test.YtkalbidbhaalmaaL0
import Derived.Test.YtkalbidbhaalmaaL2
import Derived.Test.YtkalbidbhaalmaaL4
namespace Go.Proofs.Ytkalbidbhaalmaa
open Go.RowKit G
theorem ent17_9 : Enters Try.prog 17 := enters_of Try.func17 (by decide +kernel) (by decide +kernel)
theorem ent23_9 : Enters Try.prog 23 := enters_of Try.func23 (by decide +kernel) (by decide +kernel)
theorem ent27_9 : Enters Try.prog 27 := enters_of Try.func27 (by decide +kernel) (by decide +kernel)
theorem ent33_9 : Enters Try.prog 33 := enters_of Try.func33 (by decide +kernel) (by decide +kernel)
theorem ent34_9 : Enters Try.prog 34 := enters_of Try.func34 (by decide +kernel) (by decide +kernel)
theorem ent71_9 : Enters Try.prog 71 := enters_of Try.func71 (by decide +kernel) (by decide +kernel)
theorem elT25_9 : ElemT Try.prog 25 50 (.agg #[.int .i64 0, .int .i64 0, .int .i64 0, .int .i64 0, .slice none 0 0]) 5 56 := ⟨by kernel_rfl, by kernel_rfl, by kernel_rfl, by decide⟩
set_option maxRecDepth 100000 in
set_option maxHeartbeats 1000000 in
theorem G.delta_Totals_spec {m : Mem} {a0 : G.Delta} {a0_commands_a : Option Addr} {a0_commands_c : Nat} (a0_commands_f : Els is_G_Command m 5 a0_commands_a a0_commands_c a0.commands) {r : Int × Int} (h : G.delta_Totals a0 = some r) :
  Spec Try.prog 33 #[.agg (G_Delta_cells a0 a0_commands_a a0_commands_c)] m [] fun v m' L => L = [] ∧ v = .tuple #[.int .i64 r.1, .int .i64 r.2] := by
 unfold G.delta_Totals at h
 refine enter (args := [_]) 32 Try.func33 rfl rfl (by simp) fun fr hK => ?_
 have hS := St.refl (Ow.nil m)
 replace hK : Kn 32 fr [(0, .agg (G_Delta_cells a0 a0_commands_a a0_commands_c))] := hK
 refine w_seq (w_region ?_)
 refine qo 1 hK (s_box hK.at_ hS rfl rfl ?_)
 clear hK fr hS; intro m1 b1 b1z l1 hS fr hK
 replace hS : St _ m m1 [.box b1 (G_Delta_cells a0 a0_commands_a a0_commands_c) 27] := hS
 refine qp 2 (.int .i64 0) hK fun fr hK => ?_
 refine qp 3 (.int .i64 0) hK fun fr hK => ?_
 refine wpListIn_nil (then_n ?_)
 refine w_seq (w_region ?_)
 refine qp 4 (.int .i64 0) hK fun fr hK => ?_
 refine wpListIn_nil (then_n ?_)
 refine w_seq ?_
 refine w_seq (w_region ?_)
 refine qp 9 (.pointer (some ⟨b1, 66, none⟩)) hK fun fr hK => ?_
 refine qo 10 hK (s_load hK.at_ hS 0 rfl rfl rfl rfl (by kernel_rfl) ?_)
 clear hK fr; intro fr hK
 refine qp 11 (.int .i64 (a0.commands.length : Int)) hK fun fr hK => ?_
 refine qp 12 (.int .i64 0) hK fun fr hK => ?_
 refine wpListIn_nil (then_n ?_)
 obtain ⟨v1, hv1, h⟩ := bind_some h
 refine w_join (fun fr ww => ∃ m2 : Mem, m2.w = ww ∧ Kn 32 fr [(1, .pointer (some ⟨b1, 0, none⟩)), (4, .int .i64 v1)] ∧ Le m1 m2 ∧ St (blocksOf []) m m2 [.box b1 (G_Delta_cells a0 a0_commands_a a0_commands_c) 27]) ?_ ?_
 ·
  clear hK hS fr hv1
  rintro fr _ ⟨m2, rfl, hK, l2, hS⟩
  refine then_n ?_
  refine w_seq ?_
  replace a0_commands_f := Els.mono rep_G_Command a0_commands_f (l1.trans l2)
  have hlt0 : ∀ bq ∈ blocksOf [.box b1 (G_Delta_cells a0 a0_commands_a a0_commands_c) 27], bq < m2.w.heap.size := fun bq hbq => hS.ow.lt hbq
  refine D.wp_draw (Gr := D.GO m2 none) (S := D.SO none (blocksOf []) m m2 (fun _ => [.box b1 (G_Delta_cells a0 a0_commands_a a0_commands_c) 27]) (fun _ => True)) (N := 0) 6 [] [([(4, none)], 0, 0, false), ([(1, none)], 0, 0, false), ([(28, some 0)], 0, 0, false), ([(4, none)], 0, 0, false), ([(29, some 1), (30, some 0)], 0, 0, false), ([(27, some 4)], 0, 0, false)] hK.size (by kernel_rfl) (by kernel_rfl) (by kernel_rfl) rfl (D.startO hS trivial) ?_
  refine D.on_pure (D.GO_refl _ _) [(4, .int .i64 v1)] (.int .i64 v1) (fun ac ww hk => (.cons (hk.1.trans (hK.at_ 4 _ rfl)) (.nil _))) ?_
  refine D.on_pure (D.GO_refl _ _) [(1, .pointer (some ⟨b1, 0, none⟩))] (.pointer (some ⟨b1, 1, none⟩)) (fun ac ww hk => (.cons (hk.1.trans (hK.at_ 1 _ rfl)) (.nil _))) ?_
  refine D.on_det (D.GO_refl _ _) [(28, .pointer (some ⟨b1, 1, none⟩))] (.int .i64 a0.newLen) (fun ac ww hk => (.cons (hk.1) (.nil _))) (fun ac ww kk hb hKe Post hp => (fun hS => s_load hKe hS 0 rfl rfl rfl rfl (by kernel_rfl) hp) hb.2.1) ?_
  refine D.on_pure (D.GO_refl _ _) [(4, .int .i64 v1)] (.int .i64 v1) (fun ac ww hk => (.cons (hk.1.trans (hK.at_ 4 _ rfl)) (.nil _))) ?_
  refine D.on_pure (D.GO_refl _ _) [(29, .int .i64 a0.newLen), (30, .int .i64 v1)] (.int .i64 (IntKind.i64.wrap (a0.newLen - v1))) (fun ac ww hk => (.cons (hk.1) (.cons (hk.2.1) (.nil _)))) ?_
  refine D.on_pure (D.GO_refl _ _) [(27, .int .i64 v1)] (.int .i64 v1) (fun ac ww hk => (.cons (hk.1) (.nil _))) ?_
  refine D.finO ?_
  intro fr2 m3 hm1 l3 hS2 hF2 hE
  replace hS2 : St _ m m3 [.box b1 (G_Delta_cells a0 a0_commands_a a0_commands_c) 27] := hS2
  have hK2 := D.kn_ends [(27, .int .i64 v1), (28, .pointer (some ⟨b1, 1, none⟩)), (29, .int .i64 a0.newLen), (30, .int .i64 v1), (31, .int .i64 (IntKind.i64.wrap (a0.newLen - v1))), (2, .int .i64 v1)] hK hE rfl (by kernel_rfl) (.cons (hE.slots 27) (.cons (hE.slots 28) (.cons (hE.slots 29) (.cons (hE.slots 30) (.cons (hE.slots 31) (.cons (hE.slots 2) (.nil _)))))))
  replace hK2 : Kn 32 fr2 [(27, .int .i64 v1), (28, .pointer (some ⟨b1, 1, none⟩)), (29, .int .i64 a0.newLen), (30, .int .i64 v1), (31, .int .i64 (IntKind.i64.wrap (a0.newLen - v1))), (2, .int .i64 v1), (1, .pointer (some ⟨b1, 0, none⟩)), (4, .int .i64 v1)] := hK2.only [27, 28, 29, 30, 31, 2, 1, 4]
  clear hE hK; revert hK2; clear hm1 hS hlt0; revert fr2; clear fr; intro fr hK; have hS := hS2; clear hS2
  replace hS : St _ m m3 [.box b1 (G_Delta_cells a0 a0_commands_a a0_commands_c) 27] := hS
  refine qp 3 (.int .i64 (IntKind.i64.wrap (a0.newLen - v1))) hK fun fr hK => ?_
  refine wpListIn_nil (then_n ?_)
  refine wpIn_ret ?_
  replace h := Option.some.inj h; subst h
  refine ret_of [.tmp 2, .tmp 3] [.int .i64 v1, .int .i64 (IntKind.i64.wrap (a0.newLen - v1))] rfl hK (.tmp rfl (.tmp rfl .nil)) hS.dropAll ?_
  exact ⟨rfl, rfl⟩
 ·
  replace h := hv1; clear hv1
  refine wpIn_block ?_
  replace hS : St _ m m1 [.box b1 (G_Delta_cells a0 a0_commands_a a0_commands_c) 27] := hS
  refine w_loopL h (fun (s1 : Int × Int) fr ww => ∃ m4 : Mem, m4.w = ww ∧ Kn 32 fr [(1, .pointer (some ⟨b1, 0, none⟩)), (4, .int .i64 s1.1), (10, .slice a0_commands_a a0.commands.length a0_commands_c), (11, .int .i64 (a0.commands.length : Int)), (12, .int .i64 s1.2)] ∧ Le m1 m4 ∧ St (blocksOf []) m m4 [.box b1 (G_Delta_cells a0 a0_commands_a a0_commands_c) 27]) ?_ ?_
  · exact ⟨m1, rfl, hK.only [1, 4, 10, 11, 12], Le.refl _, hS⟩
  clear hK hS fr h
  rintro k1 s1 x1 fr _ ⟨m4, rfl, hK, l4, hS⟩ h hn1
  unfold G.delta_Totals_l1 at h
  refine w_seq (w_region ?_)
  refine qp 13 (.bool (decide (s1.2 < (a0.commands.length : Int)))) hK fun fr hK => ?_
  refine wpListIn_nil (then_n ?_)
  refine w_seq ?_
  refine w_cond hK rfl (fun hb1 => ?_) (fun hb1 => ?_)
  ·
   replace hK := hK.more (t := 13) (v' := .bool true) rfl (by rw [hb1])
   replace h := ite_t (of_decide_eq_true hb1) h
   refine wpIn_skip ?_
   refine then_n ?_
   refine w_seq ?_
   refine wpIn_block ?_
   refine w_seq (w_region ?_)
   replace a0_commands_f := Els.mono rep_G_Command a0_commands_f (l1.trans l4)
   obtain ⟨x2, hy1, h⟩ := bind_some h
   refine qo 14 hK (s_idx elT25_9 a0_commands_f hy1 hK.at_ rfl rfl rfl ?_)
   clear hK fr; intro b2 p1 cs1 hR1 hA1 fr hK
   obtain ⟨e1_data_a, e1_data_c, rfl, e1_data_f⟩ := hR1
   refine qo 15 hK (s_loadAtN [.int .i64 x2.kind, .int .i64 x2.to, .int .i64 x2.from_, .int .i64 x2.len, .slice e1_data_a x2.data.length e1_data_c] hK.at_ hA1 0 rfl rfl rfl (by kernel_rfl) (by kernel_rfl) ?_)
   clear hK fr; intro fr hK
   refine qo 6 hK (s_alloc (.agg #[.int .i64 0, .int .i64 0, .int .i64 0, .int .i64 0, .slice none 0 0]) hK.at_ hS rfl (by kernel_rfl) ?_)
   clear hK fr hS; intro m5 b3 b3z l5 hS fr hK
   refine qo0 hK (s_storeAll hK.at_ 0 hS rfl rfl rfl rfl (by kernel_rfl) (by kernel_rfl) (by kernel_rfl) ?_)
   clear hK fr hS; intro m6 l6 hS fr hK
   replace hS : St _ m m6 [.box b3 #[.int .i64 x2.kind, .int .i64 x2.to, .int .i64 x2.from_, .int .i64 x2.len, .slice e1_data_a x2.data.length e1_data_c] 50, .box b1 (G_Delta_cells a0 a0_commands_a a0_commands_c) 27] := hS
   refine wpListIn_nil (then_n ?_)
   refine w_seq (w_region ?_)
   refine qo 17 hK (s_loadAll hK.at_ hS 0 rfl rfl rfl (by kernel_rfl) ?_)
   clear hK fr; intro fr hK
   replace e1_data_f := Els.mono rep_U8 e1_data_f (l5.trans l6)
   obtain ⟨y1, hy2, h⟩ := bind_some h
   refine qo 18 hK (s_call hK.at_ hS ent71_9 rfl rfl rfl rfl (G.command_Source_spec e1_data_f hy2) (by kernel_rfl) ?_)
   clear hK fr hS; rintro _ m7 _ l7 hS ⟨rfl, rfl⟩ fr hK
   refine qp 16 (.tuple #[.agg #[.int .i64 y1.1.off, .int .i64 y1.1.len], .bool y1.2]) hK fun fr hK => ?_
   refine qp 19 (.agg #[.int .i64 y1.1.off, .int .i64 y1.1.len]) hK fun fr hK => ?_
   refine qp 20 (.bool y1.2) hK fun fr hK => ?_
   refine qo 7 hK (s_alloc (.agg #[.int .i64 0, .int .i64 0]) hK.at_ hS rfl (by kernel_rfl) ?_)
   clear hK fr hS; intro m8 b4 b4z l8 hS fr hK
   refine qo0 hK (s_storeAll hK.at_ 0 hS rfl rfl rfl rfl (by kernel_rfl) (by kernel_rfl) (by kernel_rfl) ?_)
   clear hK fr hS; intro m9 l9 hS fr hK
   replace hS : St _ m m9 [.box b4 #[.int .i64 y1.1.off, .int .i64 y1.1.len] 91, .box b3 #[.int .i64 x2.kind, .int .i64 x2.to, .int .i64 x2.from_, .int .i64 x2.len, .slice e1_data_a x2.data.length e1_data_c] 50, .box b1 (G_Delta_cells a0 a0_commands_a a0_commands_c) 27] := hS
   refine qp 8 (.bool y1.2) hK fun fr hK => ?_
   refine wpListIn_nil (then_n ?_)
   refine w_seq (w_region ?_)
   refine qp 21 (.bool y1.2) hK fun fr hK => ?_
   refine wpListIn_nil (then_n ?_)
   refine w_cond hK rfl (fun hb2 => ?_) (fun hb2 => ?_)
   ·
    replace hK := hK.more (t := 21) (v' := .bool true) rfl (by rw [hb2])
    replace hK := hK.more (t := 8) (v' := .bool true) rfl (by rw [hb2])
    replace hK := hK.more (t := 20) (v' := .bool true) rfl (by rw [hb2])
    replace h := ite_t (hb2) h
    refine w_region ?_
    refine qp 22 (.int .i64 s1.1) hK fun fr hK => ?_
    refine qp 23 (.pointer (some ⟨b4, 1, none⟩)) hK fun fr hK => ?_
    refine qo 24 hK (s_load hK.at_ hS 0 rfl rfl rfl rfl (by kernel_rfl) ?_)
    clear hK fr; intro fr hK
    refine qp 25 (.int .i64 (IntKind.i64.wrap (s1.1 + y1.1.len))) hK fun fr hK => ?_
    refine qp 4 (.int .i64 (IntKind.i64.wrap (s1.1 + y1.1.len))) hK fun fr hK => ?_
    refine wpListIn_nil ?_
    refine blk_n ?_
    refine then_n ?_
    refine w_region ?_
    refine qp 26 (.int .i64 (IntKind.i64.wrap (s1.2 + 1))) hK fun fr hK => ?_
    refine qp 12 (.int .i64 (IntKind.i64.wrap (s1.2 + 1))) hK fun fr hK => ?_
    refine wpListIn_nil (then_n ?_)
    replace hS := hS.front 2 rfl
    replace hS := St.keep (L := [.box b1 (G_Delta_cells a0 a0_commands_a a0_commands_c) 27]) (R := [.box b4 #[.int .i64 y1.1.off, .int .i64 y1.1.len] 91, .box b3 #[.int .i64 x2.kind, .int .i64 x2.to, .int .i64 x2.from_, .int .i64 x2.len, .slice e1_data_a x2.data.length e1_data_c] 50]) hS
    replace h := Option.some.inj h; subst h
    obtain ⟨kq, hk1, hk2⟩ := hn1
    exact ⟨kq, hk1, _, hk2, m9, rfl, hK.only [1, 4, 10, 11, 12], l4.trans (l5.trans (l6.trans (l7.trans (l8.trans l9)))), hS⟩
   ·
    replace hK := hK.more (t := 21) (v' := .bool false) rfl (by rw [hb2])
    replace hK := hK.more (t := 8) (v' := .bool false) rfl (by rw [hb2])
    replace hK := hK.more (t := 20) (v' := .bool false) rfl (by rw [hb2])
    replace h := ite_f (ne_true_of_eq_false hb2) h
    refine wpIn_skip ?_
    refine blk_n ?_
    refine then_n ?_
    refine w_region ?_
    refine qp 26 (.int .i64 (IntKind.i64.wrap (s1.2 + 1))) hK fun fr hK => ?_
    refine qp 12 (.int .i64 (IntKind.i64.wrap (s1.2 + 1))) hK fun fr hK => ?_
    refine wpListIn_nil (then_n ?_)
    replace hS := hS.front 2 rfl
    replace hS := St.keep (L := [.box b1 (G_Delta_cells a0 a0_commands_a a0_commands_c) 27]) (R := [.box b4 #[.int .i64 y1.1.off, .int .i64 y1.1.len] 91, .box b3 #[.int .i64 x2.kind, .int .i64 x2.to, .int .i64 x2.from_, .int .i64 x2.len, .slice e1_data_a x2.data.length e1_data_c] 50]) hS
    replace h := Option.some.inj h; subst h
    obtain ⟨kq, hk1, hk2⟩ := hn1
    exact ⟨kq, hk1, _, hk2, m9, rfl, hK.only [1, 4, 10, 11, 12], l4.trans (l5.trans (l6.trans (l7.trans (l8.trans l9)))), hS⟩
  ·
   replace hK := hK.more (t := 13) (v' := .bool false) rfl (by rw [hb1])
   replace h := ite_f (of_decide_eq_false hb1) h
   refine wpIn_exit ?_
   refine then_x ?_
   refine then_x ?_
   refine blk_e ?_
   refine then_n ?_
   replace hS : St _ m m4 [.box b1 (G_Delta_cells a0 a0_commands_a a0_commands_c) 27] := hS
   replace h := Option.some.inj h; subst h
   replace h := Option.some.inj (loop_out hn1); subst h
   exact ⟨m4, rfl, hK.only [1, 4], l4, hS⟩
set_option maxRecDepth 100000 in
set_option maxHeartbeats 1000000 in
theorem G.graftref05_Totals_spec {m : Mem} {a0 : G.Delta} {a0_commands_a : Option Addr} {a0_commands_c : Nat} (a0_commands_f : Els is_G_Command m 5 a0_commands_a a0_commands_c a0.commands) {r : Int × Int} (h : G.graftref05_Totals a0 = some r) :
  Spec Try.prog 34 #[.agg (G_Delta_cells a0 a0_commands_a a0_commands_c)] m [] fun v m' L => L = [] ∧ v = .tuple #[.int .i64 r.1, .int .i64 r.2] := by
 unfold G.graftref05_Totals at h
 refine enter (args := [_]) 40 Try.func34 rfl rfl (by simp) fun fr hK => ?_
 have hS := St.refl (Ow.nil m)
 replace hK : Kn 40 fr [(0, .agg (G_Delta_cells a0 a0_commands_a a0_commands_c))] := hK
 refine w_seq (w_region ?_)
 refine qo 1 hK (s_box hK.at_ hS rfl rfl ?_)
 clear hK fr hS; intro m1 b1 b1z l1 hS fr hK
 replace hS : St _ m m1 [.box b1 (G_Delta_cells a0 a0_commands_a a0_commands_c) 27] := hS
 refine qp 2 (.int .i64 0) hK fun fr hK => ?_
 refine qp 3 (.int .i64 0) hK fun fr hK => ?_
 refine wpListIn_nil (then_n ?_)
 refine w_seq (w_region ?_)
 refine qp 4 (.int .i64 0) hK fun fr hK => ?_
 refine wpListIn_nil (then_n ?_)
 refine w_seq (w_region ?_)
 refine qp 5 (.int .i64 0) hK fun fr hK => ?_
 refine wpListIn_nil (then_n ?_)
 refine w_seq ?_
 refine w_seq (w_region ?_)
 refine qp 6 (.int .i64 0) hK fun fr hK => ?_
 refine wpListIn_nil (then_n ?_)
 obtain ⟨v1, hv1, h⟩ := bind_some h
 refine w_join (fun fr ww => ∃ m2 : Mem, m2.w = ww ∧ Kn 40 fr [(4, .int .i64 v1.1), (5, .int .i64 v1.2)] ∧ Le m1 m2 ∧ St (blocksOf []) m m2 []) ?_ ?_
 ·
  clear hK hS fr hv1
  rintro fr _ ⟨m2, rfl, hK, l2, hS⟩
  refine then_n ?_
  refine w_seq (w_region ?_)
  refine qp 38 (.int .i64 v1.1) hK fun fr hK => ?_
  refine qp 39 (.int .i64 v1.2) hK fun fr hK => ?_
  refine qp 2 (.int .i64 v1.1) hK fun fr hK => ?_
  refine qp 3 (.int .i64 v1.2) hK fun fr hK => ?_
  refine wpListIn_nil (then_n ?_)
  refine wpIn_ret ?_
  replace h := Option.some.inj h; subst h
  refine ret_of [.tmp 2, .tmp 3] [.int .i64 v1.1, .int .i64 v1.2] rfl hK (.tmp rfl (.tmp rfl .nil)) hS.dropAll ?_
  exact ⟨rfl, rfl⟩
 ·
  replace h := hv1; clear hv1
  refine wpIn_block ?_
  replace hS : St _ m m1 [.box b1 (G_Delta_cells a0 a0_commands_a a0_commands_c) 27] := hS
  refine w_loopL h (fun (s1 : Int × Int × Int) fr ww => ∃ m3 : Mem, m3.w = ww ∧ Kn 40 fr [(1, .pointer (some ⟨b1, 0, none⟩)), (4, .int .i64 s1.1), (5, .int .i64 s1.2.1), (6, .int .i64 s1.2.2)] ∧ Le m1 m3 ∧ St (blocksOf []) m m3 [.box b1 (G_Delta_cells a0 a0_commands_a a0_commands_c) 27]) ?_ ?_
  · exact ⟨m1, rfl, hK.only [1, 4, 5, 6], Le.refl _, hS⟩
  clear hK hS fr h
  rintro k1 s1 x1 fr _ ⟨m3, rfl, hK, l3, hS⟩ h hn1
  unfold G.graftref05_Totals_l1 at h
  refine w_seq ?_
  refine w_seq (w_region ?_)
  refine qp 7 (.int .i64 s1.2.2) hK fun fr hK => ?_
  refine qp 8 (.pointer (some ⟨b1, 66, none⟩)) hK fun fr hK => ?_
  refine qo 9 hK (s_load hK.at_ hS 0 rfl rfl rfl rfl (by kernel_rfl) ?_)
  clear hK fr; intro fr hK
  refine qp 10 (.int .i64 (a0.commands.length : Int)) hK fun fr hK => ?_
  refine qp 11 (.bool (decide (s1.2.2 < (a0.commands.length : Int)))) hK fun fr hK => ?_
  refine wpListIn_nil (then_n ?_)
  refine w_cond hK rfl (fun hb1 => ?_) (fun hb1 => ?_)
  ·
   replace hK := hK.more (t := 11) (v' := .bool true) rfl (by rw [hb1])
   replace h := ite_t (of_decide_eq_true hb1) h
   refine wpIn_skip ?_
   refine then_n ?_
   refine w_seq ?_
   refine wpIn_block ?_
   refine w_seq (w_region ?_)
   refine qp 14 (.pointer (some ⟨b1, 66, none⟩)) hK fun fr hK => ?_
   refine qo 15 hK (s_load hK.at_ hS 0 rfl rfl rfl rfl (by kernel_rfl) ?_)
   clear hK fr; intro fr hK
   refine qp 16 (.int .i64 s1.2.2) hK fun fr hK => ?_
   replace a0_commands_f := Els.mono rep_G_Command a0_commands_f (l1.trans l3)
   obtain ⟨x2, hy1, h⟩ := bind_some h
   refine qo 17 hK (s_idx elT25_9 a0_commands_f hy1 hK.at_ rfl rfl rfl ?_)
   clear hK fr; intro b2 p1 cs1 hR1 hA1 fr hK
   obtain ⟨e1_data_a, e1_data_c, rfl, e1_data_f⟩ := hR1
   refine qp 18 (.pointer (some ⟨b2, p1, none⟩)) hK fun fr hK => ?_
   refine qo 19 hK (s_loadAt hK.at_ hA1 0 rfl rfl rfl rfl (by kernel_rfl) ?_)
   clear hK fr; intro fr hK
   refine qp 20 (.bool (x2.kind == 1)) hK fun fr hK => ?_
   refine wpListIn_nil (then_n ?_)
   refine w_cond hK rfl (fun hb2 => ?_) (fun hb2 => ?_)
   ·
    replace hK := hK.more (t := 20) (v' := .bool true) rfl (by rw [hb2])
    replace h := ite_t (eq_of_beq hb2) h
    refine w_region ?_
    refine qp 21 (.int .i64 s1.1) hK fun fr hK => ?_
    refine qp 22 (.pointer (some ⟨b1, 66, none⟩)) hK fun fr hK => ?_
    refine qo 23 hK (s_load hK.at_ hS 0 rfl rfl rfl rfl (by kernel_rfl) ?_)
    clear hK fr; intro fr hK
    refine qp 24 (.int .i64 s1.2.2) hK fun fr hK => ?_
    obtain ⟨x3, hy2, h⟩ := bind_some h
    refine qo 25 hK (s_idx elT25_9 a0_commands_f hy2 hK.at_ rfl rfl rfl ?_)
    clear hK fr; intro b3 p2 cs2 hR2 hA2 fr hK
    obtain ⟨e2_data_a, e2_data_c, rfl, e2_data_f⟩ := hR2
    refine qp 26 (.pointer (some ⟨b3, p2 + 3, none⟩)) hK fun fr hK => ?_
    refine qo 27 hK (s_loadAt hK.at_ hA2 3 rfl rfl rfl rfl (by kernel_rfl) ?_)
    clear hK fr; intro fr hK
    refine qp 28 (.int .i64 (IntKind.i64.wrap (s1.1 + x3.len))) hK fun fr hK => ?_
    refine qp 4 (.int .i64 (IntKind.i64.wrap (s1.1 + x3.len))) hK fun fr hK => ?_
    refine wpListIn_nil ?_
    refine blk_n ?_
    refine then_n ?_
    refine w_region ?_
    refine qp 12 (.int .i64 s1.2.2) hK fun fr hK => ?_
    refine qp 13 (.int .i64 (IntKind.i64.wrap (s1.2.2 + 1))) hK fun fr hK => ?_
    refine qp 6 (.int .i64 (IntKind.i64.wrap (s1.2.2 + 1))) hK fun fr hK => ?_
    refine wpListIn_nil (then_n ?_)
    replace hS : St _ m m3 [.box b1 (G_Delta_cells a0 a0_commands_a a0_commands_c) 27] := hS
    replace h := Option.some.inj h; subst h
    obtain ⟨kq, hk1, hk2⟩ := hn1
    exact ⟨kq, hk1, _, hk2, m3, rfl, hK.only [1, 4, 5, 6], l3, hS⟩
   ·
    replace hK := hK.more (t := 20) (v' := .bool false) rfl (by rw [hb2])
    replace h := ite_f (ne_of_beq_false hb2) h
    refine w_region ?_
    refine qp 29 (.int .i64 s1.2.1) hK fun fr hK => ?_
    refine qp 30 (.pointer (some ⟨b1, 66, none⟩)) hK fun fr hK => ?_
    refine qo 31 hK (s_load hK.at_ hS 0 rfl rfl rfl rfl (by kernel_rfl) ?_)
    clear hK fr; intro fr hK
    refine qp 32 (.int .i64 s1.2.2) hK fun fr hK => ?_
    obtain ⟨x4, hy3, h⟩ := bind_some h
    refine qo 33 hK (s_idx elT25_9 a0_commands_f hy3 hK.at_ rfl rfl rfl ?_)
    clear hK fr; intro b4 p3 cs3 hR3 hA3 fr hK
    obtain ⟨e3_data_a, e3_data_c, rfl, e3_data_f⟩ := hR3
    refine qp 34 (.pointer (some ⟨b4, p3 + 4, none⟩)) hK fun fr hK => ?_
    refine qo 35 hK (s_loadAt hK.at_ hA3 4 rfl rfl rfl rfl (by kernel_rfl) ?_)
    clear hK fr; intro fr hK
    refine qp 36 (.int .i64 (x4.data.length : Int)) hK fun fr hK => ?_
    refine qp 37 (.int .i64 (IntKind.i64.wrap (s1.2.1 + (x4.data.length : Int)))) hK fun fr hK => ?_
    refine qp 5 (.int .i64 (IntKind.i64.wrap (s1.2.1 + (x4.data.length : Int)))) hK fun fr hK => ?_
    refine wpListIn_nil ?_
    refine blk_n ?_
    refine then_n ?_
    refine w_region ?_
    refine qp 12 (.int .i64 s1.2.2) hK fun fr hK => ?_
    refine qp 13 (.int .i64 (IntKind.i64.wrap (s1.2.2 + 1))) hK fun fr hK => ?_
    refine qp 6 (.int .i64 (IntKind.i64.wrap (s1.2.2 + 1))) hK fun fr hK => ?_
    refine wpListIn_nil (then_n ?_)
    replace hS : St _ m m3 [.box b1 (G_Delta_cells a0 a0_commands_a a0_commands_c) 27] := hS
    replace h := Option.some.inj h; subst h
    obtain ⟨kq, hk1, hk2⟩ := hn1
    exact ⟨kq, hk1, _, hk2, m3, rfl, hK.only [1, 4, 5, 6], l3, hS⟩
  ·
   replace hK := hK.more (t := 11) (v' := .bool false) rfl (by rw [hb1])
   replace h := ite_f (of_decide_eq_false hb1) h
   refine wpIn_exit ?_
   refine then_x ?_
   refine then_x ?_
   refine blk_e ?_
   refine then_n ?_
   replace hS := St.keep (L := []) (R := [.box b1 (G_Delta_cells a0 a0_commands_a a0_commands_c) 27]) hS
   replace h := Option.some.inj h; subst h
   replace h := Option.some.inj (loop_out hn1); subst h
   exact ⟨m3, rfl, hK.only [4, 5], l3, hS⟩
set_option maxRecDepth 100000 in
set_option maxHeartbeats 1000000 in
theorem G.graftlaw05_DeltaTotals_spec {m : Mem} {a0 : G.Delta} {a0_commands_a : Option Addr} {a0_commands_c : Nat} (a0_commands_f : Els is_G_Command m 5 a0_commands_a a0_commands_c a0.commands) {r : Bool} (h : G.graftlaw05_DeltaTotals a0 = some r) :
  Spec Try.prog 11 #[.agg (G_Delta_cells a0 a0_commands_a a0_commands_c)] m [] fun v m' L => L = [] ∧ v = .bool r := by
 unfold G.graftlaw05_DeltaTotals at h
 refine enter (args := [_]) 45 Try.func11 rfl rfl (by simp) fun fr hK => ?_
 have hS := St.refl (Ow.nil m)
 replace hK : Kn 45 fr [(0, .agg (G_Delta_cells a0 a0_commands_a a0_commands_c))] := hK
 refine w_seq (w_region ?_)
 refine qo 1 hK (s_box hK.at_ hS rfl rfl ?_)
 clear hK fr hS; intro m1 b1 b1z l1 hS fr hK
 replace hS : St _ m m1 [.box b1 (G_Delta_cells a0 a0_commands_a a0_commands_c) 27] := hS
 refine qp 2 (.bool false) hK fun fr hK => ?_
 refine wpListIn_nil (then_n ?_)
 refine w_seq ?_
 refine w_seq ?_
 obtain ⟨v1, hv1, h⟩ := bind_some h
 refine w_join (fun fr ww => ∃ m2 : Mem, m2.w = ww ∧ Kn 45 fr [(1, .pointer (some ⟨b1, 0, none⟩)), (14, .bool v1)] ∧ Le m1 m2 ∧ St (blocksOf []) m m2 [.box b1 (G_Delta_cells a0 a0_commands_a a0_commands_c) 27]) ?_ ?_
 ·
  clear hK hS fr hv1
  rintro fr _ ⟨m2, rfl, hK, l2, hS⟩
  refine then_n ?_
  refine w_cond hK rfl (fun hb1 => ?_) (fun hb1 => ?_)
  ·
   replace hK := hK.more (t := 14) (v' := .bool true) rfl (by rw [hb1])
   replace h := ite_t (hb1) h
   refine w_seq (w_region ?_)
   obtain ⟨y1, hy1, h⟩ := bind_some h
   refine qo 15 hK (s_call hK.at_ hS ent23_9 rfl rfl rfl rfl (G.graftlaw05_alive_spec hy1) (by kernel_rfl) ?_)
   clear hK fr hS; rintro _ m3 _ l3 hS ⟨rfl, rfl⟩ fr hK
   replace hS : St _ m m3 [.box b1 (G_Delta_cells a0 a0_commands_a a0_commands_c) 27] := hS
   refine qp 2 (.bool y1) hK fun fr hK => ?_
   refine wpListIn_nil (then_n ?_)
   refine wpIn_ret ?_
   refine then_r ?_
   replace h := Option.some.inj h; subst h
   refine ret_of [.tmp 2] [.bool y1] rfl hK (.tmp rfl .nil) hS.dropAll ?_
   exact ⟨rfl, rfl⟩
  ·
   replace hK := hK.more (t := 14) (v' := .bool false) rfl (by rw [hb1])
   replace h := ite_f (ne_true_of_eq_false hb1) h
   refine wpIn_skip ?_
   refine then_n ?_
   refine w_seq (w_region ?_)
   refine qo 17 hK (s_loadAll hK.at_ hS 0 rfl rfl rfl (by kernel_rfl) ?_)
   clear hK fr; intro fr hK
   replace a0_commands_f := Els.mono rep_G_Command a0_commands_f (l1.trans l2)
   obtain ⟨y2, hy2, h⟩ := bind_some h
   refine qo 18 hK (s_call hK.at_ hS ent33_9 rfl rfl rfl rfl (G.delta_Totals_spec a0_commands_f hy2) (by kernel_rfl) ?_)
   clear hK fr hS; rintro _ m4 _ l4 hS ⟨rfl, rfl⟩ fr hK
   replace hS : St _ m m4 [.box b1 (G_Delta_cells a0 a0_commands_a a0_commands_c) 27] := hS
   refine qp 16 (.tuple #[.int .i64 y2.1, .int .i64 y2.2]) hK fun fr hK => ?_
   refine qp 19 (.int .i64 y2.1) hK fun fr hK => ?_
   refine qp 20 (.int .i64 y2.2) hK fun fr hK => ?_
   refine qp 3 (.int .i64 y2.1) hK fun fr hK => ?_
   refine qp 4 (.int .i64 y2.2) hK fun fr hK => ?_
   refine wpListIn_nil (then_n ?_)
   refine w_seq (w_region ?_)
   refine qo 22 hK (s_loadAll hK.at_ hS 0 rfl rfl rfl (by kernel_rfl) ?_)
   clear hK fr; intro fr hK
   replace a0_commands_f := Els.mono rep_G_Command a0_commands_f l4
   obtain ⟨y3, hy3, h⟩ := bind_some h
   refine qo 23 hK (s_call hK.at_ hS ent34_9 rfl rfl rfl rfl (G.graftref05_Totals_spec a0_commands_f hy3) (by kernel_rfl) ?_)
   clear hK fr hS; rintro _ m5 _ l5 hS ⟨rfl, rfl⟩ fr hK
   replace hS : St _ m m5 [.box b1 (G_Delta_cells a0 a0_commands_a a0_commands_c) 27] := hS
   refine qp 21 (.tuple #[.int .i64 y3.1, .int .i64 y3.2]) hK fun fr hK => ?_
   refine qp 24 (.int .i64 y3.1) hK fun fr hK => ?_
   refine qp 25 (.int .i64 y3.2) hK fun fr hK => ?_
   refine qp 5 (.int .i64 y3.1) hK fun fr hK => ?_
   refine qp 6 (.int .i64 y3.2) hK fun fr hK => ?_
   refine wpListIn_nil (then_n ?_)
   refine w_seq (w_region ?_)
   obtain ⟨y4, hy4, h⟩ := bind_some h
   refine qo 26 hK (s_call hK.at_ hS ent23_9 rfl rfl rfl rfl (G.graftlaw05_alive_spec hy4) (by kernel_rfl) ?_)
   clear hK fr hS; rintro _ m6 _ l6 hS ⟨rfl, rfl⟩ fr hK
   replace hS : St _ m m6 [.box b1 (G_Delta_cells a0 a0_commands_a a0_commands_c) 27] := hS
   refine qp 27 (.bool y4) hK fun fr hK => ?_
   refine split_b (x := y4) (fun hb2 => ?_) (fun hb2 => ?_)
   ·
    replace hK := hK.more (t := 27) (v' := .bool true) rfl (by rw [hb2])
    replace hK := hK.more (t := 26) (v' := .bool true) rfl (by rw [hb2])
    replace h := ite_t (hb2) h
    refine qp 28 (.int .i64 y2.1) hK fun fr hK => ?_
    refine qp 29 (.int .i64 y3.1) hK fun fr hK => ?_
    refine qp 30 (.bool (y2.1 == y3.1)) hK fun fr hK => ?_
    refine qp 31 (.bool (y2.1 == y3.1)) hK fun fr hK => ?_
    refine qp 32 (.bool (y2.1 == y3.1)) hK fun fr hK => ?_
    refine split_b (x := (y2.1 == y3.1)) (fun hb3 => ?_) (fun hb3 => ?_)
    ·
     replace hK := hK.more (t := 32) (v' := .bool true) rfl (by rw [hb3])
     replace hK := hK.more (t := 31) (v' := .bool true) rfl (by rw [hb3])
     replace hK := hK.more (t := 30) (v' := .bool true) rfl (by rw [hb3])
     replace h := ite_t (eq_of_beq hb3) h
     refine qp 33 (.int .i64 y2.2) hK fun fr hK => ?_
     refine qp 34 (.int .i64 y3.2) hK fun fr hK => ?_
     refine qp 35 (.bool (y2.2 == y3.2)) hK fun fr hK => ?_
     refine qp 36 (.bool (y2.2 == y3.2)) hK fun fr hK => ?_
     refine qp 37 (.bool (y2.2 == y3.2)) hK fun fr hK => ?_
     refine split_b (x := (y2.2 == y3.2)) (fun hb4 => ?_) (fun hb4 => ?_)
     ·
      replace hK := hK.more (t := 37) (v' := .bool true) rfl (by rw [hb4])
      replace hK := hK.more (t := 36) (v' := .bool true) rfl (by rw [hb4])
      replace hK := hK.more (t := 35) (v' := .bool true) rfl (by rw [hb4])
      replace h := ite_t (eq_of_beq hb4) h
      refine qp 38 (.int .i64 y2.1) hK fun fr hK => ?_
      refine qp 39 (.int .i64 y2.2) hK fun fr hK => ?_
      refine qp 40 (.int .i64 (IntKind.i64.wrap (y2.1 + y2.2))) hK fun fr hK => ?_
      refine qp 41 (.pointer (some ⟨b1, 1, none⟩)) hK fun fr hK => ?_
      refine qo 42 hK (s_load hK.at_ hS 0 rfl rfl rfl rfl (by kernel_rfl) ?_)
      clear hK fr; intro fr hK
      refine qp 43 (.bool ((IntKind.i64.wrap (y2.1 + y2.2)) == a0.newLen)) hK fun fr hK => ?_
      refine qp 44 (.bool ((IntKind.i64.wrap (y2.1 + y2.2)) == a0.newLen)) hK fun fr hK => ?_
      refine qp 2 (.bool ((IntKind.i64.wrap (y2.1 + y2.2)) == a0.newLen)) hK fun fr hK => ?_
      refine wpListIn_nil (then_n ?_)
      refine wpIn_ret ?_
      replace h := Option.some.inj h; subst h
      refine ret_of [.tmp 2] [.bool ((IntKind.i64.wrap (y2.1 + y2.2)) == a0.newLen)] rfl hK (.tmp rfl .nil) hS.dropAll ?_
      exact ⟨rfl, rfl⟩
     ·
      replace hK := hK.more (t := 37) (v' := .bool false) rfl (by rw [hb4])
      replace hK := hK.more (t := 36) (v' := .bool false) rfl (by rw [hb4])
      replace hK := hK.more (t := 35) (v' := .bool false) rfl (by rw [hb4])
      replace h := ite_f (ne_of_beq_false hb4) h
      refine qs 38 hK ?_
      clear hK fr; intro fr hK
      refine qs 39 hK ?_
      clear hK fr; intro fr hK
      refine qs 40 hK ?_
      clear hK fr; intro fr hK
      refine qs 41 hK ?_
      clear hK fr; intro fr hK
      refine qs 42 hK ?_
      clear hK fr; intro fr hK
      refine qs 43 hK ?_
      clear hK fr; intro fr hK
      refine qp 44 (.bool false) hK fun fr hK => ?_
      refine qp 2 (.bool false) hK fun fr hK => ?_
      refine wpListIn_nil (then_n ?_)
      refine wpIn_ret ?_
      replace h := Option.some.inj h; subst h
      refine ret_of [.tmp 2] [.bool false] rfl hK (.tmp rfl .nil) hS.dropAll ?_
      exact ⟨rfl, rfl⟩
    ·
     replace hK := hK.more (t := 32) (v' := .bool false) rfl (by rw [hb3])
     replace hK := hK.more (t := 31) (v' := .bool false) rfl (by rw [hb3])
     replace hK := hK.more (t := 30) (v' := .bool false) rfl (by rw [hb3])
     replace h := ite_f (ne_of_beq_false hb3) h
     refine qs 33 hK ?_
     clear hK fr; intro fr hK
     refine qs 34 hK ?_
     clear hK fr; intro fr hK
     refine qs 35 hK ?_
     clear hK fr; intro fr hK
     refine qp 36 (.bool false) hK fun fr hK => ?_
     refine qp 37 (.bool false) hK fun fr hK => ?_
     refine qs 38 hK ?_
     clear hK fr; intro fr hK
     refine qs 39 hK ?_
     clear hK fr; intro fr hK
     refine qs 40 hK ?_
     clear hK fr; intro fr hK
     refine qs 41 hK ?_
     clear hK fr; intro fr hK
     refine qs 42 hK ?_
     clear hK fr; intro fr hK
     refine qs 43 hK ?_
     clear hK fr; intro fr hK
     refine qp 44 (.bool false) hK fun fr hK => ?_
     refine qp 2 (.bool false) hK fun fr hK => ?_
     refine wpListIn_nil (then_n ?_)
     refine wpIn_ret ?_
     replace h := Option.some.inj h; subst h
     refine ret_of [.tmp 2] [.bool false] rfl hK (.tmp rfl .nil) hS.dropAll ?_
     exact ⟨rfl, rfl⟩
   ·
    replace hK := hK.more (t := 27) (v' := .bool false) rfl (by rw [hb2])
    replace hK := hK.more (t := 26) (v' := .bool false) rfl (by rw [hb2])
    replace h := ite_f (ne_true_of_eq_false hb2) h
    refine qs 28 hK ?_
    clear hK fr; intro fr hK
    refine qs 29 hK ?_
    clear hK fr; intro fr hK
    refine qs 30 hK ?_
    clear hK fr; intro fr hK
    refine qp 31 (.bool false) hK fun fr hK => ?_
    refine qp 32 (.bool false) hK fun fr hK => ?_
    refine qs 33 hK ?_
    clear hK fr; intro fr hK
    refine qs 34 hK ?_
    clear hK fr; intro fr hK
    refine qs 35 hK ?_
    clear hK fr; intro fr hK
    refine qp 36 (.bool false) hK fun fr hK => ?_
    refine qp 37 (.bool false) hK fun fr hK => ?_
    refine qs 38 hK ?_
    clear hK fr; intro fr hK
    refine qs 39 hK ?_
    clear hK fr; intro fr hK
    refine qs 40 hK ?_
    clear hK fr; intro fr hK
    refine qs 41 hK ?_
    clear hK fr; intro fr hK
    refine qs 42 hK ?_
    clear hK fr; intro fr hK
    refine qs 43 hK ?_
    clear hK fr; intro fr hK
    refine qp 44 (.bool false) hK fun fr hK => ?_
    refine qp 2 (.bool false) hK fun fr hK => ?_
    refine wpListIn_nil (then_n ?_)
    refine wpIn_ret ?_
    replace h := Option.some.inj h; subst h
    refine ret_of [.tmp 2] [.bool false] rfl hK (.tmp rfl .nil) hS.dropAll ?_
    exact ⟨rfl, rfl⟩
 ·
  replace h := hv1; clear hv1
  refine w_region ?_
  refine qo 7 hK (s_loadAll hK.at_ hS 0 rfl rfl rfl (by kernel_rfl) ?_)
  clear hK fr; intro fr hK
  replace a0_commands_f := Els.mono rep_G_Command a0_commands_f l1
  obtain ⟨y5, hy5, h⟩ := bind_some h
  refine qo 8 hK (s_call hK.at_ hS ent17_9 rfl rfl rfl rfl (G.graftref05_Few_spec a0_commands_f hy5) (by kernel_rfl) ?_)
  clear hK fr hS; rintro _ m7 _ l7 hS ⟨rfl, rfl⟩ fr hK
  replace hS : St _ m m7 [.box b1 (G_Delta_cells a0 a0_commands_a a0_commands_c) 27] := hS
  refine qp 9 (.bool (!y5)) hK fun fr hK => ?_
  refine qp 10 (.bool (!y5)) hK fun fr hK => ?_
  refine split_b (x := (!y5)) (fun hb5 => ?_) (fun hb5 => ?_)
  ·
   replace hK := hK.more (t := 10) (v' := .bool true) rfl (by rw [hb5])
   replace hK := hK.more (t := 9) (v' := .bool true) rfl (by rw [hb5])
   replace h := ite_t ((Bool.not_eq_true' _).mp hb5) h
   refine qs 11 hK ?_
   clear hK fr; intro fr hK
   refine qs 12 hK ?_
   clear hK fr; intro fr hK
   refine qs 13 hK ?_
   clear hK fr; intro fr hK
   refine qp 14 (.bool true) hK fun fr hK => ?_
   refine wpListIn_nil (then_n ?_)
   replace hS : St _ m m7 [.box b1 (G_Delta_cells a0 a0_commands_a a0_commands_c) 27] := hS
   replace h := Option.some.inj h; subst h
   exact ⟨m7, rfl, hK.only [1, 14], l7, hS⟩
  ·
   replace hK := hK.more (t := 10) (v' := .bool false) rfl (by rw [hb5])
   replace hK := hK.more (t := 9) (v' := .bool false) rfl (by rw [hb5])
   replace h := ite_f (not_false_of ((Bool.not_eq_false' _).mp hb5)) h
   refine qo 11 hK (s_loadAll hK.at_ hS 0 rfl rfl rfl (by kernel_rfl) ?_)
   clear hK fr; intro fr hK
   replace a0_commands_f := Els.mono rep_G_Command a0_commands_f l7
   obtain ⟨y6, hy6, h⟩ := bind_some h
   refine qo 12 hK (s_call hK.at_ hS ent27_9 rfl rfl rfl rfl (G.graftref05_Valid_spec a0_commands_f hy6) (by kernel_rfl) ?_)
   clear hK fr hS; rintro _ m8 _ l8 hS ⟨rfl, rfl⟩ fr hK
   replace hS : St _ m m8 [.box b1 (G_Delta_cells a0 a0_commands_a a0_commands_c) 27] := hS
   refine qp 13 (.bool (!y6)) hK fun fr hK => ?_
   refine qp 14 (.bool (!y6)) hK fun fr hK => ?_
   refine wpListIn_nil (then_n ?_)
   replace hS : St _ m m8 [.box b1 (G_Delta_cells a0 a0_commands_a a0_commands_c) 27] := hS
   replace h := Option.some.inj h; subst h
   exact ⟨m8, rfl, hK.only [1, 14], l7.trans l8, hS⟩
end Go.Proofs.Ytkalbidbhaalmaa
