/- The program computes the plain functions: graftref05_Few, graftref01_Max, graftref07_in, graftref07_Wrong. Printed by a program. -/
import Derived.Test.YtkalbidbhaalmaaProg
import Derived.Test.YtkalbidbhaalmaaGs
import Derived.Test.YtkalbidbhaalmaaRep
namespace Go.Proofs.Ytkalbidbhaalmaa
open Go.RowKit G
theorem ent54_3 : Enters Try.prog 54 := enters_of Try.func54 (by decide +kernel) (by decide +kernel)
theorem ent60_3 : Enters Try.prog 60 := enters_of Try.func60 (by decide +kernel) (by decide +kernel)
theorem elT25_3 : ElemT Try.prog 25 50 (.agg #[.int .i64 0, .int .i64 0, .int .i64 0, .int .i64 0, .slice none 0 0]) 5 56 := ⟨by kernel_rfl, by kernel_rfl, by kernel_rfl, by decide⟩
set_option maxRecDepth 100000 in
set_option maxHeartbeats 1000000 in
theorem G.graftref05_Few_spec {m : Mem} {a0 : G.Delta} {a0_commands_a : Option Addr} {a0_commands_c : Nat} (a0_commands_f : Els is_G_Command m 5 a0_commands_a a0_commands_c a0.commands) {r : Bool} (h : G.graftref05_Few a0 = some r) :
  Spec Try.prog 17 #[.agg (G_Delta_cells a0 a0_commands_a a0_commands_c)] m [] fun v m' L => L = [] ∧ v = .bool r := by
 unfold G.graftref05_Few at h
 refine enter (args := [_]) 23 Try.func17 rfl rfl (by simp) fun fr hK => ?_
 have hS := St.refl (Ow.nil m)
 replace hK : Kn 23 fr [(0, .agg (G_Delta_cells a0 a0_commands_a a0_commands_c))] := hK
 refine w_seq (w_region ?_)
 refine qo 1 hK (s_box hK.at_ hS rfl rfl ?_)
 clear hK fr hS; intro m1 b1 b1z l1 hS fr hK
 replace hS : St _ m m1 [.box b1 (G_Delta_cells a0 a0_commands_a a0_commands_c) 27] := hS
 refine qp 2 (.bool false) hK fun fr hK => ?_
 refine wpList_nil (then_n ?_)
 refine w_seq ?_
 refine w_seq (w_region ?_)
 refine qp 3 (.int .i64 0) hK fun fr hK => ?_
 refine wpList_nil (then_n ?_)
 obtain ⟨v1, hv1, hk1⟩ := bind_some h; clear h
 refine w_join (fun fr ww => ∃ u1, v1 = .inl u1 ∧ ∃ m2 : Mem, m2.w = ww ∧ Kn 23 fr [(1, .pointer (some ⟨b1, 0, none⟩))] ∧ Le m1 m2 ∧ St (blocksOf []) m m2 [.box b1 (G_Delta_cells a0 a0_commands_a a0_commands_c) 27]) ?_ ?_
 ·
  clear hK hS fr
  rintro fr _ ⟨u1, rfl, m2, rfl, hK, l2, hS⟩
  have h := join_in hk1
  refine then_n ?_
  refine w_seq (w_region ?_)
  refine qp 19 (.pointer (some ⟨b1, 66, none⟩)) hK fun fr hK => ?_
  refine qo 20 hK (s_load hK.at_ hS 0 rfl rfl rfl rfl (by kernel_rfl) ?_)
  clear hK fr; intro fr hK
  refine qp 21 (.int .i64 (a0.commands.length : Int)) hK fun fr hK => ?_
  refine qp 22 (.bool (decide ((a0.commands.length : Int) ≤ 40))) hK fun fr hK => ?_
  refine qp 2 (.bool (decide ((a0.commands.length : Int) ≤ 40))) hK fun fr hK => ?_
  refine wpList_nil (then_n ?_)
  refine wp_ret ?_
  replace h := Option.some.inj h; subst h
  refine ret_of [.tmp 2] [.bool (decide ((a0.commands.length : Int) ≤ 40))] rfl hK (.tmp rfl .nil) hS.dropAll ?_
  exact ⟨rfl, rfl⟩
 ·
  have h := hv1; clear hv1
  refine wp_block ?_
  replace hS : St _ m m1 [.box b1 (G_Delta_cells a0 a0_commands_a a0_commands_c) 27] := hS
  refine w_loopL h (fun (s1 : Int) fr ww => ∃ m3 : Mem, m3.w = ww ∧ Kn 23 fr [(1, .pointer (some ⟨b1, 0, none⟩)), (3, .int .i64 s1)] ∧ Le m1 m3 ∧ St (blocksOf []) m m3 [.box b1 (G_Delta_cells a0 a0_commands_a a0_commands_c) 27]) ?_ ?_
  · exact ⟨m1, rfl, hK.only [1, 3], Le.refl _, hS⟩
  clear hK hS fr h
  rintro k1 s1 x1 fr _ ⟨m3, rfl, hK, l3, hS⟩ h hn1
  unfold G.graftref05_Few_l1 at h
  refine w_seq ?_
  refine w_seq (w_region ?_)
  refine qp 4 (.int .i64 s1) hK fun fr hK => ?_
  refine qp 5 (.pointer (some ⟨b1, 66, none⟩)) hK fun fr hK => ?_
  refine qo 6 hK (s_load hK.at_ hS 0 rfl rfl rfl rfl (by kernel_rfl) ?_)
  clear hK fr; intro fr hK
  refine qp 7 (.int .i64 (a0.commands.length : Int)) hK fun fr hK => ?_
  refine qp 8 (.bool (decide (s1 < (a0.commands.length : Int)))) hK fun fr hK => ?_
  refine wpList_nil (then_n ?_)
  refine w_cond hK rfl (fun hb1 => ?_) (fun hb1 => ?_)
  ·
   replace hK := hK.more (t := 8) (v' := .bool true) rfl (by rw [hb1])
   replace h := ite_t (of_decide_eq_true hb1) h
   refine wp_skip ?_
   refine then_n ?_
   refine w_seq ?_
   refine wp_block ?_
   refine w_seq (w_region ?_)
   refine qp 11 (.pointer (some ⟨b1, 66, none⟩)) hK fun fr hK => ?_
   refine qo 12 hK (s_load hK.at_ hS 0 rfl rfl rfl rfl (by kernel_rfl) ?_)
   clear hK fr; intro fr hK
   refine qp 13 (.int .i64 s1) hK fun fr hK => ?_
   replace a0_commands_f := Els.mono rep_G_Command a0_commands_f (l1.trans l3)
   obtain ⟨x2, hy1, h⟩ := bind_some h
   refine qo 14 hK (s_idx elT25_3 a0_commands_f hy1 hK.at_ rfl rfl rfl ?_)
   clear hK fr; intro b2 p1 cs1 hR1 hA1 fr hK
   obtain ⟨e1_data_a, e1_data_c, rfl, e1_data_f⟩ := hR1
   refine qp 15 (.pointer (some ⟨b2, p1 + 4, none⟩)) hK fun fr hK => ?_
   refine qo 16 hK (s_loadAt hK.at_ hA1 4 rfl rfl rfl rfl (by kernel_rfl) ?_)
   clear hK fr; intro fr hK
   refine qp 17 (.int .i64 (x2.data.length : Int)) hK fun fr hK => ?_
   refine qp 18 (.bool (decide ((x2.data.length : Int) > 300))) hK fun fr hK => ?_
   refine wpList_nil (then_n ?_)
   refine w_cond hK rfl (fun hb2 => ?_) (fun hb2 => ?_)
   ·
    replace hK := hK.more (t := 18) (v' := .bool true) rfl (by rw [hb2])
    replace h := ite_t (of_decide_eq_true hb2) h
    refine w_seq (w_region ?_)
    refine qp 2 (.bool false) hK fun fr hK => ?_
    refine wpList_nil (then_n ?_)
    refine wp_ret ?_
    refine blk_r ?_
    refine then_r ?_
    refine then_r ?_
    refine blk_r ?_
    refine then_r ?_
    refine then_r ?_
    replace h := Option.some.inj h; subst h
    replace h := Option.some.inj (loop_out hn1); subst h
    replace h := Option.some.inj (join_out hk1); subst h
    refine ret_of [.tmp 2] [.bool false] rfl hK (.tmp rfl .nil) hS.dropAll ?_
    exact ⟨rfl, rfl⟩
   ·
    replace hK := hK.more (t := 18) (v' := .bool false) rfl (by rw [hb2])
    replace h := ite_f (of_decide_eq_false hb2) h
    refine wp_skip ?_
    refine blk_n ?_
    refine then_n ?_
    refine w_region ?_
    refine qp 9 (.int .i64 s1) hK fun fr hK => ?_
    refine qp 10 (.int .i64 (IntKind.i64.wrap (s1 + 1))) hK fun fr hK => ?_
    refine qp 3 (.int .i64 (IntKind.i64.wrap (s1 + 1))) hK fun fr hK => ?_
    refine wpList_nil (then_n ?_)
    replace hS : St _ m m3 [.box b1 (G_Delta_cells a0 a0_commands_a a0_commands_c) 27] := hS
    replace h := Option.some.inj h; subst h
    obtain ⟨kq, hk1, hk2⟩ := hn1
    exact ⟨kq, hk1, _, hk2, m3, rfl, hK.only [1, 3], l3, hS⟩
  ·
   replace hK := hK.more (t := 8) (v' := .bool false) rfl (by rw [hb1])
   replace h := ite_f (of_decide_eq_false hb1) h
   refine wp_exit ?_
   refine then_x ?_
   refine then_x ?_
   refine blk_e ?_
   refine then_n ?_
   replace hS : St _ m m3 [.box b1 (G_Delta_cells a0 a0_commands_a a0_commands_c) 27] := hS
   replace h := Option.some.inj h; subst h
   replace h := Option.some.inj (loop_out hn1); subst h
   exact ⟨_, rfl, m3, rfl, hK.only [1], l3, hS⟩
set_option maxRecDepth 100000 in
set_option maxHeartbeats 1000000 in
theorem G.graftref01_Max_spec {m : Mem} {r : Int} (h : G.graftref01_Max = some r) :
  Spec Try.prog 60 #[] m [] fun v m' L => L = [] ∧ v = .int .i64 r := by
 unfold G.graftref01_Max at h
 refine enter (args := []) 1 Try.func60 rfl rfl (by simp) fun fr hK => ?_
 have hS := St.refl (Ow.nil m)
 replace hK : Kn 1 fr [] := hK
 refine w_seq (w_region ?_)
 refine qp 0 (.int .i64 0) hK fun fr hK => ?_
 refine wpList_nil (then_n ?_)
 refine w_seq (w_region ?_)
 refine qp 0 (.int .i64 4611686018427387903) hK fun fr hK => ?_
 refine wpList_nil (then_n ?_)
 refine wp_ret ?_
 replace h := Option.some.inj h; subst h
 refine ret_of [.tmp 0] [.int .i64 4611686018427387903] rfl hK (.tmp rfl .nil) hS.dropAll ?_
 exact ⟨rfl, rfl⟩
set_option maxRecDepth 100000 in
set_option maxHeartbeats 1000000 in
theorem G.graftref07_in_spec {m : Mem} {a0 : Int} {r : Bool} (h : G.graftref07_in a0 = some r) :
  Spec Try.prog 54 #[.int .i64 a0] m [] fun v m' L => L = [] ∧ v = .bool r := by
 unfold G.graftref07_in at h
 refine enter (args := [_]) 10 Try.func54 rfl rfl (by simp) fun fr hK => ?_
 have hS := St.refl (Ow.nil m)
 replace hK : Kn 10 fr [(0, .int .i64 a0)] := hK
 refine w_seq (w_region ?_)
 refine qp 2 (.bool false) hK fun fr hK => ?_
 refine wpList_nil (then_n ?_)
 refine w_seq (w_region ?_)
 refine qp 3 (.int .i64 a0) hK fun fr hK => ?_
 refine qp 4 (.bool (decide (a0 ≥ 0))) hK fun fr hK => ?_
 refine qp 5 (.bool (decide (a0 ≥ 0))) hK fun fr hK => ?_
 refine split_b (x := decide (a0 ≥ 0)) (fun hb1 => ?_) (fun hb1 => ?_)
 ·
  replace hK := hK.more (t := 5) (v' := .bool true) rfl (by rw [hb1])
  replace hK := hK.more (t := 4) (v' := .bool true) rfl (by rw [hb1])
  replace h := ite_t (of_decide_eq_true hb1) h
  refine qp 6 (.int .i64 a0) hK fun fr hK => ?_
  obtain ⟨y1, hy1, h⟩ := bind_some h
  refine qo 7 hK (s_call hK.at_ hS ent60_3 rfl rfl rfl rfl (G.graftref01_Max_spec hy1) (by kernel_rfl) ?_)
  clear hK fr hS; rintro _ m1 _ l1 hS ⟨rfl, rfl⟩ fr hK
  replace hS : St _ m m1 [] := hS
  refine qp 8 (.bool (decide (a0 ≤ y1))) hK fun fr hK => ?_
  refine qp 9 (.bool (decide (a0 ≤ y1))) hK fun fr hK => ?_
  refine qp 2 (.bool (decide (a0 ≤ y1))) hK fun fr hK => ?_
  refine wpList_nil (then_n ?_)
  refine wp_ret ?_
  replace h := Option.some.inj h; subst h
  refine ret_of [.tmp 2] [.bool (decide (a0 ≤ y1))] rfl hK (.tmp rfl .nil) hS.dropAll ?_
  exact ⟨rfl, rfl⟩
 ·
  replace hK := hK.more (t := 5) (v' := .bool false) rfl (by rw [hb1])
  replace hK := hK.more (t := 4) (v' := .bool false) rfl (by rw [hb1])
  replace h := ite_f (of_decide_eq_false hb1) h
  refine qs 6 hK ?_
  clear hK fr; intro fr hK
  refine qs 7 hK ?_
  clear hK fr; intro fr hK
  refine qs 8 hK ?_
  clear hK fr; intro fr hK
  refine qp 9 (.bool false) hK fun fr hK => ?_
  refine qp 2 (.bool false) hK fun fr hK => ?_
  refine wpList_nil (then_n ?_)
  refine wp_ret ?_
  replace h := Option.some.inj h; subst h
  refine ret_of [.tmp 2] [.bool false] rfl hK (.tmp rfl .nil) hS.dropAll ?_
  exact ⟨rfl, rfl⟩
set_option maxRecDepth 100000 in
set_option maxHeartbeats 1000000 in
theorem G.graftref07_Wrong_spec {m : Mem} {a0 : G.Delta} {a0_commands_a : Option Addr} {a0_commands_c : Nat} (a0_commands_f : Els is_G_Command m 5 a0_commands_a a0_commands_c a0.commands) {r : Int} (h : G.graftref07_Wrong a0 = some r) :
  Spec Try.prog 18 #[.agg (G_Delta_cells a0 a0_commands_a a0_commands_c)] m [] fun v m' L => L = [] ∧ v = .int .i64 r := by
 unfold G.graftref07_Wrong at h
 refine enter (args := [_]) 93 Try.func18 rfl rfl (by simp) fun fr hK => ?_
 have hS := St.refl (Ow.nil m)
 replace hK : Kn 93 fr [(0, .agg (G_Delta_cells a0 a0_commands_a a0_commands_c))] := hK
 refine w_seq (w_region ?_)
 refine qo 1 hK (s_box hK.at_ hS rfl rfl ?_)
 clear hK fr hS; intro m1 b1 b1z l1 hS fr hK
 replace hS : St _ m m1 [.box b1 (G_Delta_cells a0 a0_commands_a a0_commands_c) 27] := hS
 refine qp 2 (.int .i64 0) hK fun fr hK => ?_
 refine wpList_nil (then_n ?_)
 refine w_seq ?_
 refine w_seq (w_region ?_)
 refine qp 3 (.int .i64 0) hK fun fr hK => ?_
 refine wpList_nil (then_n ?_)
 obtain ⟨v1, hv1, hk1⟩ := bind_some h; clear h
 refine w_join (fun fr ww => ∃ u1, v1 = .inl u1 ∧ ∃ m2 : Mem, m2.w = ww ∧ Kn 93 fr [(1, .pointer (some ⟨b1, 0, none⟩))] ∧ Le m1 m2 ∧ St (blocksOf []) m m2 [.box b1 (G_Delta_cells a0 a0_commands_a a0_commands_c) 27]) ?_ ?_
 ·
  clear hK hS fr
  rintro fr _ ⟨u1, rfl, m2, rfl, hK, l2, hS⟩
  have h := join_in hk1
  refine then_n ?_
  refine w_seq ?_
  refine w_seq ?_
  obtain ⟨v2, hv2, h⟩ := bind_some h
  refine w_join (fun fr ww => ∃ m3 : Mem, m3.w = ww ∧ Kn 93 fr [(1, .pointer (some ⟨b1, 0, none⟩)), (38, .bool v2)] ∧ Le m2 m3 ∧ St (blocksOf []) m m3 [.box b1 (G_Delta_cells a0 a0_commands_a a0_commands_c) 27]) ?_ ?_
  ·
   clear hK hS fr hv2
   rintro fr _ ⟨m3, rfl, hK, l3, hS⟩
   refine then_n ?_
   refine w_cond hK rfl (fun hb1 => ?_) (fun hb1 => ?_)
   ·
    replace hK := hK.more (t := 38) (v' := .bool true) rfl (by rw [hb1])
    replace h := ite_t (hb1) h
    refine w_seq (w_region ?_)
    refine qp 2 (.int .i64 2) hK fun fr hK => ?_
    refine wpList_nil (then_n ?_)
    refine wp_ret ?_
    refine then_r ?_
    replace h := Option.some.inj h; subst h
    refine ret_of [.tmp 2] [.int .i64 2] rfl hK (.tmp rfl .nil) hS.dropAll ?_
    exact ⟨rfl, rfl⟩
   ·
    replace hK := hK.more (t := 38) (v' := .bool false) rfl (by rw [hb1])
    replace h := ite_f (ne_true_of_eq_false hb1) h
    refine wp_skip ?_
    refine then_n ?_
    refine w_seq ?_
    refine w_seq (w_region ?_)
    refine qp 4 (.int .i64 0) hK fun fr hK => ?_
    refine wpList_nil (then_n ?_)
    refine wp_block ?_
    replace hS : St _ m m3 [.box b1 (G_Delta_cells a0 a0_commands_a a0_commands_c) 27] := hS
    refine w_loopL h (fun (s1 : Int) fr ww => ∃ m4 : Mem, m4.w = ww ∧ Kn 93 fr [(1, .pointer (some ⟨b1, 0, none⟩)), (4, .int .i64 s1)] ∧ Le m3 m4 ∧ St (blocksOf []) m m4 [.box b1 (G_Delta_cells a0 a0_commands_a a0_commands_c) 27]) ?_ ?_
    · exact ⟨m3, rfl, hK.only [1, 4], Le.refl _, hS⟩
    clear hK hS fr h
    rintro k1 s1 x1 fr _ ⟨m4, rfl, hK, l4, hS⟩ h hn1
    unfold G.graftref07_Wrong_l1 at h
    refine w_seq ?_
    refine w_seq (w_region ?_)
    refine qp 39 (.int .i64 s1) hK fun fr hK => ?_
    refine qp 40 (.pointer (some ⟨b1, 66, none⟩)) hK fun fr hK => ?_
    refine qo 41 hK (s_load hK.at_ hS 0 rfl rfl rfl rfl (by kernel_rfl) ?_)
    clear hK fr; intro fr hK
    refine qp 42 (.int .i64 (a0.commands.length : Int)) hK fun fr hK => ?_
    refine qp 43 (.bool (decide (s1 < (a0.commands.length : Int)))) hK fun fr hK => ?_
    refine wpList_nil (then_n ?_)
    refine w_cond hK rfl (fun hb2 => ?_) (fun hb2 => ?_)
    ·
     replace hK := hK.more (t := 43) (v' := .bool true) rfl (by rw [hb2])
     replace h := ite_t (of_decide_eq_true hb2) h
     refine wp_skip ?_
     refine then_n ?_
     refine w_seq ?_
     refine wp_block ?_
     refine w_seq (w_region ?_)
     refine qp 46 (.pointer (some ⟨b1, 66, none⟩)) hK fun fr hK => ?_
     refine qo 47 hK (s_load hK.at_ hS 0 rfl rfl rfl rfl (by kernel_rfl) ?_)
     clear hK fr; intro fr hK
     refine qp 48 (.int .i64 s1) hK fun fr hK => ?_
     replace a0_commands_f := Els.mono rep_G_Command a0_commands_f (l1.trans (l2.trans (l3.trans l4)))
     obtain ⟨x2, hy1, h⟩ := bind_some h
     refine qo 49 hK (s_idx elT25_3 a0_commands_f hy1 hK.at_ rfl rfl rfl ?_)
     clear hK fr; intro b2 p1 cs1 hR1 hA1 fr hK
     obtain ⟨e1_data_a, e1_data_c, rfl, e1_data_f⟩ := hR1
     refine qo 50 hK (s_loadAtN [.int .i64 x2.kind, .int .i64 x2.to, .int .i64 x2.from_, .int .i64 x2.len, .slice e1_data_a x2.data.length e1_data_c] hK.at_ hA1 0 rfl rfl rfl (by kernel_rfl) (by kernel_rfl) ?_)
     clear hK fr; intro fr hK
     refine qo 5 hK (s_alloc (.agg #[.int .i64 0, .int .i64 0, .int .i64 0, .int .i64 0, .slice none 0 0]) hK.at_ hS rfl (by kernel_rfl) ?_)
     clear hK fr hS; intro m5 b3 b3z l5 hS fr hK
     refine qo0 hK (s_storeAll hK.at_ 0 hS rfl rfl rfl rfl (by kernel_rfl) (by kernel_rfl) (by kernel_rfl) ?_)
     clear hK fr hS; intro m6 l6 hS fr hK
     replace hS : St _ m m6 [.box b3 #[.int .i64 x2.kind, .int .i64 x2.to, .int .i64 x2.from_, .int .i64 x2.len, .slice e1_data_a x2.data.length e1_data_c] 50, .box b1 (G_Delta_cells a0 a0_commands_a a0_commands_c) 27] := hS
     refine wpList_nil (then_n ?_)
     refine w_seq ?_
     obtain ⟨v3, hv3, h⟩ := bind_some h
     refine w_join (fun fr ww => ∃ m7 : Mem, m7.w = ww ∧ Kn 93 fr [(1, .pointer (some ⟨b1, 0, none⟩)), (4, .int .i64 s1), (92, .bool v3)] ∧ Le m6 m7 ∧ St (blocksOf []) m m7 [.box b1 (G_Delta_cells a0 a0_commands_a a0_commands_c) 27]) ?_ ?_
     ·
      clear hK hS fr hv3
      rintro fr _ ⟨m7, rfl, hK, l7, hS⟩
      refine then_n ?_
      refine w_cond hK rfl (fun hb3 => ?_) (fun hb3 => ?_)
      ·
       replace hK := hK.more (t := 92) (v' := .bool true) rfl (by rw [hb3])
       replace h := ite_t (hb3) h
       refine w_seq (w_region ?_)
       refine qp 2 (.int .i64 2) hK fun fr hK => ?_
       refine wpList_nil (then_n ?_)
       refine wp_ret ?_
       refine blk_r ?_
       refine then_r ?_
       refine then_r ?_
       refine blk_r ?_
       refine then_r ?_
       replace h := Option.some.inj h; subst h
       replace h := Option.some.inj (loop_out hn1); subst h
       refine ret_of [.tmp 2] [.int .i64 2] rfl hK (.tmp rfl .nil) hS.dropAll ?_
       exact ⟨rfl, rfl⟩
      ·
       replace hK := hK.more (t := 92) (v' := .bool false) rfl (by rw [hb3])
       replace h := ite_f (ne_true_of_eq_false hb3) h
       refine wp_skip ?_
       refine blk_n ?_
       refine then_n ?_
       refine w_region ?_
       refine qp 44 (.int .i64 s1) hK fun fr hK => ?_
       refine qp 45 (.int .i64 (IntKind.i64.wrap (s1 + 1))) hK fun fr hK => ?_
       refine qp 4 (.int .i64 (IntKind.i64.wrap (s1 + 1))) hK fun fr hK => ?_
       refine wpList_nil (then_n ?_)
       replace hS : St _ m m7 [.box b1 (G_Delta_cells a0 a0_commands_a a0_commands_c) 27] := hS
       replace h := Option.some.inj h; subst h
       obtain ⟨kq, hk1, hk2⟩ := hn1
       exact ⟨kq, hk1, _, hk2, m7, rfl, hK.only [1, 4], l4.trans (l5.trans (l6.trans l7)), hS⟩
     ·
      replace h := hv3; clear hv3
      refine w_region ?_
      refine qp 51 (.pointer (some ⟨b3, 1, none⟩)) hK fun fr hK => ?_
      refine qo 52 hK (s_load hK.at_ hS 0 rfl rfl rfl rfl (by kernel_rfl) ?_)
      clear hK fr; intro fr hK
      obtain ⟨y1, hy2, h⟩ := bind_some h
      refine qo 53 hK (s_call hK.at_ hS ent54_3 rfl rfl rfl rfl (G.graftref07_in_spec hy2) (by kernel_rfl) ?_)
      clear hK fr hS; rintro _ m8 _ l8 hS ⟨rfl, rfl⟩ fr hK
      replace hS : St _ m m8 [.box b3 #[.int .i64 x2.kind, .int .i64 x2.to, .int .i64 x2.from_, .int .i64 x2.len, .slice e1_data_a x2.data.length e1_data_c] 50, .box b1 (G_Delta_cells a0 a0_commands_a a0_commands_c) 27] := hS
      refine qp 54 (.bool (!y1)) hK fun fr hK => ?_
      refine qp 55 (.bool (!y1)) hK fun fr hK => ?_
      refine split_b (x := (!y1)) (fun hb4 => ?_) (fun hb4 => ?_)
      ·
       replace hK := hK.more (t := 55) (v' := .bool true) rfl (by rw [hb4])
       replace hK := hK.more (t := 54) (v' := .bool true) rfl (by rw [hb4])
       replace h := ite_t ((Bool.not_eq_true' _).mp hb4) h
       refine qs 56 hK ?_
       clear hK fr; intro fr hK
       refine qs 57 hK ?_
       clear hK fr; intro fr hK
       refine qs 58 hK ?_
       clear hK fr; intro fr hK
       refine qs 59 hK ?_
       clear hK fr; intro fr hK
       refine qp 60 (.bool true) hK fun fr hK => ?_
       refine qp 61 (.bool true) hK fun fr hK => ?_
       refine qs 62 hK ?_
       clear hK fr; intro fr hK
       refine qs 63 hK ?_
       clear hK fr; intro fr hK
       refine qs 64 hK ?_
       clear hK fr; intro fr hK
       refine qs 65 hK ?_
       clear hK fr; intro fr hK
       refine qp 66 (.bool true) hK fun fr hK => ?_
       refine qp 67 (.bool true) hK fun fr hK => ?_
       refine qs 68 hK ?_
       clear hK fr; intro fr hK
       refine qs 69 hK ?_
       clear hK fr; intro fr hK
       refine qs 70 hK ?_
       clear hK fr; intro fr hK
       refine qs 71 hK ?_
       clear hK fr; intro fr hK
       refine qs 72 hK ?_
       clear hK fr; intro fr hK
       refine qs 73 hK ?_
       clear hK fr; intro fr hK
       refine qs 74 hK ?_
       clear hK fr; intro fr hK
       refine qs 75 hK ?_
       clear hK fr; intro fr hK
       refine qs 76 hK ?_
       clear hK fr; intro fr hK
       refine qp 77 (.bool true) hK fun fr hK => ?_
       refine qp 78 (.bool true) hK fun fr hK => ?_
       refine qs 79 hK ?_
       clear hK fr; intro fr hK
       refine qs 80 hK ?_
       clear hK fr; intro fr hK
       refine qs 81 hK ?_
       clear hK fr; intro fr hK
       refine qs 82 hK ?_
       clear hK fr; intro fr hK
       refine qs 83 hK ?_
       clear hK fr; intro fr hK
       refine qs 84 hK ?_
       clear hK fr; intro fr hK
       refine qs 85 hK ?_
       clear hK fr; intro fr hK
       refine qs 86 hK ?_
       clear hK fr; intro fr hK
       refine qs 87 hK ?_
       clear hK fr; intro fr hK
       refine qs 88 hK ?_
       clear hK fr; intro fr hK
       refine qs 89 hK ?_
       clear hK fr; intro fr hK
       refine qs 90 hK ?_
       clear hK fr; intro fr hK
       refine qs 91 hK ?_
       clear hK fr; intro fr hK
       refine qp 92 (.bool true) hK fun fr hK => ?_
       refine wpList_nil (then_n ?_)
       replace hS := hS.front 1 rfl
       replace hS := St.keep (L := [.box b1 (G_Delta_cells a0 a0_commands_a a0_commands_c) 27]) (R := [.box b3 #[.int .i64 x2.kind, .int .i64 x2.to, .int .i64 x2.from_, .int .i64 x2.len, .slice e1_data_a x2.data.length e1_data_c] 50]) hS
       replace h := Option.some.inj h; subst h
       exact ⟨m8, rfl, hK.only [1, 4, 92], l8, hS⟩
      ·
       replace hK := hK.more (t := 55) (v' := .bool false) rfl (by rw [hb4])
       replace hK := hK.more (t := 54) (v' := .bool false) rfl (by rw [hb4])
       replace h := ite_f (not_false_of ((Bool.not_eq_false' _).mp hb4)) h
       refine qp 56 (.pointer (some ⟨b3, 2, none⟩)) hK fun fr hK => ?_
       refine qo 57 hK (s_load hK.at_ hS 0 rfl rfl rfl rfl (by kernel_rfl) ?_)
       clear hK fr; intro fr hK
       obtain ⟨y2, hy3, h⟩ := bind_some h
       refine qo 58 hK (s_call hK.at_ hS ent54_3 rfl rfl rfl rfl (G.graftref07_in_spec hy3) (by kernel_rfl) ?_)
       clear hK fr hS; rintro _ m9 _ l9 hS ⟨rfl, rfl⟩ fr hK
       replace hS : St _ m m9 [.box b3 #[.int .i64 x2.kind, .int .i64 x2.to, .int .i64 x2.from_, .int .i64 x2.len, .slice e1_data_a x2.data.length e1_data_c] 50, .box b1 (G_Delta_cells a0 a0_commands_a a0_commands_c) 27] := hS
       refine qp 59 (.bool (!y2)) hK fun fr hK => ?_
       refine qp 60 (.bool (!y2)) hK fun fr hK => ?_
       refine qp 61 (.bool (!y2)) hK fun fr hK => ?_
       refine split_b (x := (!y2)) (fun hb5 => ?_) (fun hb5 => ?_)
       ·
        replace hK := hK.more (t := 61) (v' := .bool true) rfl (by rw [hb5])
        replace hK := hK.more (t := 60) (v' := .bool true) rfl (by rw [hb5])
        replace hK := hK.more (t := 59) (v' := .bool true) rfl (by rw [hb5])
        replace h := ite_t ((Bool.not_eq_true' _).mp hb5) h
        refine qs 62 hK ?_
        clear hK fr; intro fr hK
        refine qs 63 hK ?_
        clear hK fr; intro fr hK
        refine qs 64 hK ?_
        clear hK fr; intro fr hK
        refine qs 65 hK ?_
        clear hK fr; intro fr hK
        refine qp 66 (.bool true) hK fun fr hK => ?_
        refine qp 67 (.bool true) hK fun fr hK => ?_
        refine qs 68 hK ?_
        clear hK fr; intro fr hK
        refine qs 69 hK ?_
        clear hK fr; intro fr hK
        refine qs 70 hK ?_
        clear hK fr; intro fr hK
        refine qs 71 hK ?_
        clear hK fr; intro fr hK
        refine qs 72 hK ?_
        clear hK fr; intro fr hK
        refine qs 73 hK ?_
        clear hK fr; intro fr hK
        refine qs 74 hK ?_
        clear hK fr; intro fr hK
        refine qs 75 hK ?_
        clear hK fr; intro fr hK
        refine qs 76 hK ?_
        clear hK fr; intro fr hK
        refine qp 77 (.bool true) hK fun fr hK => ?_
        refine qp 78 (.bool true) hK fun fr hK => ?_
        refine qs 79 hK ?_
        clear hK fr; intro fr hK
        refine qs 80 hK ?_
        clear hK fr; intro fr hK
        refine qs 81 hK ?_
        clear hK fr; intro fr hK
        refine qs 82 hK ?_
        clear hK fr; intro fr hK
        refine qs 83 hK ?_
        clear hK fr; intro fr hK
        refine qs 84 hK ?_
        clear hK fr; intro fr hK
        refine qs 85 hK ?_
        clear hK fr; intro fr hK
        refine qs 86 hK ?_
        clear hK fr; intro fr hK
        refine qs 87 hK ?_
        clear hK fr; intro fr hK
        refine qs 88 hK ?_
        clear hK fr; intro fr hK
        refine qs 89 hK ?_
        clear hK fr; intro fr hK
        refine qs 90 hK ?_
        clear hK fr; intro fr hK
        refine qs 91 hK ?_
        clear hK fr; intro fr hK
        refine qp 92 (.bool true) hK fun fr hK => ?_
        refine wpList_nil (then_n ?_)
        replace hS := hS.front 1 rfl
        replace hS := St.keep (L := [.box b1 (G_Delta_cells a0 a0_commands_a a0_commands_c) 27]) (R := [.box b3 #[.int .i64 x2.kind, .int .i64 x2.to, .int .i64 x2.from_, .int .i64 x2.len, .slice e1_data_a x2.data.length e1_data_c] 50]) hS
        replace h := Option.some.inj h; subst h
        exact ⟨m9, rfl, hK.only [1, 4, 92], l8.trans l9, hS⟩
       ·
        replace hK := hK.more (t := 61) (v' := .bool false) rfl (by rw [hb5])
        replace hK := hK.more (t := 60) (v' := .bool false) rfl (by rw [hb5])
        replace hK := hK.more (t := 59) (v' := .bool false) rfl (by rw [hb5])
        replace h := ite_f (not_false_of ((Bool.not_eq_false' _).mp hb5)) h
        refine qp 62 (.pointer (some ⟨b3, 3, none⟩)) hK fun fr hK => ?_
        refine qo 63 hK (s_load hK.at_ hS 0 rfl rfl rfl rfl (by kernel_rfl) ?_)
        clear hK fr; intro fr hK
        obtain ⟨y3, hy4, h⟩ := bind_some h
        refine qo 64 hK (s_call hK.at_ hS ent54_3 rfl rfl rfl rfl (G.graftref07_in_spec hy4) (by kernel_rfl) ?_)
        clear hK fr hS; rintro _ m10 _ l10 hS ⟨rfl, rfl⟩ fr hK
        replace hS : St _ m m10 [.box b3 #[.int .i64 x2.kind, .int .i64 x2.to, .int .i64 x2.from_, .int .i64 x2.len, .slice e1_data_a x2.data.length e1_data_c] 50, .box b1 (G_Delta_cells a0 a0_commands_a a0_commands_c) 27] := hS
        refine qp 65 (.bool (!y3)) hK fun fr hK => ?_
        refine qp 66 (.bool (!y3)) hK fun fr hK => ?_
        refine qp 67 (.bool (!y3)) hK fun fr hK => ?_
        refine split_b (x := (!y3)) (fun hb6 => ?_) (fun hb6 => ?_)
        ·
         replace hK := hK.more (t := 67) (v' := .bool true) rfl (by rw [hb6])
         replace hK := hK.more (t := 66) (v' := .bool true) rfl (by rw [hb6])
         replace hK := hK.more (t := 65) (v' := .bool true) rfl (by rw [hb6])
         replace h := ite_t ((Bool.not_eq_true' _).mp hb6) h
         refine qs 68 hK ?_
         clear hK fr; intro fr hK
         refine qs 69 hK ?_
         clear hK fr; intro fr hK
         refine qs 70 hK ?_
         clear hK fr; intro fr hK
         refine qs 71 hK ?_
         clear hK fr; intro fr hK
         refine qs 72 hK ?_
         clear hK fr; intro fr hK
         refine qs 73 hK ?_
         clear hK fr; intro fr hK
         refine qs 74 hK ?_
         clear hK fr; intro fr hK
         refine qs 75 hK ?_
         clear hK fr; intro fr hK
         refine qs 76 hK ?_
         clear hK fr; intro fr hK
         refine qp 77 (.bool true) hK fun fr hK => ?_
         refine qp 78 (.bool true) hK fun fr hK => ?_
         refine qs 79 hK ?_
         clear hK fr; intro fr hK
         refine qs 80 hK ?_
         clear hK fr; intro fr hK
         refine qs 81 hK ?_
         clear hK fr; intro fr hK
         refine qs 82 hK ?_
         clear hK fr; intro fr hK
         refine qs 83 hK ?_
         clear hK fr; intro fr hK
         refine qs 84 hK ?_
         clear hK fr; intro fr hK
         refine qs 85 hK ?_
         clear hK fr; intro fr hK
         refine qs 86 hK ?_
         clear hK fr; intro fr hK
         refine qs 87 hK ?_
         clear hK fr; intro fr hK
         refine qs 88 hK ?_
         clear hK fr; intro fr hK
         refine qs 89 hK ?_
         clear hK fr; intro fr hK
         refine qs 90 hK ?_
         clear hK fr; intro fr hK
         refine qs 91 hK ?_
         clear hK fr; intro fr hK
         refine qp 92 (.bool true) hK fun fr hK => ?_
         refine wpList_nil (then_n ?_)
         replace hS := hS.front 1 rfl
         replace hS := St.keep (L := [.box b1 (G_Delta_cells a0 a0_commands_a a0_commands_c) 27]) (R := [.box b3 #[.int .i64 x2.kind, .int .i64 x2.to, .int .i64 x2.from_, .int .i64 x2.len, .slice e1_data_a x2.data.length e1_data_c] 50]) hS
         replace h := Option.some.inj h; subst h
         exact ⟨m10, rfl, hK.only [1, 4, 92], l8.trans (l9.trans l10), hS⟩
        ·
         replace hK := hK.more (t := 67) (v' := .bool false) rfl (by rw [hb6])
         replace hK := hK.more (t := 66) (v' := .bool false) rfl (by rw [hb6])
         replace hK := hK.more (t := 65) (v' := .bool false) rfl (by rw [hb6])
         replace h := ite_f (not_false_of ((Bool.not_eq_false' _).mp hb6)) h
         refine qp 68 (.pointer (some ⟨b3, 0, none⟩)) hK fun fr hK => ?_
         refine qo 69 hK (s_load hK.at_ hS 0 rfl rfl rfl rfl (by kernel_rfl) ?_)
         clear hK fr; intro fr hK
         refine qp 70 (.bool (x2.kind == 1)) hK fun fr hK => ?_
         refine qp 71 (.bool (x2.kind == 1)) hK fun fr hK => ?_
         refine split_b (x := (x2.kind == 1)) (fun hb7 => ?_) (fun hb7 => ?_)
         ·
          replace hK := hK.more (t := 71) (v' := .bool true) rfl (by rw [hb7])
          replace hK := hK.more (t := 70) (v' := .bool true) rfl (by rw [hb7])
          replace h := ite_t (eq_of_beq hb7) h
          refine qp 72 (.pointer (some ⟨b3, 4, none⟩)) hK fun fr hK => ?_
          refine qo 73 hK (s_load hK.at_ hS 0 rfl rfl rfl rfl (by kernel_rfl) ?_)
          clear hK fr; intro fr hK
          refine qp 74 (.int .i64 (x2.data.length : Int)) hK fun fr hK => ?_
          refine qp 75 (.bool (decide ((x2.data.length : Int) > 0))) hK fun fr hK => ?_
          refine qp 76 (.bool (decide ((x2.data.length : Int) > 0))) hK fun fr hK => ?_
          refine qp 77 (.bool (decide ((x2.data.length : Int) > 0))) hK fun fr hK => ?_
          refine qp 78 (.bool (decide ((x2.data.length : Int) > 0))) hK fun fr hK => ?_
          refine split_b (x := decide ((x2.data.length : Int) > 0)) (fun hb8 => ?_) (fun hb8 => ?_)
          ·
           replace hK := hK.more (t := 78) (v' := .bool true) rfl (by rw [hb8])
           replace hK := hK.more (t := 77) (v' := .bool true) rfl (by rw [hb8])
           replace hK := hK.more (t := 76) (v' := .bool true) rfl (by rw [hb8])
           replace hK := hK.more (t := 75) (v' := .bool true) rfl (by rw [hb8])
           replace h := ite_t (of_decide_eq_true hb8) h
           refine qs 79 hK ?_
           clear hK fr; intro fr hK
           refine qs 80 hK ?_
           clear hK fr; intro fr hK
           refine qs 81 hK ?_
           clear hK fr; intro fr hK
           refine qs 82 hK ?_
           clear hK fr; intro fr hK
           refine qs 83 hK ?_
           clear hK fr; intro fr hK
           refine qs 84 hK ?_
           clear hK fr; intro fr hK
           refine qs 85 hK ?_
           clear hK fr; intro fr hK
           refine qs 86 hK ?_
           clear hK fr; intro fr hK
           refine qs 87 hK ?_
           clear hK fr; intro fr hK
           refine qs 88 hK ?_
           clear hK fr; intro fr hK
           refine qs 89 hK ?_
           clear hK fr; intro fr hK
           refine qs 90 hK ?_
           clear hK fr; intro fr hK
           refine qs 91 hK ?_
           clear hK fr; intro fr hK
           refine qp 92 (.bool true) hK fun fr hK => ?_
           refine wpList_nil (then_n ?_)
           replace hS := hS.front 1 rfl
           replace hS := St.keep (L := [.box b1 (G_Delta_cells a0 a0_commands_a a0_commands_c) 27]) (R := [.box b3 #[.int .i64 x2.kind, .int .i64 x2.to, .int .i64 x2.from_, .int .i64 x2.len, .slice e1_data_a x2.data.length e1_data_c] 50]) hS
           replace h := Option.some.inj h; subst h
           exact ⟨m10, rfl, hK.only [1, 4, 92], l8.trans (l9.trans l10), hS⟩
          ·
           replace hK := hK.more (t := 78) (v' := .bool false) rfl (by rw [hb8])
           replace hK := hK.more (t := 77) (v' := .bool false) rfl (by rw [hb8])
           replace hK := hK.more (t := 76) (v' := .bool false) rfl (by rw [hb8])
           replace hK := hK.more (t := 75) (v' := .bool false) rfl (by rw [hb8])
           replace h := ite_f (of_decide_eq_false hb8) h
           refine qp 79 (.pointer (some ⟨b3, 0, none⟩)) hK fun fr hK => ?_
           refine qo 80 hK (s_load hK.at_ hS 0 rfl rfl rfl rfl (by kernel_rfl) ?_)
           clear hK fr; intro fr hK
           refine qp 81 (.bool (x2.kind == 2)) hK fun fr hK => ?_
           refine qp 82 (.bool (x2.kind == 2)) hK fun fr hK => ?_
           refine split_b (x := (x2.kind == 2)) (fun hb9 => ?_) (fun hb9 => ?_)
           ·
            replace hK := hK.more (t := 82) (v' := .bool true) rfl (by rw [hb9])
            replace hK := hK.more (t := 81) (v' := .bool true) rfl (by rw [hb9])
            replace h := ite_t (eq_of_beq hb9) h
            refine qp 83 (.pointer (some ⟨b3, 2, none⟩)) hK fun fr hK => ?_
            refine qo 84 hK (s_load hK.at_ hS 0 rfl rfl rfl rfl (by kernel_rfl) ?_)
            clear hK fr; intro fr hK
            refine qp 85 (.bool (x2.from_ != 0)) hK fun fr hK => ?_
            refine qp 86 (.bool (x2.from_ != 0)) hK fun fr hK => ?_
            refine split_b (x := (x2.from_ != 0)) (fun hb10 => ?_) (fun hb10 => ?_)
            ·
             replace hK := hK.more (t := 86) (v' := .bool true) rfl (by rw [hb10])
             replace hK := hK.more (t := 85) (v' := .bool true) rfl (by rw [hb10])
             replace h := ite_t (ne_of_bne hb10) h
             refine qs 87 hK ?_
             clear hK fr; intro fr hK
             refine qs 88 hK ?_
             clear hK fr; intro fr hK
             refine qs 89 hK ?_
             clear hK fr; intro fr hK
             refine qp 90 (.bool true) hK fun fr hK => ?_
             refine qp 91 (.bool true) hK fun fr hK => ?_
             refine qp 92 (.bool true) hK fun fr hK => ?_
             refine wpList_nil (then_n ?_)
             replace hS := hS.front 1 rfl
             replace hS := St.keep (L := [.box b1 (G_Delta_cells a0 a0_commands_a a0_commands_c) 27]) (R := [.box b3 #[.int .i64 x2.kind, .int .i64 x2.to, .int .i64 x2.from_, .int .i64 x2.len, .slice e1_data_a x2.data.length e1_data_c] 50]) hS
             replace h := Option.some.inj h; subst h
             exact ⟨m10, rfl, hK.only [1, 4, 92], l8.trans (l9.trans l10), hS⟩
            ·
             replace hK := hK.more (t := 86) (v' := .bool false) rfl (by rw [hb10])
             replace hK := hK.more (t := 85) (v' := .bool false) rfl (by rw [hb10])
             replace h := ite_f (not_not_intro (eq_of_bne hb10)) h
             refine qp 87 (.pointer (some ⟨b3, 3, none⟩)) hK fun fr hK => ?_
             refine qo 88 hK (s_load hK.at_ hS 0 rfl rfl rfl rfl (by kernel_rfl) ?_)
             clear hK fr; intro fr hK
             refine qp 89 (.bool (x2.len != 0)) hK fun fr hK => ?_
             refine qp 90 (.bool (x2.len != 0)) hK fun fr hK => ?_
             refine qp 91 (.bool (x2.len != 0)) hK fun fr hK => ?_
             refine qp 92 (.bool (x2.len != 0)) hK fun fr hK => ?_
             refine wpList_nil (then_n ?_)
             replace hS := hS.front 1 rfl
             replace hS := St.keep (L := [.box b1 (G_Delta_cells a0 a0_commands_a a0_commands_c) 27]) (R := [.box b3 #[.int .i64 x2.kind, .int .i64 x2.to, .int .i64 x2.from_, .int .i64 x2.len, .slice e1_data_a x2.data.length e1_data_c] 50]) hS
             replace h := Option.some.inj h; subst h
             exact ⟨m10, rfl, hK.only [1, 4, 92], l8.trans (l9.trans l10), hS⟩
           ·
            replace hK := hK.more (t := 82) (v' := .bool false) rfl (by rw [hb9])
            replace hK := hK.more (t := 81) (v' := .bool false) rfl (by rw [hb9])
            replace h := ite_f (ne_of_beq_false hb9) h
            refine qs 83 hK ?_
            clear hK fr; intro fr hK
            refine qs 84 hK ?_
            clear hK fr; intro fr hK
            refine qs 85 hK ?_
            clear hK fr; intro fr hK
            refine qs 86 hK ?_
            clear hK fr; intro fr hK
            refine qs 87 hK ?_
            clear hK fr; intro fr hK
            refine qs 88 hK ?_
            clear hK fr; intro fr hK
            refine qs 89 hK ?_
            clear hK fr; intro fr hK
            refine qs 90 hK ?_
            clear hK fr; intro fr hK
            refine qp 91 (.bool false) hK fun fr hK => ?_
            refine qp 92 (.bool false) hK fun fr hK => ?_
            refine wpList_nil (then_n ?_)
            replace hS := hS.front 1 rfl
            replace hS := St.keep (L := [.box b1 (G_Delta_cells a0 a0_commands_a a0_commands_c) 27]) (R := [.box b3 #[.int .i64 x2.kind, .int .i64 x2.to, .int .i64 x2.from_, .int .i64 x2.len, .slice e1_data_a x2.data.length e1_data_c] 50]) hS
            replace h := Option.some.inj h; subst h
            exact ⟨m10, rfl, hK.only [1, 4, 92], l8.trans (l9.trans l10), hS⟩
         ·
          replace hK := hK.more (t := 71) (v' := .bool false) rfl (by rw [hb7])
          replace hK := hK.more (t := 70) (v' := .bool false) rfl (by rw [hb7])
          replace h := ite_f (ne_of_beq_false hb7) h
          refine qs 72 hK ?_
          clear hK fr; intro fr hK
          refine qs 73 hK ?_
          clear hK fr; intro fr hK
          refine qs 74 hK ?_
          clear hK fr; intro fr hK
          refine qs 75 hK ?_
          clear hK fr; intro fr hK
          refine qp 76 (.bool false) hK fun fr hK => ?_
          refine qp 77 (.bool false) hK fun fr hK => ?_
          refine qp 78 (.bool false) hK fun fr hK => ?_
          refine qp 79 (.pointer (some ⟨b3, 0, none⟩)) hK fun fr hK => ?_
          refine qo 80 hK (s_load hK.at_ hS 0 rfl rfl rfl rfl (by kernel_rfl) ?_)
          clear hK fr; intro fr hK
          refine qp 81 (.bool (x2.kind == 2)) hK fun fr hK => ?_
          refine qp 82 (.bool (x2.kind == 2)) hK fun fr hK => ?_
          refine split_b (x := (x2.kind == 2)) (fun hb11 => ?_) (fun hb11 => ?_)
          ·
           replace hK := hK.more (t := 82) (v' := .bool true) rfl (by rw [hb11])
           replace hK := hK.more (t := 81) (v' := .bool true) rfl (by rw [hb11])
           replace h := ite_t (eq_of_beq hb11) h
           refine qp 83 (.pointer (some ⟨b3, 2, none⟩)) hK fun fr hK => ?_
           refine qo 84 hK (s_load hK.at_ hS 0 rfl rfl rfl rfl (by kernel_rfl) ?_)
           clear hK fr; intro fr hK
           refine qp 85 (.bool (x2.from_ != 0)) hK fun fr hK => ?_
           refine qp 86 (.bool (x2.from_ != 0)) hK fun fr hK => ?_
           refine split_b (x := (x2.from_ != 0)) (fun hb12 => ?_) (fun hb12 => ?_)
           ·
            replace hK := hK.more (t := 86) (v' := .bool true) rfl (by rw [hb12])
            replace hK := hK.more (t := 85) (v' := .bool true) rfl (by rw [hb12])
            replace h := ite_t (ne_of_bne hb12) h
            refine qs 87 hK ?_
            clear hK fr; intro fr hK
            refine qs 88 hK ?_
            clear hK fr; intro fr hK
            refine qs 89 hK ?_
            clear hK fr; intro fr hK
            refine qp 90 (.bool true) hK fun fr hK => ?_
            refine qp 91 (.bool true) hK fun fr hK => ?_
            refine qp 92 (.bool true) hK fun fr hK => ?_
            refine wpList_nil (then_n ?_)
            replace hS := hS.front 1 rfl
            replace hS := St.keep (L := [.box b1 (G_Delta_cells a0 a0_commands_a a0_commands_c) 27]) (R := [.box b3 #[.int .i64 x2.kind, .int .i64 x2.to, .int .i64 x2.from_, .int .i64 x2.len, .slice e1_data_a x2.data.length e1_data_c] 50]) hS
            replace h := Option.some.inj h; subst h
            exact ⟨m10, rfl, hK.only [1, 4, 92], l8.trans (l9.trans l10), hS⟩
           ·
            replace hK := hK.more (t := 86) (v' := .bool false) rfl (by rw [hb12])
            replace hK := hK.more (t := 85) (v' := .bool false) rfl (by rw [hb12])
            replace h := ite_f (not_not_intro (eq_of_bne hb12)) h
            refine qp 87 (.pointer (some ⟨b3, 3, none⟩)) hK fun fr hK => ?_
            refine qo 88 hK (s_load hK.at_ hS 0 rfl rfl rfl rfl (by kernel_rfl) ?_)
            clear hK fr; intro fr hK
            refine qp 89 (.bool (x2.len != 0)) hK fun fr hK => ?_
            refine qp 90 (.bool (x2.len != 0)) hK fun fr hK => ?_
            refine qp 91 (.bool (x2.len != 0)) hK fun fr hK => ?_
            refine qp 92 (.bool (x2.len != 0)) hK fun fr hK => ?_
            refine wpList_nil (then_n ?_)
            replace hS := hS.front 1 rfl
            replace hS := St.keep (L := [.box b1 (G_Delta_cells a0 a0_commands_a a0_commands_c) 27]) (R := [.box b3 #[.int .i64 x2.kind, .int .i64 x2.to, .int .i64 x2.from_, .int .i64 x2.len, .slice e1_data_a x2.data.length e1_data_c] 50]) hS
            replace h := Option.some.inj h; subst h
            exact ⟨m10, rfl, hK.only [1, 4, 92], l8.trans (l9.trans l10), hS⟩
          ·
           replace hK := hK.more (t := 82) (v' := .bool false) rfl (by rw [hb11])
           replace hK := hK.more (t := 81) (v' := .bool false) rfl (by rw [hb11])
           replace h := ite_f (ne_of_beq_false hb11) h
           refine qs 83 hK ?_
           clear hK fr; intro fr hK
           refine qs 84 hK ?_
           clear hK fr; intro fr hK
           refine qs 85 hK ?_
           clear hK fr; intro fr hK
           refine qs 86 hK ?_
           clear hK fr; intro fr hK
           refine qs 87 hK ?_
           clear hK fr; intro fr hK
           refine qs 88 hK ?_
           clear hK fr; intro fr hK
           refine qs 89 hK ?_
           clear hK fr; intro fr hK
           refine qs 90 hK ?_
           clear hK fr; intro fr hK
           refine qp 91 (.bool false) hK fun fr hK => ?_
           refine qp 92 (.bool false) hK fun fr hK => ?_
           refine wpList_nil (then_n ?_)
           replace hS := hS.front 1 rfl
           replace hS := St.keep (L := [.box b1 (G_Delta_cells a0 a0_commands_a a0_commands_c) 27]) (R := [.box b3 #[.int .i64 x2.kind, .int .i64 x2.to, .int .i64 x2.from_, .int .i64 x2.len, .slice e1_data_a x2.data.length e1_data_c] 50]) hS
           replace h := Option.some.inj h; subst h
           exact ⟨m10, rfl, hK.only [1, 4, 92], l8.trans (l9.trans l10), hS⟩
    ·
     replace hK := hK.more (t := 43) (v' := .bool false) rfl (by rw [hb2])
     replace h := ite_f (of_decide_eq_false hb2) h
     refine wp_exit ?_
     refine then_x ?_
     refine then_x ?_
     refine blk_e ?_
     refine then_n ?_
     refine w_seq (w_region ?_)
     refine qp 2 (.int .i64 0) hK fun fr hK => ?_
     refine wpList_nil (then_n ?_)
     refine wp_ret ?_
     replace h := Option.some.inj h; subst h
     replace h := Option.some.inj (loop_out hn1); subst h
     refine ret_of [.tmp 2] [.int .i64 0] rfl hK (.tmp rfl .nil) hS.dropAll ?_
     exact ⟨rfl, rfl⟩
  ·
   replace h := hv2; clear hv2
   refine w_region ?_
   refine qp 29 (.pointer (some ⟨b1, 0, none⟩)) hK fun fr hK => ?_
   refine qo 30 hK (s_load hK.at_ hS 0 rfl rfl rfl rfl (by kernel_rfl) ?_)
   clear hK fr; intro fr hK
   obtain ⟨y4, hy5, h⟩ := bind_some h
   refine qo 31 hK (s_call hK.at_ hS ent54_3 rfl rfl rfl rfl (G.graftref07_in_spec hy5) (by kernel_rfl) ?_)
   clear hK fr hS; rintro _ m11 _ l11 hS ⟨rfl, rfl⟩ fr hK
   replace hS : St _ m m11 [.box b1 (G_Delta_cells a0 a0_commands_a a0_commands_c) 27] := hS
   refine qp 32 (.bool (!y4)) hK fun fr hK => ?_
   refine qp 33 (.bool (!y4)) hK fun fr hK => ?_
   refine split_b (x := (!y4)) (fun hb13 => ?_) (fun hb13 => ?_)
   ·
    replace hK := hK.more (t := 33) (v' := .bool true) rfl (by rw [hb13])
    replace hK := hK.more (t := 32) (v' := .bool true) rfl (by rw [hb13])
    replace h := ite_t ((Bool.not_eq_true' _).mp hb13) h
    refine qs 34 hK ?_
    clear hK fr; intro fr hK
    refine qs 35 hK ?_
    clear hK fr; intro fr hK
    refine qs 36 hK ?_
    clear hK fr; intro fr hK
    refine qs 37 hK ?_
    clear hK fr; intro fr hK
    refine qp 38 (.bool true) hK fun fr hK => ?_
    refine wpList_nil (then_n ?_)
    replace hS : St _ m m11 [.box b1 (G_Delta_cells a0 a0_commands_a a0_commands_c) 27] := hS
    replace h := Option.some.inj h; subst h
    exact ⟨m11, rfl, hK.only [1, 38], l11, hS⟩
   ·
    replace hK := hK.more (t := 33) (v' := .bool false) rfl (by rw [hb13])
    replace hK := hK.more (t := 32) (v' := .bool false) rfl (by rw [hb13])
    replace h := ite_f (not_false_of ((Bool.not_eq_false' _).mp hb13)) h
    refine qp 34 (.pointer (some ⟨b1, 1, none⟩)) hK fun fr hK => ?_
    refine qo 35 hK (s_load hK.at_ hS 0 rfl rfl rfl rfl (by kernel_rfl) ?_)
    clear hK fr; intro fr hK
    obtain ⟨y5, hy6, h⟩ := bind_some h
    refine qo 36 hK (s_call hK.at_ hS ent54_3 rfl rfl rfl rfl (G.graftref07_in_spec hy6) (by kernel_rfl) ?_)
    clear hK fr hS; rintro _ m12 _ l12 hS ⟨rfl, rfl⟩ fr hK
    replace hS : St _ m m12 [.box b1 (G_Delta_cells a0 a0_commands_a a0_commands_c) 27] := hS
    refine qp 37 (.bool (!y5)) hK fun fr hK => ?_
    refine qp 38 (.bool (!y5)) hK fun fr hK => ?_
    refine wpList_nil (then_n ?_)
    replace hS : St _ m m12 [.box b1 (G_Delta_cells a0 a0_commands_a a0_commands_c) 27] := hS
    replace h := Option.some.inj h; subst h
    exact ⟨m12, rfl, hK.only [1, 38], l11.trans l12, hS⟩
 ·
  have h := hv1; clear hv1
  refine wp_block ?_
  replace hS : St _ m m1 [.box b1 (G_Delta_cells a0 a0_commands_a a0_commands_c) 27] := hS
  refine w_loopL h (fun (s2 : Int) fr ww => ∃ m13 : Mem, m13.w = ww ∧ Kn 93 fr [(1, .pointer (some ⟨b1, 0, none⟩)), (3, .int .i64 s2)] ∧ Le m1 m13 ∧ St (blocksOf []) m m13 [.box b1 (G_Delta_cells a0 a0_commands_a a0_commands_c) 27]) ?_ ?_
  · exact ⟨m1, rfl, hK.only [1, 3], Le.refl _, hS⟩
  clear hK hS fr h
  rintro k2 s2 x3 fr _ ⟨m13, rfl, hK, l13, hS⟩ h hn2
  unfold G.graftref07_Wrong_l2 at h
  refine w_seq ?_
  refine w_seq (w_region ?_)
  refine qp 6 (.int .i64 s2) hK fun fr hK => ?_
  refine qp 7 (.pointer (some ⟨b1, 66, none⟩)) hK fun fr hK => ?_
  refine qo 8 hK (s_load hK.at_ hS 0 rfl rfl rfl rfl (by kernel_rfl) ?_)
  clear hK fr; intro fr hK
  refine qp 9 (.int .i64 (a0.commands.length : Int)) hK fun fr hK => ?_
  refine qp 10 (.bool (decide (s2 < (a0.commands.length : Int)))) hK fun fr hK => ?_
  refine wpList_nil (then_n ?_)
  refine w_cond hK rfl (fun hb14 => ?_) (fun hb14 => ?_)
  ·
   replace hK := hK.more (t := 10) (v' := .bool true) rfl (by rw [hb14])
   replace h := ite_t (of_decide_eq_true hb14) h
   refine wp_skip ?_
   refine then_n ?_
   refine w_seq ?_
   refine wp_block ?_
   refine w_seq ?_
   obtain ⟨v4, hv4, h⟩ := bind_some h
   refine w_join (fun fr ww => ∃ m14 : Mem, m14.w = ww ∧ Kn 93 fr [(1, .pointer (some ⟨b1, 0, none⟩)), (3, .int .i64 s2), (28, .bool v4)] ∧ Le m13 m14 ∧ St (blocksOf []) m m14 [.box b1 (G_Delta_cells a0 a0_commands_a a0_commands_c) 27]) ?_ ?_
   ·
    clear hK hS fr hv4
    rintro fr _ ⟨m14, rfl, hK, l14, hS⟩
    refine then_n ?_
    refine w_cond hK rfl (fun hb15 => ?_) (fun hb15 => ?_)
    ·
     replace hK := hK.more (t := 28) (v' := .bool true) rfl (by rw [hb15])
     replace h := ite_t (hb15) h
     refine w_seq (w_region ?_)
     refine qp 2 (.int .i64 11) hK fun fr hK => ?_
     refine wpList_nil (then_n ?_)
     refine wp_ret ?_
     refine blk_r ?_
     refine then_r ?_
     refine then_r ?_
     refine blk_r ?_
     refine then_r ?_
     refine then_r ?_
     replace h := Option.some.inj h; subst h
     replace h := Option.some.inj (loop_out hn2); subst h
     replace h := Option.some.inj (join_out hk1); subst h
     refine ret_of [.tmp 2] [.int .i64 11] rfl hK (.tmp rfl .nil) hS.dropAll ?_
     exact ⟨rfl, rfl⟩
    ·
     replace hK := hK.more (t := 28) (v' := .bool false) rfl (by rw [hb15])
     replace h := ite_f (ne_true_of_eq_false hb15) h
     refine wp_skip ?_
     refine blk_n ?_
     refine then_n ?_
     refine w_region ?_
     refine qp 11 (.int .i64 s2) hK fun fr hK => ?_
     refine qp 12 (.int .i64 (IntKind.i64.wrap (s2 + 1))) hK fun fr hK => ?_
     refine qp 3 (.int .i64 (IntKind.i64.wrap (s2 + 1))) hK fun fr hK => ?_
     refine wpList_nil (then_n ?_)
     replace hS : St _ m m14 [.box b1 (G_Delta_cells a0 a0_commands_a a0_commands_c) 27] := hS
     replace h := Option.some.inj h; subst h
     obtain ⟨kq, hk1, hk2⟩ := hn2
     exact ⟨kq, hk1, _, hk2, m14, rfl, hK.only [1, 3], l13.trans l14, hS⟩
   ·
    replace h := hv4; clear hv4
    refine w_region ?_
    refine qp 13 (.pointer (some ⟨b1, 66, none⟩)) hK fun fr hK => ?_
    refine qo 14 hK (s_load hK.at_ hS 0 rfl rfl rfl rfl (by kernel_rfl) ?_)
    clear hK fr; intro fr hK
    refine qp 15 (.int .i64 s2) hK fun fr hK => ?_
    replace a0_commands_f := Els.mono rep_G_Command a0_commands_f (l1.trans l13)
    obtain ⟨x4, hy7, h⟩ := bind_some h
    refine qo 16 hK (s_idx elT25_3 a0_commands_f hy7 hK.at_ rfl rfl rfl ?_)
    clear hK fr; intro b4 p2 cs2 hR2 hA2 fr hK
    obtain ⟨e2_data_a, e2_data_c, rfl, e2_data_f⟩ := hR2
    refine qp 17 (.pointer (some ⟨b4, p2, none⟩)) hK fun fr hK => ?_
    refine qo 18 hK (s_loadAt hK.at_ hA2 0 rfl rfl rfl rfl (by kernel_rfl) ?_)
    clear hK fr; intro fr hK
    refine qp 19 (.bool (x4.kind != 1)) hK fun fr hK => ?_
    refine qp 20 (.bool (x4.kind != 1)) hK fun fr hK => ?_
    refine split_b (x := (x4.kind != 1)) (fun hb16 => ?_) (fun hb16 => ?_)
    ·
     replace hK := hK.more (t := 20) (v' := .bool true) rfl (by rw [hb16])
     replace hK := hK.more (t := 19) (v' := .bool true) rfl (by rw [hb16])
     replace h := ite_t (ne_of_bne hb16) h
     refine qp 21 (.pointer (some ⟨b1, 66, none⟩)) hK fun fr hK => ?_
     refine qo 22 hK (s_load hK.at_ hS 0 rfl rfl rfl rfl (by kernel_rfl) ?_)
     clear hK fr; intro fr hK
     refine qp 23 (.int .i64 s2) hK fun fr hK => ?_
     obtain ⟨x5, hy8, h⟩ := bind_some h
     refine qo 24 hK (s_idx elT25_3 a0_commands_f hy8 hK.at_ rfl rfl rfl ?_)
     clear hK fr; intro b5 p3 cs3 hR3 hA3 fr hK
     obtain ⟨e3_data_a, e3_data_c, rfl, e3_data_f⟩ := hR3
     refine qp 25 (.pointer (some ⟨b5, p3, none⟩)) hK fun fr hK => ?_
     refine qo 26 hK (s_loadAt hK.at_ hA3 0 rfl rfl rfl rfl (by kernel_rfl) ?_)
     clear hK fr; intro fr hK
     refine qp 27 (.bool (x5.kind != 2)) hK fun fr hK => ?_
     refine qp 28 (.bool (x5.kind != 2)) hK fun fr hK => ?_
     refine wpList_nil (then_n ?_)
     replace hS : St _ m m13 [.box b1 (G_Delta_cells a0 a0_commands_a a0_commands_c) 27] := hS
     replace h := Option.some.inj h; subst h
     exact ⟨m13, rfl, hK.only [1, 3, 28], Le.refl _, hS⟩
    ·
     replace hK := hK.more (t := 20) (v' := .bool false) rfl (by rw [hb16])
     replace hK := hK.more (t := 19) (v' := .bool false) rfl (by rw [hb16])
     replace h := ite_f (not_not_intro (eq_of_bne hb16)) h
     refine qs 21 hK ?_
     clear hK fr; intro fr hK
     refine qs 22 hK ?_
     clear hK fr; intro fr hK
     refine qs 23 hK ?_
     clear hK fr; intro fr hK
     refine qs 24 hK ?_
     clear hK fr; intro fr hK
     refine qs 25 hK ?_
     clear hK fr; intro fr hK
     refine qs 26 hK ?_
     clear hK fr; intro fr hK
     refine qs 27 hK ?_
     clear hK fr; intro fr hK
     refine qp 28 (.bool false) hK fun fr hK => ?_
     refine wpList_nil (then_n ?_)
     replace hS : St _ m m13 [.box b1 (G_Delta_cells a0 a0_commands_a a0_commands_c) 27] := hS
     replace h := Option.some.inj h; subst h
     exact ⟨m13, rfl, hK.only [1, 3, 28], Le.refl _, hS⟩
  ·
   replace hK := hK.more (t := 10) (v' := .bool false) rfl (by rw [hb14])
   replace h := ite_f (of_decide_eq_false hb14) h
   refine wp_exit ?_
   refine then_x ?_
   refine then_x ?_
   refine blk_e ?_
   refine then_n ?_
   replace hS : St _ m m13 [.box b1 (G_Delta_cells a0 a0_commands_a a0_commands_c) 27] := hS
   replace h := Option.some.inj h; subst h
   replace h := Option.some.inj (loop_out hn2); subst h
   exact ⟨_, rfl, m13, rfl, hK.only [1], l13, hS⟩
end Go.Proofs.Ytkalbidbhaalmaa
