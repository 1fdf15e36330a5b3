/- The program computes the plain functions: graftref01_Max, graftref04_Len, graftref04_Target, graftref01_Valid, graftref04_Source, graftref04_Check, graftref05_single, graftref01_Overlap, graftref01_Has, graftref05_has, graftref05_Find, graftref05_gap, graftref05_Check. Printed by a program. -/
import Derived.Test.YtkalbidbhaalmaaProg
import Derived.Test.YtkalbidbhaalmaaGs
import Derived.Test.YtkalbidbhaalmaaRep
namespace Go.Proofs.Ytkalbidbhaalmaa
open Go.RowKit G
theorem ent32_3 : Enters Try.prog 32 := enters_of Try.func32 (by decide +kernel) (by decide +kernel)
theorem ent60_3 : Enters Try.prog 60 := enters_of Try.func60 (by decide +kernel) (by decide +kernel)
theorem ent61_3 : Enters Try.prog 61 := enters_of Try.func61 (by decide +kernel) (by decide +kernel)
theorem ent62_3 : Enters Try.prog 62 := enters_of Try.func62 (by decide +kernel) (by decide +kernel)
theorem ent63_3 : Enters Try.prog 63 := enters_of Try.func63 (by decide +kernel) (by decide +kernel)
theorem ent64_3 : Enters Try.prog 64 := enters_of Try.func64 (by decide +kernel) (by decide +kernel)
theorem ent89_3 : Enters Try.prog 89 := enters_of Try.func89 (by decide +kernel) (by decide +kernel)
theorem ent90_3 : Enters Try.prog 90 := enters_of Try.func90 (by decide +kernel) (by decide +kernel)
theorem ent104_3 : Enters Try.prog 104 := enters_of Try.func104 (by decide +kernel) (by decide +kernel)
theorem ent105_3 : Enters Try.prog 105 := enters_of Try.func105 (by decide +kernel) (by decide +kernel)
theorem ent106_3 : Enters Try.prog 106 := enters_of Try.func106 (by decide +kernel) (by decide +kernel)
theorem ent111_3 : Enters Try.prog 111 := enters_of Try.func111 (by decide +kernel) (by decide +kernel)
theorem elT25_3 : ElemT Try.prog 25 50 (.agg #[.int .i64 0, .int .i64 0, .int .i64 0, .int .i64 0, .slice none 0 0]) 5 56 := ⟨by kernel_rfl, by kernel_rfl, by kernel_rfl, by decide⟩
set_option maxRecDepth 100000 in
set_option maxHeartbeats 1000000 in
theorem G.graftref01_Max_spec {m : Mem} {r : Int} (h : G.graftref01_Max = some r) :
  Spec Try.prog 60 #[] m [] fun v m' L => L = [] ∧ v = .int .i64 r := by
 unfold G.graftref01_Max at h
 refine enter (args := []) 1 Try.func60 rfl rfl (by simp) fun fr hK => ?_
 have hS := St.refl (Ow.nil m)
 replace hK : Kn 1 fr [] := hK
 refine w_seq (w_region ?_)
 refine qp 0 (.int .i64 0) hK fun fr hK => ?_
 refine wpListIn_nil (then_n ?_)
 refine w_seq (w_region ?_)
 refine qp 0 (.int .i64 4611686018427387903) hK fun fr hK => ?_
 refine wpListIn_nil (then_n ?_)
 refine wpIn_ret ?_
 replace h := Option.some.inj h; subst h
 refine ret_of [.tmp 0] [.int .i64 4611686018427387903] rfl hK (.tmp rfl .nil) hS.dropAll ?_
 exact ⟨rfl, rfl⟩
set_option maxRecDepth 100000 in
set_option maxHeartbeats 1000000 in
theorem G.graftref04_Len_spec {m : Mem} {a0 : G.Command} {a0_data_a : Option Addr} {a0_data_c : Nat} (a0_data_f : Els isU8 m 1 a0_data_a a0_data_c a0.data) {r : Int} (h : G.graftref04_Len a0 = some r) :
  Spec Try.prog 32 #[.agg #[.int .i64 a0.kind, .int .i64 a0.to, .int .i64 a0.from_, .int .i64 a0.len, .slice a0_data_a a0.data.length a0_data_c]] m [] fun v m' L => L = [] ∧ v = .int .i64 r := by
 unfold G.graftref04_Len at h
 refine enter (args := [_]) 11 Try.func32 rfl rfl (by simp) fun fr hK => ?_
 have hS := St.refl (Ow.nil m)
 replace hK : Kn 11 fr [(0, .agg #[.int .i64 a0.kind, .int .i64 a0.to, .int .i64 a0.from_, .int .i64 a0.len, .slice a0_data_a a0.data.length a0_data_c])] := hK
 refine w_seq (w_region ?_)
 refine qo 1 hK (s_box hK.at_ hS rfl rfl ?_)
 clear hK fr hS; intro m1 b1 b1z l1 hS fr hK
 replace hS : St _ m m1 [.box b1 #[.int .i64 a0.kind, .int .i64 a0.to, .int .i64 a0.from_, .int .i64 a0.len, .slice a0_data_a a0.data.length a0_data_c] 50] := hS
 refine qp 2 (.int .i64 0) hK fun fr hK => ?_
 refine wpListIn_nil (then_n ?_)
 refine w_seq ?_
 refine w_seq (w_region ?_)
 refine qp 3 (.pointer (some ⟨b1, 0, none⟩)) hK fun fr hK => ?_
 refine qo 4 hK (s_load hK.at_ hS 0 rfl rfl rfl rfl (by kernel_rfl) ?_)
 clear hK fr; intro fr hK
 refine qp 5 (.bool (a0.kind == 1)) hK fun fr hK => ?_
 refine wpListIn_nil (then_n ?_)
 refine w_cond hK rfl (fun hb1 => ?_) (fun hb1 => ?_)
 ·
  replace hK := hK.more (t := 5) (v' := .bool true) rfl (by rw [hb1])
  replace h := ite_t (eq_of_beq hb1) h
  refine w_seq (w_region ?_)
  refine qp 6 (.pointer (some ⟨b1, 3, none⟩)) hK fun fr hK => ?_
  refine qo 7 hK (s_load hK.at_ hS 0 rfl rfl rfl rfl (by kernel_rfl) ?_)
  clear hK fr; intro fr hK
  refine qp 2 (.int .i64 a0.len) hK fun fr hK => ?_
  refine wpListIn_nil (then_n ?_)
  refine wpIn_ret ?_
  refine then_r ?_
  replace h := Option.some.inj h; subst h
  refine ret_of [.tmp 2] [.int .i64 a0.len] rfl hK (.tmp rfl .nil) hS.dropAll ?_
  exact ⟨rfl, rfl⟩
 ·
  replace hK := hK.more (t := 5) (v' := .bool false) rfl (by rw [hb1])
  replace h := ite_f (ne_of_beq_false hb1) h
  refine wpIn_skip ?_
  refine then_n ?_
  refine w_seq (w_region ?_)
  refine qp 8 (.pointer (some ⟨b1, 4, none⟩)) hK fun fr hK => ?_
  refine qo 9 hK (s_load hK.at_ hS 0 rfl rfl rfl rfl (by kernel_rfl) ?_)
  clear hK fr; intro fr hK
  refine qp 10 (.int .i64 (a0.data.length : Int)) hK fun fr hK => ?_
  refine qp 2 (.int .i64 (a0.data.length : Int)) hK fun fr hK => ?_
  refine wpListIn_nil (then_n ?_)
  refine wpIn_ret ?_
  replace h := Option.some.inj h; subst h
  refine ret_of [.tmp 2] [.int .i64 (a0.data.length : Int)] rfl hK (.tmp rfl .nil) hS.dropAll ?_
  exact ⟨rfl, rfl⟩
set_option maxRecDepth 100000 in
set_option maxHeartbeats 1000000 in
theorem G.graftref04_Target_spec {m : Mem} {a0 : G.Command} {a0_data_a : Option Addr} {a0_data_c : Nat} (a0_data_f : Els isU8 m 1 a0_data_a a0_data_c a0.data) {r : G.Extent} (h : G.graftref04_Target a0 = some r) :
  Spec Try.prog 63 #[.agg #[.int .i64 a0.kind, .int .i64 a0.to, .int .i64 a0.from_, .int .i64 a0.len, .slice a0_data_a a0.data.length a0_data_c]] m [] fun v m' L => L = [] ∧ v = .agg #[.int .i64 r.off, .int .i64 r.len] := by
 unfold G.graftref04_Target at h
 refine enter (args := [_]) 8 Try.func63 rfl rfl (by simp) fun fr hK => ?_
 have hS := St.refl (Ow.nil m)
 replace hK : Kn 8 fr [(0, .agg #[.int .i64 a0.kind, .int .i64 a0.to, .int .i64 a0.from_, .int .i64 a0.len, .slice a0_data_a a0.data.length a0_data_c])] := hK
 refine w_seq (w_region ?_)
 refine qo 1 hK (s_box hK.at_ hS rfl rfl ?_)
 clear hK fr hS; intro m1 b1 b1z l1 hS fr hK
 refine qo 2 hK (s_alloc (.agg #[.int .i64 0, .int .i64 0]) hK.at_ hS rfl (by kernel_rfl) ?_)
 clear hK fr hS; intro m2 b2 b2z l2 hS fr hK
 replace hS : St _ m m2 [.box b2 #[.int .i64 0, .int .i64 0] 91, .box b1 #[.int .i64 a0.kind, .int .i64 a0.to, .int .i64 a0.from_, .int .i64 a0.len, .slice a0_data_a a0.data.length a0_data_c] 50] := hS
 refine wpListIn_nil (then_n ?_)
 refine w_seq ?_
 replace a0_data_f := Els.mono rep_U8 a0_data_f (l1.trans l2)
 obtain ⟨y1, hy1, h⟩ := bind_some h
 have hlt0 : ∀ bq ∈ blocksOf [.box b2 #[.int .i64 0, .int .i64 0] 91, .box b1 #[.int .i64 a0.kind, .int .i64 a0.to, .int .i64 a0.from_, .int .i64 a0.len, .slice a0_data_a a0.data.length a0_data_c] 50], bq < m2.w.heap.size := fun bq hbq => hS.ow.lt hbq
 refine D.wp_draw (Gr := D.GO m2 none) (S := D.SO none (blocksOf []) m m2 (fun _ => [.box b2 #[.int .i64 0, .int .i64 0] 91, .box b1 #[.int .i64 a0.kind, .int .i64 a0.to, .int .i64 a0.from_, .int .i64 a0.len, .slice a0_data_a a0.data.length a0_data_c] 50]) (fun _ => True)) (N := 0) 4 [] [([(1, none)], 0, 0, false), ([(3, some 0)], 0, 0, false), ([(1, none)], 0, 0, false), ([(5, some 0)], 0, 0, false)] hK.size (by kernel_rfl) (by kernel_rfl) (by kernel_rfl) rfl (D.startO hS trivial) ?_
 refine D.on_pure (D.GO_refl _ _) [(1, .pointer (some ⟨b1, 0, none⟩))] (.pointer (some ⟨b1, 1, none⟩)) (fun ac ww hk => (.cons (hk.1.trans (hK.at_ 1 _ rfl)) (.nil _))) ?_
 refine D.on_det (D.GO_refl _ _) [(3, .pointer (some ⟨b1, 1, none⟩))] (.int .i64 a0.to) (fun ac ww hk => (.cons (hk.1) (.nil _))) (fun ac ww kk hb hKe Post hp => (fun hS => s_load hKe hS 1 rfl rfl rfl rfl (by kernel_rfl) hp) hb.2.1) ?_
 refine D.on_det (D.GO_refl _ _) [(1, .pointer (some ⟨b1, 0, none⟩))] (.agg #[.int .i64 a0.kind, .int .i64 a0.to, .int .i64 a0.from_, .int .i64 a0.len, .slice a0_data_a a0.data.length a0_data_c]) (fun ac ww hk => (.cons (hk.1.trans (hK.at_ 1 _ rfl)) (.nil _))) (fun ac ww kk hb hKe Post hp => (fun hS => s_loadAll hKe hS 1 rfl rfl rfl (by kernel_rfl) hp) hb.2.1) ?_
 refine D.on_op (fun uu _ => uu = .int .i64 y1) (fun _ _ _ h _ => h) (by
  intro ac ww kk hlo hhi hb hk
  obtain rfl : kk = 0 := by omega
  have h0 := hS; replace hS := hb.2.1
  have k5 : ac.eval (.tmp 5) = .agg #[.int .i64 a0.kind, .int .i64 a0.to, .int .i64 a0.from_, .int .i64 a0.len, .slice a0_data_a a0.data.length a0_data_c] := hk.1
  have hKe : Ke ac [(5, .agg #[.int .i64 a0.kind, .int .i64 a0.to, .int .i64 a0.from_, .int .i64 a0.len, .slice a0_data_a a0.data.length a0_data_c])] := (.cons k5 (.nil _))
  replace a0_data_f := Els.mono rep_U8 a0_data_f hb.1
  exact ⟨D.wanted0 rfl, D.callO h0 (fun bq hbq => hlt0 bq (by revert hbq; simp [blocksOf, Ent.box, rowOf, Ent.row]; try omega)) hb hKe ent32_3 rfl rfl rfl rfl (G.graftref04_Len_spec a0_data_f hy1) (by kernel_rfl) (by rintro _ m' _ hg hn hl ⟨rfl, rfl⟩; exact rfl)⟩) ?_
 refine D.finO ?_
 intro fr2 m3 hm1 l3 hS2 hF2 hE
 replace hS2 : St _ m m3 [.box b2 #[.int .i64 0, .int .i64 0] 91, .box b1 #[.int .i64 a0.kind, .int .i64 a0.to, .int .i64 a0.from_, .int .i64 a0.len, .slice a0_data_a a0.data.length a0_data_c] 50] := hS2
 have hK2 := D.kn_ends [(3, .pointer (some ⟨b1, 1, none⟩)), (4, .int .i64 a0.to), (5, .agg #[.int .i64 a0.kind, .int .i64 a0.to, .int .i64 a0.from_, .int .i64 a0.len, .slice a0_data_a a0.data.length a0_data_c]), (6, .int .i64 y1)] hK hE rfl (by kernel_rfl) (.cons (hE.slots 3) (.cons (hE.slots 4) (.cons (hE.slots 5) (.cons (hE.slots 6) (.nil _)))))
 replace hK2 : Kn 8 fr2 [(3, .pointer (some ⟨b1, 1, none⟩)), (4, .int .i64 a0.to), (5, .agg #[.int .i64 a0.kind, .int .i64 a0.to, .int .i64 a0.from_, .int .i64 a0.len, .slice a0_data_a a0.data.length a0_data_c]), (6, .int .i64 y1), (2, .pointer (some ⟨b2, 0, none⟩)), (1, .pointer (some ⟨b1, 0, none⟩)), (0, .agg #[.int .i64 a0.kind, .int .i64 a0.to, .int .i64 a0.from_, .int .i64 a0.len, .slice a0_data_a a0.data.length a0_data_c])] := hK2.only [3, 4, 5, 6, 2, 1, 0]
 clear hE hK; revert hK2; clear hm1 hS hlt0; revert fr2; clear fr; intro fr hK; have hS := hS2; clear hS2
 refine qp 7 (.agg #[.int .i64 a0.to, .int .i64 y1]) hK fun fr hK => ?_
 refine qo0 hK (s_storeAll hK.at_ 0 hS rfl rfl rfl rfl (by kernel_rfl) (by kernel_rfl) (by kernel_rfl) ?_)
 clear hK fr hS; intro m4 l4 hS fr hK
 replace hS : St _ m m4 [.box b2 #[.int .i64 a0.to, .int .i64 y1] 91, .box b1 #[.int .i64 a0.kind, .int .i64 a0.to, .int .i64 a0.from_, .int .i64 a0.len, .slice a0_data_a a0.data.length a0_data_c] 50] := hS
 refine wpListIn_nil (then_n ?_)
 refine wpIn_ret ?_
 replace h := Option.some.inj h; subst h
 refine ret_of [.cell 2 91] [.agg #[.int .i64 a0.to, .int .i64 y1]] rfl hK (ResL.box hS 0 rfl rfl (by kernel_rfl) .nil) hS.dropAll ?_
 exact ⟨rfl, rfl⟩
set_option maxRecDepth 100000 in
set_option maxHeartbeats 1000000 in
theorem G.graftref01_Valid_spec {m : Mem} {a0 : G.Extent} {r : Bool} (h : G.graftref01_Valid a0 = some r) :
  Spec Try.prog 104 #[.agg #[.int .i64 a0.off, .int .i64 a0.len]] m [] fun v m' L => L = [] ∧ v = .bool r := by
 unfold G.graftref01_Valid at h
 refine enter (args := [_]) 26 Try.func104 rfl rfl (by simp) fun fr hK => ?_
 have hS := St.refl (Ow.nil m)
 replace hK : Kn 26 fr [(0, .agg #[.int .i64 a0.off, .int .i64 a0.len])] := hK
 refine w_seq (w_region ?_)
 refine qo 1 hK (s_box hK.at_ hS rfl rfl ?_)
 clear hK fr hS; intro m1 b1 b1z l1 hS fr hK
 replace hS : St _ m m1 [.box b1 #[.int .i64 a0.off, .int .i64 a0.len] 91] := hS
 refine qp 2 (.bool false) hK fun fr hK => ?_
 refine wpListIn_nil (then_n ?_)
 refine w_seq ?_
 refine split_b (x := decide (a0.off ≥ 0)) (fun hb1 => ?_) (fun hb1 => ?_)
 ·
  replace h := ite_t (of_decide_eq_true hb1) h
  refine split_b (x := decide (a0.len ≥ 0)) (fun hb2 => ?_) (fun hb2 => ?_)
  ·
   replace h := ite_t (of_decide_eq_true hb2) h
   obtain ⟨y1, hy1, h⟩ := bind_some h
   refine split_b (x := decide (a0.off ≤ y1)) (fun hb3 => ?_) (fun hb3 => ?_)
   ·
    replace h := ite_t (of_decide_eq_true hb3) h
    obtain ⟨y2, hy2, h⟩ := bind_some h
    have hlt0 : ∀ bq ∈ blocksOf [.box b1 #[.int .i64 a0.off, .int .i64 a0.len] 91], bq < m1.w.heap.size := fun bq hbq => hS.ow.lt hbq
    refine D.wp_draw (Gr := D.GO m1 none) (S := D.SO none (blocksOf []) m m1 (fun _ => [.box b1 #[.int .i64 a0.off, .int .i64 a0.len] 91]) (fun _ => True)) (N := 0) 21 [] [([(1, none)], 0, 0, false), ([(3, some 0)], 0, 0, false), ([(4, some 0)], 0, 0, false), ([(5, some 0)], 0, 0, false), ([(1, none), (6, some 0)], 0, 0, false), ([(7, some 0), (6, some 1)], 0, 0, false), ([(8, some 0), (6, some 2)], 0, 0, false), ([(6, some 3), (9, some 0)], 0, 0, false), ([(10, some 0)], 0, 0, false), ([(1, none), (11, some 0)], 0, 0, false), ([(12, some 0), (11, some 1)], 0, 0, false), ([(11, some 2)], 0, 0, false), ([(13, some 1), (14, some 0), (11, some 3)], 0, 0, false), ([(11, some 4), (15, some 0)], 0, 0, false), ([(16, some 0)], 0, 0, false), ([(1, none), (17, some 0)], 0, 0, false), ([(18, some 0), (17, some 1)], 0, 0, false), ([(17, some 2)], 0, 0, false), ([(1, none), (17, some 3)], 0, 0, false), ([(21, some 0), (17, some 4)], 0, 0, false), ([(20, some 2), (22, some 0), (17, some 5)], 0, 0, false)] hK.size (by kernel_rfl) (by kernel_rfl) (by kernel_rfl) rfl (D.startO hS trivial) ?_
    refine D.on_pure (D.GO_refl _ _) [(1, .pointer (some ⟨b1, 0, none⟩))] (.pointer (some ⟨b1, 0, none⟩)) (fun ac ww hk => (.cons (hk.1.trans (hK.at_ 1 _ rfl)) (.nil _))) ?_
    refine D.on_det (D.GO_refl _ _) [(3, .pointer (some ⟨b1, 0, none⟩))] (.int .i64 a0.off) (fun ac ww hk => (.cons (hk.1) (.nil _))) (fun ac ww kk hb hKe Post hp => (fun hS => s_load hKe hS 0 rfl rfl rfl rfl (by kernel_rfl) hp) hb.2.1) ?_
    refine D.on_det (D.GO_refl _ _) [(4, .int .i64 a0.off)] (.bool true) (fun ac ww hk => (.cons (hk.1) (.nil _))) (fun ac ww kk hb hKe Post hp => s_pureE (.bool true) (.bool (decide (a0.off ≥ 0))) hKe (by kernel_rfl) (by kernel_rfl) (by rw [hb1]) hp) ?_
    refine D.on_pure (D.GO_refl _ _) [(5, .bool true)] (.bool true) (fun ac ww hk => (.cons (hk.1) (.nil _))) ?_
    refine D.on_pure (D.GO_refl _ _) [(1, .pointer (some ⟨b1, 0, none⟩)), (6, .bool true)] (.pointer (some ⟨b1, 1, none⟩)) (fun ac ww hk => (.cons (hk.1.trans (hK.at_ 1 _ rfl)) (.cons (hk.2.1) (.nil _)))) ?_
    refine D.on_det (D.GO_refl _ _) [(7, .pointer (some ⟨b1, 1, none⟩)), (6, .bool true)] (.int .i64 a0.len) (fun ac ww hk => (.cons (hk.1) (.cons (hk.2.1) (.nil _)))) (fun ac ww kk hb hKe Post hp => (fun hS => s_load hKe hS 0 rfl rfl rfl rfl (by kernel_rfl) hp) hb.2.1) ?_
    refine D.on_det (D.GO_refl _ _) [(8, .int .i64 a0.len), (6, .bool true)] (.bool true) (fun ac ww hk => (.cons (hk.1) (.cons (hk.2.1) (.nil _)))) (fun ac ww kk hb hKe Post hp => s_pureE (.bool true) (.bool (decide (a0.len ≥ 0))) hKe (by kernel_rfl) (by kernel_rfl) (by rw [hb2]) hp) ?_
    refine D.on_pure (D.GO_refl _ _) [(6, .bool true), (9, .bool true)] (.bool true) (fun ac ww hk => (.cons (hk.1) (.cons (hk.2.1) (.nil _)))) ?_
    refine D.on_pure (D.GO_refl _ _) [(10, .bool true)] (.bool true) (fun ac ww hk => (.cons (hk.1) (.nil _))) ?_
    refine D.on_pure (D.GO_refl _ _) [(1, .pointer (some ⟨b1, 0, none⟩)), (11, .bool true)] (.pointer (some ⟨b1, 0, none⟩)) (fun ac ww hk => (.cons (hk.1.trans (hK.at_ 1 _ rfl)) (.cons (hk.2.1) (.nil _)))) ?_
    refine D.on_det (D.GO_refl _ _) [(12, .pointer (some ⟨b1, 0, none⟩)), (11, .bool true)] (.int .i64 a0.off) (fun ac ww hk => (.cons (hk.1) (.cons (hk.2.1) (.nil _)))) (fun ac ww kk hb hKe Post hp => (fun hS => s_load hKe hS 0 rfl rfl rfl rfl (by kernel_rfl) hp) hb.2.1) ?_
    refine D.on_op (fun uu _ => uu = .int .i64 y1) (fun _ _ _ h _ => h) (by
     intro ac ww kk hlo hhi hb hk
     obtain rfl : kk = 0 := by omega
     have h0 := hS; replace hS := hb.2.1
     have k11 : ac.eval (.tmp 11) = .bool true := hk.1
     have hKe : Ke ac [(11, .bool true)] := (.cons k11 (.nil _))
     exact ⟨D.wantedE hKe (by kernel_rfl), D.callO h0 (fun bq hbq => hlt0 bq (by revert hbq; simp [blocksOf, Ent.box, rowOf, Ent.row]; try omega)) hb hKe ent60_3 rfl rfl rfl rfl (G.graftref01_Max_spec hy1) (by kernel_rfl) (by rintro _ m' _ hg hn hl ⟨rfl, rfl⟩; exact rfl)⟩) ?_
    refine D.on_det (D.GO_refl _ _) [(13, .int .i64 a0.off), (14, .int .i64 y1), (11, .bool true)] (.bool true) (fun ac ww hk => (.cons (hk.1) (.cons (hk.2.1) (.cons (hk.2.2.1) (.nil _))))) (fun ac ww kk hb hKe Post hp => s_pureE (.bool true) (.bool (decide (a0.off ≤ y1))) hKe (by kernel_rfl) (by kernel_rfl) (by rw [hb3]) hp) ?_
    refine D.on_pure (D.GO_refl _ _) [(11, .bool true), (15, .bool true)] (.bool true) (fun ac ww hk => (.cons (hk.1) (.cons (hk.2.1) (.nil _)))) ?_
    refine D.on_pure (D.GO_refl _ _) [(16, .bool true)] (.bool true) (fun ac ww hk => (.cons (hk.1) (.nil _))) ?_
    refine D.on_pure (D.GO_refl _ _) [(1, .pointer (some ⟨b1, 0, none⟩)), (17, .bool true)] (.pointer (some ⟨b1, 1, none⟩)) (fun ac ww hk => (.cons (hk.1.trans (hK.at_ 1 _ rfl)) (.cons (hk.2.1) (.nil _)))) ?_
    refine D.on_det (D.GO_refl _ _) [(18, .pointer (some ⟨b1, 1, none⟩)), (17, .bool true)] (.int .i64 a0.len) (fun ac ww hk => (.cons (hk.1) (.cons (hk.2.1) (.nil _)))) (fun ac ww kk hb hKe Post hp => (fun hS => s_load hKe hS 0 rfl rfl rfl rfl (by kernel_rfl) hp) hb.2.1) ?_
    refine D.on_op (fun uu _ => uu = .int .i64 y2) (fun _ _ _ h _ => h) (by
     intro ac ww kk hlo hhi hb hk
     obtain rfl : kk = 0 := by omega
     have h0 := hS; replace hS := hb.2.1
     have k17 : ac.eval (.tmp 17) = .bool true := hk.1
     have hKe : Ke ac [(17, .bool true)] := (.cons k17 (.nil _))
     exact ⟨D.wantedE hKe (by kernel_rfl), D.callO h0 (fun bq hbq => hlt0 bq (by revert hbq; simp [blocksOf, Ent.box, rowOf, Ent.row]; try omega)) hb hKe ent60_3 rfl rfl rfl rfl (G.graftref01_Max_spec hy2) (by kernel_rfl) (by rintro _ m' _ hg hn hl ⟨rfl, rfl⟩; exact rfl)⟩) ?_
    refine D.on_pure (D.GO_refl _ _) [(1, .pointer (some ⟨b1, 0, none⟩)), (17, .bool true)] (.pointer (some ⟨b1, 0, none⟩)) (fun ac ww hk => (.cons (hk.1.trans (hK.at_ 1 _ rfl)) (.cons (hk.2.1) (.nil _)))) ?_
    refine D.on_det (D.GO_refl _ _) [(21, .pointer (some ⟨b1, 0, none⟩)), (17, .bool true)] (.int .i64 a0.off) (fun ac ww hk => (.cons (hk.1) (.cons (hk.2.1) (.nil _)))) (fun ac ww kk hb hKe Post hp => (fun hS => s_load hKe hS 0 rfl rfl rfl rfl (by kernel_rfl) hp) hb.2.1) ?_
    refine D.on_pure (D.GO_refl _ _) [(20, .int .i64 y2), (22, .int .i64 a0.off), (17, .bool true)] (.int .i64 (IntKind.i64.wrap (y2 - a0.off))) (fun ac ww hk => (.cons (hk.1) (.cons (hk.2.1) (.cons (hk.2.2.1) (.nil _))))) ?_
    refine D.finO ?_
    intro fr2 m2 hm1 l2 hS2 hF2 hE
    replace hS2 : St _ m m2 [.box b1 #[.int .i64 a0.off, .int .i64 a0.len] 91] := hS2
    have hK2 := D.kn_ends [(3, .pointer (some ⟨b1, 0, none⟩)), (4, .int .i64 a0.off), (5, .bool true), (6, .bool true), (7, .pointer (some ⟨b1, 1, none⟩)), (8, .int .i64 a0.len), (9, .bool true), (10, .bool true), (11, .bool true), (12, .pointer (some ⟨b1, 0, none⟩)), (13, .int .i64 a0.off), (14, .int .i64 y1), (15, .bool true), (16, .bool true), (17, .bool true), (18, .pointer (some ⟨b1, 1, none⟩)), (19, .int .i64 a0.len), (20, .int .i64 y2), (21, .pointer (some ⟨b1, 0, none⟩)), (22, .int .i64 a0.off), (23, .int .i64 (IntKind.i64.wrap (y2 - a0.off)))] hK hE rfl (by kernel_rfl) (.cons (hE.slots 3) (.cons (hE.slots 4) (.cons (hE.slots 5) (.cons (hE.slots 6) (.cons (hE.slots 7) (.cons (hE.slots 8) (.cons (hE.slots 9) (.cons (hE.slots 10) (.cons (hE.slots 11) (.cons (hE.slots 12) (.cons (hE.slots 13) (.cons (hE.slots 14) (.cons (hE.slots 15) (.cons (hE.slots 16) (.cons (hE.slots 17) (.cons (hE.slots 18) (.cons (hE.slots 19) (.cons (hE.slots 20) (.cons (hE.slots 21) (.cons (hE.slots 22) (.cons (hE.slots 23) (.nil _))))))))))))))))))))))
    replace hK2 : Kn 26 fr2 [(3, .pointer (some ⟨b1, 0, none⟩)), (4, .int .i64 a0.off), (5, .bool true), (6, .bool true), (7, .pointer (some ⟨b1, 1, none⟩)), (8, .int .i64 a0.len), (9, .bool true), (10, .bool true), (11, .bool true), (12, .pointer (some ⟨b1, 0, none⟩)), (13, .int .i64 a0.off), (14, .int .i64 y1), (15, .bool true), (16, .bool true), (17, .bool true), (18, .pointer (some ⟨b1, 1, none⟩)), (19, .int .i64 a0.len), (20, .int .i64 y2), (21, .pointer (some ⟨b1, 0, none⟩)), (22, .int .i64 a0.off), (23, .int .i64 (IntKind.i64.wrap (y2 - a0.off))), (2, .bool false), (1, .pointer (some ⟨b1, 0, none⟩)), (0, .agg #[.int .i64 a0.off, .int .i64 a0.len])] := hK2.only [3, 4, 5, 6, 7, 8, 9, 10, 11, 12, 13, 14, 15, 16, 17, 18, 19, 20, 21, 22, 23, 2, 1, 0]
    clear hE hK; revert hK2; clear hm1 hS hlt0; revert fr2; clear fr; intro fr hK; have hS := hS2; clear hS2
    replace hS : St _ m m2 [.box b1 #[.int .i64 a0.off, .int .i64 a0.len] 91] := hS
    refine qp 24 (.bool (decide (a0.len ≤ (IntKind.i64.wrap (y2 - a0.off))))) hK fun fr hK => ?_
    refine qp 25 (.bool (decide (a0.len ≤ (IntKind.i64.wrap (y2 - a0.off))))) hK fun fr hK => ?_
    refine qp 2 (.bool (decide (a0.len ≤ (IntKind.i64.wrap (y2 - a0.off))))) hK fun fr hK => ?_
    refine wpListIn_nil (then_n ?_)
    refine wpIn_ret ?_
    replace h := Option.some.inj h; subst h
    refine ret_of [.tmp 2] [.bool (decide (a0.len ≤ (IntKind.i64.wrap (y2 - a0.off))))] rfl hK (.tmp rfl .nil) hS.dropAll ?_
    exact ⟨rfl, rfl⟩
   ·
    replace h := ite_f (of_decide_eq_false hb3) h
    have hlt0 : ∀ bq ∈ blocksOf [.box b1 #[.int .i64 a0.off, .int .i64 a0.len] 91], bq < m1.w.heap.size := fun bq hbq => hS.ow.lt hbq
    refine D.wp_draw (Gr := D.GO m1 none) (S := D.SO none (blocksOf []) m m1 (fun _ => [.box b1 #[.int .i64 a0.off, .int .i64 a0.len] 91]) (fun _ => True)) (N := 0) 21 [] [([(1, none)], 0, 0, false), ([(3, some 0)], 0, 0, false), ([(4, some 0)], 0, 0, false), ([(5, some 0)], 0, 0, false), ([(1, none), (6, some 0)], 0, 0, false), ([(7, some 0), (6, some 1)], 0, 0, false), ([(8, some 0), (6, some 2)], 0, 0, false), ([(6, some 3), (9, some 0)], 0, 0, false), ([(10, some 0)], 0, 0, false), ([(1, none), (11, some 0)], 0, 0, false), ([(12, some 0), (11, some 1)], 0, 0, false), ([(11, some 2)], 0, 0, false), ([(13, some 1), (14, some 0), (11, some 3)], 0, 0, false), ([(11, some 4), (15, some 0)], 0, 0, false), ([(16, some 0)], 0, 0, false), ([(1, none), (17, some 0)], 0, 0, false), ([(18, some 0), (17, some 1)], 0, 0, false), ([(17, some 2)], 0, 0, false), ([(1, none), (17, some 3)], 0, 0, false), ([(21, some 0), (17, some 4)], 0, 0, false), ([(20, some 2), (22, some 0), (17, some 5)], 0, 0, false)] hK.size (by kernel_rfl) (by kernel_rfl) (by kernel_rfl) rfl (D.startO hS trivial) ?_
    refine D.on_pure (D.GO_refl _ _) [(1, .pointer (some ⟨b1, 0, none⟩))] (.pointer (some ⟨b1, 0, none⟩)) (fun ac ww hk => (.cons (hk.1.trans (hK.at_ 1 _ rfl)) (.nil _))) ?_
    refine D.on_det (D.GO_refl _ _) [(3, .pointer (some ⟨b1, 0, none⟩))] (.int .i64 a0.off) (fun ac ww hk => (.cons (hk.1) (.nil _))) (fun ac ww kk hb hKe Post hp => (fun hS => s_load hKe hS 0 rfl rfl rfl rfl (by kernel_rfl) hp) hb.2.1) ?_
    refine D.on_det (D.GO_refl _ _) [(4, .int .i64 a0.off)] (.bool true) (fun ac ww hk => (.cons (hk.1) (.nil _))) (fun ac ww kk hb hKe Post hp => s_pureE (.bool true) (.bool (decide (a0.off ≥ 0))) hKe (by kernel_rfl) (by kernel_rfl) (by rw [hb1]) hp) ?_
    refine D.on_pure (D.GO_refl _ _) [(5, .bool true)] (.bool true) (fun ac ww hk => (.cons (hk.1) (.nil _))) ?_
    refine D.on_pure (D.GO_refl _ _) [(1, .pointer (some ⟨b1, 0, none⟩)), (6, .bool true)] (.pointer (some ⟨b1, 1, none⟩)) (fun ac ww hk => (.cons (hk.1.trans (hK.at_ 1 _ rfl)) (.cons (hk.2.1) (.nil _)))) ?_
    refine D.on_det (D.GO_refl _ _) [(7, .pointer (some ⟨b1, 1, none⟩)), (6, .bool true)] (.int .i64 a0.len) (fun ac ww hk => (.cons (hk.1) (.cons (hk.2.1) (.nil _)))) (fun ac ww kk hb hKe Post hp => (fun hS => s_load hKe hS 0 rfl rfl rfl rfl (by kernel_rfl) hp) hb.2.1) ?_
    refine D.on_det (D.GO_refl _ _) [(8, .int .i64 a0.len), (6, .bool true)] (.bool true) (fun ac ww hk => (.cons (hk.1) (.cons (hk.2.1) (.nil _)))) (fun ac ww kk hb hKe Post hp => s_pureE (.bool true) (.bool (decide (a0.len ≥ 0))) hKe (by kernel_rfl) (by kernel_rfl) (by rw [hb2]) hp) ?_
    refine D.on_pure (D.GO_refl _ _) [(6, .bool true), (9, .bool true)] (.bool true) (fun ac ww hk => (.cons (hk.1) (.cons (hk.2.1) (.nil _)))) ?_
    refine D.on_pure (D.GO_refl _ _) [(10, .bool true)] (.bool true) (fun ac ww hk => (.cons (hk.1) (.nil _))) ?_
    refine D.on_pure (D.GO_refl _ _) [(1, .pointer (some ⟨b1, 0, none⟩)), (11, .bool true)] (.pointer (some ⟨b1, 0, none⟩)) (fun ac ww hk => (.cons (hk.1.trans (hK.at_ 1 _ rfl)) (.cons (hk.2.1) (.nil _)))) ?_
    refine D.on_det (D.GO_refl _ _) [(12, .pointer (some ⟨b1, 0, none⟩)), (11, .bool true)] (.int .i64 a0.off) (fun ac ww hk => (.cons (hk.1) (.cons (hk.2.1) (.nil _)))) (fun ac ww kk hb hKe Post hp => (fun hS => s_load hKe hS 0 rfl rfl rfl rfl (by kernel_rfl) hp) hb.2.1) ?_
    refine D.on_op (fun uu _ => uu = .int .i64 y1) (fun _ _ _ h _ => h) (by
     intro ac ww kk hlo hhi hb hk
     obtain rfl : kk = 0 := by omega
     have h0 := hS; replace hS := hb.2.1
     have k11 : ac.eval (.tmp 11) = .bool true := hk.1
     have hKe : Ke ac [(11, .bool true)] := (.cons k11 (.nil _))
     exact ⟨D.wantedE hKe (by kernel_rfl), D.callO h0 (fun bq hbq => hlt0 bq (by revert hbq; simp [blocksOf, Ent.box, rowOf, Ent.row]; try omega)) hb hKe ent60_3 rfl rfl rfl rfl (G.graftref01_Max_spec hy1) (by kernel_rfl) (by rintro _ m' _ hg hn hl ⟨rfl, rfl⟩; exact rfl)⟩) ?_
    refine D.on_det (D.GO_refl _ _) [(13, .int .i64 a0.off), (14, .int .i64 y1), (11, .bool true)] (.bool false) (fun ac ww hk => (.cons (hk.1) (.cons (hk.2.1) (.cons (hk.2.2.1) (.nil _))))) (fun ac ww kk hb hKe Post hp => s_pureE (.bool false) (.bool (decide (a0.off ≤ y1))) hKe (by kernel_rfl) (by kernel_rfl) (by rw [hb3]) hp) ?_
    refine D.on_pure (D.GO_refl _ _) [(11, .bool true), (15, .bool false)] (.bool false) (fun ac ww hk => (.cons (hk.1) (.cons (hk.2.1) (.nil _)))) ?_
    refine D.on_pure (D.GO_refl _ _) [(16, .bool false)] (.bool false) (fun ac ww hk => (.cons (hk.1) (.nil _))) ?_
    refine D.on_no [(17, .bool false)] (fun ac ww hk => .cons (hk.2.1) (.nil _)) ?_
    refine D.on_no [(17, .bool false)] (fun ac ww hk => .cons (hk.2.1) (.nil _)) ?_
    refine D.on_no [(17, .bool false)] (fun ac ww hk => .cons (hk.1) (.nil _)) ?_
    refine D.on_no [(17, .bool false)] (fun ac ww hk => .cons (hk.2.1) (.nil _)) ?_
    refine D.on_no [(17, .bool false)] (fun ac ww hk => .cons (hk.2.1) (.nil _)) ?_
    refine D.on_no [(17, .bool false)] (fun ac ww hk => .cons (hk.2.2.1) (.nil _)) ?_
    refine D.finO ?_
    intro fr2 m3 hm1 l3 hS2 hF2 hE
    replace hS2 : St _ m m3 [.box b1 #[.int .i64 a0.off, .int .i64 a0.len] 91] := hS2
    have hK2 := D.kn_ends [(3, .pointer (some ⟨b1, 0, none⟩)), (4, .int .i64 a0.off), (5, .bool true), (6, .bool true), (7, .pointer (some ⟨b1, 1, none⟩)), (8, .int .i64 a0.len), (9, .bool true), (10, .bool true), (11, .bool true), (12, .pointer (some ⟨b1, 0, none⟩)), (13, .int .i64 a0.off), (14, .int .i64 y1), (15, .bool false), (16, .bool false), (17, .bool false), (18, undef), (19, undef), (20, undef), (21, undef), (22, undef), (23, undef)] hK hE rfl (by kernel_rfl) (.cons (hE.slots 3) (.cons (hE.slots 4) (.cons (hE.slots 5) (.cons (hE.slots 6) (.cons (hE.slots 7) (.cons (hE.slots 8) (.cons (hE.slots 9) (.cons (hE.slots 10) (.cons (hE.slots 11) (.cons (hE.slots 12) (.cons (hE.slots 13) (.cons (hE.slots 14) (.cons (hE.slots 15) (.cons (hE.slots 16) (.cons (hE.slots 17) (.cons (hE.slots 18) (.cons (hE.slots 19) (.cons (hE.slots 20) (.cons (hE.slots 21) (.cons (hE.slots 22) (.cons (hE.slots 23) (.nil _))))))))))))))))))))))
    replace hK2 : Kn 26 fr2 [(3, .pointer (some ⟨b1, 0, none⟩)), (4, .int .i64 a0.off), (5, .bool true), (6, .bool true), (7, .pointer (some ⟨b1, 1, none⟩)), (8, .int .i64 a0.len), (9, .bool true), (10, .bool true), (11, .bool true), (12, .pointer (some ⟨b1, 0, none⟩)), (13, .int .i64 a0.off), (14, .int .i64 y1), (15, .bool false), (16, .bool false), (17, .bool false), (18, undef), (19, undef), (20, undef), (21, undef), (22, undef), (23, undef), (2, .bool false), (1, .pointer (some ⟨b1, 0, none⟩)), (0, .agg #[.int .i64 a0.off, .int .i64 a0.len])] := hK2.only [3, 4, 5, 6, 7, 8, 9, 10, 11, 12, 13, 14, 15, 16, 17, 18, 19, 20, 21, 22, 23, 2, 1, 0]
    clear hE hK; revert hK2; clear hm1 hS hlt0; revert fr2; clear fr; intro fr hK; have hS := hS2; clear hS2
    replace hS : St _ m m3 [.box b1 #[.int .i64 a0.off, .int .i64 a0.len] 91] := hS
    refine qs 24 hK ?_
    clear hK fr; intro fr hK
    refine qp 25 (.bool false) hK fun fr hK => ?_
    refine qp 2 (.bool false) hK fun fr hK => ?_
    refine wpListIn_nil (then_n ?_)
    refine wpIn_ret ?_
    replace h := Option.some.inj h; subst h
    refine ret_of [.tmp 2] [.bool false] rfl hK (.tmp rfl .nil) hS.dropAll ?_
    exact ⟨rfl, rfl⟩
  ·
   replace h := ite_f (of_decide_eq_false hb2) h
   have hlt0 : ∀ bq ∈ blocksOf [.box b1 #[.int .i64 a0.off, .int .i64 a0.len] 91], bq < m1.w.heap.size := fun bq hbq => hS.ow.lt hbq
   refine D.wp_draw (Gr := D.GO m1 none) (S := D.SO none (blocksOf []) m m1 (fun _ => [.box b1 #[.int .i64 a0.off, .int .i64 a0.len] 91]) (fun _ => True)) (N := 0) 21 [] [([(1, none)], 0, 0, false), ([(3, some 0)], 0, 0, false), ([(4, some 0)], 0, 0, false), ([(5, some 0)], 0, 0, false), ([(1, none), (6, some 0)], 0, 0, false), ([(7, some 0), (6, some 1)], 0, 0, false), ([(8, some 0), (6, some 2)], 0, 0, false), ([(6, some 3), (9, some 0)], 0, 0, false), ([(10, some 0)], 0, 0, false), ([(1, none), (11, some 0)], 0, 0, false), ([(12, some 0), (11, some 1)], 0, 0, false), ([(11, some 2)], 0, 0, false), ([(13, some 1), (14, some 0), (11, some 3)], 0, 0, false), ([(11, some 4), (15, some 0)], 0, 0, false), ([(16, some 0)], 0, 0, false), ([(1, none), (17, some 0)], 0, 0, false), ([(18, some 0), (17, some 1)], 0, 0, false), ([(17, some 2)], 0, 0, false), ([(1, none), (17, some 3)], 0, 0, false), ([(21, some 0), (17, some 4)], 0, 0, false), ([(20, some 2), (22, some 0), (17, some 5)], 0, 0, false)] hK.size (by kernel_rfl) (by kernel_rfl) (by kernel_rfl) rfl (D.startO hS trivial) ?_
   refine D.on_pure (D.GO_refl _ _) [(1, .pointer (some ⟨b1, 0, none⟩))] (.pointer (some ⟨b1, 0, none⟩)) (fun ac ww hk => (.cons (hk.1.trans (hK.at_ 1 _ rfl)) (.nil _))) ?_
   refine D.on_det (D.GO_refl _ _) [(3, .pointer (some ⟨b1, 0, none⟩))] (.int .i64 a0.off) (fun ac ww hk => (.cons (hk.1) (.nil _))) (fun ac ww kk hb hKe Post hp => (fun hS => s_load hKe hS 0 rfl rfl rfl rfl (by kernel_rfl) hp) hb.2.1) ?_
   refine D.on_det (D.GO_refl _ _) [(4, .int .i64 a0.off)] (.bool true) (fun ac ww hk => (.cons (hk.1) (.nil _))) (fun ac ww kk hb hKe Post hp => s_pureE (.bool true) (.bool (decide (a0.off ≥ 0))) hKe (by kernel_rfl) (by kernel_rfl) (by rw [hb1]) hp) ?_
   refine D.on_pure (D.GO_refl _ _) [(5, .bool true)] (.bool true) (fun ac ww hk => (.cons (hk.1) (.nil _))) ?_
   refine D.on_pure (D.GO_refl _ _) [(1, .pointer (some ⟨b1, 0, none⟩)), (6, .bool true)] (.pointer (some ⟨b1, 1, none⟩)) (fun ac ww hk => (.cons (hk.1.trans (hK.at_ 1 _ rfl)) (.cons (hk.2.1) (.nil _)))) ?_
   refine D.on_det (D.GO_refl _ _) [(7, .pointer (some ⟨b1, 1, none⟩)), (6, .bool true)] (.int .i64 a0.len) (fun ac ww hk => (.cons (hk.1) (.cons (hk.2.1) (.nil _)))) (fun ac ww kk hb hKe Post hp => (fun hS => s_load hKe hS 0 rfl rfl rfl rfl (by kernel_rfl) hp) hb.2.1) ?_
   refine D.on_det (D.GO_refl _ _) [(8, .int .i64 a0.len), (6, .bool true)] (.bool false) (fun ac ww hk => (.cons (hk.1) (.cons (hk.2.1) (.nil _)))) (fun ac ww kk hb hKe Post hp => s_pureE (.bool false) (.bool (decide (a0.len ≥ 0))) hKe (by kernel_rfl) (by kernel_rfl) (by rw [hb2]) hp) ?_
   refine D.on_pure (D.GO_refl _ _) [(6, .bool true), (9, .bool false)] (.bool false) (fun ac ww hk => (.cons (hk.1) (.cons (hk.2.1) (.nil _)))) ?_
   refine D.on_pure (D.GO_refl _ _) [(10, .bool false)] (.bool false) (fun ac ww hk => (.cons (hk.1) (.nil _))) ?_
   refine D.on_no [(11, .bool false)] (fun ac ww hk => .cons (hk.2.1) (.nil _)) ?_
   refine D.on_no [(11, .bool false)] (fun ac ww hk => .cons (hk.2.1) (.nil _)) ?_
   refine D.on_no [(11, .bool false)] (fun ac ww hk => .cons (hk.1) (.nil _)) ?_
   refine D.on_no [(11, .bool false)] (fun ac ww hk => .cons (hk.2.2.1) (.nil _)) ?_
   refine D.on_pure (D.GO_refl _ _) [(11, .bool false), (15, undef)] (.bool false) (fun ac ww hk => (.cons (hk.1) (.cons (hk.2.1) (.nil _)))) ?_
   refine D.on_pure (D.GO_refl _ _) [(16, .bool false)] (.bool false) (fun ac ww hk => (.cons (hk.1) (.nil _))) ?_
   refine D.on_no [(17, .bool false)] (fun ac ww hk => .cons (hk.2.1) (.nil _)) ?_
   refine D.on_no [(17, .bool false)] (fun ac ww hk => .cons (hk.2.1) (.nil _)) ?_
   refine D.on_no [(17, .bool false)] (fun ac ww hk => .cons (hk.1) (.nil _)) ?_
   refine D.on_no [(17, .bool false)] (fun ac ww hk => .cons (hk.2.1) (.nil _)) ?_
   refine D.on_no [(17, .bool false)] (fun ac ww hk => .cons (hk.2.1) (.nil _)) ?_
   refine D.on_no [(17, .bool false)] (fun ac ww hk => .cons (hk.2.2.1) (.nil _)) ?_
   refine D.finO ?_
   intro fr2 m4 hm1 l4 hS2 hF2 hE
   replace hS2 : St _ m m4 [.box b1 #[.int .i64 a0.off, .int .i64 a0.len] 91] := hS2
   have hK2 := D.kn_ends [(3, .pointer (some ⟨b1, 0, none⟩)), (4, .int .i64 a0.off), (5, .bool true), (6, .bool true), (7, .pointer (some ⟨b1, 1, none⟩)), (8, .int .i64 a0.len), (9, .bool false), (10, .bool false), (11, .bool false), (12, undef), (13, undef), (14, undef), (15, undef), (16, .bool false), (17, .bool false), (18, undef), (19, undef), (20, undef), (21, undef), (22, undef), (23, undef)] hK hE rfl (by kernel_rfl) (.cons (hE.slots 3) (.cons (hE.slots 4) (.cons (hE.slots 5) (.cons (hE.slots 6) (.cons (hE.slots 7) (.cons (hE.slots 8) (.cons (hE.slots 9) (.cons (hE.slots 10) (.cons (hE.slots 11) (.cons (hE.slots 12) (.cons (hE.slots 13) (.cons (hE.slots 14) (.cons (hE.slots 15) (.cons (hE.slots 16) (.cons (hE.slots 17) (.cons (hE.slots 18) (.cons (hE.slots 19) (.cons (hE.slots 20) (.cons (hE.slots 21) (.cons (hE.slots 22) (.cons (hE.slots 23) (.nil _))))))))))))))))))))))
   replace hK2 : Kn 26 fr2 [(3, .pointer (some ⟨b1, 0, none⟩)), (4, .int .i64 a0.off), (5, .bool true), (6, .bool true), (7, .pointer (some ⟨b1, 1, none⟩)), (8, .int .i64 a0.len), (9, .bool false), (10, .bool false), (11, .bool false), (12, undef), (13, undef), (14, undef), (15, undef), (16, .bool false), (17, .bool false), (18, undef), (19, undef), (20, undef), (21, undef), (22, undef), (23, undef), (2, .bool false), (1, .pointer (some ⟨b1, 0, none⟩)), (0, .agg #[.int .i64 a0.off, .int .i64 a0.len])] := hK2.only [3, 4, 5, 6, 7, 8, 9, 10, 11, 12, 13, 14, 15, 16, 17, 18, 19, 20, 21, 22, 23, 2, 1, 0]
   clear hE hK; revert hK2; clear hm1 hS hlt0; revert fr2; clear fr; intro fr hK; have hS := hS2; clear hS2
   replace hS : St _ m m4 [.box b1 #[.int .i64 a0.off, .int .i64 a0.len] 91] := hS
   refine qs 24 hK ?_
   clear hK fr; intro fr hK
   refine qp 25 (.bool false) hK fun fr hK => ?_
   refine qp 2 (.bool false) hK fun fr hK => ?_
   refine wpListIn_nil (then_n ?_)
   refine wpIn_ret ?_
   replace h := Option.some.inj h; subst h
   refine ret_of [.tmp 2] [.bool false] rfl hK (.tmp rfl .nil) hS.dropAll ?_
   exact ⟨rfl, rfl⟩
 ·
  replace h := ite_f (of_decide_eq_false hb1) h
  have hlt0 : ∀ bq ∈ blocksOf [.box b1 #[.int .i64 a0.off, .int .i64 a0.len] 91], bq < m1.w.heap.size := fun bq hbq => hS.ow.lt hbq
  refine D.wp_draw (Gr := D.GO m1 none) (S := D.SO none (blocksOf []) m m1 (fun _ => [.box b1 #[.int .i64 a0.off, .int .i64 a0.len] 91]) (fun _ => True)) (N := 0) 21 [] [([(1, none)], 0, 0, false), ([(3, some 0)], 0, 0, false), ([(4, some 0)], 0, 0, false), ([(5, some 0)], 0, 0, false), ([(1, none), (6, some 0)], 0, 0, false), ([(7, some 0), (6, some 1)], 0, 0, false), ([(8, some 0), (6, some 2)], 0, 0, false), ([(6, some 3), (9, some 0)], 0, 0, false), ([(10, some 0)], 0, 0, false), ([(1, none), (11, some 0)], 0, 0, false), ([(12, some 0), (11, some 1)], 0, 0, false), ([(11, some 2)], 0, 0, false), ([(13, some 1), (14, some 0), (11, some 3)], 0, 0, false), ([(11, some 4), (15, some 0)], 0, 0, false), ([(16, some 0)], 0, 0, false), ([(1, none), (17, some 0)], 0, 0, false), ([(18, some 0), (17, some 1)], 0, 0, false), ([(17, some 2)], 0, 0, false), ([(1, none), (17, some 3)], 0, 0, false), ([(21, some 0), (17, some 4)], 0, 0, false), ([(20, some 2), (22, some 0), (17, some 5)], 0, 0, false)] hK.size (by kernel_rfl) (by kernel_rfl) (by kernel_rfl) rfl (D.startO hS trivial) ?_
  refine D.on_pure (D.GO_refl _ _) [(1, .pointer (some ⟨b1, 0, none⟩))] (.pointer (some ⟨b1, 0, none⟩)) (fun ac ww hk => (.cons (hk.1.trans (hK.at_ 1 _ rfl)) (.nil _))) ?_
  refine D.on_det (D.GO_refl _ _) [(3, .pointer (some ⟨b1, 0, none⟩))] (.int .i64 a0.off) (fun ac ww hk => (.cons (hk.1) (.nil _))) (fun ac ww kk hb hKe Post hp => (fun hS => s_load hKe hS 0 rfl rfl rfl rfl (by kernel_rfl) hp) hb.2.1) ?_
  refine D.on_det (D.GO_refl _ _) [(4, .int .i64 a0.off)] (.bool false) (fun ac ww hk => (.cons (hk.1) (.nil _))) (fun ac ww kk hb hKe Post hp => s_pureE (.bool false) (.bool (decide (a0.off ≥ 0))) hKe (by kernel_rfl) (by kernel_rfl) (by rw [hb1]) hp) ?_
  refine D.on_pure (D.GO_refl _ _) [(5, .bool false)] (.bool false) (fun ac ww hk => (.cons (hk.1) (.nil _))) ?_
  refine D.on_no [(6, .bool false)] (fun ac ww hk => .cons (hk.2.1) (.nil _)) ?_
  refine D.on_no [(6, .bool false)] (fun ac ww hk => .cons (hk.2.1) (.nil _)) ?_
  refine D.on_no [(6, .bool false)] (fun ac ww hk => .cons (hk.2.1) (.nil _)) ?_
  refine D.on_pure (D.GO_refl _ _) [(6, .bool false), (9, undef)] (.bool false) (fun ac ww hk => (.cons (hk.1) (.cons (hk.2.1) (.nil _)))) ?_
  refine D.on_pure (D.GO_refl _ _) [(10, .bool false)] (.bool false) (fun ac ww hk => (.cons (hk.1) (.nil _))) ?_
  refine D.on_no [(11, .bool false)] (fun ac ww hk => .cons (hk.2.1) (.nil _)) ?_
  refine D.on_no [(11, .bool false)] (fun ac ww hk => .cons (hk.2.1) (.nil _)) ?_
  refine D.on_no [(11, .bool false)] (fun ac ww hk => .cons (hk.1) (.nil _)) ?_
  refine D.on_no [(11, .bool false)] (fun ac ww hk => .cons (hk.2.2.1) (.nil _)) ?_
  refine D.on_pure (D.GO_refl _ _) [(11, .bool false), (15, undef)] (.bool false) (fun ac ww hk => (.cons (hk.1) (.cons (hk.2.1) (.nil _)))) ?_
  refine D.on_pure (D.GO_refl _ _) [(16, .bool false)] (.bool false) (fun ac ww hk => (.cons (hk.1) (.nil _))) ?_
  refine D.on_no [(17, .bool false)] (fun ac ww hk => .cons (hk.2.1) (.nil _)) ?_
  refine D.on_no [(17, .bool false)] (fun ac ww hk => .cons (hk.2.1) (.nil _)) ?_
  refine D.on_no [(17, .bool false)] (fun ac ww hk => .cons (hk.1) (.nil _)) ?_
  refine D.on_no [(17, .bool false)] (fun ac ww hk => .cons (hk.2.1) (.nil _)) ?_
  refine D.on_no [(17, .bool false)] (fun ac ww hk => .cons (hk.2.1) (.nil _)) ?_
  refine D.on_no [(17, .bool false)] (fun ac ww hk => .cons (hk.2.2.1) (.nil _)) ?_
  refine D.finO ?_
  intro fr2 m5 hm1 l5 hS2 hF2 hE
  replace hS2 : St _ m m5 [.box b1 #[.int .i64 a0.off, .int .i64 a0.len] 91] := hS2
  have hK2 := D.kn_ends [(3, .pointer (some ⟨b1, 0, none⟩)), (4, .int .i64 a0.off), (5, .bool false), (6, .bool false), (7, undef), (8, undef), (9, undef), (10, .bool false), (11, .bool false), (12, undef), (13, undef), (14, undef), (15, undef), (16, .bool false), (17, .bool false), (18, undef), (19, undef), (20, undef), (21, undef), (22, undef), (23, undef)] hK hE rfl (by kernel_rfl) (.cons (hE.slots 3) (.cons (hE.slots 4) (.cons (hE.slots 5) (.cons (hE.slots 6) (.cons (hE.slots 7) (.cons (hE.slots 8) (.cons (hE.slots 9) (.cons (hE.slots 10) (.cons (hE.slots 11) (.cons (hE.slots 12) (.cons (hE.slots 13) (.cons (hE.slots 14) (.cons (hE.slots 15) (.cons (hE.slots 16) (.cons (hE.slots 17) (.cons (hE.slots 18) (.cons (hE.slots 19) (.cons (hE.slots 20) (.cons (hE.slots 21) (.cons (hE.slots 22) (.cons (hE.slots 23) (.nil _))))))))))))))))))))))
  replace hK2 : Kn 26 fr2 [(3, .pointer (some ⟨b1, 0, none⟩)), (4, .int .i64 a0.off), (5, .bool false), (6, .bool false), (7, undef), (8, undef), (9, undef), (10, .bool false), (11, .bool false), (12, undef), (13, undef), (14, undef), (15, undef), (16, .bool false), (17, .bool false), (18, undef), (19, undef), (20, undef), (21, undef), (22, undef), (23, undef), (2, .bool false), (1, .pointer (some ⟨b1, 0, none⟩)), (0, .agg #[.int .i64 a0.off, .int .i64 a0.len])] := hK2.only [3, 4, 5, 6, 7, 8, 9, 10, 11, 12, 13, 14, 15, 16, 17, 18, 19, 20, 21, 22, 23, 2, 1, 0]
  clear hE hK; revert hK2; clear hm1 hS hlt0; revert fr2; clear fr; intro fr hK; have hS := hS2; clear hS2
  replace hS : St _ m m5 [.box b1 #[.int .i64 a0.off, .int .i64 a0.len] 91] := hS
  refine qs 24 hK ?_
  clear hK fr; intro fr hK
  refine qp 25 (.bool false) hK fun fr hK => ?_
  refine qp 2 (.bool false) hK fun fr hK => ?_
  refine wpListIn_nil (then_n ?_)
  refine wpIn_ret ?_
  replace h := Option.some.inj h; subst h
  refine ret_of [.tmp 2] [.bool false] rfl hK (.tmp rfl .nil) hS.dropAll ?_
  exact ⟨rfl, rfl⟩
set_option maxRecDepth 100000 in
set_option maxHeartbeats 1000000 in
theorem G.graftref04_Source_spec {m : Mem} {a0 : G.Command} {a0_data_a : Option Addr} {a0_data_c : Nat} (a0_data_f : Els isU8 m 1 a0_data_a a0_data_c a0.data) {r : G.Extent} (h : G.graftref04_Source a0 = some r) :
  Spec Try.prog 105 #[.agg #[.int .i64 a0.kind, .int .i64 a0.to, .int .i64 a0.from_, .int .i64 a0.len, .slice a0_data_a a0.data.length a0_data_c]] m [] fun v m' L => L = [] ∧ v = .agg #[.int .i64 r.off, .int .i64 r.len] := by
 unfold G.graftref04_Source at h
 refine enter (args := [_]) 8 Try.func105 rfl rfl (by simp) fun fr hK => ?_
 have hS := St.refl (Ow.nil m)
 replace hK : Kn 8 fr [(0, .agg #[.int .i64 a0.kind, .int .i64 a0.to, .int .i64 a0.from_, .int .i64 a0.len, .slice a0_data_a a0.data.length a0_data_c])] := hK
 refine w_seq (w_region ?_)
 refine qo 1 hK (s_box hK.at_ hS rfl rfl ?_)
 clear hK fr hS; intro m1 b1 b1z l1 hS fr hK
 refine qo 2 hK (s_alloc (.agg #[.int .i64 0, .int .i64 0]) hK.at_ hS rfl (by kernel_rfl) ?_)
 clear hK fr hS; intro m2 b2 b2z l2 hS fr hK
 replace hS : St _ m m2 [.box b2 #[.int .i64 0, .int .i64 0] 91, .box b1 #[.int .i64 a0.kind, .int .i64 a0.to, .int .i64 a0.from_, .int .i64 a0.len, .slice a0_data_a a0.data.length a0_data_c] 50] := hS
 refine wpListIn_nil (then_n ?_)
 refine w_seq (w_region ?_)
 refine qp 3 (.pointer (some ⟨b1, 2, none⟩)) hK fun fr hK => ?_
 refine qo 4 hK (s_load hK.at_ hS 1 rfl rfl rfl rfl (by kernel_rfl) ?_)
 clear hK fr; intro fr hK
 refine qp 5 (.pointer (some ⟨b1, 3, none⟩)) hK fun fr hK => ?_
 refine qo 6 hK (s_load hK.at_ hS 1 rfl rfl rfl rfl (by kernel_rfl) ?_)
 clear hK fr; intro fr hK
 refine qp 7 (.agg #[.int .i64 a0.from_, .int .i64 a0.len]) hK fun fr hK => ?_
 refine qo0 hK (s_storeAll hK.at_ 0 hS rfl rfl rfl rfl (by kernel_rfl) (by kernel_rfl) (by kernel_rfl) ?_)
 clear hK fr hS; intro m3 l3 hS fr hK
 replace hS : St _ m m3 [.box b2 #[.int .i64 a0.from_, .int .i64 a0.len] 91, .box b1 #[.int .i64 a0.kind, .int .i64 a0.to, .int .i64 a0.from_, .int .i64 a0.len, .slice a0_data_a a0.data.length a0_data_c] 50] := hS
 refine wpListIn_nil (then_n ?_)
 refine wpIn_ret ?_
 replace h := Option.some.inj h; subst h
 refine ret_of [.cell 2 91] [.agg #[.int .i64 a0.from_, .int .i64 a0.len]] rfl hK (ResL.box hS 0 rfl rfl (by kernel_rfl) .nil) hS.dropAll ?_
 exact ⟨rfl, rfl⟩
set_option maxRecDepth 100000 in
set_option maxHeartbeats 1000000 in
theorem G.graftref04_Check_spec {m : Mem} {a0 : G.Command} {a0_data_a : Option Addr} {a0_data_c : Nat} (a0_data_f : Els isU8 m 1 a0_data_a a0_data_c a0.data) {r : Int} (h : G.graftref04_Check a0 = some r) :
  Spec Try.prog 89 #[.agg #[.int .i64 a0.kind, .int .i64 a0.to, .int .i64 a0.from_, .int .i64 a0.len, .slice a0_data_a a0.data.length a0_data_c]] m [] fun v m' L => L = [] ∧ v = .int .i64 r := by
 unfold G.graftref04_Check at h
 refine enter (args := [_]) 46 Try.func89 rfl rfl (by simp) fun fr hK => ?_
 have hS := St.refl (Ow.nil m)
 replace hK : Kn 46 fr [(0, .agg #[.int .i64 a0.kind, .int .i64 a0.to, .int .i64 a0.from_, .int .i64 a0.len, .slice a0_data_a a0.data.length a0_data_c])] := hK
 refine w_seq (w_region ?_)
 refine qo 1 hK (s_box hK.at_ hS rfl rfl ?_)
 clear hK fr hS; intro m1 b1 b1z l1 hS fr hK
 replace hS : St _ m m1 [.box b1 #[.int .i64 a0.kind, .int .i64 a0.to, .int .i64 a0.from_, .int .i64 a0.len, .slice a0_data_a a0.data.length a0_data_c] 50] := hS
 refine qp 2 (.int .i64 0) hK fun fr hK => ?_
 refine wpListIn_nil (then_n ?_)
 refine w_seq ?_
 refine w_seq ?_
 obtain ⟨v1, hv1, h⟩ := bind_some h
 refine w_join (fun fr ww => ∃ m2 : Mem, m2.w = ww ∧ Kn 46 fr [(1, .pointer (some ⟨b1, 0, none⟩)), (10, .bool v1)] ∧ Le m1 m2 ∧ St (blocksOf []) m m2 [.box b1 #[.int .i64 a0.kind, .int .i64 a0.to, .int .i64 a0.from_, .int .i64 a0.len, .slice a0_data_a a0.data.length a0_data_c] 50]) ?_ ?_
 ·
  clear hK hS fr hv1
  rintro fr _ ⟨m2, rfl, hK, l2, hS⟩
  refine then_n ?_
  refine w_cond hK rfl (fun hb1 => ?_) (fun hb1 => ?_)
  ·
   replace hK := hK.more (t := 10) (v' := .bool true) rfl (by rw [hb1])
   replace h := ite_t (hb1) h
   refine w_seq (w_region ?_)
   refine qp 2 (.int .i64 11) hK fun fr hK => ?_
   refine wpListIn_nil (then_n ?_)
   refine wpIn_ret ?_
   refine then_r ?_
   replace h := Option.some.inj h; subst h
   refine ret_of [.tmp 2] [.int .i64 11] rfl hK (.tmp rfl .nil) hS.dropAll ?_
   exact ⟨rfl, rfl⟩
  ·
   replace hK := hK.more (t := 10) (v' := .bool false) rfl (by rw [hb1])
   replace h := ite_f (ne_true_of_eq_false hb1) h
   refine wpIn_skip ?_
   refine then_n ?_
   refine w_seq ?_
   refine w_seq (w_region ?_)
   refine qo 11 hK (s_loadAll hK.at_ hS 0 rfl rfl rfl (by kernel_rfl) ?_)
   clear hK fr; intro fr hK
   replace a0_data_f := Els.mono rep_U8 a0_data_f (l1.trans l2)
   obtain ⟨y1, hy1, h⟩ := bind_some h
   refine qo 12 hK (s_call hK.at_ hS ent32_3 rfl rfl rfl rfl (G.graftref04_Len_spec a0_data_f hy1) (by kernel_rfl) ?_)
   clear hK fr hS; rintro _ m3 _ l3 hS ⟨rfl, rfl⟩ fr hK
   replace hS : St _ m m3 [.box b1 #[.int .i64 a0.kind, .int .i64 a0.to, .int .i64 a0.from_, .int .i64 a0.len, .slice a0_data_a a0.data.length a0_data_c] 50] := hS
   refine qp 13 (.bool (y1 == 0)) hK fun fr hK => ?_
   refine wpListIn_nil (then_n ?_)
   refine w_cond hK rfl (fun hb2 => ?_) (fun hb2 => ?_)
   ·
    replace hK := hK.more (t := 13) (v' := .bool true) rfl (by rw [hb2])
    replace h := ite_t (eq_of_beq hb2) h
    refine w_seq (w_region ?_)
    refine qp 2 (.int .i64 7) hK fun fr hK => ?_
    refine wpListIn_nil (then_n ?_)
    refine wpIn_ret ?_
    refine then_r ?_
    replace h := Option.some.inj h; subst h
    refine ret_of [.tmp 2] [.int .i64 7] rfl hK (.tmp rfl .nil) hS.dropAll ?_
    exact ⟨rfl, rfl⟩
   ·
    replace hK := hK.more (t := 13) (v' := .bool false) rfl (by rw [hb2])
    replace h := ite_f (ne_of_beq_false hb2) h
    refine wpIn_skip ?_
    refine then_n ?_
    refine w_seq ?_
    refine w_seq (w_region ?_)
    refine qo 14 hK (s_loadAll hK.at_ hS 0 rfl rfl rfl (by kernel_rfl) ?_)
    clear hK fr; intro fr hK
    replace a0_data_f := Els.mono rep_U8 a0_data_f l3
    obtain ⟨y2, hy2, h⟩ := bind_some h
    refine qo 15 hK (s_call hK.at_ hS ent63_3 rfl rfl rfl rfl (G.graftref04_Target_spec a0_data_f hy2) (by kernel_rfl) ?_)
    clear hK fr hS; rintro _ m4 _ l4 hS ⟨rfl, rfl⟩ fr hK
    replace hS : St _ m m4 [.box b1 #[.int .i64 a0.kind, .int .i64 a0.to, .int .i64 a0.from_, .int .i64 a0.len, .slice a0_data_a a0.data.length a0_data_c] 50] := hS
    obtain ⟨y3, hy3, h⟩ := bind_some h
    refine qo 16 hK (s_call hK.at_ hS ent104_3 rfl rfl rfl rfl (G.graftref01_Valid_spec hy3) (by kernel_rfl) ?_)
    clear hK fr hS; rintro _ m5 _ l5 hS ⟨rfl, rfl⟩ fr hK
    replace hS : St _ m m5 [.box b1 #[.int .i64 a0.kind, .int .i64 a0.to, .int .i64 a0.from_, .int .i64 a0.len, .slice a0_data_a a0.data.length a0_data_c] 50] := hS
    refine qp 17 (.bool (!y3)) hK fun fr hK => ?_
    refine wpListIn_nil (then_n ?_)
    refine w_cond hK rfl (fun hb3 => ?_) (fun hb3 => ?_)
    ·
     replace hK := hK.more (t := 17) (v' := .bool true) rfl (by rw [hb3])
     replace h := ite_t ((Bool.not_eq_true' _).mp hb3) h
     refine w_seq (w_region ?_)
     refine qp 2 (.int .i64 2) hK fun fr hK => ?_
     refine wpListIn_nil (then_n ?_)
     refine wpIn_ret ?_
     refine then_r ?_
     replace h := Option.some.inj h; subst h
     refine ret_of [.tmp 2] [.int .i64 2] rfl hK (.tmp rfl .nil) hS.dropAll ?_
     exact ⟨rfl, rfl⟩
    ·
     replace hK := hK.more (t := 17) (v' := .bool false) rfl (by rw [hb3])
     replace h := ite_f (not_false_of ((Bool.not_eq_false' _).mp hb3)) h
     refine wpIn_skip ?_
     refine then_n ?_
     refine w_seq ?_
     refine w_seq ?_
     obtain ⟨v2, hv2, h⟩ := bind_some h
     refine w_join (fun fr ww => ∃ m6 : Mem, m6.w = ww ∧ Kn 46 fr [(1, .pointer (some ⟨b1, 0, none⟩)), (32, .bool v2)] ∧ Le m5 m6 ∧ St (blocksOf []) m m6 [.box b1 #[.int .i64 a0.kind, .int .i64 a0.to, .int .i64 a0.from_, .int .i64 a0.len, .slice a0_data_a a0.data.length a0_data_c] 50]) ?_ ?_
     ·
      clear hK hS fr hv2
      rintro fr _ ⟨m6, rfl, hK, l6, hS⟩
      refine then_n ?_
      refine w_cond hK rfl (fun hb4 => ?_) (fun hb4 => ?_)
      ·
       replace hK := hK.more (t := 32) (v' := .bool true) rfl (by rw [hb4])
       replace h := ite_t (hb4) h
       refine w_seq (w_region ?_)
       refine qp 2 (.int .i64 2) hK fun fr hK => ?_
       refine wpListIn_nil (then_n ?_)
       refine wpIn_ret ?_
       refine then_r ?_
       replace h := Option.some.inj h; subst h
       refine ret_of [.tmp 2] [.int .i64 2] rfl hK (.tmp rfl .nil) hS.dropAll ?_
       exact ⟨rfl, rfl⟩
      ·
       replace hK := hK.more (t := 32) (v' := .bool false) rfl (by rw [hb4])
       replace h := ite_f (ne_true_of_eq_false hb4) h
       refine wpIn_skip ?_
       refine then_n ?_
       refine w_seq ?_
       refine w_seq ?_
       obtain ⟨v3, hv3, h⟩ := bind_some h
       refine w_join (fun fr ww => ∃ m7 : Mem, m7.w = ww ∧ Kn 46 fr [(45, .bool v3)] ∧ Le m6 m7 ∧ St (blocksOf []) m m7 []) ?_ ?_
       ·
        clear hK hS fr hv3
        rintro fr _ ⟨m7, rfl, hK, l7, hS⟩
        refine then_n ?_
        refine w_cond hK rfl (fun hb5 => ?_) (fun hb5 => ?_)
        ·
         replace hK := hK.more (t := 45) (v' := .bool true) rfl (by rw [hb5])
         replace h := ite_t (hb5) h
         refine w_seq (w_region ?_)
         refine qp 2 (.int .i64 2) hK fun fr hK => ?_
         refine wpListIn_nil (then_n ?_)
         refine wpIn_ret ?_
         refine then_r ?_
         replace h := Option.some.inj h; subst h
         refine ret_of [.tmp 2] [.int .i64 2] rfl hK (.tmp rfl .nil) hS.dropAll ?_
         exact ⟨rfl, rfl⟩
        ·
         replace hK := hK.more (t := 45) (v' := .bool false) rfl (by rw [hb5])
         replace h := ite_f (ne_true_of_eq_false hb5) h
         refine wpIn_skip ?_
         refine then_n ?_
         refine w_seq (w_region ?_)
         refine qp 2 (.int .i64 0) hK fun fr hK => ?_
         refine wpListIn_nil (then_n ?_)
         refine wpIn_ret ?_
         replace h := Option.some.inj h; subst h
         refine ret_of [.tmp 2] [.int .i64 0] rfl hK (.tmp rfl .nil) hS.dropAll ?_
         exact ⟨rfl, rfl⟩
       ·
        replace h := hv3; clear hv3
        refine w_region ?_
        refine qp 33 (.pointer (some ⟨b1, 0, none⟩)) hK fun fr hK => ?_
        refine qo 34 hK (s_load hK.at_ hS 0 rfl rfl rfl rfl (by kernel_rfl) ?_)
        clear hK fr; intro fr hK
        refine qp 35 (.bool (a0.kind == 2)) hK fun fr hK => ?_
        refine qp 36 (.bool (a0.kind == 2)) hK fun fr hK => ?_
        refine split_b (x := (a0.kind == 2)) (fun hb6 => ?_) (fun hb6 => ?_)
        ·
         replace hK := hK.more (t := 36) (v' := .bool true) rfl (by rw [hb6])
         replace hK := hK.more (t := 35) (v' := .bool true) rfl (by rw [hb6])
         replace h := ite_t (eq_of_beq hb6) h
         refine qp 37 (.pointer (some ⟨b1, 2, none⟩)) hK fun fr hK => ?_
         refine qo 38 hK (s_load hK.at_ hS 0 rfl rfl rfl rfl (by kernel_rfl) ?_)
         clear hK fr; intro fr hK
         refine qp 39 (.bool (a0.from_ != 0)) hK fun fr hK => ?_
         refine qp 40 (.bool (a0.from_ != 0)) hK fun fr hK => ?_
         refine split_b (x := (a0.from_ != 0)) (fun hb7 => ?_) (fun hb7 => ?_)
         ·
          replace hK := hK.more (t := 40) (v' := .bool true) rfl (by rw [hb7])
          replace hK := hK.more (t := 39) (v' := .bool true) rfl (by rw [hb7])
          replace h := ite_t (ne_of_bne hb7) h
          refine qs 41 hK ?_
          clear hK fr; intro fr hK
          refine qs 42 hK ?_
          clear hK fr; intro fr hK
          refine qs 43 hK ?_
          clear hK fr; intro fr hK
          refine qp 44 (.bool true) hK fun fr hK => ?_
          refine qp 45 (.bool true) hK fun fr hK => ?_
          refine wpListIn_nil (then_n ?_)
          replace hS := St.keep (L := []) (R := [.box b1 #[.int .i64 a0.kind, .int .i64 a0.to, .int .i64 a0.from_, .int .i64 a0.len, .slice a0_data_a a0.data.length a0_data_c] 50]) hS
          replace h := Option.some.inj h; subst h
          exact ⟨m6, rfl, hK.only [45], Le.refl _, hS⟩
         ·
          replace hK := hK.more (t := 40) (v' := .bool false) rfl (by rw [hb7])
          replace hK := hK.more (t := 39) (v' := .bool false) rfl (by rw [hb7])
          replace h := ite_f (not_not_intro (eq_of_bne hb7)) h
          refine qp 41 (.pointer (some ⟨b1, 3, none⟩)) hK fun fr hK => ?_
          refine qo 42 hK (s_load hK.at_ hS 0 rfl rfl rfl rfl (by kernel_rfl) ?_)
          clear hK fr; intro fr hK
          refine qp 43 (.bool (a0.len != 0)) hK fun fr hK => ?_
          refine qp 44 (.bool (a0.len != 0)) hK fun fr hK => ?_
          refine qp 45 (.bool (a0.len != 0)) hK fun fr hK => ?_
          refine wpListIn_nil (then_n ?_)
          replace hS := St.keep (L := []) (R := [.box b1 #[.int .i64 a0.kind, .int .i64 a0.to, .int .i64 a0.from_, .int .i64 a0.len, .slice a0_data_a a0.data.length a0_data_c] 50]) hS
          replace h := Option.some.inj h; subst h
          exact ⟨m6, rfl, hK.only [45], Le.refl _, hS⟩
        ·
         replace hK := hK.more (t := 36) (v' := .bool false) rfl (by rw [hb6])
         replace hK := hK.more (t := 35) (v' := .bool false) rfl (by rw [hb6])
         replace h := ite_f (ne_of_beq_false hb6) h
         refine qs 37 hK ?_
         clear hK fr; intro fr hK
         refine qs 38 hK ?_
         clear hK fr; intro fr hK
         refine qs 39 hK ?_
         clear hK fr; intro fr hK
         refine qs 40 hK ?_
         clear hK fr; intro fr hK
         refine qs 41 hK ?_
         clear hK fr; intro fr hK
         refine qs 42 hK ?_
         clear hK fr; intro fr hK
         refine qs 43 hK ?_
         clear hK fr; intro fr hK
         refine qs 44 hK ?_
         clear hK fr; intro fr hK
         refine qp 45 (.bool false) hK fun fr hK => ?_
         refine wpListIn_nil (then_n ?_)
         replace hS := St.keep (L := []) (R := [.box b1 #[.int .i64 a0.kind, .int .i64 a0.to, .int .i64 a0.from_, .int .i64 a0.len, .slice a0_data_a a0.data.length a0_data_c] 50]) hS
         replace h := Option.some.inj h; subst h
         exact ⟨m6, rfl, hK.only [45], Le.refl _, hS⟩
     ·
      replace h := hv2; clear hv2
      refine w_region ?_
      refine qp 18 (.pointer (some ⟨b1, 0, none⟩)) hK fun fr hK => ?_
      refine qo 19 hK (s_load hK.at_ hS 0 rfl rfl rfl rfl (by kernel_rfl) ?_)
      clear hK fr; intro fr hK
      refine qp 20 (.bool (a0.kind == 1)) hK fun fr hK => ?_
      refine qp 21 (.bool (a0.kind == 1)) hK fun fr hK => ?_
      refine split_b (x := (a0.kind == 1)) (fun hb8 => ?_) (fun hb8 => ?_)
      ·
       replace hK := hK.more (t := 21) (v' := .bool true) rfl (by rw [hb8])
       replace hK := hK.more (t := 20) (v' := .bool true) rfl (by rw [hb8])
       replace h := ite_t (eq_of_beq hb8) h
       refine qp 22 (.pointer (some ⟨b1, 4, none⟩)) hK fun fr hK => ?_
       refine qo 23 hK (s_load hK.at_ hS 0 rfl rfl rfl rfl (by kernel_rfl) ?_)
       clear hK fr; intro fr hK
       refine qp 24 (.int .i64 (a0.data.length : Int)) hK fun fr hK => ?_
       refine qp 25 (.bool (decide ((a0.data.length : Int) > 0))) hK fun fr hK => ?_
       refine qp 26 (.bool (decide ((a0.data.length : Int) > 0))) hK fun fr hK => ?_
       refine split_b (x := decide ((a0.data.length : Int) > 0)) (fun hb9 => ?_) (fun hb9 => ?_)
       ·
        replace hK := hK.more (t := 26) (v' := .bool true) rfl (by rw [hb9])
        replace hK := hK.more (t := 25) (v' := .bool true) rfl (by rw [hb9])
        replace h := ite_t (of_decide_eq_true hb9) h
        refine qs 27 hK ?_
        clear hK fr; intro fr hK
        refine qs 28 hK ?_
        clear hK fr; intro fr hK
        refine qs 29 hK ?_
        clear hK fr; intro fr hK
        refine qs 30 hK ?_
        clear hK fr; intro fr hK
        refine qp 31 (.bool true) hK fun fr hK => ?_
        refine qp 32 (.bool true) hK fun fr hK => ?_
        refine wpListIn_nil (then_n ?_)
        replace hS : St _ m m5 [.box b1 #[.int .i64 a0.kind, .int .i64 a0.to, .int .i64 a0.from_, .int .i64 a0.len, .slice a0_data_a a0.data.length a0_data_c] 50] := hS
        replace h := Option.some.inj h; subst h
        exact ⟨m5, rfl, hK.only [1, 32], Le.refl _, hS⟩
       ·
        replace hK := hK.more (t := 26) (v' := .bool false) rfl (by rw [hb9])
        replace hK := hK.more (t := 25) (v' := .bool false) rfl (by rw [hb9])
        replace h := ite_f (of_decide_eq_false hb9) h
        refine qo 27 hK (s_loadAll hK.at_ hS 0 rfl rfl rfl (by kernel_rfl) ?_)
        clear hK fr; intro fr hK
        replace a0_data_f := Els.mono rep_U8 a0_data_f (l4.trans l5)
        obtain ⟨y4, hy4, h⟩ := bind_some h
        refine qo 28 hK (s_call hK.at_ hS ent105_3 rfl rfl rfl rfl (G.graftref04_Source_spec a0_data_f hy4) (by kernel_rfl) ?_)
        clear hK fr hS; rintro _ m8 _ l8 hS ⟨rfl, rfl⟩ fr hK
        replace hS : St _ m m8 [.box b1 #[.int .i64 a0.kind, .int .i64 a0.to, .int .i64 a0.from_, .int .i64 a0.len, .slice a0_data_a a0.data.length a0_data_c] 50] := hS
        obtain ⟨y5, hy5, h⟩ := bind_some h
        refine qo 29 hK (s_call hK.at_ hS ent104_3 rfl rfl rfl rfl (G.graftref01_Valid_spec hy5) (by kernel_rfl) ?_)
        clear hK fr hS; rintro _ m9 _ l9 hS ⟨rfl, rfl⟩ fr hK
        replace hS : St _ m m9 [.box b1 #[.int .i64 a0.kind, .int .i64 a0.to, .int .i64 a0.from_, .int .i64 a0.len, .slice a0_data_a a0.data.length a0_data_c] 50] := hS
        refine qp 30 (.bool (!y5)) hK fun fr hK => ?_
        refine qp 31 (.bool (!y5)) hK fun fr hK => ?_
        refine qp 32 (.bool (!y5)) hK fun fr hK => ?_
        refine wpListIn_nil (then_n ?_)
        replace hS : St _ m m9 [.box b1 #[.int .i64 a0.kind, .int .i64 a0.to, .int .i64 a0.from_, .int .i64 a0.len, .slice a0_data_a a0.data.length a0_data_c] 50] := hS
        replace h := Option.some.inj h; subst h
        exact ⟨m9, rfl, hK.only [1, 32], l8.trans l9, hS⟩
      ·
       replace hK := hK.more (t := 21) (v' := .bool false) rfl (by rw [hb8])
       replace hK := hK.more (t := 20) (v' := .bool false) rfl (by rw [hb8])
       replace h := ite_f (ne_of_beq_false hb8) h
       refine qs 22 hK ?_
       clear hK fr; intro fr hK
       refine qs 23 hK ?_
       clear hK fr; intro fr hK
       refine qs 24 hK ?_
       clear hK fr; intro fr hK
       refine qs 25 hK ?_
       clear hK fr; intro fr hK
       refine qs 26 hK ?_
       clear hK fr; intro fr hK
       refine qs 27 hK ?_
       clear hK fr; intro fr hK
       refine qs 28 hK ?_
       clear hK fr; intro fr hK
       refine qs 29 hK ?_
       clear hK fr; intro fr hK
       refine qs 30 hK ?_
       clear hK fr; intro fr hK
       refine qs 31 hK ?_
       clear hK fr; intro fr hK
       refine qp 32 (.bool false) hK fun fr hK => ?_
       refine wpListIn_nil (then_n ?_)
       replace hS : St _ m m5 [.box b1 #[.int .i64 a0.kind, .int .i64 a0.to, .int .i64 a0.from_, .int .i64 a0.len, .slice a0_data_a a0.data.length a0_data_c] 50] := hS
       replace h := Option.some.inj h; subst h
       exact ⟨m5, rfl, hK.only [1, 32], Le.refl _, hS⟩
 ·
  replace h := hv1; clear hv1
  refine w_region ?_
  refine qp 3 (.pointer (some ⟨b1, 0, none⟩)) hK fun fr hK => ?_
  refine qo 4 hK (s_load hK.at_ hS 0 rfl rfl rfl rfl (by kernel_rfl) ?_)
  clear hK fr; intro fr hK
  refine qp 5 (.bool (a0.kind != 1)) hK fun fr hK => ?_
  refine qp 6 (.bool (a0.kind != 1)) hK fun fr hK => ?_
  refine split_b (x := (a0.kind != 1)) (fun hb10 => ?_) (fun hb10 => ?_)
  ·
   replace hK := hK.more (t := 6) (v' := .bool true) rfl (by rw [hb10])
   replace hK := hK.more (t := 5) (v' := .bool true) rfl (by rw [hb10])
   replace h := ite_t (ne_of_bne hb10) h
   refine qp 7 (.pointer (some ⟨b1, 0, none⟩)) hK fun fr hK => ?_
   refine qo 8 hK (s_load hK.at_ hS 0 rfl rfl rfl rfl (by kernel_rfl) ?_)
   clear hK fr; intro fr hK
   refine qp 9 (.bool (a0.kind != 2)) hK fun fr hK => ?_
   refine qp 10 (.bool (a0.kind != 2)) hK fun fr hK => ?_
   refine wpListIn_nil (then_n ?_)
   replace hS : St _ m m1 [.box b1 #[.int .i64 a0.kind, .int .i64 a0.to, .int .i64 a0.from_, .int .i64 a0.len, .slice a0_data_a a0.data.length a0_data_c] 50] := hS
   replace h := Option.some.inj h; subst h
   exact ⟨m1, rfl, hK.only [1, 10], Le.refl _, hS⟩
  ·
   replace hK := hK.more (t := 6) (v' := .bool false) rfl (by rw [hb10])
   replace hK := hK.more (t := 5) (v' := .bool false) rfl (by rw [hb10])
   replace h := ite_f (not_not_intro (eq_of_bne hb10)) h
   refine qs 7 hK ?_
   clear hK fr; intro fr hK
   refine qs 8 hK ?_
   clear hK fr; intro fr hK
   refine qs 9 hK ?_
   clear hK fr; intro fr hK
   refine qp 10 (.bool false) hK fun fr hK => ?_
   refine wpListIn_nil (then_n ?_)
   replace hS : St _ m m1 [.box b1 #[.int .i64 a0.kind, .int .i64 a0.to, .int .i64 a0.from_, .int .i64 a0.len, .slice a0_data_a a0.data.length a0_data_c] 50] := hS
   replace h := Option.some.inj h; subst h
   exact ⟨m1, rfl, hK.only [1, 10], Le.refl _, hS⟩
set_option maxRecDepth 100000 in
set_option maxHeartbeats 1000000 in
theorem G.graftref05_single_spec {m : Mem} {a0 : G.Delta} {a0_commands_a : Option Addr} {a0_commands_c : Nat} {a1 : G.Command} {a1_data_a : Option Addr} {a1_data_c : Nat} (a0_commands_f : Els is_G_Command m 5 a0_commands_a a0_commands_c a0.commands) (a1_data_f : Els isU8 m 1 a1_data_a a1_data_c a1.data) {r : Int} (h : G.graftref05_single a0 a1 = some r) :
  Spec Try.prog 61 #[.agg (G_Delta_cells a0 a0_commands_a a0_commands_c), .agg #[.int .i64 a1.kind, .int .i64 a1.to, .int .i64 a1.from_, .int .i64 a1.len, .slice a1_data_a a1.data.length a1_data_c]] m [] fun v m' L => L = [] ∧ v = .int .i64 r := by
 unfold G.graftref05_single at h
 refine enter (args := [_, _]) 32 Try.func61 rfl rfl (by simp) fun fr hK => ?_
 have hS := St.refl (Ow.nil m)
 replace hK : Kn 32 fr [(0, .agg (G_Delta_cells a0 a0_commands_a a0_commands_c)), (1, .agg #[.int .i64 a1.kind, .int .i64 a1.to, .int .i64 a1.from_, .int .i64 a1.len, .slice a1_data_a a1.data.length a1_data_c])] := hK
 refine w_seq (w_region ?_)
 refine qo 2 hK (s_box hK.at_ hS rfl rfl ?_)
 clear hK fr hS; intro m1 b1 b1z l1 hS fr hK
 refine qo 3 hK (s_box hK.at_ hS rfl rfl ?_)
 clear hK fr hS; intro m2 b2 b2z l2 hS fr hK
 replace hS : St _ m m2 [.box b2 #[.int .i64 a1.kind, .int .i64 a1.to, .int .i64 a1.from_, .int .i64 a1.len, .slice a1_data_a a1.data.length a1_data_c] 50, .box b1 (G_Delta_cells a0 a0_commands_a a0_commands_c) 27] := hS
 refine qp 4 (.int .i64 0) hK fun fr hK => ?_
 refine wpListIn_nil (then_n ?_)
 refine w_seq (w_region ?_)
 refine qo 6 hK (s_loadAll hK.at_ hS 0 rfl rfl rfl (by kernel_rfl) ?_)
 clear hK fr; intro fr hK
 replace a1_data_f := Els.mono rep_U8 a1_data_f (l1.trans l2)
 obtain ⟨y1, hy1, h⟩ := bind_some h
 refine qo 7 hK (s_call hK.at_ hS ent89_3 rfl rfl rfl rfl (G.graftref04_Check_spec a1_data_f hy1) (by kernel_rfl) ?_)
 clear hK fr hS; rintro _ m3 _ l3 hS ⟨rfl, rfl⟩ fr hK
 replace hS : St _ m m3 [.box b2 #[.int .i64 a1.kind, .int .i64 a1.to, .int .i64 a1.from_, .int .i64 a1.len, .slice a1_data_a a1.data.length a1_data_c] 50, .box b1 (G_Delta_cells a0 a0_commands_a a0_commands_c) 27] := hS
 refine qp 5 (.int .i64 y1) hK fun fr hK => ?_
 refine wpListIn_nil (then_n ?_)
 refine w_seq ?_
 refine w_seq (w_region ?_)
 refine qp 8 (.int .i64 y1) hK fun fr hK => ?_
 refine qp 9 (.bool (y1 != 0)) hK fun fr hK => ?_
 refine wpListIn_nil (then_n ?_)
 refine w_cond hK rfl (fun hb1 => ?_) (fun hb1 => ?_)
 ·
  replace hK := hK.more (t := 9) (v' := .bool true) rfl (by rw [hb1])
  replace h := ite_t (ne_of_bne hb1) h
  refine w_seq (w_region ?_)
  refine qp 10 (.int .i64 y1) hK fun fr hK => ?_
  refine qp 4 (.int .i64 y1) hK fun fr hK => ?_
  refine wpListIn_nil (then_n ?_)
  refine wpIn_ret ?_
  refine then_r ?_
  replace h := Option.some.inj h; subst h
  refine ret_of [.tmp 4] [.int .i64 y1] rfl hK (.tmp rfl .nil) hS.dropAll ?_
  exact ⟨rfl, rfl⟩
 ·
  replace hK := hK.more (t := 9) (v' := .bool false) rfl (by rw [hb1])
  replace h := ite_f (not_not_intro (eq_of_bne hb1)) h
  refine wpIn_skip ?_
  refine then_n ?_
  refine w_seq ?_
  refine w_seq ?_
  obtain ⟨v1, hv1, h⟩ := bind_some h
  refine w_join (fun fr ww => ∃ m4 : Mem, m4.w = ww ∧ Kn 32 fr [(2, .pointer (some ⟨b1, 0, none⟩)), (3, .pointer (some ⟨b2, 0, none⟩)), (23, .bool v1)] ∧ Le m3 m4 ∧ St (blocksOf []) m m4 [.box b2 #[.int .i64 a1.kind, .int .i64 a1.to, .int .i64 a1.from_, .int .i64 a1.len, .slice a1_data_a a1.data.length a1_data_c] 50, .box b1 (G_Delta_cells a0 a0_commands_a a0_commands_c) 27]) ?_ ?_
  ·
   clear hK hS fr hv1
   rintro fr _ ⟨m4, rfl, hK, l4, hS⟩
   refine then_n ?_
   refine w_cond hK rfl (fun hb2 => ?_) (fun hb2 => ?_)
   ·
    replace hK := hK.more (t := 23) (v' := .bool true) rfl (by rw [hb2])
    replace h := ite_t (hb2) h
    refine w_seq (w_region ?_)
    refine qp 4 (.int .i64 5) hK fun fr hK => ?_
    refine wpListIn_nil (then_n ?_)
    refine wpIn_ret ?_
    refine then_r ?_
    replace h := Option.some.inj h; subst h
    refine ret_of [.tmp 4] [.int .i64 5] rfl hK (.tmp rfl .nil) hS.dropAll ?_
    exact ⟨rfl, rfl⟩
   ·
    replace hK := hK.more (t := 23) (v' := .bool false) rfl (by rw [hb2])
    replace h := ite_f (ne_true_of_eq_false hb2) h
    refine wpIn_skip ?_
    refine then_n ?_
    refine w_seq ?_
    refine w_seq ?_
    replace a0_commands_f := Els.mono rep_G_Command a0_commands_f (l1.trans (l2.trans (l3.trans l4)))
    replace a1_data_f := Els.mono rep_U8 a1_data_f (l3.trans l4)
    obtain ⟨y2, hy2, h⟩ := bind_some h
    have hlt0 : ∀ bq ∈ blocksOf [.box b2 #[.int .i64 a1.kind, .int .i64 a1.to, .int .i64 a1.from_, .int .i64 a1.len, .slice a1_data_a a1.data.length a1_data_c] 50, .box b1 (G_Delta_cells a0 a0_commands_a a0_commands_c) 27], bq < m4.w.heap.size := fun bq hbq => hS.ow.lt hbq
    refine D.wp_draw (Gr := D.GO m4 none) (S := D.SO none (blocksOf []) m m4 (fun _ => [.box b2 #[.int .i64 a1.kind, .int .i64 a1.to, .int .i64 a1.from_, .int .i64 a1.len, .slice a1_data_a a1.data.length a1_data_c] 50, .box b1 (G_Delta_cells a0 a0_commands_a a0_commands_c) 27]) (fun _ => True)) (N := 0) 7 [] [([(3, none)], 0, 0, false), ([(24, some 0)], 0, 0, false), ([(3, none)], 0, 0, false), ([(26, some 0)], 0, 0, false), ([(25, some 2), (27, some 0)], 0, 0, false), ([(2, none)], 0, 0, false), ([(29, some 0)], 0, 0, false)] hK.size (by kernel_rfl) (by kernel_rfl) (by kernel_rfl) rfl (D.startO hS trivial) ?_
    refine D.on_pure (D.GO_refl _ _) [(3, .pointer (some ⟨b2, 0, none⟩))] (.pointer (some ⟨b2, 1, none⟩)) (fun ac ww hk => (.cons (hk.1.trans (hK.at_ 3 _ rfl)) (.nil _))) ?_
    refine D.on_det (D.GO_refl _ _) [(24, .pointer (some ⟨b2, 1, none⟩))] (.int .i64 a1.to) (fun ac ww hk => (.cons (hk.1) (.nil _))) (fun ac ww kk hb hKe Post hp => (fun hS => s_load hKe hS 0 rfl rfl rfl rfl (by kernel_rfl) hp) hb.2.1) ?_
    refine D.on_det (D.GO_refl _ _) [(3, .pointer (some ⟨b2, 0, none⟩))] (.agg #[.int .i64 a1.kind, .int .i64 a1.to, .int .i64 a1.from_, .int .i64 a1.len, .slice a1_data_a a1.data.length a1_data_c]) (fun ac ww hk => (.cons (hk.1.trans (hK.at_ 3 _ rfl)) (.nil _))) (fun ac ww kk hb hKe Post hp => (fun hS => s_loadAll hKe hS 0 rfl rfl rfl (by kernel_rfl) hp) hb.2.1) ?_
    refine D.on_op (fun uu _ => uu = .int .i64 y2) (fun _ _ _ h _ => h) (by
     intro ac ww kk hlo hhi hb hk
     obtain rfl : kk = 0 := by omega
     have h0 := hS; replace hS := hb.2.1
     have k26 : ac.eval (.tmp 26) = .agg #[.int .i64 a1.kind, .int .i64 a1.to, .int .i64 a1.from_, .int .i64 a1.len, .slice a1_data_a a1.data.length a1_data_c] := hk.1
     have hKe : Ke ac [(26, .agg #[.int .i64 a1.kind, .int .i64 a1.to, .int .i64 a1.from_, .int .i64 a1.len, .slice a1_data_a a1.data.length a1_data_c])] := (.cons k26 (.nil _))
     replace a1_data_f := Els.mono rep_U8 a1_data_f hb.1
     exact ⟨D.wanted0 rfl, D.callO h0 (fun bq hbq => hlt0 bq (by revert hbq; simp [blocksOf, Ent.box, rowOf, Ent.row]; try omega)) hb hKe ent32_3 rfl rfl rfl rfl (G.graftref04_Len_spec a1_data_f hy2) (by kernel_rfl) (by rintro _ m' _ hg hn hl ⟨rfl, rfl⟩; exact rfl)⟩) ?_
    refine D.on_pure (D.GO_refl _ _) [(25, .int .i64 a1.to), (27, .int .i64 y2)] (.int .i64 (IntKind.i64.wrap (a1.to + y2))) (fun ac ww hk => (.cons (hk.1) (.cons (hk.2.1) (.nil _)))) ?_
    refine D.on_pure (D.GO_refl _ _) [(2, .pointer (some ⟨b1, 0, none⟩))] (.pointer (some ⟨b1, 1, none⟩)) (fun ac ww hk => (.cons (hk.1.trans (hK.at_ 2 _ rfl)) (.nil _))) ?_
    refine D.on_det (D.GO_refl _ _) [(29, .pointer (some ⟨b1, 1, none⟩))] (.int .i64 a0.newLen) (fun ac ww hk => (.cons (hk.1) (.nil _))) (fun ac ww kk hb hKe Post hp => (fun hS => s_load hKe hS 1 rfl rfl rfl rfl (by kernel_rfl) hp) hb.2.1) ?_
    refine D.finO ?_
    intro fr2 m5 hm1 l5 hS2 hF2 hE
    replace hS2 : St _ m m5 [.box b2 #[.int .i64 a1.kind, .int .i64 a1.to, .int .i64 a1.from_, .int .i64 a1.len, .slice a1_data_a a1.data.length a1_data_c] 50, .box b1 (G_Delta_cells a0 a0_commands_a a0_commands_c) 27] := hS2
    have hK2 := D.kn_ends [(24, .pointer (some ⟨b2, 1, none⟩)), (25, .int .i64 a1.to), (26, .agg #[.int .i64 a1.kind, .int .i64 a1.to, .int .i64 a1.from_, .int .i64 a1.len, .slice a1_data_a a1.data.length a1_data_c]), (27, .int .i64 y2), (28, .int .i64 (IntKind.i64.wrap (a1.to + y2))), (29, .pointer (some ⟨b1, 1, none⟩)), (30, .int .i64 a0.newLen)] hK hE rfl (by kernel_rfl) (.cons (hE.slots 24) (.cons (hE.slots 25) (.cons (hE.slots 26) (.cons (hE.slots 27) (.cons (hE.slots 28) (.cons (hE.slots 29) (.cons (hE.slots 30) (.nil _))))))))
    replace hK2 : Kn 32 fr2 [(24, .pointer (some ⟨b2, 1, none⟩)), (25, .int .i64 a1.to), (26, .agg #[.int .i64 a1.kind, .int .i64 a1.to, .int .i64 a1.from_, .int .i64 a1.len, .slice a1_data_a a1.data.length a1_data_c]), (27, .int .i64 y2), (28, .int .i64 (IntKind.i64.wrap (a1.to + y2))), (29, .pointer (some ⟨b1, 1, none⟩)), (30, .int .i64 a0.newLen), (23, .bool false), (2, .pointer (some ⟨b1, 0, none⟩)), (3, .pointer (some ⟨b2, 0, none⟩))] := hK2.only [24, 25, 26, 27, 28, 29, 30, 23, 2, 3]
    clear hE hK; revert hK2; clear hm1 hS hlt0; revert fr2; clear fr; intro fr hK; have hS := hS2; clear hS2
    replace hS : St _ m m5 [.box b2 #[.int .i64 a1.kind, .int .i64 a1.to, .int .i64 a1.from_, .int .i64 a1.len, .slice a1_data_a a1.data.length a1_data_c] 50, .box b1 (G_Delta_cells a0 a0_commands_a a0_commands_c) 27] := hS
    refine qp 31 (.bool (decide ((IntKind.i64.wrap (a1.to + y2)) > a0.newLen))) hK fun fr hK => ?_
    refine wpListIn_nil (then_n ?_)
    refine w_cond hK rfl (fun hb3 => ?_) (fun hb3 => ?_)
    ·
     replace hK := hK.more (t := 31) (v' := .bool true) rfl (by rw [hb3])
     replace h := ite_t (of_decide_eq_true hb3) h
     refine w_seq (w_region ?_)
     refine qp 4 (.int .i64 6) hK fun fr hK => ?_
     refine wpListIn_nil (then_n ?_)
     refine wpIn_ret ?_
     refine then_r ?_
     replace h := Option.some.inj h; subst h
     refine ret_of [.tmp 4] [.int .i64 6] rfl hK (.tmp rfl .nil) hS.dropAll ?_
     exact ⟨rfl, rfl⟩
    ·
     replace hK := hK.more (t := 31) (v' := .bool false) rfl (by rw [hb3])
     replace h := ite_f (of_decide_eq_false hb3) h
     refine wpIn_skip ?_
     refine then_n ?_
     refine w_seq (w_region ?_)
     refine qp 4 (.int .i64 0) hK fun fr hK => ?_
     refine wpListIn_nil (then_n ?_)
     refine wpIn_ret ?_
     replace h := Option.some.inj h; subst h
     refine ret_of [.tmp 4] [.int .i64 0] rfl hK (.tmp rfl .nil) hS.dropAll ?_
     exact ⟨rfl, rfl⟩
  ·
   replace h := hv1; clear hv1
   refine w_region ?_
   refine qp 11 (.pointer (some ⟨b2, 0, none⟩)) hK fun fr hK => ?_
   refine qo 12 hK (s_load hK.at_ hS 0 rfl rfl rfl rfl (by kernel_rfl) ?_)
   clear hK fr; intro fr hK
   refine qp 13 (.bool (a1.kind == 1)) hK fun fr hK => ?_
   refine qp 14 (.bool (a1.kind == 1)) hK fun fr hK => ?_
   refine split_b (x := (a1.kind == 1)) (fun hb4 => ?_) (fun hb4 => ?_)
   ·
    replace hK := hK.more (t := 14) (v' := .bool true) rfl (by rw [hb4])
    replace hK := hK.more (t := 13) (v' := .bool true) rfl (by rw [hb4])
    replace h := ite_t (eq_of_beq hb4) h
    refine qp 15 (.pointer (some ⟨b2, 2, none⟩)) hK fun fr hK => ?_
    refine qo 16 hK (s_load hK.at_ hS 0 rfl rfl rfl rfl (by kernel_rfl) ?_)
    clear hK fr; intro fr hK
    refine qp 17 (.pointer (some ⟨b2, 3, none⟩)) hK fun fr hK => ?_
    refine qo 18 hK (s_load hK.at_ hS 0 rfl rfl rfl rfl (by kernel_rfl) ?_)
    clear hK fr; intro fr hK
    refine qp 19 (.int .i64 (IntKind.i64.wrap (a1.from_ + a1.len))) hK fun fr hK => ?_
    refine qp 20 (.pointer (some ⟨b1, 0, none⟩)) hK fun fr hK => ?_
    refine qo 21 hK (s_load hK.at_ hS 1 rfl rfl rfl rfl (by kernel_rfl) ?_)
    clear hK fr; intro fr hK
    refine qp 22 (.bool (decide ((IntKind.i64.wrap (a1.from_ + a1.len)) > a0.oldLen))) hK fun fr hK => ?_
    refine qp 23 (.bool (decide ((IntKind.i64.wrap (a1.from_ + a1.len)) > a0.oldLen))) hK fun fr hK => ?_
    refine wpListIn_nil (then_n ?_)
    replace hS := hS.front 1 rfl
    replace hS := hS.front 1 rfl
    replace hS : St _ m m3 [.box b2 #[.int .i64 a1.kind, .int .i64 a1.to, .int .i64 a1.from_, .int .i64 a1.len, .slice a1_data_a a1.data.length a1_data_c] 50, .box b1 (G_Delta_cells a0 a0_commands_a a0_commands_c) 27] := hS
    replace h := Option.some.inj h; subst h
    exact ⟨m3, rfl, hK.only [2, 3, 23], Le.refl _, hS⟩
   ·
    replace hK := hK.more (t := 14) (v' := .bool false) rfl (by rw [hb4])
    replace hK := hK.more (t := 13) (v' := .bool false) rfl (by rw [hb4])
    replace h := ite_f (ne_of_beq_false hb4) h
    refine qs 15 hK ?_
    clear hK fr; intro fr hK
    refine qs 16 hK ?_
    clear hK fr; intro fr hK
    refine qs 17 hK ?_
    clear hK fr; intro fr hK
    refine qs 18 hK ?_
    clear hK fr; intro fr hK
    refine qs 19 hK ?_
    clear hK fr; intro fr hK
    refine qs 20 hK ?_
    clear hK fr; intro fr hK
    refine qs 21 hK ?_
    clear hK fr; intro fr hK
    refine qs 22 hK ?_
    clear hK fr; intro fr hK
    refine qp 23 (.bool false) hK fun fr hK => ?_
    refine wpListIn_nil (then_n ?_)
    replace hS := hS.front 1 rfl
    replace hS := hS.front 1 rfl
    replace hS : St _ m m3 [.box b2 #[.int .i64 a1.kind, .int .i64 a1.to, .int .i64 a1.from_, .int .i64 a1.len, .slice a1_data_a a1.data.length a1_data_c] 50, .box b1 (G_Delta_cells a0 a0_commands_a a0_commands_c) 27] := hS
    replace h := Option.some.inj h; subst h
    exact ⟨m3, rfl, hK.only [2, 3, 23], Le.refl _, hS⟩
set_option maxRecDepth 100000 in
set_option maxHeartbeats 1000000 in
theorem G.graftref01_Overlap_spec {m : Mem} {a0 : G.Extent} {a1 : G.Extent} {r : G.Extent} (h : G.graftref01_Overlap a0 a1 = some r) :
  Spec Try.prog 62 #[.agg #[.int .i64 a0.off, .int .i64 a0.len], .agg #[.int .i64 a1.off, .int .i64 a1.len]] m [] fun v m' L => L = [] ∧ v = .agg #[.int .i64 r.off, .int .i64 r.len] := by
 unfold G.graftref01_Overlap at h
 refine enter (args := [_, _]) 32 Try.func62 rfl rfl (by simp) fun fr hK => ?_
 have hS := St.refl (Ow.nil m)
 replace hK : Kn 32 fr [(0, .agg #[.int .i64 a0.off, .int .i64 a0.len]), (1, .agg #[.int .i64 a1.off, .int .i64 a1.len])] := hK
 refine w_seq (w_region ?_)
 refine qo 2 hK (s_box hK.at_ hS rfl rfl ?_)
 clear hK fr hS; intro m1 b1 b1z l1 hS fr hK
 refine qo 3 hK (s_box hK.at_ hS rfl rfl ?_)
 clear hK fr hS; intro m2 b2 b2z l2 hS fr hK
 refine qo 4 hK (s_alloc (.agg #[.int .i64 0, .int .i64 0]) hK.at_ hS rfl (by kernel_rfl) ?_)
 clear hK fr hS; intro m3 b3 b3z l3 hS fr hK
 replace hS : St _ m m3 [.box b3 #[.int .i64 0, .int .i64 0] 91, .box b2 #[.int .i64 a1.off, .int .i64 a1.len] 91, .box b1 #[.int .i64 a0.off, .int .i64 a0.len] 91] := hS
 refine wpListIn_nil (then_n ?_)
 refine w_seq (w_region ?_)
 refine qp 7 (.pointer (some ⟨b1, 0, none⟩)) hK fun fr hK => ?_
 refine qo 8 hK (s_load hK.at_ hS 2 rfl rfl rfl rfl (by kernel_rfl) ?_)
 clear hK fr; intro fr hK
 refine qp 9 (.pointer (some ⟨b2, 0, none⟩)) hK fun fr hK => ?_
 refine qo 10 hK (s_load hK.at_ hS 1 rfl rfl rfl rfl (by kernel_rfl) ?_)
 clear hK fr; intro fr hK
 refine qp 11 (.int .i64 (imax a0.off a1.off)) hK fun fr hK => ?_
 refine qp 5 (.int .i64 (imax a0.off a1.off)) hK fun fr hK => ?_
 refine wpListIn_nil (then_n ?_)
 refine w_seq (w_region ?_)
 refine qp 12 (.pointer (some ⟨b1, 0, none⟩)) hK fun fr hK => ?_
 refine qo 13 hK (s_load hK.at_ hS 2 rfl rfl rfl rfl (by kernel_rfl) ?_)
 clear hK fr; intro fr hK
 refine qp 14 (.pointer (some ⟨b1, 1, none⟩)) hK fun fr hK => ?_
 refine qo 15 hK (s_load hK.at_ hS 2 rfl rfl rfl rfl (by kernel_rfl) ?_)
 clear hK fr; intro fr hK
 refine qp 16 (.int .i64 (IntKind.i64.wrap (a0.off + a0.len))) hK fun fr hK => ?_
 refine qp 17 (.pointer (some ⟨b2, 0, none⟩)) hK fun fr hK => ?_
 refine qo 18 hK (s_load hK.at_ hS 1 rfl rfl rfl rfl (by kernel_rfl) ?_)
 clear hK fr; intro fr hK
 refine qp 19 (.pointer (some ⟨b2, 1, none⟩)) hK fun fr hK => ?_
 refine qo 20 hK (s_load hK.at_ hS 1 rfl rfl rfl rfl (by kernel_rfl) ?_)
 clear hK fr; intro fr hK
 refine qp 21 (.int .i64 (IntKind.i64.wrap (a1.off + a1.len))) hK fun fr hK => ?_
 refine qp 22 (.int .i64 (imin (IntKind.i64.wrap (a0.off + a0.len)) (IntKind.i64.wrap (a1.off + a1.len)))) hK fun fr hK => ?_
 refine qp 6 (.int .i64 (imin (IntKind.i64.wrap (a0.off + a0.len)) (IntKind.i64.wrap (a1.off + a1.len)))) hK fun fr hK => ?_
 refine wpListIn_nil (then_n ?_)
 refine w_seq ?_
 refine w_seq (w_region ?_)
 refine qp 23 (.int .i64 (imax a0.off a1.off)) hK fun fr hK => ?_
 refine qp 24 (.int .i64 (imin (IntKind.i64.wrap (a0.off + a0.len)) (IntKind.i64.wrap (a1.off + a1.len)))) hK fun fr hK => ?_
 refine qp 25 (.bool (decide ((imax a0.off a1.off) ≥ (imin (IntKind.i64.wrap (a0.off + a0.len)) (IntKind.i64.wrap (a1.off + a1.len)))))) hK fun fr hK => ?_
 refine wpListIn_nil (then_n ?_)
 refine w_cond hK rfl (fun hb1 => ?_) (fun hb1 => ?_)
 ·
  replace hK := hK.more (t := 25) (v' := .bool true) rfl (by rw [hb1])
  replace h := ite_t (of_decide_eq_true hb1) h
  refine w_seq (w_region ?_)
  refine qp 26 (.agg #[.int .i64 0, .int .i64 0]) hK fun fr hK => ?_
  refine qo0 hK (s_storeAll hK.at_ 0 hS rfl rfl rfl rfl (by kernel_rfl) (by kernel_rfl) (by kernel_rfl) ?_)
  clear hK fr hS; intro m4 l4 hS fr hK
  replace hS : St _ m m4 [.box b3 #[.int .i64 0, .int .i64 0] 91, .box b2 #[.int .i64 a1.off, .int .i64 a1.len] 91, .box b1 #[.int .i64 a0.off, .int .i64 a0.len] 91] := hS
  refine wpListIn_nil (then_n ?_)
  refine wpIn_ret ?_
  refine then_r ?_
  replace h := Option.some.inj h; subst h
  refine ret_of [.cell 4 91] [.agg #[.int .i64 0, .int .i64 0]] rfl hK (ResL.box hS 0 rfl rfl (by kernel_rfl) .nil) hS.dropAll ?_
  exact ⟨rfl, rfl⟩
 ·
  replace hK := hK.more (t := 25) (v' := .bool false) rfl (by rw [hb1])
  replace h := ite_f (of_decide_eq_false hb1) h
  refine wpIn_skip ?_
  refine then_n ?_
  refine w_seq (w_region ?_)
  refine qp 27 (.int .i64 (imax a0.off a1.off)) hK fun fr hK => ?_
  refine qp 28 (.int .i64 (imin (IntKind.i64.wrap (a0.off + a0.len)) (IntKind.i64.wrap (a1.off + a1.len)))) hK fun fr hK => ?_
  refine qp 29 (.int .i64 (imax a0.off a1.off)) hK fun fr hK => ?_
  refine qp 30 (.int .i64 (IntKind.i64.wrap ((imin (IntKind.i64.wrap (a0.off + a0.len)) (IntKind.i64.wrap (a1.off + a1.len))) - (imax a0.off a1.off)))) hK fun fr hK => ?_
  refine qp 31 (.agg #[.int .i64 (imax a0.off a1.off), .int .i64 (IntKind.i64.wrap ((imin (IntKind.i64.wrap (a0.off + a0.len)) (IntKind.i64.wrap (a1.off + a1.len))) - (imax a0.off a1.off)))]) hK fun fr hK => ?_
  refine qo0 hK (s_storeAll hK.at_ 0 hS rfl rfl rfl rfl (by kernel_rfl) (by kernel_rfl) (by kernel_rfl) ?_)
  clear hK fr hS; intro m5 l5 hS fr hK
  replace hS : St _ m m5 [.box b3 #[.int .i64 (imax a0.off a1.off), .int .i64 (IntKind.i64.wrap ((imin (IntKind.i64.wrap (a0.off + a0.len)) (IntKind.i64.wrap (a1.off + a1.len))) - (imax a0.off a1.off)))] 91, .box b2 #[.int .i64 a1.off, .int .i64 a1.len] 91, .box b1 #[.int .i64 a0.off, .int .i64 a0.len] 91] := hS
  refine wpListIn_nil (then_n ?_)
  refine wpIn_ret ?_
  replace h := Option.some.inj h; subst h
  refine ret_of [.cell 4 91] [.agg #[.int .i64 (imax a0.off a1.off), .int .i64 (IntKind.i64.wrap ((imin (IntKind.i64.wrap (a0.off + a0.len)) (IntKind.i64.wrap (a1.off + a1.len))) - (imax a0.off a1.off)))]] rfl hK (ResL.box hS 0 rfl rfl (by kernel_rfl) .nil) hS.dropAll ?_
  exact ⟨rfl, rfl⟩
set_option maxRecDepth 100000 in
set_option maxHeartbeats 1000000 in
theorem G.graftref01_Has_spec {m : Mem} {a0 : G.Extent} {a1 : Int} {r : Bool} (h : G.graftref01_Has a0 a1 = some r) :
  Spec Try.prog 111 #[.agg #[.int .i64 a0.off, .int .i64 a0.len], .int .i64 a1] m [] fun v m' L => L = [] ∧ v = .bool r := by
 unfold G.graftref01_Has at h
 refine enter (args := [_, _]) 18 Try.func111 rfl rfl (by simp) fun fr hK => ?_
 have hS := St.refl (Ow.nil m)
 replace hK : Kn 18 fr [(0, .agg #[.int .i64 a0.off, .int .i64 a0.len]), (1, .int .i64 a1)] := hK
 refine w_seq (w_region ?_)
 refine qo 2 hK (s_box hK.at_ hS rfl rfl ?_)
 clear hK fr hS; intro m1 b1 b1z l1 hS fr hK
 replace hS : St _ m m1 [.box b1 #[.int .i64 a0.off, .int .i64 a0.len] 91] := hS
 refine qp 4 (.bool false) hK fun fr hK => ?_
 refine wpListIn_nil (then_n ?_)
 refine w_seq (w_region ?_)
 refine qp 5 (.int .i64 a1) hK fun fr hK => ?_
 refine qp 6 (.pointer (some ⟨b1, 0, none⟩)) hK fun fr hK => ?_
 refine qo 7 hK (s_load hK.at_ hS 0 rfl rfl rfl rfl (by kernel_rfl) ?_)
 clear hK fr; intro fr hK
 refine qp 8 (.bool (decide (a1 ≥ a0.off))) hK fun fr hK => ?_
 refine qp 9 (.bool (decide (a1 ≥ a0.off))) hK fun fr hK => ?_
 refine split_b (x := decide (a1 ≥ a0.off)) (fun hb1 => ?_) (fun hb1 => ?_)
 ·
  replace hK := hK.more (t := 9) (v' := .bool true) rfl (by rw [hb1])
  replace hK := hK.more (t := 8) (v' := .bool true) rfl (by rw [hb1])
  replace h := ite_t (of_decide_eq_true hb1) h
  refine qp 10 (.int .i64 a1) hK fun fr hK => ?_
  refine qp 11 (.pointer (some ⟨b1, 0, none⟩)) hK fun fr hK => ?_
  refine qo 12 hK (s_load hK.at_ hS 0 rfl rfl rfl rfl (by kernel_rfl) ?_)
  clear hK fr; intro fr hK
  refine qp 13 (.pointer (some ⟨b1, 1, none⟩)) hK fun fr hK => ?_
  refine qo 14 hK (s_load hK.at_ hS 0 rfl rfl rfl rfl (by kernel_rfl) ?_)
  clear hK fr; intro fr hK
  refine qp 15 (.int .i64 (IntKind.i64.wrap (a0.off + a0.len))) hK fun fr hK => ?_
  refine qp 16 (.bool (decide (a1 < (IntKind.i64.wrap (a0.off + a0.len))))) hK fun fr hK => ?_
  refine qp 17 (.bool (decide (a1 < (IntKind.i64.wrap (a0.off + a0.len))))) hK fun fr hK => ?_
  refine qp 4 (.bool (decide (a1 < (IntKind.i64.wrap (a0.off + a0.len))))) hK fun fr hK => ?_
  refine wpListIn_nil (then_n ?_)
  refine wpIn_ret ?_
  replace h := Option.some.inj h; subst h
  refine ret_of [.tmp 4] [.bool (decide (a1 < (IntKind.i64.wrap (a0.off + a0.len))))] rfl hK (.tmp rfl .nil) hS.dropAll ?_
  exact ⟨rfl, rfl⟩
 ·
  replace hK := hK.more (t := 9) (v' := .bool false) rfl (by rw [hb1])
  replace hK := hK.more (t := 8) (v' := .bool false) rfl (by rw [hb1])
  replace h := ite_f (of_decide_eq_false hb1) h
  refine qs 10 hK ?_
  clear hK fr; intro fr hK
  refine qs 11 hK ?_
  clear hK fr; intro fr hK
  refine qs 12 hK ?_
  clear hK fr; intro fr hK
  refine qs 13 hK ?_
  clear hK fr; intro fr hK
  refine qs 14 hK ?_
  clear hK fr; intro fr hK
  refine qs 15 hK ?_
  clear hK fr; intro fr hK
  refine qs 16 hK ?_
  clear hK fr; intro fr hK
  refine qp 17 (.bool false) hK fun fr hK => ?_
  refine qp 4 (.bool false) hK fun fr hK => ?_
  refine wpListIn_nil (then_n ?_)
  refine wpIn_ret ?_
  replace h := Option.some.inj h; subst h
  refine ret_of [.tmp 4] [.bool false] rfl hK (.tmp rfl .nil) hS.dropAll ?_
  exact ⟨rfl, rfl⟩
set_option maxRecDepth 100000 in
set_option maxHeartbeats 1000000 in
theorem G.graftref05_has_spec {m : Mem} {a0 : G.Command} {a0_data_a : Option Addr} {a0_data_c : Nat} {a1 : Int} (a0_data_f : Els isU8 m 1 a0_data_a a0_data_c a0.data) {r : Bool} (h : G.graftref05_has a0 a1 = some r) :
  Spec Try.prog 106 #[.agg #[.int .i64 a0.kind, .int .i64 a0.to, .int .i64 a0.from_, .int .i64 a0.len, .slice a0_data_a a0.data.length a0_data_c], .int .i64 a1] m [] fun v m' L => L = [] ∧ v = .bool r := by
 unfold G.graftref05_has at h
 refine enter (args := [_, _]) 9 Try.func106 rfl rfl (by simp) fun fr hK => ?_
 have hS := St.refl (Ow.nil m)
 replace hK : Kn 9 fr [(0, .agg #[.int .i64 a0.kind, .int .i64 a0.to, .int .i64 a0.from_, .int .i64 a0.len, .slice a0_data_a a0.data.length a0_data_c]), (1, .int .i64 a1)] := hK
 refine w_seq (w_region ?_)
 refine qo 2 hK (s_box hK.at_ hS rfl rfl ?_)
 clear hK fr hS; intro m1 b1 b1z l1 hS fr hK
 replace hS : St _ m m1 [.box b1 #[.int .i64 a0.kind, .int .i64 a0.to, .int .i64 a0.from_, .int .i64 a0.len, .slice a0_data_a a0.data.length a0_data_c] 50] := hS
 refine qp 4 (.bool false) hK fun fr hK => ?_
 refine wpListIn_nil (then_n ?_)
 refine w_seq (w_region ?_)
 refine qo 5 hK (s_loadAll hK.at_ hS 0 rfl rfl rfl (by kernel_rfl) ?_)
 clear hK fr; intro fr hK
 replace a0_data_f := Els.mono rep_U8 a0_data_f l1
 obtain ⟨y1, hy1, h⟩ := bind_some h
 refine qo 6 hK (s_call hK.at_ hS ent63_3 rfl rfl rfl rfl (G.graftref04_Target_spec a0_data_f hy1) (by kernel_rfl) ?_)
 clear hK fr hS; rintro _ m2 _ l2 hS ⟨rfl, rfl⟩ fr hK
 replace hS : St _ m m2 [.box b1 #[.int .i64 a0.kind, .int .i64 a0.to, .int .i64 a0.from_, .int .i64 a0.len, .slice a0_data_a a0.data.length a0_data_c] 50] := hS
 refine qp 7 (.int .i64 a1) hK fun fr hK => ?_
 obtain ⟨y2, hy2, h⟩ := bind_some h
 refine qo 8 hK (s_call hK.at_ hS ent111_3 rfl rfl rfl rfl (G.graftref01_Has_spec hy2) (by kernel_rfl) ?_)
 clear hK fr hS; rintro _ m3 _ l3 hS ⟨rfl, rfl⟩ fr hK
 replace hS : St _ m m3 [.box b1 #[.int .i64 a0.kind, .int .i64 a0.to, .int .i64 a0.from_, .int .i64 a0.len, .slice a0_data_a a0.data.length a0_data_c] 50] := hS
 refine qp 4 (.bool y2) hK fun fr hK => ?_
 refine wpListIn_nil (then_n ?_)
 refine wpIn_ret ?_
 replace h := Option.some.inj h; subst h
 refine ret_of [.tmp 4] [.bool y2] rfl hK (.tmp rfl .nil) hS.dropAll ?_
 exact ⟨rfl, rfl⟩
set_option maxRecDepth 100000 in
set_option maxHeartbeats 1000000 in
theorem G.graftref05_Find_spec {m : Mem} {a0 : G.Delta} {a0_commands_a : Option Addr} {a0_commands_c : Nat} {a1 : Int} (a0_commands_f : Els is_G_Command m 5 a0_commands_a a0_commands_c a0.commands) {r : Int} (h : G.graftref05_Find a0 a1 = some r) :
  Spec Try.prog 90 #[.agg (G_Delta_cells a0 a0_commands_a a0_commands_c), .int .i64 a1] m [] fun v m' L => L = [] ∧ v = .int .i64 r := by
 unfold G.graftref05_Find at h
 refine enter (args := [_, _]) 21 Try.func90 rfl rfl (by simp) fun fr hK => ?_
 have hS := St.refl (Ow.nil m)
 replace hK : Kn 21 fr [(0, .agg (G_Delta_cells a0 a0_commands_a a0_commands_c)), (1, .int .i64 a1)] := hK
 refine w_seq (w_region ?_)
 refine qo 2 hK (s_box hK.at_ hS rfl rfl ?_)
 clear hK fr hS; intro m1 b1 b1z l1 hS fr hK
 replace hS : St _ m m1 [.box b1 (G_Delta_cells a0 a0_commands_a a0_commands_c) 27] := hS
 refine qp 4 (.int .i64 0) hK fun fr hK => ?_
 refine wpListIn_nil (then_n ?_)
 refine w_seq ?_
 refine w_seq (w_region ?_)
 refine qp 5 (.int .i64 0) hK fun fr hK => ?_
 refine wpListIn_nil (then_n ?_)
 refine wpIn_block ?_
 replace hS : St _ m m1 [.box b1 (G_Delta_cells a0 a0_commands_a a0_commands_c) 27] := hS
 refine w_loopL h (fun (s1 : Int) fr ww => ∃ m2 : Mem, m2.w = ww ∧ Kn 21 fr [(1, .int .i64 a1), (2, .pointer (some ⟨b1, 0, none⟩)), (5, .int .i64 s1)] ∧ Le m1 m2 ∧ St (blocksOf []) m m2 [.box b1 (G_Delta_cells a0 a0_commands_a a0_commands_c) 27]) ?_ ?_
 · exact ⟨m1, rfl, hK.only [1, 2, 5], Le.refl _, hS⟩
 clear hK hS fr h
 rintro k1 s1 x1 fr _ ⟨m2, rfl, hK, l2, hS⟩ h hn1
 unfold G.graftref05_Find_l1 at h
 refine w_seq ?_
 refine w_seq (w_region ?_)
 refine qp 6 (.int .i64 s1) hK fun fr hK => ?_
 refine qp 7 (.pointer (some ⟨b1, 66, none⟩)) hK fun fr hK => ?_
 refine qo 8 hK (s_load hK.at_ hS 0 rfl rfl rfl rfl (by kernel_rfl) ?_)
 clear hK fr; intro fr hK
 refine qp 9 (.int .i64 (a0.commands.length : Int)) hK fun fr hK => ?_
 refine qp 10 (.bool (decide (s1 < (a0.commands.length : Int)))) hK fun fr hK => ?_
 refine wpListIn_nil (then_n ?_)
 refine w_cond hK rfl (fun hb1 => ?_) (fun hb1 => ?_)
 ·
  replace hK := hK.more (t := 10) (v' := .bool true) rfl (by rw [hb1])
  replace h := ite_t (of_decide_eq_true hb1) h
  refine wpIn_skip ?_
  refine then_n ?_
  refine w_seq ?_
  refine wpIn_block ?_
  refine w_seq (w_region ?_)
  refine qp 13 (.pointer (some ⟨b1, 66, none⟩)) hK fun fr hK => ?_
  refine qo 14 hK (s_load hK.at_ hS 0 rfl rfl rfl rfl (by kernel_rfl) ?_)
  clear hK fr; intro fr hK
  refine qp 15 (.int .i64 s1) hK fun fr hK => ?_
  replace a0_commands_f := Els.mono rep_G_Command a0_commands_f (l1.trans l2)
  obtain ⟨x2, hy1, h⟩ := bind_some h
  refine qo 16 hK (s_idx elT25_3 a0_commands_f hy1 hK.at_ rfl rfl rfl ?_)
  clear hK fr; intro b2 p1 cs1 hR1 hA1 fr hK
  obtain ⟨e1_data_a, e1_data_c, rfl, e1_data_f⟩ := hR1
  refine qo 17 hK (s_loadAtN [.int .i64 x2.kind, .int .i64 x2.to, .int .i64 x2.from_, .int .i64 x2.len, .slice e1_data_a x2.data.length e1_data_c] hK.at_ hA1 0 rfl rfl rfl (by kernel_rfl) (by kernel_rfl) ?_)
  clear hK fr; intro fr hK
  refine qp 18 (.int .i64 a1) hK fun fr hK => ?_
  obtain ⟨y1, hy2, h⟩ := bind_some h
  refine qo 19 hK (s_call hK.at_ hS ent106_3 rfl rfl rfl rfl (G.graftref05_has_spec e1_data_f hy2) (by kernel_rfl) ?_)
  clear hK fr hS; rintro _ m3 _ l3 hS ⟨rfl, rfl⟩ fr hK
  replace hS : St _ m m3 [.box b1 (G_Delta_cells a0 a0_commands_a a0_commands_c) 27] := hS
  refine wpListIn_nil (then_n ?_)
  refine w_cond hK rfl (fun hb2 => ?_) (fun hb2 => ?_)
  ·
   replace hK := hK.more (t := 19) (v' := .bool true) rfl (by rw [hb2])
   replace h := ite_t (hb2) h
   refine w_seq (w_region ?_)
   refine qp 20 (.int .i64 s1) hK fun fr hK => ?_
   refine qp 4 (.int .i64 s1) hK fun fr hK => ?_
   refine wpListIn_nil (then_n ?_)
   refine wpIn_ret ?_
   refine blk_r ?_
   refine then_r ?_
   refine then_r ?_
   refine blk_r ?_
   refine then_r ?_
   replace h := Option.some.inj h; subst h
   replace h := Option.some.inj (loop_out hn1); subst h
   refine ret_of [.tmp 4] [.int .i64 s1] rfl hK (.tmp rfl .nil) hS.dropAll ?_
   exact ⟨rfl, rfl⟩
  ·
   replace hK := hK.more (t := 19) (v' := .bool false) rfl (by rw [hb2])
   replace h := ite_f (ne_true_of_eq_false hb2) h
   refine wpIn_skip ?_
   refine blk_n ?_
   refine then_n ?_
   refine w_region ?_
   refine qp 11 (.int .i64 s1) hK fun fr hK => ?_
   refine qp 12 (.int .i64 (IntKind.i64.wrap (s1 + 1))) hK fun fr hK => ?_
   refine qp 5 (.int .i64 (IntKind.i64.wrap (s1 + 1))) hK fun fr hK => ?_
   refine wpListIn_nil (then_n ?_)
   replace hS : St _ m m3 [.box b1 (G_Delta_cells a0 a0_commands_a a0_commands_c) 27] := hS
   replace h := Option.some.inj h; subst h
   obtain ⟨kq, hk1, hk2⟩ := hn1
   exact ⟨kq, hk1, _, hk2, m3, rfl, hK.only [1, 2, 5], l2.trans l3, hS⟩
 ·
  replace hK := hK.more (t := 10) (v' := .bool false) rfl (by rw [hb1])
  replace h := ite_f (of_decide_eq_false hb1) h
  refine wpIn_exit ?_
  refine then_x ?_
  refine then_x ?_
  refine blk_e ?_
  refine then_n ?_
  refine w_seq (w_region ?_)
  refine qp 4 (.int .i64 (-1)) hK fun fr hK => ?_
  refine wpListIn_nil (then_n ?_)
  refine wpIn_ret ?_
  replace h := Option.some.inj h; subst h
  replace h := Option.some.inj (loop_out hn1); subst h
  refine ret_of [.tmp 4] [.int .i64 (-1)] rfl hK (.tmp rfl .nil) hS.dropAll ?_
  exact ⟨rfl, rfl⟩
set_option maxRecDepth 100000 in
set_option maxHeartbeats 1000000 in
theorem G.graftref05_gap_spec {m : Mem} {a0 : G.Delta} {a0_commands_a : Option Addr} {a0_commands_c : Nat} (a0_commands_f : Els is_G_Command m 5 a0_commands_a a0_commands_c a0.commands) {r : Int} (h : G.graftref05_gap a0 = some r) :
  Spec Try.prog 64 #[.agg (G_Delta_cells a0 a0_commands_a a0_commands_c)] m [] fun v m' L => L = [] ∧ v = .int .i64 r := by
 unfold G.graftref05_gap at h
 refine enter (args := [_]) 49 Try.func64 rfl rfl (by simp) fun fr hK => ?_
 have hS := St.refl (Ow.nil m)
 replace hK : Kn 49 fr [(0, .agg (G_Delta_cells a0 a0_commands_a a0_commands_c))] := hK
 refine w_seq (w_region ?_)
 refine qo 1 hK (s_box hK.at_ hS rfl rfl ?_)
 clear hK fr hS; intro m1 b1 b1z l1 hS fr hK
 replace hS : St _ m m1 [.box b1 (G_Delta_cells a0 a0_commands_a a0_commands_c) 27] := hS
 refine qp 2 (.int .i64 0) hK fun fr hK => ?_
 refine wpListIn_nil (then_n ?_)
 refine w_seq (w_region ?_)
 refine qp 3 (.int .i64 (-1)) hK fun fr hK => ?_
 refine wpListIn_nil (then_n ?_)
 refine w_seq ?_
 refine w_seq (w_region ?_)
 refine qp 4 (.int .i64 (-1)) hK fun fr hK => ?_
 refine wpListIn_nil (then_n ?_)
 refine wpIn_block ?_
 replace hS : St _ m m1 [.box b1 (G_Delta_cells a0 a0_commands_a a0_commands_c) 27] := hS
 refine w_loopL h (fun (s1 : Int × Int) fr ww => ∃ m2 : Mem, m2.w = ww ∧ Kn 49 fr [(1, .pointer (some ⟨b1, 0, none⟩)), (3, .int .i64 s1.1), (4, .int .i64 s1.2)] ∧ Le m1 m2 ∧ St (blocksOf []) m m2 [.box b1 (G_Delta_cells a0 a0_commands_a a0_commands_c) 27]) ?_ ?_
 · exact ⟨m1, rfl, hK.only [1, 3, 4], Le.refl _, hS⟩
 clear hK hS fr h
 rintro k1 s1 x1 fr _ ⟨m2, rfl, hK, l2, hS⟩ h hn1
 unfold G.graftref05_gap_l1 at h
 refine w_seq ?_
 refine w_seq (w_region ?_)
 refine qp 6 (.int .i64 s1.2) hK fun fr hK => ?_
 refine qp 7 (.pointer (some ⟨b1, 66, none⟩)) hK fun fr hK => ?_
 refine qo 8 hK (s_load hK.at_ hS 0 rfl rfl rfl rfl (by kernel_rfl) ?_)
 clear hK fr; intro fr hK
 refine qp 9 (.int .i64 (a0.commands.length : Int)) hK fun fr hK => ?_
 refine qp 10 (.bool (decide (s1.2 < (a0.commands.length : Int)))) hK fun fr hK => ?_
 refine wpListIn_nil (then_n ?_)
 refine w_cond hK rfl (fun hb1 => ?_) (fun hb1 => ?_)
 ·
  replace hK := hK.more (t := 10) (v' := .bool true) rfl (by rw [hb1])
  replace h := ite_t (of_decide_eq_true hb1) h
  refine wpIn_skip ?_
  refine then_n ?_
  refine w_seq ?_
  refine wpIn_block ?_
  refine w_seq (w_region ?_)
  refine qp 5 (.int .i64 0) hK fun fr hK => ?_
  refine wpListIn_nil (then_n ?_)
  refine w_seq ?_
  refine w_seq (w_region ?_)
  refine qp 13 (.int .i64 s1.2) hK fun fr hK => ?_
  refine qp 14 (.bool (decide (s1.2 ≥ 0))) hK fun fr hK => ?_
  refine wpListIn_nil (then_n ?_)
  obtain ⟨v1, hv1, h⟩ := bind_some h
  refine w_join (fun fr ww => ∃ m3 : Mem, m3.w = ww ∧ Kn 49 fr [(1, .pointer (some ⟨b1, 0, none⟩)), (3, .int .i64 s1.1), (4, .int .i64 s1.2), (5, .int .i64 v1)] ∧ Le m2 m3 ∧ St (blocksOf []) m m3 [.box b1 (G_Delta_cells a0 a0_commands_a a0_commands_c) 27]) ?_ ?_
  ·
   clear hK hS fr hv1
   rintro fr _ ⟨m3, rfl, hK, l3, hS⟩
   refine then_n ?_
   refine w_seq ?_
   obtain ⟨v2, hv2, h⟩ := bind_some h
   refine w_join (fun fr ww => ∃ m4 : Mem, m4.w = ww ∧ Kn 49 fr [(1, .pointer (some ⟨b1, 0, none⟩)), (3, .int .i64 s1.1), (4, .int .i64 s1.2), (5, .int .i64 v1), (46, .bool v2)] ∧ Le m3 m4 ∧ St (blocksOf []) m m4 [.box b1 (G_Delta_cells a0 a0_commands_a a0_commands_c) 27]) ?_ ?_
   ·
    clear hK hS fr hv2
    rintro fr _ ⟨m4, rfl, hK, l4, hS⟩
    refine then_n ?_
    refine w_cond hK rfl (fun hb2 => ?_) (fun hb2 => ?_)
    ·
     replace hK := hK.more (t := 46) (v' := .bool true) rfl (by rw [hb2])
     replace h := ite_t (hb2) h
     refine w_region ?_
     refine qp 47 (.int .i64 v1) hK fun fr hK => ?_
     refine qp 3 (.int .i64 v1) hK fun fr hK => ?_
     refine wpListIn_nil ?_
     refine blk_n ?_
     refine then_n ?_
     refine w_region ?_
     refine qp 11 (.int .i64 s1.2) hK fun fr hK => ?_
     refine qp 12 (.int .i64 (IntKind.i64.wrap (s1.2 + 1))) hK fun fr hK => ?_
     refine qp 4 (.int .i64 (IntKind.i64.wrap (s1.2 + 1))) hK fun fr hK => ?_
     refine wpListIn_nil (then_n ?_)
     replace hS : St _ m m4 [.box b1 (G_Delta_cells a0 a0_commands_a a0_commands_c) 27] := hS
     replace h := Option.some.inj h; subst h
     obtain ⟨kq, hk1, hk2⟩ := hn1
     exact ⟨kq, hk1, _, hk2, m4, rfl, hK.only [1, 3, 4], l2.trans (l3.trans l4), hS⟩
    ·
     replace hK := hK.more (t := 46) (v' := .bool false) rfl (by rw [hb2])
     replace h := ite_f (ne_true_of_eq_false hb2) h
     refine wpIn_skip ?_
     refine blk_n ?_
     refine then_n ?_
     refine w_region ?_
     refine qp 11 (.int .i64 s1.2) hK fun fr hK => ?_
     refine qp 12 (.int .i64 (IntKind.i64.wrap (s1.2 + 1))) hK fun fr hK => ?_
     refine qp 4 (.int .i64 (IntKind.i64.wrap (s1.2 + 1))) hK fun fr hK => ?_
     refine wpListIn_nil (then_n ?_)
     replace hS : St _ m m4 [.box b1 (G_Delta_cells a0 a0_commands_a a0_commands_c) 27] := hS
     replace h := Option.some.inj h; subst h
     obtain ⟨kq, hk1, hk2⟩ := hn1
     exact ⟨kq, hk1, _, hk2, m4, rfl, hK.only [1, 3, 4], l2.trans (l3.trans l4), hS⟩
   ·
    replace h := hv2; clear hv2
    refine w_region ?_
    refine qp 28 (.int .i64 v1) hK fun fr hK => ?_
    refine qp 29 (.pointer (some ⟨b1, 1, none⟩)) hK fun fr hK => ?_
    refine qo 30 hK (s_load hK.at_ hS 0 rfl rfl rfl rfl (by kernel_rfl) ?_)
    clear hK fr; intro fr hK
    refine qp 31 (.bool (decide (v1 < a0.newLen))) hK fun fr hK => ?_
    refine qp 32 (.bool (decide (v1 < a0.newLen))) hK fun fr hK => ?_
    refine split_b (x := decide (v1 < a0.newLen)) (fun hb3 => ?_) (fun hb3 => ?_)
    ·
     replace hK := hK.more (t := 32) (v' := .bool true) rfl (by rw [hb3])
     replace hK := hK.more (t := 31) (v' := .bool true) rfl (by rw [hb3])
     replace h := ite_t (of_decide_eq_true hb3) h
     refine qo 33 hK (s_loadAll hK.at_ hS 0 rfl rfl rfl (by kernel_rfl) ?_)
     clear hK fr; intro fr hK
     refine qp 34 (.int .i64 v1) hK fun fr hK => ?_
     replace a0_commands_f := Els.mono rep_G_Command a0_commands_f (l1.trans (l2.trans l3))
     obtain ⟨y1, hy1, h⟩ := bind_some h
     refine qo 35 hK (s_call hK.at_ hS ent90_3 rfl rfl rfl rfl (G.graftref05_Find_spec a0_commands_f hy1) (by kernel_rfl) ?_)
     clear hK fr hS; rintro _ m5 _ l5 hS ⟨rfl, rfl⟩ fr hK
     replace hS : St _ m m5 [.box b1 (G_Delta_cells a0 a0_commands_a a0_commands_c) 27] := hS
     refine qp 36 (.bool (decide (y1 < 0))) hK fun fr hK => ?_
     refine qp 37 (.bool (decide (y1 < 0))) hK fun fr hK => ?_
     refine qp 38 (.bool (decide (y1 < 0))) hK fun fr hK => ?_
     refine split_b (x := decide (y1 < 0)) (fun hb4 => ?_) (fun hb4 => ?_)
     ·
      replace hK := hK.more (t := 38) (v' := .bool true) rfl (by rw [hb4])
      replace hK := hK.more (t := 37) (v' := .bool true) rfl (by rw [hb4])
      replace hK := hK.more (t := 36) (v' := .bool true) rfl (by rw [hb4])
      replace h := ite_t (of_decide_eq_true hb4) h
      refine qp 39 (.int .i64 s1.1) hK fun fr hK => ?_
      refine qp 40 (.bool (decide (s1.1 < 0))) hK fun fr hK => ?_
      refine qp 41 (.bool (decide (s1.1 < 0))) hK fun fr hK => ?_
      refine split_b (x := decide (s1.1 < 0)) (fun hb5 => ?_) (fun hb5 => ?_)
      ·
       replace hK := hK.more (t := 41) (v' := .bool true) rfl (by rw [hb5])
       replace hK := hK.more (t := 40) (v' := .bool true) rfl (by rw [hb5])
       replace h := ite_t (of_decide_eq_true hb5) h
       refine qs 42 hK ?_
       clear hK fr; intro fr hK
       refine qs 43 hK ?_
       clear hK fr; intro fr hK
       refine qs 44 hK ?_
       clear hK fr; intro fr hK
       refine qp 45 (.bool true) hK fun fr hK => ?_
       refine qp 46 (.bool true) hK fun fr hK => ?_
       refine wpListIn_nil (then_n ?_)
       replace hS : St _ m m5 [.box b1 (G_Delta_cells a0 a0_commands_a a0_commands_c) 27] := hS
       replace h := Option.some.inj h; subst h
       exact ⟨m5, rfl, hK.only [1, 3, 4, 5, 46], l5, hS⟩
      ·
       replace hK := hK.more (t := 41) (v' := .bool false) rfl (by rw [hb5])
       replace hK := hK.more (t := 40) (v' := .bool false) rfl (by rw [hb5])
       replace h := ite_f (of_decide_eq_false hb5) h
       refine qp 42 (.int .i64 v1) hK fun fr hK => ?_
       refine qp 43 (.int .i64 s1.1) hK fun fr hK => ?_
       refine qp 44 (.bool (decide (v1 < s1.1))) hK fun fr hK => ?_
       refine qp 45 (.bool (decide (v1 < s1.1))) hK fun fr hK => ?_
       refine qp 46 (.bool (decide (v1 < s1.1))) hK fun fr hK => ?_
       refine wpListIn_nil (then_n ?_)
       replace hS : St _ m m5 [.box b1 (G_Delta_cells a0 a0_commands_a a0_commands_c) 27] := hS
       replace h := Option.some.inj h; subst h
       exact ⟨m5, rfl, hK.only [1, 3, 4, 5, 46], l5, hS⟩
     ·
      replace hK := hK.more (t := 38) (v' := .bool false) rfl (by rw [hb4])
      replace hK := hK.more (t := 37) (v' := .bool false) rfl (by rw [hb4])
      replace hK := hK.more (t := 36) (v' := .bool false) rfl (by rw [hb4])
      replace h := ite_f (of_decide_eq_false hb4) h
      refine qs 39 hK ?_
      clear hK fr; intro fr hK
      refine qs 40 hK ?_
      clear hK fr; intro fr hK
      refine qs 41 hK ?_
      clear hK fr; intro fr hK
      refine qs 42 hK ?_
      clear hK fr; intro fr hK
      refine qs 43 hK ?_
      clear hK fr; intro fr hK
      refine qs 44 hK ?_
      clear hK fr; intro fr hK
      refine qs 45 hK ?_
      clear hK fr; intro fr hK
      refine qp 46 (.bool false) hK fun fr hK => ?_
      refine wpListIn_nil (then_n ?_)
      replace hS : St _ m m5 [.box b1 (G_Delta_cells a0 a0_commands_a a0_commands_c) 27] := hS
      replace h := Option.some.inj h; subst h
      exact ⟨m5, rfl, hK.only [1, 3, 4, 5, 46], l5, hS⟩
    ·
     replace hK := hK.more (t := 32) (v' := .bool false) rfl (by rw [hb3])
     replace hK := hK.more (t := 31) (v' := .bool false) rfl (by rw [hb3])
     replace h := ite_f (of_decide_eq_false hb3) h
     refine qs 33 hK ?_
     clear hK fr; intro fr hK
     refine qs 34 hK ?_
     clear hK fr; intro fr hK
     refine qs 35 hK ?_
     clear hK fr; intro fr hK
     refine qs 36 hK ?_
     clear hK fr; intro fr hK
     refine qp 37 (.bool false) hK fun fr hK => ?_
     refine qp 38 (.bool false) hK fun fr hK => ?_
     refine qs 39 hK ?_
     clear hK fr; intro fr hK
     refine qs 40 hK ?_
     clear hK fr; intro fr hK
     refine qs 41 hK ?_
     clear hK fr; intro fr hK
     refine qs 42 hK ?_
     clear hK fr; intro fr hK
     refine qs 43 hK ?_
     clear hK fr; intro fr hK
     refine qs 44 hK ?_
     clear hK fr; intro fr hK
     refine qs 45 hK ?_
     clear hK fr; intro fr hK
     refine qp 46 (.bool false) hK fun fr hK => ?_
     refine wpListIn_nil (then_n ?_)
     replace hS : St _ m m3 [.box b1 (G_Delta_cells a0 a0_commands_a a0_commands_c) 27] := hS
     replace h := Option.some.inj h; subst h
     exact ⟨m3, rfl, hK.only [1, 3, 4, 5, 46], Le.refl _, hS⟩
  ·
   replace h := hv1; clear hv1
   refine w_cond hK rfl (fun hb6 => ?_) (fun hb6 => ?_)
   ·
    replace hK := hK.more (t := 14) (v' := .bool true) rfl (by rw [hb6])
    replace h := ite_t (of_decide_eq_true hb6) h
    replace a0_commands_f := Els.mono rep_G_Command a0_commands_f (l1.trans l2)
    obtain ⟨x2, hy2, h⟩ := bind_some h
    obtain ⟨x3, hy3, h⟩ := bind_some h
    obtain ⟨y2, hy4, h⟩ := bind_some h
    have hlt0 : ∀ bq ∈ blocksOf [.box b1 (G_Delta_cells a0 a0_commands_a a0_commands_c) 27], bq < m2.w.heap.size := fun bq hbq => hS.ow.lt hbq
    refine D.wp_draw (Gr := D.GO m2 none) (S := D.SO none (blocksOf []) m m2 (fun _ => [.box b1 (G_Delta_cells a0 a0_commands_a a0_commands_c) 27]) (fun _ => True)) (N := 0) 12 [] [([(1, none)], 0, 0, false), ([(15, some 0)], 0, 0, false), ([(4, none)], 0, 0, false), ([(16, some 1), (17, some 0)], 0, 0, false), ([(18, some 0)], 0, 0, false), ([(19, some 0)], 0, 0, false), ([(1, none)], 0, 0, false), ([(21, some 0)], 0, 0, false), ([(4, none)], 0, 0, false), ([(22, some 1), (23, some 0)], 0, 0, false), ([(24, some 0)], 0, 0, false), ([(25, some 0)], 0, 0, false)] hK.size (by kernel_rfl) (by kernel_rfl) (by kernel_rfl) rfl (D.startO hS trivial) ?_
    refine D.on_pure (D.GO_refl _ _) [(1, .pointer (some ⟨b1, 0, none⟩))] (.pointer (some ⟨b1, 66, none⟩)) (fun ac ww hk => (.cons (hk.1.trans (hK.at_ 1 _ rfl)) (.nil _))) ?_
    refine D.on_det (D.GO_refl _ _) [(15, .pointer (some ⟨b1, 66, none⟩))] (.slice a0_commands_a a0.commands.length a0_commands_c) (fun ac ww hk => (.cons (hk.1) (.nil _))) (fun ac ww kk hb hKe Post hp => (fun hS => s_load hKe hS 0 rfl rfl rfl rfl (by kernel_rfl) hp) hb.2.1) ?_
    refine D.on_pure (D.GO_refl _ _) [(4, .int .i64 s1.2)] (.int .i64 s1.2) (fun ac ww hk => (.cons (hk.1.trans (hK.at_ 4 _ rfl)) (.nil _))) ?_
    refine D.on_op (fun uu ww => ∃ (b2 : Nat) (p1 : Nat) (e1_data_a : Option Addr) (e1_data_c : Nat), uu = .pointer (some ⟨b2, p1, none⟩) ∧ At (m2.upO none ww) b2 p1 [.int .i64 x2.kind, .int .i64 x2.to, .int .i64 x2.from_, .int .i64 x2.len, .slice e1_data_a x2.data.length e1_data_c] ∧ Els isU8 (m2.upO none ww) 1 e1_data_a e1_data_c x2.data) (fun _ _ _ ⟨b2, p1, e1_data_a, e1_data_c, e, hA1, e1_data_f⟩ g => ⟨b2, p1, e1_data_a, e1_data_c, e, hA1.mono g.1, Els.mono rep_U8 e1_data_f g.1⟩) (by
     intro ac ww kk hlo hhi hb hk
     obtain rfl : kk = 0 := by omega
     have h0 := hS; replace hS := hb.2.1
     have k16 : ac.eval (.tmp 16) = .slice a0_commands_a a0.commands.length a0_commands_c := hk.1
     have k17 : ac.eval (.tmp 17) = .int .i64 s1.2 := hk.2.1
     have hKe : Ke ac [(16, .slice a0_commands_a a0.commands.length a0_commands_c), (17, .int .i64 s1.2)] := (.cons k16 (.cons k17 (.nil _)))
     replace a0_commands_f := Els.mono rep_G_Command a0_commands_f hb.1
     exact ⟨D.wanted0 rfl, (s_idx elT25_3 a0_commands_f hy2 hKe rfl rfl rfl (by
    intro b2 p1 cs1 hR1 hA1
    obtain ⟨e1_data_a, e1_data_c, rfl, e1_data_f⟩ := hR1
    exact ⟨⟨b2, p1, e1_data_a, e1_data_c, rfl, hA1, e1_data_f⟩, D.GO_refl _ _ _, hb⟩))⟩) ?_
    refine D.on_op (fun uu ww => ∃ (b2 : Nat) (p1 : Nat) (e1_data_a : Option Addr) (e1_data_c : Nat), uu = .pointer (some ⟨b2, p1 + 1, none⟩) ∧ At (m2.upO none ww) b2 p1 [.int .i64 x2.kind, .int .i64 x2.to, .int .i64 x2.from_, .int .i64 x2.len, .slice e1_data_a x2.data.length e1_data_c] ∧ Els isU8 (m2.upO none ww) 1 e1_data_a e1_data_c x2.data) (fun _ _ _ ⟨b2, p1, e1_data_a, e1_data_c, e, hA1, e1_data_f⟩ g => ⟨b2, p1, e1_data_a, e1_data_c, e, hA1.mono g.1, Els.mono rep_U8 e1_data_f g.1⟩) (by
     intro ac ww kk hlo hhi hb hk
     obtain rfl : kk = 0 := by omega
     have h0 := hS; replace hS := hb.2.1
     obtain ⟨b2, p1, e1_data_a, e1_data_c, k18, hA1, e1_data_f⟩ : ∃ (b2 : Nat) (p1 : Nat) (e1_data_a : Option Addr) (e1_data_c : Nat), ac.eval (.tmp 18) = .pointer (some ⟨b2, p1, none⟩) ∧ At (m2.upO none ww) b2 p1 [.int .i64 x2.kind, .int .i64 x2.to, .int .i64 x2.from_, .int .i64 x2.len, .slice e1_data_a x2.data.length e1_data_c] ∧ Els isU8 (m2.upO none ww) 1 e1_data_a e1_data_c x2.data := hk.1
     have hKe : Ke ac [(18, .pointer (some ⟨b2, p1, none⟩))] := (.cons k18 (.nil _))
     exact ⟨D.wanted0 rfl, D.valO hb (fun Post hp => s_pure (.pointer (some ⟨b2, p1 + 1, none⟩)) hKe (by kernel_rfl) (by kernel_rfl) hp) ⟨b2, p1, e1_data_a, e1_data_c, rfl, hA1, e1_data_f⟩⟩) ?_
    refine D.on_op (fun uu _ => uu = .int .i64 x2.to) (fun _ _ _ h _ => h) (by
     intro ac ww kk hlo hhi hb hk
     obtain rfl : kk = 0 := by omega
     have h0 := hS; replace hS := hb.2.1
     obtain ⟨b2, p1, e1_data_a, e1_data_c, k19, hA1, e1_data_f⟩ : ∃ (b2 : Nat) (p1 : Nat) (e1_data_a : Option Addr) (e1_data_c : Nat), ac.eval (.tmp 19) = .pointer (some ⟨b2, p1 + 1, none⟩) ∧ At (m2.upO none ww) b2 p1 [.int .i64 x2.kind, .int .i64 x2.to, .int .i64 x2.from_, .int .i64 x2.len, .slice e1_data_a x2.data.length e1_data_c] ∧ Els isU8 (m2.upO none ww) 1 e1_data_a e1_data_c x2.data := hk.1
     have hKe : Ke ac [(19, .pointer (some ⟨b2, p1 + 1, none⟩))] := (.cons k19 (.nil _))
     exact ⟨D.wanted0 rfl, D.valO (m := m2) hb (fun Post hp => s_loadAt hKe hA1 1 rfl rfl rfl rfl (by kernel_rfl) hp) rfl⟩) ?_
    refine D.on_pure (D.GO_refl _ _) [(1, .pointer (some ⟨b1, 0, none⟩))] (.pointer (some ⟨b1, 66, none⟩)) (fun ac ww hk => (.cons (hk.1.trans (hK.at_ 1 _ rfl)) (.nil _))) ?_
    refine D.on_det (D.GO_refl _ _) [(21, .pointer (some ⟨b1, 66, none⟩))] (.slice a0_commands_a a0.commands.length a0_commands_c) (fun ac ww hk => (.cons (hk.1) (.nil _))) (fun ac ww kk hb hKe Post hp => (fun hS => s_load hKe hS 0 rfl rfl rfl rfl (by kernel_rfl) hp) hb.2.1) ?_
    refine D.on_pure (D.GO_refl _ _) [(4, .int .i64 s1.2)] (.int .i64 s1.2) (fun ac ww hk => (.cons (hk.1.trans (hK.at_ 4 _ rfl)) (.nil _))) ?_
    refine D.on_op (fun uu ww => ∃ (b3 : Nat) (p2 : Nat) (e2_data_a : Option Addr) (e2_data_c : Nat), uu = .pointer (some ⟨b3, p2, none⟩) ∧ At (m2.upO none ww) b3 p2 [.int .i64 x3.kind, .int .i64 x3.to, .int .i64 x3.from_, .int .i64 x3.len, .slice e2_data_a x3.data.length e2_data_c] ∧ Els isU8 (m2.upO none ww) 1 e2_data_a e2_data_c x3.data) (fun _ _ _ ⟨b3, p2, e2_data_a, e2_data_c, e, hA2, e2_data_f⟩ g => ⟨b3, p2, e2_data_a, e2_data_c, e, hA2.mono g.1, Els.mono rep_U8 e2_data_f g.1⟩) (by
     intro ac ww kk hlo hhi hb hk
     obtain rfl : kk = 0 := by omega
     have h0 := hS; replace hS := hb.2.1
     have k22 : ac.eval (.tmp 22) = .slice a0_commands_a a0.commands.length a0_commands_c := hk.1
     have k23 : ac.eval (.tmp 23) = .int .i64 s1.2 := hk.2.1
     have hKe : Ke ac [(22, .slice a0_commands_a a0.commands.length a0_commands_c), (23, .int .i64 s1.2)] := (.cons k22 (.cons k23 (.nil _)))
     replace a0_commands_f := Els.mono rep_G_Command a0_commands_f hb.1
     exact ⟨D.wanted0 rfl, (s_idx elT25_3 a0_commands_f hy3 hKe rfl rfl rfl (by
    intro b3 p2 cs2 hR2 hA2
    obtain ⟨e2_data_a, e2_data_c, rfl, e2_data_f⟩ := hR2
    exact ⟨⟨b3, p2, e2_data_a, e2_data_c, rfl, hA2, e2_data_f⟩, D.GO_refl _ _ _, hb⟩))⟩) ?_
    refine D.on_op (fun uu ww => ∃ (b3 : Nat) (p2 : Nat) (e2_data_a : Option Addr) (e2_data_c : Nat), uu = .agg #[.int .i64 x3.kind, .int .i64 x3.to, .int .i64 x3.from_, .int .i64 x3.len, .slice e2_data_a x3.data.length e2_data_c] ∧ At (m2.upO none ww) b3 p2 [.int .i64 x3.kind, .int .i64 x3.to, .int .i64 x3.from_, .int .i64 x3.len, .slice e2_data_a x3.data.length e2_data_c] ∧ Els isU8 (m2.upO none ww) 1 e2_data_a e2_data_c x3.data) (fun _ _ _ ⟨b3, p2, e2_data_a, e2_data_c, e, hA2, e2_data_f⟩ g => ⟨b3, p2, e2_data_a, e2_data_c, e, hA2.mono g.1, Els.mono rep_U8 e2_data_f g.1⟩) (by
     intro ac ww kk hlo hhi hb hk
     obtain rfl : kk = 0 := by omega
     have h0 := hS; replace hS := hb.2.1
     obtain ⟨b3, p2, e2_data_a, e2_data_c, k24, hA2, e2_data_f⟩ : ∃ (b3 : Nat) (p2 : Nat) (e2_data_a : Option Addr) (e2_data_c : Nat), ac.eval (.tmp 24) = .pointer (some ⟨b3, p2, none⟩) ∧ At (m2.upO none ww) b3 p2 [.int .i64 x3.kind, .int .i64 x3.to, .int .i64 x3.from_, .int .i64 x3.len, .slice e2_data_a x3.data.length e2_data_c] ∧ Els isU8 (m2.upO none ww) 1 e2_data_a e2_data_c x3.data := hk.1
     have hKe : Ke ac [(24, .pointer (some ⟨b3, p2, none⟩))] := (.cons k24 (.nil _))
     exact ⟨D.wanted0 rfl, D.valO (m := m2) hb (fun Post hp => s_loadAtN [.int .i64 x3.kind, .int .i64 x3.to, .int .i64 x3.from_, .int .i64 x3.len, .slice e2_data_a x3.data.length e2_data_c] hKe hA2 0 rfl rfl rfl (by kernel_rfl) (by kernel_rfl) hp) ⟨b3, p2, e2_data_a, e2_data_c, rfl, hA2, e2_data_f⟩⟩) ?_
    refine D.on_op (fun uu _ => uu = .int .i64 y2) (fun _ _ _ h _ => h) (by
     intro ac ww kk hlo hhi hb hk
     obtain rfl : kk = 0 := by omega
     have h0 := hS; replace hS := hb.2.1
     obtain ⟨b3, p2, e2_data_a, e2_data_c, k25, hA2, e2_data_f⟩ : ∃ (b3 : Nat) (p2 : Nat) (e2_data_a : Option Addr) (e2_data_c : Nat), ac.eval (.tmp 25) = .agg #[.int .i64 x3.kind, .int .i64 x3.to, .int .i64 x3.from_, .int .i64 x3.len, .slice e2_data_a x3.data.length e2_data_c] ∧ At (m2.upO none ww) b3 p2 [.int .i64 x3.kind, .int .i64 x3.to, .int .i64 x3.from_, .int .i64 x3.len, .slice e2_data_a x3.data.length e2_data_c] ∧ Els isU8 (m2.upO none ww) 1 e2_data_a e2_data_c x3.data := hk.1
     have hKe : Ke ac [(25, .agg #[.int .i64 x3.kind, .int .i64 x3.to, .int .i64 x3.from_, .int .i64 x3.len, .slice e2_data_a x3.data.length e2_data_c])] := (.cons k25 (.nil _))
     exact ⟨D.wanted0 rfl, D.callO h0 (fun bq hbq => hlt0 bq (by revert hbq; simp [blocksOf, Ent.box, rowOf, Ent.row]; try omega)) hb hKe ent32_3 rfl rfl rfl rfl (G.graftref04_Len_spec e2_data_f hy4) (by kernel_rfl) (by rintro _ m' _ hg hn hl ⟨rfl, rfl⟩; exact rfl)⟩) ?_
    refine D.finO ?_
    intro fr2 m6 hm1 l6 hS2 hF2 hE
    replace hS2 : St _ m m6 [.box b1 (G_Delta_cells a0 a0_commands_a a0_commands_c) 27] := hS2
    have hK2 := D.kn_ends [(15, .pointer (some ⟨b1, 66, none⟩)), (16, .slice a0_commands_a a0.commands.length a0_commands_c), (17, .int .i64 s1.2), (18, fr2.eval (.tmp 18)), (19, fr2.eval (.tmp 19)), (20, .int .i64 x2.to), (21, .pointer (some ⟨b1, 66, none⟩)), (22, .slice a0_commands_a a0.commands.length a0_commands_c), (23, .int .i64 s1.2), (24, fr2.eval (.tmp 24)), (25, fr2.eval (.tmp 25)), (26, .int .i64 y2)] hK hE rfl (by kernel_rfl) (.cons (hE.slots 15) (.cons (hE.slots 16) (.cons (hE.slots 17) (.cons (rfl) (.cons (rfl) (.cons (hE.slots 20) (.cons (hE.slots 21) (.cons (hE.slots 22) (.cons (hE.slots 23) (.cons (rfl) (.cons (rfl) (.cons (hE.slots 26) (.nil _)))))))))))))
    replace hK2 : Kn 49 fr2 [(15, .pointer (some ⟨b1, 66, none⟩)), (16, .slice a0_commands_a a0.commands.length a0_commands_c), (17, .int .i64 s1.2), (20, .int .i64 x2.to), (21, .pointer (some ⟨b1, 66, none⟩)), (22, .slice a0_commands_a a0.commands.length a0_commands_c), (23, .int .i64 s1.2), (26, .int .i64 y2), (14, .bool true), (13, .int .i64 s1.2), (5, .int .i64 0), (10, .bool true), (9, .int .i64 (a0.commands.length : Int)), (8, .slice a0_commands_a a0.commands.length a0_commands_c), (7, .pointer (some ⟨b1, 66, none⟩)), (6, .int .i64 s1.2), (1, .pointer (some ⟨b1, 0, none⟩)), (3, .int .i64 s1.1), (4, .int .i64 s1.2)] := hK2.only [15, 16, 17, 20, 21, 22, 23, 26, 14, 13, 5, 10, 9, 8, 7, 6, 1, 3, 4]
    clear hE hK; revert hK2; clear hm1 hS hlt0; revert fr2; clear fr; intro fr hK; have hS := hS2; clear hS2
    replace hS : St _ m m6 [.box b1 (G_Delta_cells a0 a0_commands_a a0_commands_c) 27] := hS
    refine qp 27 (.int .i64 (IntKind.i64.wrap (x2.to + y2))) hK fun fr hK => ?_
    refine qp 5 (.int .i64 (IntKind.i64.wrap (x2.to + y2))) hK fun fr hK => ?_
    refine wpListIn_nil (then_n ?_)
    replace hS : St _ m m6 [.box b1 (G_Delta_cells a0 a0_commands_a a0_commands_c) 27] := hS
    replace h := Option.some.inj h; subst h
    exact ⟨m6, rfl, hK.only [1, 3, 4, 5], l6, hS⟩
   ·
    replace hK := hK.more (t := 14) (v' := .bool false) rfl (by rw [hb6])
    replace h := ite_f (of_decide_eq_false hb6) h
    refine wpIn_skip ?_
    refine then_n ?_
    replace hS : St _ m m2 [.box b1 (G_Delta_cells a0 a0_commands_a a0_commands_c) 27] := hS
    replace h := Option.some.inj h; subst h
    exact ⟨m2, rfl, hK.only [1, 3, 4, 5], Le.refl _, hS⟩
 ·
  replace hK := hK.more (t := 10) (v' := .bool false) rfl (by rw [hb1])
  replace h := ite_f (of_decide_eq_false hb1) h
  refine wpIn_exit ?_
  refine then_x ?_
  refine then_x ?_
  refine blk_e ?_
  refine then_n ?_
  refine w_seq (w_region ?_)
  refine qp 48 (.int .i64 s1.1) hK fun fr hK => ?_
  refine qp 2 (.int .i64 s1.1) hK fun fr hK => ?_
  refine wpListIn_nil (then_n ?_)
  refine wpIn_ret ?_
  replace h := Option.some.inj h; subst h
  replace h := Option.some.inj (loop_out hn1); subst h
  refine ret_of [.tmp 2] [.int .i64 s1.1] rfl hK (.tmp rfl .nil) hS.dropAll ?_
  exact ⟨rfl, rfl⟩
set_option maxRecDepth 100000 in
set_option maxHeartbeats 1000000 in
theorem G.graftref05_Check_spec {m : Mem} {a0 : G.Delta} {a0_commands_a : Option Addr} {a0_commands_c : Nat} (a0_commands_f : Els is_G_Command m 5 a0_commands_a a0_commands_c a0.commands) {r : Int × Int} (h : G.graftref05_Check a0 = some r) :
  Spec Try.prog 24 #[.agg (G_Delta_cells a0 a0_commands_a a0_commands_c)] m [] fun v m' L => L = [] ∧ v = .tuple #[.int .i64 r.1, .int .i64 r.2] := by
 unfold G.graftref05_Check at h
 refine enter (args := [_]) 80 Try.func24 rfl rfl (by simp) fun fr hK => ?_
 have hS := St.refl (Ow.nil m)
 replace hK : Kn 80 fr [(0, .agg (G_Delta_cells a0 a0_commands_a a0_commands_c))] := hK
 refine w_seq (w_region ?_)
 refine qo 1 hK (s_box hK.at_ hS rfl rfl ?_)
 clear hK fr hS; intro m1 b1 b1z l1 hS fr hK
 replace hS : St _ m m1 [.box b1 (G_Delta_cells a0 a0_commands_a a0_commands_c) 27] := hS
 refine qp 2 (.int .i64 0) hK fun fr hK => ?_
 refine qp 3 (.int .i64 0) hK fun fr hK => ?_
 refine wpListIn_nil (then_n ?_)
 refine w_seq ?_
 refine w_seq ?_
 obtain ⟨v1, hv1, h⟩ := bind_some h
 refine w_join (fun fr ww => ∃ m2 : Mem, m2.w = ww ∧ Kn 80 fr [(1, .pointer (some ⟨b1, 0, none⟩)), (28, .bool v1)] ∧ Le m1 m2 ∧ St (blocksOf []) m m2 [.box b1 (G_Delta_cells a0 a0_commands_a a0_commands_c) 27]) ?_ ?_
 ·
  clear hK hS fr hv1
  rintro fr _ ⟨m2, rfl, hK, l2, hS⟩
  refine then_n ?_
  refine w_cond hK rfl (fun hb1 => ?_) (fun hb1 => ?_)
  ·
   replace hK := hK.more (t := 28) (v' := .bool true) rfl (by rw [hb1])
   replace h := ite_t (hb1) h
   refine w_seq (w_region ?_)
   refine qp 2 (.int .i64 2) hK fun fr hK => ?_
   refine qp 3 (.int .i64 (-1)) hK fun fr hK => ?_
   refine wpListIn_nil (then_n ?_)
   refine wpIn_ret ?_
   refine then_r ?_
   replace h := Option.some.inj h; subst h
   refine ret_of [.tmp 2, .tmp 3] [.int .i64 2, .int .i64 (-1)] rfl hK (.tmp rfl (.tmp rfl .nil)) hS.dropAll ?_
   exact ⟨rfl, rfl⟩
  ·
   replace hK := hK.more (t := 28) (v' := .bool false) rfl (by rw [hb1])
   replace h := ite_f (ne_true_of_eq_false hb1) h
   refine wpIn_skip ?_
   refine then_n ?_
   refine w_seq ?_
   refine w_seq (w_region ?_)
   refine qp 4 (.int .i64 0) hK fun fr hK => ?_
   refine wpListIn_nil (then_n ?_)
   obtain ⟨v2, hv2, hk1⟩ := bind_some h; clear h
   refine w_join (fun fr ww => ∃ u1, v2 = .inl u1 ∧ ∃ m3 : Mem, m3.w = ww ∧ Kn 80 fr [(1, .pointer (some ⟨b1, 0, none⟩))] ∧ Le m2 m3 ∧ St (blocksOf []) m m3 [.box b1 (G_Delta_cells a0 a0_commands_a a0_commands_c) 27]) ?_ ?_
   ·
    clear hK hS fr
    rintro fr _ ⟨u1, rfl, m3, rfl, hK, l3, hS⟩
    have h := join_in hk1
    refine then_n ?_
    refine w_seq ?_
    refine w_seq (w_region ?_)
    refine qp 6 (.int .i64 0) hK fun fr hK => ?_
    refine wpListIn_nil (then_n ?_)
    obtain ⟨v3, hv3, hk2⟩ := bind_some h; clear h
    refine w_join (fun fr ww => ∃ u2, v3 = .inl u2 ∧ ∃ m4 : Mem, m4.w = ww ∧ Kn 80 fr [(1, .pointer (some ⟨b1, 0, none⟩))] ∧ Le m3 m4 ∧ St (blocksOf []) m m4 [.box b1 (G_Delta_cells a0 a0_commands_a a0_commands_c) 27]) ?_ ?_
    ·
     clear hK hS fr
     rintro fr _ ⟨u2, rfl, m4, rfl, hK, l4, hS⟩
     have h := join_in hk2
     refine then_n ?_
     refine w_seq (w_region ?_)
     refine qo 75 hK (s_loadAll hK.at_ hS 0 rfl rfl rfl (by kernel_rfl) ?_)
     clear hK fr; intro fr hK
     replace a0_commands_f := Els.mono rep_G_Command a0_commands_f (l1.trans (l2.trans (l3.trans l4)))
     obtain ⟨y1, hy1, h⟩ := bind_some h
     refine qo 76 hK (s_call hK.at_ hS ent64_3 rfl rfl rfl rfl (G.graftref05_gap_spec a0_commands_f hy1) (by kernel_rfl) ?_)
     clear hK fr hS; rintro _ m5 _ l5 hS ⟨rfl, rfl⟩ fr hK
     replace hS : St _ m m5 [.box b1 (G_Delta_cells a0 a0_commands_a a0_commands_c) 27] := hS
     refine qp 8 (.int .i64 y1) hK fun fr hK => ?_
     refine wpListIn_nil (then_n ?_)
     refine w_seq ?_
     refine w_seq (w_region ?_)
     refine qp 77 (.int .i64 y1) hK fun fr hK => ?_
     refine qp 78 (.bool (decide (y1 ≥ 0))) hK fun fr hK => ?_
     refine wpListIn_nil (then_n ?_)
     refine w_cond hK rfl (fun hb2 => ?_) (fun hb2 => ?_)
     ·
      replace hK := hK.more (t := 78) (v' := .bool true) rfl (by rw [hb2])
      replace h := ite_t (of_decide_eq_true hb2) h
      refine w_seq (w_region ?_)
      refine qp 79 (.int .i64 y1) hK fun fr hK => ?_
      refine qp 2 (.int .i64 3) hK fun fr hK => ?_
      refine qp 3 (.int .i64 y1) hK fun fr hK => ?_
      refine wpListIn_nil (then_n ?_)
      refine wpIn_ret ?_
      refine then_r ?_
      replace h := Option.some.inj h; subst h
      refine ret_of [.tmp 2, .tmp 3] [.int .i64 3, .int .i64 y1] rfl hK (.tmp rfl (.tmp rfl .nil)) hS.dropAll ?_
      exact ⟨rfl, rfl⟩
     ·
      replace hK := hK.more (t := 78) (v' := .bool false) rfl (by rw [hb2])
      replace h := ite_f (of_decide_eq_false hb2) h
      refine wpIn_skip ?_
      refine then_n ?_
      refine w_seq (w_region ?_)
      refine qp 2 (.int .i64 0) hK fun fr hK => ?_
      refine qp 3 (.int .i64 0) hK fun fr hK => ?_
      refine wpListIn_nil (then_n ?_)
      refine wpIn_ret ?_
      replace h := Option.some.inj h; subst h
      refine ret_of [.tmp 2, .tmp 3] [.int .i64 0, .int .i64 0] rfl hK (.tmp rfl (.tmp rfl .nil)) hS.dropAll ?_
      exact ⟨rfl, rfl⟩
    ·
     have h := hv3; clear hv3
     refine wpIn_block ?_
     replace hS : St _ m m3 [.box b1 (G_Delta_cells a0 a0_commands_a a0_commands_c) 27] := hS
     refine w_loopL h (fun (s1 : Int) fr ww => ∃ m6 : Mem, m6.w = ww ∧ Kn 80 fr [(1, .pointer (some ⟨b1, 0, none⟩)), (6, .int .i64 s1)] ∧ Le m3 m6 ∧ St (blocksOf []) m m6 [.box b1 (G_Delta_cells a0 a0_commands_a a0_commands_c) 27]) ?_ ?_
     · exact ⟨m3, rfl, hK.only [1, 6], Le.refl _, hS⟩
     clear hK hS fr h
     rintro k1 s1 x1 fr _ ⟨m6, rfl, hK, l6, hS⟩ h hn1
     unfold G.graftref05_Check_l1 at h
     refine w_seq ?_
     refine w_seq (w_region ?_)
     refine qp 47 (.int .i64 s1) hK fun fr hK => ?_
     refine qp 48 (.pointer (some ⟨b1, 66, none⟩)) hK fun fr hK => ?_
     refine qo 49 hK (s_load hK.at_ hS 0 rfl rfl rfl rfl (by kernel_rfl) ?_)
     clear hK fr; intro fr hK
     refine qp 50 (.int .i64 (a0.commands.length : Int)) hK fun fr hK => ?_
     refine qp 51 (.bool (decide (s1 < (a0.commands.length : Int)))) hK fun fr hK => ?_
     refine wpListIn_nil (then_n ?_)
     refine w_cond hK rfl (fun hb3 => ?_) (fun hb3 => ?_)
     ·
      replace hK := hK.more (t := 51) (v' := .bool true) rfl (by rw [hb3])
      replace h := ite_t (of_decide_eq_true hb3) h
      refine wpIn_skip ?_
      refine then_n ?_
      refine w_seq ?_
      refine wpIn_block ?_
      refine w_seq (w_region ?_)
      refine qp 7 (.int .i64 0) hK fun fr hK => ?_
      refine wpListIn_nil (then_n ?_)
      refine wpIn_block ?_
      replace hS : St _ m m6 [.box b1 (G_Delta_cells a0 a0_commands_a a0_commands_c) 27] := hS
      refine w_loopL h (fun (s2 : Int) fr ww => ∃ m7 : Mem, m7.w = ww ∧ Kn 80 fr [(1, .pointer (some ⟨b1, 0, none⟩)), (6, .int .i64 s1), (7, .int .i64 s2)] ∧ Le m6 m7 ∧ St (blocksOf []) m m7 [.box b1 (G_Delta_cells a0 a0_commands_a a0_commands_c) 27]) ?_ ?_
      · exact ⟨m6, rfl, hK.only [1, 6, 7], Le.refl _, hS⟩
      clear hK hS fr h
      rintro k2 s2 x2 fr _ ⟨m7, rfl, hK, l7, hS⟩ h hn2
      unfold G.graftref05_Check_l2 at h
      refine w_seq ?_
      refine w_seq (w_region ?_)
      refine qp 54 (.int .i64 s2) hK fun fr hK => ?_
      refine qp 55 (.int .i64 s1) hK fun fr hK => ?_
      refine qp 56 (.bool (decide (s2 < s1))) hK fun fr hK => ?_
      refine wpListIn_nil (then_n ?_)
      refine w_cond hK rfl (fun hb4 => ?_) (fun hb4 => ?_)
      ·
       replace hK := hK.more (t := 56) (v' := .bool true) rfl (by rw [hb4])
       replace h := ite_t (of_decide_eq_true hb4) h
       refine wpIn_skip ?_
       refine then_n ?_
       refine w_seq ?_
       refine wpIn_block ?_
       refine w_seq ?_
       replace a0_commands_f := Els.mono rep_G_Command a0_commands_f (l1.trans (l2.trans (l3.trans (l6.trans l7))))
       obtain ⟨x3, hy2, h⟩ := bind_some h
       obtain ⟨y2, hy3, h⟩ := bind_some h
       obtain ⟨x4, hy4, h⟩ := bind_some h
       have hlt0 : ∀ bq ∈ blocksOf [.box b1 (G_Delta_cells a0 a0_commands_a a0_commands_c) 27], bq < m7.w.heap.size := fun bq hbq => hS.ow.lt hbq
       refine D.wp_draw (Gr := D.GO m7 none) (S := D.SO none (blocksOf []) m m7 (fun _ => [.box b1 (G_Delta_cells a0 a0_commands_a a0_commands_c) 27]) (fun _ => True)) (N := 0) 11 [] [([(1, none)], 0, 0, false), ([(59, some 0)], 0, 0, false), ([(6, none)], 0, 0, false), ([(60, some 1), (61, some 0)], 0, 0, false), ([(62, some 0)], 0, 0, false), ([(63, some 0)], 0, 0, false), ([(1, none)], 0, 0, false), ([(65, some 0)], 0, 0, false), ([(7, none)], 0, 0, false), ([(66, some 1), (67, some 0)], 0, 0, false), ([(68, some 0)], 0, 0, false)] hK.size (by kernel_rfl) (by kernel_rfl) (by kernel_rfl) rfl (D.startO hS trivial) ?_
       refine D.on_pure (D.GO_refl _ _) [(1, .pointer (some ⟨b1, 0, none⟩))] (.pointer (some ⟨b1, 66, none⟩)) (fun ac ww hk => (.cons (hk.1.trans (hK.at_ 1 _ rfl)) (.nil _))) ?_
       refine D.on_det (D.GO_refl _ _) [(59, .pointer (some ⟨b1, 66, none⟩))] (.slice a0_commands_a a0.commands.length a0_commands_c) (fun ac ww hk => (.cons (hk.1) (.nil _))) (fun ac ww kk hb hKe Post hp => (fun hS => s_load hKe hS 0 rfl rfl rfl rfl (by kernel_rfl) hp) hb.2.1) ?_
       refine D.on_pure (D.GO_refl _ _) [(6, .int .i64 s1)] (.int .i64 s1) (fun ac ww hk => (.cons (hk.1.trans (hK.at_ 6 _ rfl)) (.nil _))) ?_
       refine D.on_op (fun uu ww => ∃ (b2 : Nat) (p1 : Nat) (e1_data_a : Option Addr) (e1_data_c : Nat), uu = .pointer (some ⟨b2, p1, none⟩) ∧ At (m7.upO none ww) b2 p1 [.int .i64 x3.kind, .int .i64 x3.to, .int .i64 x3.from_, .int .i64 x3.len, .slice e1_data_a x3.data.length e1_data_c] ∧ Els isU8 (m7.upO none ww) 1 e1_data_a e1_data_c x3.data) (fun _ _ _ ⟨b2, p1, e1_data_a, e1_data_c, e, hA1, e1_data_f⟩ g => ⟨b2, p1, e1_data_a, e1_data_c, e, hA1.mono g.1, Els.mono rep_U8 e1_data_f g.1⟩) (by
        intro ac ww kk hlo hhi hb hk
        obtain rfl : kk = 0 := by omega
        have h0 := hS; replace hS := hb.2.1
        have k60 : ac.eval (.tmp 60) = .slice a0_commands_a a0.commands.length a0_commands_c := hk.1
        have k61 : ac.eval (.tmp 61) = .int .i64 s1 := hk.2.1
        have hKe : Ke ac [(60, .slice a0_commands_a a0.commands.length a0_commands_c), (61, .int .i64 s1)] := (.cons k60 (.cons k61 (.nil _)))
        replace a0_commands_f := Els.mono rep_G_Command a0_commands_f hb.1
        exact ⟨D.wanted0 rfl, (s_idx elT25_3 a0_commands_f hy2 hKe rfl rfl rfl (by
    intro b2 p1 cs1 hR1 hA1
    obtain ⟨e1_data_a, e1_data_c, rfl, e1_data_f⟩ := hR1
    exact ⟨⟨b2, p1, e1_data_a, e1_data_c, rfl, hA1, e1_data_f⟩, D.GO_refl _ _ _, hb⟩))⟩) ?_
       refine D.on_op (fun uu ww => ∃ (b2 : Nat) (p1 : Nat) (e1_data_a : Option Addr) (e1_data_c : Nat), uu = .agg #[.int .i64 x3.kind, .int .i64 x3.to, .int .i64 x3.from_, .int .i64 x3.len, .slice e1_data_a x3.data.length e1_data_c] ∧ At (m7.upO none ww) b2 p1 [.int .i64 x3.kind, .int .i64 x3.to, .int .i64 x3.from_, .int .i64 x3.len, .slice e1_data_a x3.data.length e1_data_c] ∧ Els isU8 (m7.upO none ww) 1 e1_data_a e1_data_c x3.data) (fun _ _ _ ⟨b2, p1, e1_data_a, e1_data_c, e, hA1, e1_data_f⟩ g => ⟨b2, p1, e1_data_a, e1_data_c, e, hA1.mono g.1, Els.mono rep_U8 e1_data_f g.1⟩) (by
        intro ac ww kk hlo hhi hb hk
        obtain rfl : kk = 0 := by omega
        have h0 := hS; replace hS := hb.2.1
        obtain ⟨b2, p1, e1_data_a, e1_data_c, k62, hA1, e1_data_f⟩ : ∃ (b2 : Nat) (p1 : Nat) (e1_data_a : Option Addr) (e1_data_c : Nat), ac.eval (.tmp 62) = .pointer (some ⟨b2, p1, none⟩) ∧ At (m7.upO none ww) b2 p1 [.int .i64 x3.kind, .int .i64 x3.to, .int .i64 x3.from_, .int .i64 x3.len, .slice e1_data_a x3.data.length e1_data_c] ∧ Els isU8 (m7.upO none ww) 1 e1_data_a e1_data_c x3.data := hk.1
        have hKe : Ke ac [(62, .pointer (some ⟨b2, p1, none⟩))] := (.cons k62 (.nil _))
        exact ⟨D.wanted0 rfl, D.valO (m := m7) hb (fun Post hp => s_loadAtN [.int .i64 x3.kind, .int .i64 x3.to, .int .i64 x3.from_, .int .i64 x3.len, .slice e1_data_a x3.data.length e1_data_c] hKe hA1 0 rfl rfl rfl (by kernel_rfl) (by kernel_rfl) hp) ⟨b2, p1, e1_data_a, e1_data_c, rfl, hA1, e1_data_f⟩⟩) ?_
       refine D.on_op (fun uu _ => uu = .agg #[.int .i64 y2.off, .int .i64 y2.len]) (fun _ _ _ h _ => h) (by
        intro ac ww kk hlo hhi hb hk
        obtain rfl : kk = 0 := by omega
        have h0 := hS; replace hS := hb.2.1
        obtain ⟨b2, p1, e1_data_a, e1_data_c, k63, hA1, e1_data_f⟩ : ∃ (b2 : Nat) (p1 : Nat) (e1_data_a : Option Addr) (e1_data_c : Nat), ac.eval (.tmp 63) = .agg #[.int .i64 x3.kind, .int .i64 x3.to, .int .i64 x3.from_, .int .i64 x3.len, .slice e1_data_a x3.data.length e1_data_c] ∧ At (m7.upO none ww) b2 p1 [.int .i64 x3.kind, .int .i64 x3.to, .int .i64 x3.from_, .int .i64 x3.len, .slice e1_data_a x3.data.length e1_data_c] ∧ Els isU8 (m7.upO none ww) 1 e1_data_a e1_data_c x3.data := hk.1
        have hKe : Ke ac [(63, .agg #[.int .i64 x3.kind, .int .i64 x3.to, .int .i64 x3.from_, .int .i64 x3.len, .slice e1_data_a x3.data.length e1_data_c])] := (.cons k63 (.nil _))
        exact ⟨D.wanted0 rfl, D.callO h0 (fun bq hbq => hlt0 bq (by revert hbq; simp [blocksOf, Ent.box, rowOf, Ent.row]; try omega)) hb hKe ent63_3 rfl rfl rfl rfl (G.graftref04_Target_spec e1_data_f hy3) (by kernel_rfl) (by rintro _ m' _ hg hn hl ⟨rfl, rfl⟩; exact rfl)⟩) ?_
       refine D.on_pure (D.GO_refl _ _) [(1, .pointer (some ⟨b1, 0, none⟩))] (.pointer (some ⟨b1, 66, none⟩)) (fun ac ww hk => (.cons (hk.1.trans (hK.at_ 1 _ rfl)) (.nil _))) ?_
       refine D.on_det (D.GO_refl _ _) [(65, .pointer (some ⟨b1, 66, none⟩))] (.slice a0_commands_a a0.commands.length a0_commands_c) (fun ac ww hk => (.cons (hk.1) (.nil _))) (fun ac ww kk hb hKe Post hp => (fun hS => s_load hKe hS 0 rfl rfl rfl rfl (by kernel_rfl) hp) hb.2.1) ?_
       refine D.on_pure (D.GO_refl _ _) [(7, .int .i64 s2)] (.int .i64 s2) (fun ac ww hk => (.cons (hk.1.trans (hK.at_ 7 _ rfl)) (.nil _))) ?_
       refine D.on_op (fun uu ww => ∃ (b3 : Nat) (p2 : Nat) (e2_data_a : Option Addr) (e2_data_c : Nat), uu = .pointer (some ⟨b3, p2, none⟩) ∧ At (m7.upO none ww) b3 p2 [.int .i64 x4.kind, .int .i64 x4.to, .int .i64 x4.from_, .int .i64 x4.len, .slice e2_data_a x4.data.length e2_data_c] ∧ Els isU8 (m7.upO none ww) 1 e2_data_a e2_data_c x4.data) (fun _ _ _ ⟨b3, p2, e2_data_a, e2_data_c, e, hA2, e2_data_f⟩ g => ⟨b3, p2, e2_data_a, e2_data_c, e, hA2.mono g.1, Els.mono rep_U8 e2_data_f g.1⟩) (by
        intro ac ww kk hlo hhi hb hk
        obtain rfl : kk = 0 := by omega
        have h0 := hS; replace hS := hb.2.1
        have k66 : ac.eval (.tmp 66) = .slice a0_commands_a a0.commands.length a0_commands_c := hk.1
        have k67 : ac.eval (.tmp 67) = .int .i64 s2 := hk.2.1
        have hKe : Ke ac [(66, .slice a0_commands_a a0.commands.length a0_commands_c), (67, .int .i64 s2)] := (.cons k66 (.cons k67 (.nil _)))
        replace a0_commands_f := Els.mono rep_G_Command a0_commands_f hb.1
        exact ⟨D.wanted0 rfl, (s_idx elT25_3 a0_commands_f hy4 hKe rfl rfl rfl (by
    intro b3 p2 cs2 hR2 hA2
    obtain ⟨e2_data_a, e2_data_c, rfl, e2_data_f⟩ := hR2
    exact ⟨⟨b3, p2, e2_data_a, e2_data_c, rfl, hA2, e2_data_f⟩, D.GO_refl _ _ _, hb⟩))⟩) ?_
       refine D.on_op (fun uu ww => ∃ (b3 : Nat) (p2 : Nat) (e2_data_a : Option Addr) (e2_data_c : Nat), uu = .agg #[.int .i64 x4.kind, .int .i64 x4.to, .int .i64 x4.from_, .int .i64 x4.len, .slice e2_data_a x4.data.length e2_data_c] ∧ At (m7.upO none ww) b3 p2 [.int .i64 x4.kind, .int .i64 x4.to, .int .i64 x4.from_, .int .i64 x4.len, .slice e2_data_a x4.data.length e2_data_c] ∧ Els isU8 (m7.upO none ww) 1 e2_data_a e2_data_c x4.data) (fun _ _ _ ⟨b3, p2, e2_data_a, e2_data_c, e, hA2, e2_data_f⟩ g => ⟨b3, p2, e2_data_a, e2_data_c, e, hA2.mono g.1, Els.mono rep_U8 e2_data_f g.1⟩) (by
        intro ac ww kk hlo hhi hb hk
        obtain rfl : kk = 0 := by omega
        have h0 := hS; replace hS := hb.2.1
        obtain ⟨b3, p2, e2_data_a, e2_data_c, k68, hA2, e2_data_f⟩ : ∃ (b3 : Nat) (p2 : Nat) (e2_data_a : Option Addr) (e2_data_c : Nat), ac.eval (.tmp 68) = .pointer (some ⟨b3, p2, none⟩) ∧ At (m7.upO none ww) b3 p2 [.int .i64 x4.kind, .int .i64 x4.to, .int .i64 x4.from_, .int .i64 x4.len, .slice e2_data_a x4.data.length e2_data_c] ∧ Els isU8 (m7.upO none ww) 1 e2_data_a e2_data_c x4.data := hk.1
        have hKe : Ke ac [(68, .pointer (some ⟨b3, p2, none⟩))] := (.cons k68 (.nil _))
        exact ⟨D.wanted0 rfl, D.valO (m := m7) hb (fun Post hp => s_loadAtN [.int .i64 x4.kind, .int .i64 x4.to, .int .i64 x4.from_, .int .i64 x4.len, .slice e2_data_a x4.data.length e2_data_c] hKe hA2 0 rfl rfl rfl (by kernel_rfl) (by kernel_rfl) hp) ⟨b3, p2, e2_data_a, e2_data_c, rfl, hA2, e2_data_f⟩⟩) ?_
       refine D.finO ?_
       intro fr2 m8 hm1 l8 hS2 hF2 hE
       replace hS2 : St _ m m8 [.box b1 (G_Delta_cells a0 a0_commands_a a0_commands_c) 27] := hS2
       obtain ⟨b3, p2, e2_data_a, e2_data_c, k69, hA2, e2_data_f⟩ : ∃ (b3 : Nat) (p2 : Nat) (e2_data_a : Option Addr) (e2_data_c : Nat), fr2.eval (.tmp 69) = .agg #[.int .i64 x4.kind, .int .i64 x4.to, .int .i64 x4.from_, .int .i64 x4.len, .slice e2_data_a x4.data.length e2_data_c] ∧ At (m7.upO none m8.w) b3 p2 [.int .i64 x4.kind, .int .i64 x4.to, .int .i64 x4.from_, .int .i64 x4.len, .slice e2_data_a x4.data.length e2_data_c] ∧ Els isU8 (m7.upO none m8.w) 1 e2_data_a e2_data_c x4.data := hE.slots 69
       rw [hm1] at hA2
       rw [hm1] at e2_data_f
       have hK2 := D.kn_ends [(59, .pointer (some ⟨b1, 66, none⟩)), (60, .slice a0_commands_a a0.commands.length a0_commands_c), (61, .int .i64 s1), (62, fr2.eval (.tmp 62)), (63, fr2.eval (.tmp 63)), (64, .agg #[.int .i64 y2.off, .int .i64 y2.len]), (65, .pointer (some ⟨b1, 66, none⟩)), (66, .slice a0_commands_a a0.commands.length a0_commands_c), (67, .int .i64 s2), (68, fr2.eval (.tmp 68)), (69, .agg #[.int .i64 x4.kind, .int .i64 x4.to, .int .i64 x4.from_, .int .i64 x4.len, .slice e2_data_a x4.data.length e2_data_c])] hK hE rfl (by kernel_rfl) (.cons (hE.slots 59) (.cons (hE.slots 60) (.cons (hE.slots 61) (.cons (rfl) (.cons (rfl) (.cons (hE.slots 64) (.cons (hE.slots 65) (.cons (hE.slots 66) (.cons (hE.slots 67) (.cons (rfl) (.cons (k69) (.nil _))))))))))))
       replace hK2 : Kn 80 fr2 [(59, .pointer (some ⟨b1, 66, none⟩)), (60, .slice a0_commands_a a0.commands.length a0_commands_c), (61, .int .i64 s1), (64, .agg #[.int .i64 y2.off, .int .i64 y2.len]), (65, .pointer (some ⟨b1, 66, none⟩)), (66, .slice a0_commands_a a0.commands.length a0_commands_c), (67, .int .i64 s2), (69, .agg #[.int .i64 x4.kind, .int .i64 x4.to, .int .i64 x4.from_, .int .i64 x4.len, .slice e2_data_a x4.data.length e2_data_c]), (56, .bool true), (55, .int .i64 s1), (54, .int .i64 s2), (1, .pointer (some ⟨b1, 0, none⟩)), (6, .int .i64 s1), (7, .int .i64 s2)] := hK2.only [59, 60, 61, 64, 65, 66, 67, 69, 56, 55, 54, 1, 6, 7]
       clear hE hK k69; revert hK2; clear hm1 hS hlt0; revert fr2; clear fr; intro fr hK; have hS := hS2; clear hS2
       replace hS : St _ m m8 [.box b1 (G_Delta_cells a0 a0_commands_a a0_commands_c) 27] := hS
       obtain ⟨y3, hy5, h⟩ := bind_some h
       refine qo 70 hK (s_call hK.at_ hS ent63_3 rfl rfl rfl rfl (G.graftref04_Target_spec e2_data_f hy5) (by kernel_rfl) ?_)
       clear hK fr hS; rintro _ m9 _ l9 hS ⟨rfl, rfl⟩ fr hK
       replace hS : St _ m m9 [.box b1 (G_Delta_cells a0 a0_commands_a a0_commands_c) 27] := hS
       obtain ⟨y4, hy6, h⟩ := bind_some h
       refine qo 71 hK (s_call hK.at_ hS ent62_3 rfl rfl rfl rfl (G.graftref01_Overlap_spec hy6) (by kernel_rfl) ?_)
       clear hK fr hS; rintro _ m10 _ l10 hS ⟨rfl, rfl⟩ fr hK
       replace hS : St _ m m10 [.box b1 (G_Delta_cells a0 a0_commands_a a0_commands_c) 27] := hS
       refine qp 72 (.int .i64 y4.len) hK fun fr hK => ?_
       refine qp 73 (.bool (decide (y4.len > 0))) hK fun fr hK => ?_
       refine wpListIn_nil (then_n ?_)
       refine w_cond hK rfl (fun hb5 => ?_) (fun hb5 => ?_)
       ·
        replace hK := hK.more (t := 73) (v' := .bool true) rfl (by rw [hb5])
        replace h := ite_t (of_decide_eq_true hb5) h
        refine w_seq (w_region ?_)
        refine qp 74 (.int .i64 s1) hK fun fr hK => ?_
        refine qp 2 (.int .i64 4) hK fun fr hK => ?_
        refine qp 3 (.int .i64 s1) hK fun fr hK => ?_
        refine wpListIn_nil (then_n ?_)
        refine wpIn_ret ?_
        refine blk_r ?_
        refine then_r ?_
        refine then_r ?_
        refine blk_r ?_
        refine blk_r ?_
        refine then_r ?_
        refine then_r ?_
        refine blk_r ?_
        refine then_r ?_
        refine then_r ?_
        replace h := Option.some.inj h; subst h
        replace h := Option.some.inj (loop_out hn2); subst h
        replace h := Option.some.inj (loop_out hn1); subst h
        replace h := Option.some.inj (join_out hk2); subst h
        refine ret_of [.tmp 2, .tmp 3] [.int .i64 4, .int .i64 s1] rfl hK (.tmp rfl (.tmp rfl .nil)) hS.dropAll ?_
        exact ⟨rfl, rfl⟩
       ·
        replace hK := hK.more (t := 73) (v' := .bool false) rfl (by rw [hb5])
        replace h := ite_f (of_decide_eq_false hb5) h
        refine wpIn_skip ?_
        refine blk_n ?_
        refine then_n ?_
        refine w_region ?_
        refine qp 57 (.int .i64 s2) hK fun fr hK => ?_
        refine qp 58 (.int .i64 (IntKind.i64.wrap (s2 + 1))) hK fun fr hK => ?_
        refine qp 7 (.int .i64 (IntKind.i64.wrap (s2 + 1))) hK fun fr hK => ?_
        refine wpListIn_nil (then_n ?_)
        replace hS : St _ m m10 [.box b1 (G_Delta_cells a0 a0_commands_a a0_commands_c) 27] := hS
        replace h := Option.some.inj h; subst h
        obtain ⟨kq, hk1, hk2⟩ := hn2
        exact ⟨kq, hk1, _, hk2, m10, rfl, hK.only [1, 6, 7], l7.trans (l8.trans (l9.trans l10)), hS⟩
      ·
       replace hK := hK.more (t := 56) (v' := .bool false) rfl (by rw [hb4])
       replace h := ite_f (of_decide_eq_false hb4) h
       refine wpIn_exit ?_
       refine then_x ?_
       refine then_x ?_
       refine blk_e ?_
       refine blk_n ?_
       refine then_n ?_
       refine w_region ?_
       refine qp 52 (.int .i64 s1) hK fun fr hK => ?_
       refine qp 53 (.int .i64 (IntKind.i64.wrap (s1 + 1))) hK fun fr hK => ?_
       refine qp 6 (.int .i64 (IntKind.i64.wrap (s1 + 1))) hK fun fr hK => ?_
       refine wpListIn_nil (then_n ?_)
       replace hS : St _ m m7 [.box b1 (G_Delta_cells a0 a0_commands_a a0_commands_c) 27] := hS
       replace h := Option.some.inj h; subst h
       replace h := Option.some.inj (loop_out hn2); subst h
       obtain ⟨kq, hk1, hk2⟩ := hn1
       exact ⟨kq, hk1, _, hk2, m7, rfl, hK.only [1, 6], l6.trans l7, hS⟩
     ·
      replace hK := hK.more (t := 51) (v' := .bool false) rfl (by rw [hb3])
      replace h := ite_f (of_decide_eq_false hb3) h
      refine wpIn_exit ?_
      refine then_x ?_
      refine then_x ?_
      refine blk_e ?_
      refine then_n ?_
      replace hS : St _ m m6 [.box b1 (G_Delta_cells a0 a0_commands_a a0_commands_c) 27] := hS
      replace h := Option.some.inj h; subst h
      replace h := Option.some.inj (loop_out hn1); subst h
      exact ⟨_, rfl, m6, rfl, hK.only [1], l6, hS⟩
   ·
    have h := hv2; clear hv2
    refine wpIn_block ?_
    replace hS : St _ m m2 [.box b1 (G_Delta_cells a0 a0_commands_a a0_commands_c) 27] := hS
    refine w_loopL h (fun (s3 : Int) fr ww => ∃ m11 : Mem, m11.w = ww ∧ Kn 80 fr [(1, .pointer (some ⟨b1, 0, none⟩)), (4, .int .i64 s3)] ∧ Le m2 m11 ∧ St (blocksOf []) m m11 [.box b1 (G_Delta_cells a0 a0_commands_a a0_commands_c) 27]) ?_ ?_
    · exact ⟨m2, rfl, hK.only [1, 4], Le.refl _, hS⟩
    clear hK hS fr h
    rintro k3 s3 x5 fr _ ⟨m11, rfl, hK, l11, hS⟩ h hn3
    unfold G.graftref05_Check_l3 at h
    refine w_seq ?_
    refine w_seq (w_region ?_)
    refine qp 29 (.int .i64 s3) hK fun fr hK => ?_
    refine qp 30 (.pointer (some ⟨b1, 66, none⟩)) hK fun fr hK => ?_
    refine qo 31 hK (s_load hK.at_ hS 0 rfl rfl rfl rfl (by kernel_rfl) ?_)
    clear hK fr; intro fr hK
    refine qp 32 (.int .i64 (a0.commands.length : Int)) hK fun fr hK => ?_
    refine qp 33 (.bool (decide (s3 < (a0.commands.length : Int)))) hK fun fr hK => ?_
    refine wpListIn_nil (then_n ?_)
    refine w_cond hK rfl (fun hb6 => ?_) (fun hb6 => ?_)
    ·
     replace hK := hK.more (t := 33) (v' := .bool true) rfl (by rw [hb6])
     replace h := ite_t (of_decide_eq_true hb6) h
     refine wpIn_skip ?_
     refine then_n ?_
     refine w_seq ?_
     refine wpIn_block ?_
     refine w_seq ?_
     replace a0_commands_f := Els.mono rep_G_Command a0_commands_f (l1.trans (l2.trans l11))
     obtain ⟨x6, hy7, h⟩ := bind_some h
     have hlt0 : ∀ bq ∈ blocksOf [.box b1 (G_Delta_cells a0 a0_commands_a a0_commands_c) 27], bq < m11.w.heap.size := fun bq hbq => hS.ow.lt hbq
     refine D.wp_draw (Gr := D.GO m11 none) (S := D.SO none (blocksOf []) m m11 (fun _ => [.box b1 (G_Delta_cells a0 a0_commands_a a0_commands_c) 27]) (fun _ => True)) (N := 0) 6 [] [([(1, none)], 0, 0, false), ([(1, none)], 0, 0, false), ([(37, some 0)], 0, 0, false), ([(4, none)], 0, 0, false), ([(38, some 1), (39, some 0)], 0, 0, false), ([(40, some 0)], 0, 0, false)] hK.size (by kernel_rfl) (by kernel_rfl) (by kernel_rfl) rfl (D.startO hS trivial) ?_
     refine D.on_det (D.GO_refl _ _) [(1, .pointer (some ⟨b1, 0, none⟩))] (.agg (G_Delta_cells a0 a0_commands_a a0_commands_c)) (fun ac ww hk => (.cons (hk.1.trans (hK.at_ 1 _ rfl)) (.nil _))) (fun ac ww kk hb hKe Post hp => (fun hS => s_loadAll hKe hS 0 rfl rfl rfl (by kernel_rfl) hp) hb.2.1) ?_
     refine D.on_pure (D.GO_refl _ _) [(1, .pointer (some ⟨b1, 0, none⟩))] (.pointer (some ⟨b1, 66, none⟩)) (fun ac ww hk => (.cons (hk.1.trans (hK.at_ 1 _ rfl)) (.nil _))) ?_
     refine D.on_det (D.GO_refl _ _) [(37, .pointer (some ⟨b1, 66, none⟩))] (.slice a0_commands_a a0.commands.length a0_commands_c) (fun ac ww hk => (.cons (hk.1) (.nil _))) (fun ac ww kk hb hKe Post hp => (fun hS => s_load hKe hS 0 rfl rfl rfl rfl (by kernel_rfl) hp) hb.2.1) ?_
     refine D.on_pure (D.GO_refl _ _) [(4, .int .i64 s3)] (.int .i64 s3) (fun ac ww hk => (.cons (hk.1.trans (hK.at_ 4 _ rfl)) (.nil _))) ?_
     refine D.on_op (fun uu ww => ∃ (b4 : Nat) (p3 : Nat) (e3_data_a : Option Addr) (e3_data_c : Nat), uu = .pointer (some ⟨b4, p3, none⟩) ∧ At (m11.upO none ww) b4 p3 [.int .i64 x6.kind, .int .i64 x6.to, .int .i64 x6.from_, .int .i64 x6.len, .slice e3_data_a x6.data.length e3_data_c] ∧ Els isU8 (m11.upO none ww) 1 e3_data_a e3_data_c x6.data) (fun _ _ _ ⟨b4, p3, e3_data_a, e3_data_c, e, hA3, e3_data_f⟩ g => ⟨b4, p3, e3_data_a, e3_data_c, e, hA3.mono g.1, Els.mono rep_U8 e3_data_f g.1⟩) (by
      intro ac ww kk hlo hhi hb hk
      obtain rfl : kk = 0 := by omega
      have h0 := hS; replace hS := hb.2.1
      have k38 : ac.eval (.tmp 38) = .slice a0_commands_a a0.commands.length a0_commands_c := hk.1
      have k39 : ac.eval (.tmp 39) = .int .i64 s3 := hk.2.1
      have hKe : Ke ac [(38, .slice a0_commands_a a0.commands.length a0_commands_c), (39, .int .i64 s3)] := (.cons k38 (.cons k39 (.nil _)))
      replace a0_commands_f := Els.mono rep_G_Command a0_commands_f hb.1
      exact ⟨D.wanted0 rfl, (s_idx elT25_3 a0_commands_f hy7 hKe rfl rfl rfl (by
    intro b4 p3 cs3 hR3 hA3
    obtain ⟨e3_data_a, e3_data_c, rfl, e3_data_f⟩ := hR3
    exact ⟨⟨b4, p3, e3_data_a, e3_data_c, rfl, hA3, e3_data_f⟩, D.GO_refl _ _ _, hb⟩))⟩) ?_
     refine D.on_op (fun uu ww => ∃ (b4 : Nat) (p3 : Nat) (e3_data_a : Option Addr) (e3_data_c : Nat), uu = .agg #[.int .i64 x6.kind, .int .i64 x6.to, .int .i64 x6.from_, .int .i64 x6.len, .slice e3_data_a x6.data.length e3_data_c] ∧ At (m11.upO none ww) b4 p3 [.int .i64 x6.kind, .int .i64 x6.to, .int .i64 x6.from_, .int .i64 x6.len, .slice e3_data_a x6.data.length e3_data_c] ∧ Els isU8 (m11.upO none ww) 1 e3_data_a e3_data_c x6.data) (fun _ _ _ ⟨b4, p3, e3_data_a, e3_data_c, e, hA3, e3_data_f⟩ g => ⟨b4, p3, e3_data_a, e3_data_c, e, hA3.mono g.1, Els.mono rep_U8 e3_data_f g.1⟩) (by
      intro ac ww kk hlo hhi hb hk
      obtain rfl : kk = 0 := by omega
      have h0 := hS; replace hS := hb.2.1
      obtain ⟨b4, p3, e3_data_a, e3_data_c, k40, hA3, e3_data_f⟩ : ∃ (b4 : Nat) (p3 : Nat) (e3_data_a : Option Addr) (e3_data_c : Nat), ac.eval (.tmp 40) = .pointer (some ⟨b4, p3, none⟩) ∧ At (m11.upO none ww) b4 p3 [.int .i64 x6.kind, .int .i64 x6.to, .int .i64 x6.from_, .int .i64 x6.len, .slice e3_data_a x6.data.length e3_data_c] ∧ Els isU8 (m11.upO none ww) 1 e3_data_a e3_data_c x6.data := hk.1
      have hKe : Ke ac [(40, .pointer (some ⟨b4, p3, none⟩))] := (.cons k40 (.nil _))
      exact ⟨D.wanted0 rfl, D.valO (m := m11) hb (fun Post hp => s_loadAtN [.int .i64 x6.kind, .int .i64 x6.to, .int .i64 x6.from_, .int .i64 x6.len, .slice e3_data_a x6.data.length e3_data_c] hKe hA3 0 rfl rfl rfl (by kernel_rfl) (by kernel_rfl) hp) ⟨b4, p3, e3_data_a, e3_data_c, rfl, hA3, e3_data_f⟩⟩) ?_
     refine D.finO ?_
     intro fr2 m12 hm1 l12 hS2 hF2 hE
     replace hS2 : St _ m m12 [.box b1 (G_Delta_cells a0 a0_commands_a a0_commands_c) 27] := hS2
     obtain ⟨b4, p3, e3_data_a, e3_data_c, k41, hA3, e3_data_f⟩ : ∃ (b4 : Nat) (p3 : Nat) (e3_data_a : Option Addr) (e3_data_c : Nat), fr2.eval (.tmp 41) = .agg #[.int .i64 x6.kind, .int .i64 x6.to, .int .i64 x6.from_, .int .i64 x6.len, .slice e3_data_a x6.data.length e3_data_c] ∧ At (m11.upO none m12.w) b4 p3 [.int .i64 x6.kind, .int .i64 x6.to, .int .i64 x6.from_, .int .i64 x6.len, .slice e3_data_a x6.data.length e3_data_c] ∧ Els isU8 (m11.upO none m12.w) 1 e3_data_a e3_data_c x6.data := hE.slots 41
     rw [hm1] at hA3
     rw [hm1] at e3_data_f
     have hK2 := D.kn_ends [(36, .agg (G_Delta_cells a0 a0_commands_a a0_commands_c)), (37, .pointer (some ⟨b1, 66, none⟩)), (38, .slice a0_commands_a a0.commands.length a0_commands_c), (39, .int .i64 s3), (40, fr2.eval (.tmp 40)), (41, .agg #[.int .i64 x6.kind, .int .i64 x6.to, .int .i64 x6.from_, .int .i64 x6.len, .slice e3_data_a x6.data.length e3_data_c])] hK hE rfl (by kernel_rfl) (.cons (hE.slots 36) (.cons (hE.slots 37) (.cons (hE.slots 38) (.cons (hE.slots 39) (.cons (rfl) (.cons (k41) (.nil _)))))))
     replace hK2 : Kn 80 fr2 [(36, .agg (G_Delta_cells a0 a0_commands_a a0_commands_c)), (37, .pointer (some ⟨b1, 66, none⟩)), (38, .slice a0_commands_a a0.commands.length a0_commands_c), (39, .int .i64 s3), (41, .agg #[.int .i64 x6.kind, .int .i64 x6.to, .int .i64 x6.from_, .int .i64 x6.len, .slice e3_data_a x6.data.length e3_data_c]), (33, .bool true), (32, .int .i64 (a0.commands.length : Int)), (31, .slice a0_commands_a a0.commands.length a0_commands_c), (30, .pointer (some ⟨b1, 66, none⟩)), (29, .int .i64 s3), (1, .pointer (some ⟨b1, 0, none⟩)), (4, .int .i64 s3)] := hK2.only [36, 37, 38, 39, 41, 33, 32, 31, 30, 29, 1, 4]
     clear hE hK k41; revert hK2; clear hm1 hS hlt0; revert fr2; clear fr; intro fr hK; have hS := hS2; clear hS2
     replace hS : St _ m m12 [.box b1 (G_Delta_cells a0 a0_commands_a a0_commands_c) 27] := hS
     replace a0_commands_f := Els.mono rep_G_Command a0_commands_f l12
     obtain ⟨y5, hy8, h⟩ := bind_some h
     refine qo 42 hK (s_call hK.at_ hS ent61_3 rfl rfl rfl rfl (G.graftref05_single_spec a0_commands_f e3_data_f hy8) (by kernel_rfl) ?_)
     clear hK fr hS; rintro _ m13 _ l13 hS ⟨rfl, rfl⟩ fr hK
     replace hS : St _ m m13 [.box b1 (G_Delta_cells a0 a0_commands_a a0_commands_c) 27] := hS
     refine qp 5 (.int .i64 y5) hK fun fr hK => ?_
     refine wpListIn_nil (then_n ?_)
     refine w_seq (w_region ?_)
     refine qp 43 (.int .i64 y5) hK fun fr hK => ?_
     refine qp 44 (.bool (y5 != 0)) hK fun fr hK => ?_
     refine wpListIn_nil (then_n ?_)
     refine w_cond hK rfl (fun hb7 => ?_) (fun hb7 => ?_)
     ·
      replace hK := hK.more (t := 44) (v' := .bool true) rfl (by rw [hb7])
      replace h := ite_t (ne_of_bne hb7) h
      refine w_seq (w_region ?_)
      refine qp 45 (.int .i64 y5) hK fun fr hK => ?_
      refine qp 46 (.int .i64 s3) hK fun fr hK => ?_
      refine qp 2 (.int .i64 y5) hK fun fr hK => ?_
      refine qp 3 (.int .i64 s3) hK fun fr hK => ?_
      refine wpListIn_nil (then_n ?_)
      refine wpIn_ret ?_
      refine blk_r ?_
      refine then_r ?_
      refine then_r ?_
      refine blk_r ?_
      refine then_r ?_
      refine then_r ?_
      replace h := Option.some.inj h; subst h
      replace h := Option.some.inj (loop_out hn3); subst h
      replace h := Option.some.inj (join_out hk1); subst h
      refine ret_of [.tmp 2, .tmp 3] [.int .i64 y5, .int .i64 s3] rfl hK (.tmp rfl (.tmp rfl .nil)) hS.dropAll ?_
      exact ⟨rfl, rfl⟩
     ·
      replace hK := hK.more (t := 44) (v' := .bool false) rfl (by rw [hb7])
      replace h := ite_f (not_not_intro (eq_of_bne hb7)) h
      refine wpIn_skip ?_
      refine blk_n ?_
      refine then_n ?_
      refine w_region ?_
      refine qp 34 (.int .i64 s3) hK fun fr hK => ?_
      refine qp 35 (.int .i64 (IntKind.i64.wrap (s3 + 1))) hK fun fr hK => ?_
      refine qp 4 (.int .i64 (IntKind.i64.wrap (s3 + 1))) hK fun fr hK => ?_
      refine wpListIn_nil (then_n ?_)
      replace hS : St _ m m13 [.box b1 (G_Delta_cells a0 a0_commands_a a0_commands_c) 27] := hS
      replace h := Option.some.inj h; subst h
      obtain ⟨kq, hk1, hk2⟩ := hn3
      exact ⟨kq, hk1, _, hk2, m13, rfl, hK.only [1, 4], l11.trans (l12.trans l13), hS⟩
    ·
     replace hK := hK.more (t := 33) (v' := .bool false) rfl (by rw [hb6])
     replace h := ite_f (of_decide_eq_false hb6) h
     refine wpIn_exit ?_
     refine then_x ?_
     refine then_x ?_
     refine blk_e ?_
     refine then_n ?_
     replace hS : St _ m m11 [.box b1 (G_Delta_cells a0 a0_commands_a a0_commands_c) 27] := hS
     replace h := Option.some.inj h; subst h
     replace h := Option.some.inj (loop_out hn3); subst h
     exact ⟨_, rfl, m11, rfl, hK.only [1], l11, hS⟩
 ·
  replace h := hv1; clear hv1
  replace a0_commands_f := Els.mono rep_G_Command a0_commands_f l1
  refine split_b (x := decide (a0.oldLen < 0)) (fun hb8 => ?_) (fun hb8 => ?_)
  ·
   replace h := ite_t (of_decide_eq_true hb8) h
   have hlt0 : ∀ bq ∈ blocksOf [.box b1 (G_Delta_cells a0 a0_commands_a a0_commands_c) 27], bq < m1.w.heap.size := fun bq hbq => hS.ow.lt hbq
   refine D.wp_draw (Gr := D.GO m1 none) (S := D.SO none (blocksOf []) m m1 (fun _ => [.box b1 (G_Delta_cells a0 a0_commands_a a0_commands_c) 27]) (fun _ => True)) (N := 0) 18 [] [([(1, none)], 0, 0, false), ([(9, some 0)], 0, 0, false), ([(10, some 0)], 0, 0, false), ([(11, some 0)], 0, 0, false), ([(1, none), (12, some 0)], 0, 0, false), ([(13, some 0), (12, some 1)], 0, 0, false), ([(14, some 0), (12, some 2)], 0, 0, false), ([(12, some 3), (15, some 0)], 0, 0, false), ([(16, some 0)], 0, 0, false), ([(1, none), (17, some 0)], 0, 0, false), ([(18, some 0), (17, some 1)], 0, 0, false), ([(17, some 2)], 0, 0, false), ([(19, some 1), (20, some 0), (17, some 3)], 0, 0, false), ([(17, some 4), (21, some 0)], 0, 0, false), ([(22, some 0)], 0, 0, false), ([(1, none), (23, some 0)], 0, 0, false), ([(24, some 0), (23, some 1)], 0, 0, false), ([(23, some 2)], 0, 0, false)] hK.size (by kernel_rfl) (by kernel_rfl) (by kernel_rfl) rfl (D.startO hS trivial) ?_
   refine D.on_pure (D.GO_refl _ _) [(1, .pointer (some ⟨b1, 0, none⟩))] (.pointer (some ⟨b1, 0, none⟩)) (fun ac ww hk => (.cons (hk.1.trans (hK.at_ 1 _ rfl)) (.nil _))) ?_
   refine D.on_det (D.GO_refl _ _) [(9, .pointer (some ⟨b1, 0, none⟩))] (.int .i64 a0.oldLen) (fun ac ww hk => (.cons (hk.1) (.nil _))) (fun ac ww kk hb hKe Post hp => (fun hS => s_load hKe hS 0 rfl rfl rfl rfl (by kernel_rfl) hp) hb.2.1) ?_
   refine D.on_det (D.GO_refl _ _) [(10, .int .i64 a0.oldLen)] (.bool true) (fun ac ww hk => (.cons (hk.1) (.nil _))) (fun ac ww kk hb hKe Post hp => s_pureE (.bool true) (.bool (decide (a0.oldLen < 0))) hKe (by kernel_rfl) (by kernel_rfl) (by rw [hb8]) hp) ?_
   refine D.on_pure (D.GO_refl _ _) [(11, .bool true)] (.bool true) (fun ac ww hk => (.cons (hk.1) (.nil _))) ?_
   refine D.on_no [(12, .bool true)] (fun ac ww hk => .cons (hk.2.1) (.nil _)) ?_
   refine D.on_no [(12, .bool true)] (fun ac ww hk => .cons (hk.2.1) (.nil _)) ?_
   refine D.on_no [(12, .bool true)] (fun ac ww hk => .cons (hk.2.1) (.nil _)) ?_
   refine D.on_pure (D.GO_refl _ _) [(12, .bool true), (15, undef)] (.bool true) (fun ac ww hk => (.cons (hk.1) (.cons (hk.2.1) (.nil _)))) ?_
   refine D.on_pure (D.GO_refl _ _) [(16, .bool true)] (.bool true) (fun ac ww hk => (.cons (hk.1) (.nil _))) ?_
   refine D.on_no [(17, .bool true)] (fun ac ww hk => .cons (hk.2.1) (.nil _)) ?_
   refine D.on_no [(17, .bool true)] (fun ac ww hk => .cons (hk.2.1) (.nil _)) ?_
   refine D.on_no [(17, .bool true)] (fun ac ww hk => .cons (hk.1) (.nil _)) ?_
   refine D.on_no [(17, .bool true)] (fun ac ww hk => .cons (hk.2.2.1) (.nil _)) ?_
   refine D.on_pure (D.GO_refl _ _) [(17, .bool true), (21, undef)] (.bool true) (fun ac ww hk => (.cons (hk.1) (.cons (hk.2.1) (.nil _)))) ?_
   refine D.on_pure (D.GO_refl _ _) [(22, .bool true)] (.bool true) (fun ac ww hk => (.cons (hk.1) (.nil _))) ?_
   refine D.on_no [(23, .bool true)] (fun ac ww hk => .cons (hk.2.1) (.nil _)) ?_
   refine D.on_no [(23, .bool true)] (fun ac ww hk => .cons (hk.2.1) (.nil _)) ?_
   refine D.on_no [(23, .bool true)] (fun ac ww hk => .cons (hk.1) (.nil _)) ?_
   refine D.finO ?_
   intro fr2 m14 hm1 l14 hS2 hF2 hE
   replace hS2 : St _ m m14 [.box b1 (G_Delta_cells a0 a0_commands_a a0_commands_c) 27] := hS2
   have hK2 := D.kn_ends [(9, .pointer (some ⟨b1, 0, none⟩)), (10, .int .i64 a0.oldLen), (11, .bool true), (12, .bool true), (13, undef), (14, undef), (15, undef), (16, .bool true), (17, .bool true), (18, undef), (19, undef), (20, undef), (21, undef), (22, .bool true), (23, .bool true), (24, undef), (25, undef), (26, undef)] hK hE rfl (by kernel_rfl) (.cons (hE.slots 9) (.cons (hE.slots 10) (.cons (hE.slots 11) (.cons (hE.slots 12) (.cons (hE.slots 13) (.cons (hE.slots 14) (.cons (hE.slots 15) (.cons (hE.slots 16) (.cons (hE.slots 17) (.cons (hE.slots 18) (.cons (hE.slots 19) (.cons (hE.slots 20) (.cons (hE.slots 21) (.cons (hE.slots 22) (.cons (hE.slots 23) (.cons (hE.slots 24) (.cons (hE.slots 25) (.cons (hE.slots 26) (.nil _)))))))))))))))))))
   replace hK2 : Kn 80 fr2 [(9, .pointer (some ⟨b1, 0, none⟩)), (10, .int .i64 a0.oldLen), (11, .bool true), (12, .bool true), (13, undef), (14, undef), (15, undef), (16, .bool true), (17, .bool true), (18, undef), (19, undef), (20, undef), (21, undef), (22, .bool true), (23, .bool true), (24, undef), (25, undef), (26, undef), (3, .int .i64 0), (2, .int .i64 0), (1, .pointer (some ⟨b1, 0, none⟩)), (0, .agg (G_Delta_cells a0 a0_commands_a a0_commands_c))] := hK2.only [9, 10, 11, 12, 13, 14, 15, 16, 17, 18, 19, 20, 21, 22, 23, 24, 25, 26, 3, 2, 1, 0]
   clear hE hK; revert hK2; clear hm1 hS hlt0; revert fr2; clear fr; intro fr hK; have hS := hS2; clear hS2
   replace hS : St _ m m14 [.box b1 (G_Delta_cells a0 a0_commands_a a0_commands_c) 27] := hS
   refine qs 27 hK ?_
   clear hK fr; intro fr hK
   refine qp 28 (.bool true) hK fun fr hK => ?_
   refine wpListIn_nil (then_n ?_)
   replace hS : St _ m m14 [.box b1 (G_Delta_cells a0 a0_commands_a a0_commands_c) 27] := hS
   replace h := Option.some.inj h; subst h
   exact ⟨m14, rfl, hK.only [1, 28], l14, hS⟩
  ·
   replace h := ite_f (of_decide_eq_false hb8) h
   refine split_b (x := decide (a0.newLen < 0)) (fun hb9 => ?_) (fun hb9 => ?_)
   ·
    replace h := ite_t (of_decide_eq_true hb9) h
    have hlt0 : ∀ bq ∈ blocksOf [.box b1 (G_Delta_cells a0 a0_commands_a a0_commands_c) 27], bq < m1.w.heap.size := fun bq hbq => hS.ow.lt hbq
    refine D.wp_draw (Gr := D.GO m1 none) (S := D.SO none (blocksOf []) m m1 (fun _ => [.box b1 (G_Delta_cells a0 a0_commands_a a0_commands_c) 27]) (fun _ => True)) (N := 0) 18 [] [([(1, none)], 0, 0, false), ([(9, some 0)], 0, 0, false), ([(10, some 0)], 0, 0, false), ([(11, some 0)], 0, 0, false), ([(1, none), (12, some 0)], 0, 0, false), ([(13, some 0), (12, some 1)], 0, 0, false), ([(14, some 0), (12, some 2)], 0, 0, false), ([(12, some 3), (15, some 0)], 0, 0, false), ([(16, some 0)], 0, 0, false), ([(1, none), (17, some 0)], 0, 0, false), ([(18, some 0), (17, some 1)], 0, 0, false), ([(17, some 2)], 0, 0, false), ([(19, some 1), (20, some 0), (17, some 3)], 0, 0, false), ([(17, some 4), (21, some 0)], 0, 0, false), ([(22, some 0)], 0, 0, false), ([(1, none), (23, some 0)], 0, 0, false), ([(24, some 0), (23, some 1)], 0, 0, false), ([(23, some 2)], 0, 0, false)] hK.size (by kernel_rfl) (by kernel_rfl) (by kernel_rfl) rfl (D.startO hS trivial) ?_
    refine D.on_pure (D.GO_refl _ _) [(1, .pointer (some ⟨b1, 0, none⟩))] (.pointer (some ⟨b1, 0, none⟩)) (fun ac ww hk => (.cons (hk.1.trans (hK.at_ 1 _ rfl)) (.nil _))) ?_
    refine D.on_det (D.GO_refl _ _) [(9, .pointer (some ⟨b1, 0, none⟩))] (.int .i64 a0.oldLen) (fun ac ww hk => (.cons (hk.1) (.nil _))) (fun ac ww kk hb hKe Post hp => (fun hS => s_load hKe hS 0 rfl rfl rfl rfl (by kernel_rfl) hp) hb.2.1) ?_
    refine D.on_det (D.GO_refl _ _) [(10, .int .i64 a0.oldLen)] (.bool false) (fun ac ww hk => (.cons (hk.1) (.nil _))) (fun ac ww kk hb hKe Post hp => s_pureE (.bool false) (.bool (decide (a0.oldLen < 0))) hKe (by kernel_rfl) (by kernel_rfl) (by rw [hb8]) hp) ?_
    refine D.on_pure (D.GO_refl _ _) [(11, .bool false)] (.bool false) (fun ac ww hk => (.cons (hk.1) (.nil _))) ?_
    refine D.on_pure (D.GO_refl _ _) [(1, .pointer (some ⟨b1, 0, none⟩)), (12, .bool false)] (.pointer (some ⟨b1, 1, none⟩)) (fun ac ww hk => (.cons (hk.1.trans (hK.at_ 1 _ rfl)) (.cons (hk.2.1) (.nil _)))) ?_
    refine D.on_det (D.GO_refl _ _) [(13, .pointer (some ⟨b1, 1, none⟩)), (12, .bool false)] (.int .i64 a0.newLen) (fun ac ww hk => (.cons (hk.1) (.cons (hk.2.1) (.nil _)))) (fun ac ww kk hb hKe Post hp => (fun hS => s_load hKe hS 0 rfl rfl rfl rfl (by kernel_rfl) hp) hb.2.1) ?_
    refine D.on_det (D.GO_refl _ _) [(14, .int .i64 a0.newLen), (12, .bool false)] (.bool true) (fun ac ww hk => (.cons (hk.1) (.cons (hk.2.1) (.nil _)))) (fun ac ww kk hb hKe Post hp => s_pureE (.bool true) (.bool (decide (a0.newLen < 0))) hKe (by kernel_rfl) (by kernel_rfl) (by rw [hb9]) hp) ?_
    refine D.on_pure (D.GO_refl _ _) [(12, .bool false), (15, .bool true)] (.bool true) (fun ac ww hk => (.cons (hk.1) (.cons (hk.2.1) (.nil _)))) ?_
    refine D.on_pure (D.GO_refl _ _) [(16, .bool true)] (.bool true) (fun ac ww hk => (.cons (hk.1) (.nil _))) ?_
    refine D.on_no [(17, .bool true)] (fun ac ww hk => .cons (hk.2.1) (.nil _)) ?_
    refine D.on_no [(17, .bool true)] (fun ac ww hk => .cons (hk.2.1) (.nil _)) ?_
    refine D.on_no [(17, .bool true)] (fun ac ww hk => .cons (hk.1) (.nil _)) ?_
    refine D.on_no [(17, .bool true)] (fun ac ww hk => .cons (hk.2.2.1) (.nil _)) ?_
    refine D.on_pure (D.GO_refl _ _) [(17, .bool true), (21, undef)] (.bool true) (fun ac ww hk => (.cons (hk.1) (.cons (hk.2.1) (.nil _)))) ?_
    refine D.on_pure (D.GO_refl _ _) [(22, .bool true)] (.bool true) (fun ac ww hk => (.cons (hk.1) (.nil _))) ?_
    refine D.on_no [(23, .bool true)] (fun ac ww hk => .cons (hk.2.1) (.nil _)) ?_
    refine D.on_no [(23, .bool true)] (fun ac ww hk => .cons (hk.2.1) (.nil _)) ?_
    refine D.on_no [(23, .bool true)] (fun ac ww hk => .cons (hk.1) (.nil _)) ?_
    refine D.finO ?_
    intro fr2 m15 hm1 l15 hS2 hF2 hE
    replace hS2 : St _ m m15 [.box b1 (G_Delta_cells a0 a0_commands_a a0_commands_c) 27] := hS2
    have hK2 := D.kn_ends [(9, .pointer (some ⟨b1, 0, none⟩)), (10, .int .i64 a0.oldLen), (11, .bool false), (12, .bool false), (13, .pointer (some ⟨b1, 1, none⟩)), (14, .int .i64 a0.newLen), (15, .bool true), (16, .bool true), (17, .bool true), (18, undef), (19, undef), (20, undef), (21, undef), (22, .bool true), (23, .bool true), (24, undef), (25, undef), (26, undef)] hK hE rfl (by kernel_rfl) (.cons (hE.slots 9) (.cons (hE.slots 10) (.cons (hE.slots 11) (.cons (hE.slots 12) (.cons (hE.slots 13) (.cons (hE.slots 14) (.cons (hE.slots 15) (.cons (hE.slots 16) (.cons (hE.slots 17) (.cons (hE.slots 18) (.cons (hE.slots 19) (.cons (hE.slots 20) (.cons (hE.slots 21) (.cons (hE.slots 22) (.cons (hE.slots 23) (.cons (hE.slots 24) (.cons (hE.slots 25) (.cons (hE.slots 26) (.nil _)))))))))))))))))))
    replace hK2 : Kn 80 fr2 [(9, .pointer (some ⟨b1, 0, none⟩)), (10, .int .i64 a0.oldLen), (11, .bool false), (12, .bool false), (13, .pointer (some ⟨b1, 1, none⟩)), (14, .int .i64 a0.newLen), (15, .bool true), (16, .bool true), (17, .bool true), (18, undef), (19, undef), (20, undef), (21, undef), (22, .bool true), (23, .bool true), (24, undef), (25, undef), (26, undef), (3, .int .i64 0), (2, .int .i64 0), (1, .pointer (some ⟨b1, 0, none⟩)), (0, .agg (G_Delta_cells a0 a0_commands_a a0_commands_c))] := hK2.only [9, 10, 11, 12, 13, 14, 15, 16, 17, 18, 19, 20, 21, 22, 23, 24, 25, 26, 3, 2, 1, 0]
    clear hE hK; revert hK2; clear hm1 hS hlt0; revert fr2; clear fr; intro fr hK; have hS := hS2; clear hS2
    replace hS : St _ m m15 [.box b1 (G_Delta_cells a0 a0_commands_a a0_commands_c) 27] := hS
    refine qs 27 hK ?_
    clear hK fr; intro fr hK
    refine qp 28 (.bool true) hK fun fr hK => ?_
    refine wpListIn_nil (then_n ?_)
    replace hS : St _ m m15 [.box b1 (G_Delta_cells a0 a0_commands_a a0_commands_c) 27] := hS
    replace h := Option.some.inj h; subst h
    exact ⟨m15, rfl, hK.only [1, 28], l15, hS⟩
   ·
    replace h := ite_f (of_decide_eq_false hb9) h
    obtain ⟨y6, hy9, h⟩ := bind_some h
    refine split_b (x := decide (a0.oldLen > y6)) (fun hb10 => ?_) (fun hb10 => ?_)
    ·
     replace h := ite_t (of_decide_eq_true hb10) h
     have hlt0 : ∀ bq ∈ blocksOf [.box b1 (G_Delta_cells a0 a0_commands_a a0_commands_c) 27], bq < m1.w.heap.size := fun bq hbq => hS.ow.lt hbq
     refine D.wp_draw (Gr := D.GO m1 none) (S := D.SO none (blocksOf []) m m1 (fun _ => [.box b1 (G_Delta_cells a0 a0_commands_a a0_commands_c) 27]) (fun _ => True)) (N := 0) 18 [] [([(1, none)], 0, 0, false), ([(9, some 0)], 0, 0, false), ([(10, some 0)], 0, 0, false), ([(11, some 0)], 0, 0, false), ([(1, none), (12, some 0)], 0, 0, false), ([(13, some 0), (12, some 1)], 0, 0, false), ([(14, some 0), (12, some 2)], 0, 0, false), ([(12, some 3), (15, some 0)], 0, 0, false), ([(16, some 0)], 0, 0, false), ([(1, none), (17, some 0)], 0, 0, false), ([(18, some 0), (17, some 1)], 0, 0, false), ([(17, some 2)], 0, 0, false), ([(19, some 1), (20, some 0), (17, some 3)], 0, 0, false), ([(17, some 4), (21, some 0)], 0, 0, false), ([(22, some 0)], 0, 0, false), ([(1, none), (23, some 0)], 0, 0, false), ([(24, some 0), (23, some 1)], 0, 0, false), ([(23, some 2)], 0, 0, false)] hK.size (by kernel_rfl) (by kernel_rfl) (by kernel_rfl) rfl (D.startO hS trivial) ?_
     refine D.on_pure (D.GO_refl _ _) [(1, .pointer (some ⟨b1, 0, none⟩))] (.pointer (some ⟨b1, 0, none⟩)) (fun ac ww hk => (.cons (hk.1.trans (hK.at_ 1 _ rfl)) (.nil _))) ?_
     refine D.on_det (D.GO_refl _ _) [(9, .pointer (some ⟨b1, 0, none⟩))] (.int .i64 a0.oldLen) (fun ac ww hk => (.cons (hk.1) (.nil _))) (fun ac ww kk hb hKe Post hp => (fun hS => s_load hKe hS 0 rfl rfl rfl rfl (by kernel_rfl) hp) hb.2.1) ?_
     refine D.on_det (D.GO_refl _ _) [(10, .int .i64 a0.oldLen)] (.bool false) (fun ac ww hk => (.cons (hk.1) (.nil _))) (fun ac ww kk hb hKe Post hp => s_pureE (.bool false) (.bool (decide (a0.oldLen < 0))) hKe (by kernel_rfl) (by kernel_rfl) (by rw [hb8]) hp) ?_
     refine D.on_pure (D.GO_refl _ _) [(11, .bool false)] (.bool false) (fun ac ww hk => (.cons (hk.1) (.nil _))) ?_
     refine D.on_pure (D.GO_refl _ _) [(1, .pointer (some ⟨b1, 0, none⟩)), (12, .bool false)] (.pointer (some ⟨b1, 1, none⟩)) (fun ac ww hk => (.cons (hk.1.trans (hK.at_ 1 _ rfl)) (.cons (hk.2.1) (.nil _)))) ?_
     refine D.on_det (D.GO_refl _ _) [(13, .pointer (some ⟨b1, 1, none⟩)), (12, .bool false)] (.int .i64 a0.newLen) (fun ac ww hk => (.cons (hk.1) (.cons (hk.2.1) (.nil _)))) (fun ac ww kk hb hKe Post hp => (fun hS => s_load hKe hS 0 rfl rfl rfl rfl (by kernel_rfl) hp) hb.2.1) ?_
     refine D.on_det (D.GO_refl _ _) [(14, .int .i64 a0.newLen), (12, .bool false)] (.bool false) (fun ac ww hk => (.cons (hk.1) (.cons (hk.2.1) (.nil _)))) (fun ac ww kk hb hKe Post hp => s_pureE (.bool false) (.bool (decide (a0.newLen < 0))) hKe (by kernel_rfl) (by kernel_rfl) (by rw [hb9]) hp) ?_
     refine D.on_pure (D.GO_refl _ _) [(12, .bool false), (15, .bool false)] (.bool false) (fun ac ww hk => (.cons (hk.1) (.cons (hk.2.1) (.nil _)))) ?_
     refine D.on_pure (D.GO_refl _ _) [(16, .bool false)] (.bool false) (fun ac ww hk => (.cons (hk.1) (.nil _))) ?_
     refine D.on_pure (D.GO_refl _ _) [(1, .pointer (some ⟨b1, 0, none⟩)), (17, .bool false)] (.pointer (some ⟨b1, 0, none⟩)) (fun ac ww hk => (.cons (hk.1.trans (hK.at_ 1 _ rfl)) (.cons (hk.2.1) (.nil _)))) ?_
     refine D.on_det (D.GO_refl _ _) [(18, .pointer (some ⟨b1, 0, none⟩)), (17, .bool false)] (.int .i64 a0.oldLen) (fun ac ww hk => (.cons (hk.1) (.cons (hk.2.1) (.nil _)))) (fun ac ww kk hb hKe Post hp => (fun hS => s_load hKe hS 0 rfl rfl rfl rfl (by kernel_rfl) hp) hb.2.1) ?_
     refine D.on_op (fun uu _ => uu = .int .i64 y6) (fun _ _ _ h _ => h) (by
      intro ac ww kk hlo hhi hb hk
      obtain rfl : kk = 0 := by omega
      have h0 := hS; replace hS := hb.2.1
      have k17 : ac.eval (.tmp 17) = .bool false := hk.1
      have hKe : Ke ac [(17, .bool false)] := (.cons k17 (.nil _))
      exact ⟨D.wantedE hKe (by kernel_rfl), D.callO h0 (fun bq hbq => hlt0 bq (by revert hbq; simp [blocksOf, Ent.box, rowOf, Ent.row]; try omega)) hb hKe ent60_3 rfl rfl rfl rfl (G.graftref01_Max_spec hy9) (by kernel_rfl) (by rintro _ m' _ hg hn hl ⟨rfl, rfl⟩; exact rfl)⟩) ?_
     refine D.on_det (D.GO_refl _ _) [(19, .int .i64 a0.oldLen), (20, .int .i64 y6), (17, .bool false)] (.bool true) (fun ac ww hk => (.cons (hk.1) (.cons (hk.2.1) (.cons (hk.2.2.1) (.nil _))))) (fun ac ww kk hb hKe Post hp => s_pureE (.bool true) (.bool (decide (a0.oldLen > y6))) hKe (by kernel_rfl) (by kernel_rfl) (by rw [hb10]) hp) ?_
     refine D.on_pure (D.GO_refl _ _) [(17, .bool false), (21, .bool true)] (.bool true) (fun ac ww hk => (.cons (hk.1) (.cons (hk.2.1) (.nil _)))) ?_
     refine D.on_pure (D.GO_refl _ _) [(22, .bool true)] (.bool true) (fun ac ww hk => (.cons (hk.1) (.nil _))) ?_
     refine D.on_no [(23, .bool true)] (fun ac ww hk => .cons (hk.2.1) (.nil _)) ?_
     refine D.on_no [(23, .bool true)] (fun ac ww hk => .cons (hk.2.1) (.nil _)) ?_
     refine D.on_no [(23, .bool true)] (fun ac ww hk => .cons (hk.1) (.nil _)) ?_
     refine D.finO ?_
     intro fr2 m16 hm1 l16 hS2 hF2 hE
     replace hS2 : St _ m m16 [.box b1 (G_Delta_cells a0 a0_commands_a a0_commands_c) 27] := hS2
     have hK2 := D.kn_ends [(9, .pointer (some ⟨b1, 0, none⟩)), (10, .int .i64 a0.oldLen), (11, .bool false), (12, .bool false), (13, .pointer (some ⟨b1, 1, none⟩)), (14, .int .i64 a0.newLen), (15, .bool false), (16, .bool false), (17, .bool false), (18, .pointer (some ⟨b1, 0, none⟩)), (19, .int .i64 a0.oldLen), (20, .int .i64 y6), (21, .bool true), (22, .bool true), (23, .bool true), (24, undef), (25, undef), (26, undef)] hK hE rfl (by kernel_rfl) (.cons (hE.slots 9) (.cons (hE.slots 10) (.cons (hE.slots 11) (.cons (hE.slots 12) (.cons (hE.slots 13) (.cons (hE.slots 14) (.cons (hE.slots 15) (.cons (hE.slots 16) (.cons (hE.slots 17) (.cons (hE.slots 18) (.cons (hE.slots 19) (.cons (hE.slots 20) (.cons (hE.slots 21) (.cons (hE.slots 22) (.cons (hE.slots 23) (.cons (hE.slots 24) (.cons (hE.slots 25) (.cons (hE.slots 26) (.nil _)))))))))))))))))))
     replace hK2 : Kn 80 fr2 [(9, .pointer (some ⟨b1, 0, none⟩)), (10, .int .i64 a0.oldLen), (11, .bool false), (12, .bool false), (13, .pointer (some ⟨b1, 1, none⟩)), (14, .int .i64 a0.newLen), (15, .bool false), (16, .bool false), (17, .bool false), (18, .pointer (some ⟨b1, 0, none⟩)), (19, .int .i64 a0.oldLen), (20, .int .i64 y6), (21, .bool true), (22, .bool true), (23, .bool true), (24, undef), (25, undef), (26, undef), (3, .int .i64 0), (2, .int .i64 0), (1, .pointer (some ⟨b1, 0, none⟩)), (0, .agg (G_Delta_cells a0 a0_commands_a a0_commands_c))] := hK2.only [9, 10, 11, 12, 13, 14, 15, 16, 17, 18, 19, 20, 21, 22, 23, 24, 25, 26, 3, 2, 1, 0]
     clear hE hK; revert hK2; clear hm1 hS hlt0; revert fr2; clear fr; intro fr hK; have hS := hS2; clear hS2
     replace hS : St _ m m16 [.box b1 (G_Delta_cells a0 a0_commands_a a0_commands_c) 27] := hS
     refine qs 27 hK ?_
     clear hK fr; intro fr hK
     refine qp 28 (.bool true) hK fun fr hK => ?_
     refine wpListIn_nil (then_n ?_)
     replace hS : St _ m m16 [.box b1 (G_Delta_cells a0 a0_commands_a a0_commands_c) 27] := hS
     replace h := Option.some.inj h; subst h
     exact ⟨m16, rfl, hK.only [1, 28], l16, hS⟩
    ·
     replace h := ite_f (of_decide_eq_false hb10) h
     obtain ⟨y7, hy10, h⟩ := bind_some h
     have hlt0 : ∀ bq ∈ blocksOf [.box b1 (G_Delta_cells a0 a0_commands_a a0_commands_c) 27], bq < m1.w.heap.size := fun bq hbq => hS.ow.lt hbq
     refine D.wp_draw (Gr := D.GO m1 none) (S := D.SO none (blocksOf []) m m1 (fun _ => [.box b1 (G_Delta_cells a0 a0_commands_a a0_commands_c) 27]) (fun _ => True)) (N := 0) 18 [] [([(1, none)], 0, 0, false), ([(9, some 0)], 0, 0, false), ([(10, some 0)], 0, 0, false), ([(11, some 0)], 0, 0, false), ([(1, none), (12, some 0)], 0, 0, false), ([(13, some 0), (12, some 1)], 0, 0, false), ([(14, some 0), (12, some 2)], 0, 0, false), ([(12, some 3), (15, some 0)], 0, 0, false), ([(16, some 0)], 0, 0, false), ([(1, none), (17, some 0)], 0, 0, false), ([(18, some 0), (17, some 1)], 0, 0, false), ([(17, some 2)], 0, 0, false), ([(19, some 1), (20, some 0), (17, some 3)], 0, 0, false), ([(17, some 4), (21, some 0)], 0, 0, false), ([(22, some 0)], 0, 0, false), ([(1, none), (23, some 0)], 0, 0, false), ([(24, some 0), (23, some 1)], 0, 0, false), ([(23, some 2)], 0, 0, false)] hK.size (by kernel_rfl) (by kernel_rfl) (by kernel_rfl) rfl (D.startO hS trivial) ?_
     refine D.on_pure (D.GO_refl _ _) [(1, .pointer (some ⟨b1, 0, none⟩))] (.pointer (some ⟨b1, 0, none⟩)) (fun ac ww hk => (.cons (hk.1.trans (hK.at_ 1 _ rfl)) (.nil _))) ?_
     refine D.on_det (D.GO_refl _ _) [(9, .pointer (some ⟨b1, 0, none⟩))] (.int .i64 a0.oldLen) (fun ac ww hk => (.cons (hk.1) (.nil _))) (fun ac ww kk hb hKe Post hp => (fun hS => s_load hKe hS 0 rfl rfl rfl rfl (by kernel_rfl) hp) hb.2.1) ?_
     refine D.on_det (D.GO_refl _ _) [(10, .int .i64 a0.oldLen)] (.bool false) (fun ac ww hk => (.cons (hk.1) (.nil _))) (fun ac ww kk hb hKe Post hp => s_pureE (.bool false) (.bool (decide (a0.oldLen < 0))) hKe (by kernel_rfl) (by kernel_rfl) (by rw [hb8]) hp) ?_
     refine D.on_pure (D.GO_refl _ _) [(11, .bool false)] (.bool false) (fun ac ww hk => (.cons (hk.1) (.nil _))) ?_
     refine D.on_pure (D.GO_refl _ _) [(1, .pointer (some ⟨b1, 0, none⟩)), (12, .bool false)] (.pointer (some ⟨b1, 1, none⟩)) (fun ac ww hk => (.cons (hk.1.trans (hK.at_ 1 _ rfl)) (.cons (hk.2.1) (.nil _)))) ?_
     refine D.on_det (D.GO_refl _ _) [(13, .pointer (some ⟨b1, 1, none⟩)), (12, .bool false)] (.int .i64 a0.newLen) (fun ac ww hk => (.cons (hk.1) (.cons (hk.2.1) (.nil _)))) (fun ac ww kk hb hKe Post hp => (fun hS => s_load hKe hS 0 rfl rfl rfl rfl (by kernel_rfl) hp) hb.2.1) ?_
     refine D.on_det (D.GO_refl _ _) [(14, .int .i64 a0.newLen), (12, .bool false)] (.bool false) (fun ac ww hk => (.cons (hk.1) (.cons (hk.2.1) (.nil _)))) (fun ac ww kk hb hKe Post hp => s_pureE (.bool false) (.bool (decide (a0.newLen < 0))) hKe (by kernel_rfl) (by kernel_rfl) (by rw [hb9]) hp) ?_
     refine D.on_pure (D.GO_refl _ _) [(12, .bool false), (15, .bool false)] (.bool false) (fun ac ww hk => (.cons (hk.1) (.cons (hk.2.1) (.nil _)))) ?_
     refine D.on_pure (D.GO_refl _ _) [(16, .bool false)] (.bool false) (fun ac ww hk => (.cons (hk.1) (.nil _))) ?_
     refine D.on_pure (D.GO_refl _ _) [(1, .pointer (some ⟨b1, 0, none⟩)), (17, .bool false)] (.pointer (some ⟨b1, 0, none⟩)) (fun ac ww hk => (.cons (hk.1.trans (hK.at_ 1 _ rfl)) (.cons (hk.2.1) (.nil _)))) ?_
     refine D.on_det (D.GO_refl _ _) [(18, .pointer (some ⟨b1, 0, none⟩)), (17, .bool false)] (.int .i64 a0.oldLen) (fun ac ww hk => (.cons (hk.1) (.cons (hk.2.1) (.nil _)))) (fun ac ww kk hb hKe Post hp => (fun hS => s_load hKe hS 0 rfl rfl rfl rfl (by kernel_rfl) hp) hb.2.1) ?_
     refine D.on_op (fun uu _ => uu = .int .i64 y6) (fun _ _ _ h _ => h) (by
      intro ac ww kk hlo hhi hb hk
      obtain rfl : kk = 0 := by omega
      have h0 := hS; replace hS := hb.2.1
      have k17 : ac.eval (.tmp 17) = .bool false := hk.1
      have hKe : Ke ac [(17, .bool false)] := (.cons k17 (.nil _))
      exact ⟨D.wantedE hKe (by kernel_rfl), D.callO h0 (fun bq hbq => hlt0 bq (by revert hbq; simp [blocksOf, Ent.box, rowOf, Ent.row]; try omega)) hb hKe ent60_3 rfl rfl rfl rfl (G.graftref01_Max_spec hy9) (by kernel_rfl) (by rintro _ m' _ hg hn hl ⟨rfl, rfl⟩; exact rfl)⟩) ?_
     refine D.on_det (D.GO_refl _ _) [(19, .int .i64 a0.oldLen), (20, .int .i64 y6), (17, .bool false)] (.bool false) (fun ac ww hk => (.cons (hk.1) (.cons (hk.2.1) (.cons (hk.2.2.1) (.nil _))))) (fun ac ww kk hb hKe Post hp => s_pureE (.bool false) (.bool (decide (a0.oldLen > y6))) hKe (by kernel_rfl) (by kernel_rfl) (by rw [hb10]) hp) ?_
     refine D.on_pure (D.GO_refl _ _) [(17, .bool false), (21, .bool false)] (.bool false) (fun ac ww hk => (.cons (hk.1) (.cons (hk.2.1) (.nil _)))) ?_
     refine D.on_pure (D.GO_refl _ _) [(22, .bool false)] (.bool false) (fun ac ww hk => (.cons (hk.1) (.nil _))) ?_
     refine D.on_pure (D.GO_refl _ _) [(1, .pointer (some ⟨b1, 0, none⟩)), (23, .bool false)] (.pointer (some ⟨b1, 1, none⟩)) (fun ac ww hk => (.cons (hk.1.trans (hK.at_ 1 _ rfl)) (.cons (hk.2.1) (.nil _)))) ?_
     refine D.on_det (D.GO_refl _ _) [(24, .pointer (some ⟨b1, 1, none⟩)), (23, .bool false)] (.int .i64 a0.newLen) (fun ac ww hk => (.cons (hk.1) (.cons (hk.2.1) (.nil _)))) (fun ac ww kk hb hKe Post hp => (fun hS => s_load hKe hS 0 rfl rfl rfl rfl (by kernel_rfl) hp) hb.2.1) ?_
     refine D.on_op (fun uu _ => uu = .int .i64 y7) (fun _ _ _ h _ => h) (by
      intro ac ww kk hlo hhi hb hk
      obtain rfl : kk = 0 := by omega
      have h0 := hS; replace hS := hb.2.1
      have k23 : ac.eval (.tmp 23) = .bool false := hk.1
      have hKe : Ke ac [(23, .bool false)] := (.cons k23 (.nil _))
      exact ⟨D.wantedE hKe (by kernel_rfl), D.callO h0 (fun bq hbq => hlt0 bq (by revert hbq; simp [blocksOf, Ent.box, rowOf, Ent.row]; try omega)) hb hKe ent60_3 rfl rfl rfl rfl (G.graftref01_Max_spec hy10) (by kernel_rfl) (by rintro _ m' _ hg hn hl ⟨rfl, rfl⟩; exact rfl)⟩) ?_
     refine D.finO ?_
     intro fr2 m17 hm1 l17 hS2 hF2 hE
     replace hS2 : St _ m m17 [.box b1 (G_Delta_cells a0 a0_commands_a a0_commands_c) 27] := hS2
     have hK2 := D.kn_ends [(9, .pointer (some ⟨b1, 0, none⟩)), (10, .int .i64 a0.oldLen), (11, .bool false), (12, .bool false), (13, .pointer (some ⟨b1, 1, none⟩)), (14, .int .i64 a0.newLen), (15, .bool false), (16, .bool false), (17, .bool false), (18, .pointer (some ⟨b1, 0, none⟩)), (19, .int .i64 a0.oldLen), (20, .int .i64 y6), (21, .bool false), (22, .bool false), (23, .bool false), (24, .pointer (some ⟨b1, 1, none⟩)), (25, .int .i64 a0.newLen), (26, .int .i64 y7)] hK hE rfl (by kernel_rfl) (.cons (hE.slots 9) (.cons (hE.slots 10) (.cons (hE.slots 11) (.cons (hE.slots 12) (.cons (hE.slots 13) (.cons (hE.slots 14) (.cons (hE.slots 15) (.cons (hE.slots 16) (.cons (hE.slots 17) (.cons (hE.slots 18) (.cons (hE.slots 19) (.cons (hE.slots 20) (.cons (hE.slots 21) (.cons (hE.slots 22) (.cons (hE.slots 23) (.cons (hE.slots 24) (.cons (hE.slots 25) (.cons (hE.slots 26) (.nil _)))))))))))))))))))
     replace hK2 : Kn 80 fr2 [(9, .pointer (some ⟨b1, 0, none⟩)), (10, .int .i64 a0.oldLen), (11, .bool false), (12, .bool false), (13, .pointer (some ⟨b1, 1, none⟩)), (14, .int .i64 a0.newLen), (15, .bool false), (16, .bool false), (17, .bool false), (18, .pointer (some ⟨b1, 0, none⟩)), (19, .int .i64 a0.oldLen), (20, .int .i64 y6), (21, .bool false), (22, .bool false), (23, .bool false), (24, .pointer (some ⟨b1, 1, none⟩)), (25, .int .i64 a0.newLen), (26, .int .i64 y7), (3, .int .i64 0), (2, .int .i64 0), (1, .pointer (some ⟨b1, 0, none⟩)), (0, .agg (G_Delta_cells a0 a0_commands_a a0_commands_c))] := hK2.only [9, 10, 11, 12, 13, 14, 15, 16, 17, 18, 19, 20, 21, 22, 23, 24, 25, 26, 3, 2, 1, 0]
     clear hE hK; revert hK2; clear hm1 hS hlt0; revert fr2; clear fr; intro fr hK; have hS := hS2; clear hS2
     replace hS : St _ m m17 [.box b1 (G_Delta_cells a0 a0_commands_a a0_commands_c) 27] := hS
     refine qp 27 (.bool (decide (a0.newLen > y7))) hK fun fr hK => ?_
     refine qp 28 (.bool (decide (a0.newLen > y7))) hK fun fr hK => ?_
     refine wpListIn_nil (then_n ?_)
     replace hS : St _ m m17 [.box b1 (G_Delta_cells a0 a0_commands_a a0_commands_c) 27] := hS
     replace h := Option.some.inj h; subst h
     exact ⟨m17, rfl, hK.only [1, 28], l17, hS⟩
end Go.Proofs.Ytkalbidbhaalmaa
