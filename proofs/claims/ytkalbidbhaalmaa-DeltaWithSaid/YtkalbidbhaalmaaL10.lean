/- The program computes the plain functions: bytes_Equal, command_Same, slices_EqualFunc_api_Command_api_Command_api_Command_api_Command_command_Same, delta_Same, graftlaw05_DeltaWith. Printed by a program. -/
import Derived.Test.YtkalbidbhaalmaaProg
import Derived.Test.YtkalbidbhaalmaaGs
import Derived.Test.YtkalbidbhaalmaaRep
import Derived.Test.YtkalbidbhaalmaaL0
import Derived.Test.YtkalbidbhaalmaaL2
import Derived.Test.YtkalbidbhaalmaaL5
namespace Go.Proofs.Ytkalbidbhaalmaa
open Go.RowKit G
theorem ent16_10 : Enters Try.prog 16 := enters_of Try.func16 (by decide +kernel) (by decide +kernel)
theorem ent17_10 : Enters Try.prog 17 := enters_of Try.func17 (by decide +kernel) (by decide +kernel)
theorem ent23_10 : Enters Try.prog 23 := enters_of Try.func23 (by decide +kernel) (by decide +kernel)
theorem ent28_10 : Enters Try.prog 28 := enters_of Try.func28 (by decide +kernel) (by decide +kernel)
theorem ent30_10 : Enters Try.prog 30 := enters_of Try.func30 (by decide +kernel) (by decide +kernel)
theorem ent35_10 : Enters Try.prog 35 := enters_of Try.func35 (by decide +kernel) (by decide +kernel)
theorem ent36_10 : Enters Try.prog 36 := enters_of Try.func36 (by decide +kernel) (by decide +kernel)
theorem ent72_10 : Enters Try.prog 72 := enters_of Try.func72 (by decide +kernel) (by decide +kernel)
theorem ent73_10 : Enters Try.prog 73 := enters_of Try.func73 (by decide +kernel) (by decide +kernel)
theorem ent99_10 : Enters Try.prog 99 := enters_of Try.func99 (by decide +kernel) (by decide +kernel)
theorem elT25_10 : ElemT Try.prog 25 50 (.agg #[.int .i64 0, .int .i64 0, .int .i64 0, .int .i64 0, .slice none 0 0]) 5 56 := ⟨by kernel_rfl, by kernel_rfl, by kernel_rfl, by decide⟩
theorem eqH24_10 (f g : Nat → UInt8) (w : World) : (binOp .eql 24 (.agg #[.int .u8 ((f 0).toNat), .int .u8 ((f 1).toNat), .int .u8 ((f 2).toNat), .int .u8 ((f 3).toNat), .int .u8 ((f 4).toNat), .int .u8 ((f 5).toNat), .int .u8 ((f 6).toNat), .int .u8 ((f 7).toNat), .int .u8 ((f 8).toNat), .int .u8 ((f 9).toNat), .int .u8 ((f 10).toNat), .int .u8 ((f 11).toNat), .int .u8 ((f 12).toNat), .int .u8 ((f 13).toNat), .int .u8 ((f 14).toNat), .int .u8 ((f 15).toNat), .int .u8 ((f 16).toNat), .int .u8 ((f 17).toNat), .int .u8 ((f 18).toNat), .int .u8 ((f 19).toNat), .int .u8 ((f 20).toNat), .int .u8 ((f 21).toNat), .int .u8 ((f 22).toNat), .int .u8 ((f 23).toNat), .int .u8 ((f 24).toNat), .int .u8 ((f 25).toNat), .int .u8 ((f 26).toNat), .int .u8 ((f 27).toNat), .int .u8 ((f 28).toNat), .int .u8 ((f 29).toNat), .int .u8 ((f 30).toNat), .int .u8 ((f 31).toNat)]) (.agg #[.int .u8 ((g 0).toNat), .int .u8 ((g 1).toNat), .int .u8 ((g 2).toNat), .int .u8 ((g 3).toNat), .int .u8 ((g 4).toNat), .int .u8 ((g 5).toNat), .int .u8 ((g 6).toNat), .int .u8 ((g 7).toNat), .int .u8 ((g 8).toNat), .int .u8 ((g 9).toNat), .int .u8 ((g 10).toNat), .int .u8 ((g 11).toNat), .int .u8 ((g 12).toNat), .int .u8 ((g 13).toNat), .int .u8 ((g 14).toNat), .int .u8 ((g 15).toNat), .int .u8 ((g 16).toNat), .int .u8 ((g 17).toNat), .int .u8 ((g 18).toNat), .int .u8 ((g 19).toNat), .int .u8 ((g 20).toNat), .int .u8 ((g 21).toNat), .int .u8 ((g 22).toNat), .int .u8 ((g 23).toNat), .int .u8 ((g 24).toNat), .int .u8 ((g 25).toNat), .int .u8 ((g 26).toNat), .int .u8 ((g 27).toNat), .int .u8 ((g 28).toNat), .int .u8 ((g 29).toNat), .int .u8 ((g 30).toNat), .int .u8 ((g 31).toNat)])).run Try.prog w = .ok (.bool (hashEq f g)) w := by
  have h1 : ∀ f : Nat → UInt8, (#[.int .u8 ((f 0).toNat), .int .u8 ((f 1).toNat), .int .u8 ((f 2).toNat), .int .u8 ((f 3).toNat), .int .u8 ((f 4).toNat), .int .u8 ((f 5).toNat), .int .u8 ((f 6).toNat), .int .u8 ((f 7).toNat), .int .u8 ((f 8).toNat), .int .u8 ((f 9).toNat), .int .u8 ((f 10).toNat), .int .u8 ((f 11).toNat), .int .u8 ((f 12).toNat), .int .u8 ((f 13).toNat), .int .u8 ((f 14).toNat), .int .u8 ((f 15).toNat), .int .u8 ((f 16).toNat), .int .u8 ((f 17).toNat), .int .u8 ((f 18).toNat), .int .u8 ((f 19).toNat), .int .u8 ((f 20).toNat), .int .u8 ((f 21).toNat), .int .u8 ((f 22).toNat), .int .u8 ((f 23).toNat), .int .u8 ((f 24).toNat), .int .u8 ((f 25).toNat), .int .u8 ((f 26).toNat), .int .u8 ((f 27).toNat), .int .u8 ((f 28).toNat), .int .u8 ((f 29).toNat), .int .u8 ((f 30).toNat), .int .u8 ((f 31).toNat)] : Array Value) = hcells f := fun f => by kernel_rfl
  rw [h1 f, h1 g]; exact run_eqHash Try.underlying24 Try.underlying5 (by kernel_rfl) f g
theorem eqH24n_10 (f g : Nat → UInt8) (w : World) : (binOp .neq 24 (.agg #[.int .u8 ((f 0).toNat), .int .u8 ((f 1).toNat), .int .u8 ((f 2).toNat), .int .u8 ((f 3).toNat), .int .u8 ((f 4).toNat), .int .u8 ((f 5).toNat), .int .u8 ((f 6).toNat), .int .u8 ((f 7).toNat), .int .u8 ((f 8).toNat), .int .u8 ((f 9).toNat), .int .u8 ((f 10).toNat), .int .u8 ((f 11).toNat), .int .u8 ((f 12).toNat), .int .u8 ((f 13).toNat), .int .u8 ((f 14).toNat), .int .u8 ((f 15).toNat), .int .u8 ((f 16).toNat), .int .u8 ((f 17).toNat), .int .u8 ((f 18).toNat), .int .u8 ((f 19).toNat), .int .u8 ((f 20).toNat), .int .u8 ((f 21).toNat), .int .u8 ((f 22).toNat), .int .u8 ((f 23).toNat), .int .u8 ((f 24).toNat), .int .u8 ((f 25).toNat), .int .u8 ((f 26).toNat), .int .u8 ((f 27).toNat), .int .u8 ((f 28).toNat), .int .u8 ((f 29).toNat), .int .u8 ((f 30).toNat), .int .u8 ((f 31).toNat)]) (.agg #[.int .u8 ((g 0).toNat), .int .u8 ((g 1).toNat), .int .u8 ((g 2).toNat), .int .u8 ((g 3).toNat), .int .u8 ((g 4).toNat), .int .u8 ((g 5).toNat), .int .u8 ((g 6).toNat), .int .u8 ((g 7).toNat), .int .u8 ((g 8).toNat), .int .u8 ((g 9).toNat), .int .u8 ((g 10).toNat), .int .u8 ((g 11).toNat), .int .u8 ((g 12).toNat), .int .u8 ((g 13).toNat), .int .u8 ((g 14).toNat), .int .u8 ((g 15).toNat), .int .u8 ((g 16).toNat), .int .u8 ((g 17).toNat), .int .u8 ((g 18).toNat), .int .u8 ((g 19).toNat), .int .u8 ((g 20).toNat), .int .u8 ((g 21).toNat), .int .u8 ((g 22).toNat), .int .u8 ((g 23).toNat), .int .u8 ((g 24).toNat), .int .u8 ((g 25).toNat), .int .u8 ((g 26).toNat), .int .u8 ((g 27).toNat), .int .u8 ((g 28).toNat), .int .u8 ((g 29).toNat), .int .u8 ((g 30).toNat), .int .u8 ((g 31).toNat)])).run Try.prog w = .ok (.bool (!hashEq f g)) w := by
  have h1 : ∀ f : Nat → UInt8, (#[.int .u8 ((f 0).toNat), .int .u8 ((f 1).toNat), .int .u8 ((f 2).toNat), .int .u8 ((f 3).toNat), .int .u8 ((f 4).toNat), .int .u8 ((f 5).toNat), .int .u8 ((f 6).toNat), .int .u8 ((f 7).toNat), .int .u8 ((f 8).toNat), .int .u8 ((f 9).toNat), .int .u8 ((f 10).toNat), .int .u8 ((f 11).toNat), .int .u8 ((f 12).toNat), .int .u8 ((f 13).toNat), .int .u8 ((f 14).toNat), .int .u8 ((f 15).toNat), .int .u8 ((f 16).toNat), .int .u8 ((f 17).toNat), .int .u8 ((f 18).toNat), .int .u8 ((f 19).toNat), .int .u8 ((f 20).toNat), .int .u8 ((f 21).toNat), .int .u8 ((f 22).toNat), .int .u8 ((f 23).toNat), .int .u8 ((f 24).toNat), .int .u8 ((f 25).toNat), .int .u8 ((f 26).toNat), .int .u8 ((f 27).toNat), .int .u8 ((f 28).toNat), .int .u8 ((f 29).toNat), .int .u8 ((f 30).toNat), .int .u8 ((f 31).toNat)] : Array Value) = hcells f := fun f => by kernel_rfl
  rw [h1 f, h1 g]; exact run_neHash Try.underlying24 Try.underlying5 (by kernel_rfl) f g
set_option maxRecDepth 100000 in
set_option maxHeartbeats 1000000 in
theorem G.bytes_Equal_spec {m : Mem} {a0 : List UInt8} {a0_a : Option Addr} {a0_c : Nat} {a1 : List UInt8} {a1_a : Option Addr} {a1_c : Nat} (a0_f : Els isU8 m 1 a0_a a0_c a0) (a1_f : Els isU8 m 1 a1_a a1_c a1) {r : Bool} (h : G.bytes_Equal a0 a1 = some r) :
  Spec Try.prog 99 #[.slice a0_a a0.length a0_c, .slice a1_a a1.length a1_c] m [] fun v m' L => L = [] ∧ v = .bool r := by
 unfold G.bytes_Equal at h
 refine enter (args := [_, _]) 10 Try.func99 rfl rfl (by simp) fun fr hK => ?_
 have hS := St.refl (Ow.nil m)
 replace hK : Kn 10 fr [(0, .slice a0_a a0.length a0_c), (1, .slice a1_a a1.length a1_c)] := hK
 refine w_seq (w_region ?_)
 refine qp 4 (.bool false) hK fun fr hK => ?_
 refine wpListIn_nil (then_n ?_)
 refine w_seq (w_region ?_)
 refine qp 5 (.slice a0_a a0.length a0_c) hK fun fr hK => ?_
 refine qr 6 (.string (str a0)) hK (by exact run_toStr rfl rfl Try.underlying22 Try.underlying5 Try.underlying9 a0_f) ?_
 clear hK fr; intro fr hK
 refine qp 7 (.slice a1_a a1.length a1_c) hK fun fr hK => ?_
 refine qr 8 (.string (str a1)) hK (by exact run_toStr rfl rfl Try.underlying22 Try.underlying5 Try.underlying9 a1_f) ?_
 clear hK fr; intro fr hK
 refine qe 9 (.bool (decide (a0 = a1))) (.bool ((str a0).toList == (str a1).toList)) hK (by exact v_bool (str_beq _ _)) ?_
 clear hK fr; intro fr hK
 refine qp 4 (.bool (decide (a0 = a1))) hK fun fr hK => ?_
 refine wpListIn_nil (then_n ?_)
 refine wpIn_ret ?_
 replace h := Option.some.inj h; subst h
 refine ret_of [.tmp 4] [.bool (decide (a0 = a1))] rfl hK (.tmp rfl .nil) hS.dropAll ?_
 exact ⟨rfl, rfl⟩
set_option maxRecDepth 100000 in
set_option maxHeartbeats 1000000 in
theorem G.command_Same_spec {m : Mem} {a0 : G.Command} {a0_data_a : Option Addr} {a0_data_c : Nat} {a1 : G.Command} {a1_data_a : Option Addr} {a1_data_c : Nat} (a0_data_f : Els isU8 m 1 a0_data_a a0_data_c a0.data) (a1_data_f : Els isU8 m 1 a1_data_a a1_data_c a1.data) {r : Bool} (h : G.command_Same a0 a1 = some r) :
  Spec Try.prog 73 #[.agg #[.int .i64 a0.kind, .int .i64 a0.to, .int .i64 a0.from_, .int .i64 a0.len, .slice a0_data_a a0.data.length a0_data_c], .agg #[.int .i64 a1.kind, .int .i64 a1.to, .int .i64 a1.from_, .int .i64 a1.len, .slice a1_data_a a1.data.length a1_data_c]] m [] fun v m' L => L = [] ∧ v = .bool r := by
 unfold G.command_Same at h
 refine enter (args := [_, _]) 42 Try.func73 rfl rfl (by simp) fun fr hK => ?_
 have hS := St.refl (Ow.nil m)
 replace hK : Kn 42 fr [(0, .agg #[.int .i64 a0.kind, .int .i64 a0.to, .int .i64 a0.from_, .int .i64 a0.len, .slice a0_data_a a0.data.length a0_data_c]), (1, .agg #[.int .i64 a1.kind, .int .i64 a1.to, .int .i64 a1.from_, .int .i64 a1.len, .slice a1_data_a a1.data.length a1_data_c])] := hK
 refine w_seq (w_region ?_)
 refine qo 2 hK (s_box hK.at_ hS rfl rfl ?_)
 clear hK fr hS; intro m1 b1 b1z l1 hS fr hK
 refine qo 3 hK (s_box hK.at_ hS rfl rfl ?_)
 clear hK fr hS; intro m2 b2 b2z l2 hS fr hK
 replace hS : St _ m m2 [.box b2 #[.int .i64 a1.kind, .int .i64 a1.to, .int .i64 a1.from_, .int .i64 a1.len, .slice a1_data_a a1.data.length a1_data_c] 50, .box b1 #[.int .i64 a0.kind, .int .i64 a0.to, .int .i64 a0.from_, .int .i64 a0.len, .slice a0_data_a a0.data.length a0_data_c] 50] := hS
 refine qp 4 (.bool false) hK fun fr hK => ?_
 refine wpListIn_nil (then_n ?_)
 refine w_seq ?_
 replace a0_data_f := Els.mono rep_U8 a0_data_f (l1.trans l2)
 replace a1_data_f := Els.mono rep_U8 a1_data_f (l1.trans l2)
 have hlt0 : ∀ bq ∈ blocksOf [.box b2 #[.int .i64 a1.kind, .int .i64 a1.to, .int .i64 a1.from_, .int .i64 a1.len, .slice a1_data_a a1.data.length a1_data_c] 50, .box b1 #[.int .i64 a0.kind, .int .i64 a0.to, .int .i64 a0.from_, .int .i64 a0.len, .slice a0_data_a a0.data.length a0_data_c] 50], bq < m2.w.heap.size := fun bq hbq => hS.ow.lt hbq
 refine D.wp_draw (Gr := D.GO m2 none) (S := D.SO none (blocksOf []) m m2 (fun _ => [.box b2 #[.int .i64 a1.kind, .int .i64 a1.to, .int .i64 a1.from_, .int .i64 a1.len, .slice a1_data_a a1.data.length a1_data_c] 50, .box b1 #[.int .i64 a0.kind, .int .i64 a0.to, .int .i64 a0.from_, .int .i64 a0.len, .slice a0_data_a a0.data.length a0_data_c] 50]) (fun _ => True)) (N := 0) 5 [] [([(2, none)], 0, 0, false), ([(7, some 0)], 0, 0, false), ([(3, none)], 0, 0, false), ([(9, some 0)], 0, 0, false), ([(8, some 2)], 0, 0, false)] hK.size (by kernel_rfl) (by kernel_rfl) (by kernel_rfl) rfl (D.startO hS trivial) ?_
 refine D.on_pure (D.GO_refl _ _) [(2, .pointer (some ⟨b1, 0, none⟩))] (.pointer (some ⟨b1, 4, none⟩)) (fun ac ww hk => (.cons (hk.1.trans (hK.at_ 2 _ rfl)) (.nil _))) ?_
 refine D.on_det (D.GO_refl _ _) [(7, .pointer (some ⟨b1, 4, none⟩))] (.slice a0_data_a a0.data.length a0_data_c) (fun ac ww hk => (.cons (hk.1) (.nil _))) (fun ac ww kk hb hKe Post hp => (fun hS => s_load hKe hS 1 rfl rfl rfl rfl (by kernel_rfl) hp) hb.2.1) ?_
 refine D.on_pure (D.GO_refl _ _) [(3, .pointer (some ⟨b2, 0, none⟩))] (.pointer (some ⟨b2, 4, none⟩)) (fun ac ww hk => (.cons (hk.1.trans (hK.at_ 3 _ rfl)) (.nil _))) ?_
 refine D.on_det (D.GO_refl _ _) [(9, .pointer (some ⟨b2, 4, none⟩))] (.slice a1_data_a a1.data.length a1_data_c) (fun ac ww hk => (.cons (hk.1) (.nil _))) (fun ac ww kk hb hKe Post hp => (fun hS => s_load hKe hS 0 rfl rfl rfl rfl (by kernel_rfl) hp) hb.2.1) ?_
 refine D.on_pure (D.GO_refl _ _) [(8, .slice a0_data_a a0.data.length a0_data_c)] (.slice a0_data_a a0.data.length a0_data_c) (fun ac ww hk => (.cons (hk.1) (.nil _))) ?_
 refine D.finO ?_
 intro fr2 m3 hm1 l3 hS2 hF2 hE
 replace hS2 : St _ m m3 [.box b2 #[.int .i64 a1.kind, .int .i64 a1.to, .int .i64 a1.from_, .int .i64 a1.len, .slice a1_data_a a1.data.length a1_data_c] 50, .box b1 #[.int .i64 a0.kind, .int .i64 a0.to, .int .i64 a0.from_, .int .i64 a0.len, .slice a0_data_a a0.data.length a0_data_c] 50] := hS2
 have hK2 := D.kn_ends [(7, .pointer (some ⟨b1, 4, none⟩)), (8, .slice a0_data_a a0.data.length a0_data_c), (9, .pointer (some ⟨b2, 4, none⟩)), (10, .slice a1_data_a a1.data.length a1_data_c), (5, .slice a0_data_a a0.data.length a0_data_c)] hK hE rfl (by kernel_rfl) (.cons (hE.slots 7) (.cons (hE.slots 8) (.cons (hE.slots 9) (.cons (hE.slots 10) (.cons (hE.slots 5) (.nil _))))))
 replace hK2 : Kn 42 fr2 [(7, .pointer (some ⟨b1, 4, none⟩)), (8, .slice a0_data_a a0.data.length a0_data_c), (9, .pointer (some ⟨b2, 4, none⟩)), (10, .slice a1_data_a a1.data.length a1_data_c), (5, .slice a0_data_a a0.data.length a0_data_c), (4, .bool false), (3, .pointer (some ⟨b2, 0, none⟩)), (2, .pointer (some ⟨b1, 0, none⟩)), (0, .agg #[.int .i64 a0.kind, .int .i64 a0.to, .int .i64 a0.from_, .int .i64 a0.len, .slice a0_data_a a0.data.length a0_data_c]), (1, .agg #[.int .i64 a1.kind, .int .i64 a1.to, .int .i64 a1.from_, .int .i64 a1.len, .slice a1_data_a a1.data.length a1_data_c])] := hK2.only [7, 8, 9, 10, 5, 4, 3, 2, 0, 1]
 clear hE hK; revert hK2; clear hm1 hS hlt0; revert fr2; clear fr; intro fr hK; have hS := hS2; clear hS2
 replace hS : St _ m m3 [.box b2 #[.int .i64 a1.kind, .int .i64 a1.to, .int .i64 a1.from_, .int .i64 a1.len, .slice a1_data_a a1.data.length a1_data_c] 50, .box b1 #[.int .i64 a0.kind, .int .i64 a0.to, .int .i64 a0.from_, .int .i64 a0.len, .slice a0_data_a a0.data.length a0_data_c] 50] := hS
 refine qp 6 (.slice a1_data_a a1.data.length a1_data_c) hK fun fr hK => ?_
 refine wpListIn_nil (then_n ?_)
 refine w_seq (w_region ?_)
 refine qp 11 (.pointer (some ⟨b1, 0, none⟩)) hK fun fr hK => ?_
 refine qo 12 hK (s_load hK.at_ hS 1 rfl rfl rfl rfl (by kernel_rfl) ?_)
 clear hK fr; intro fr hK
 refine qp 13 (.pointer (some ⟨b2, 0, none⟩)) hK fun fr hK => ?_
 refine qo 14 hK (s_load hK.at_ hS 0 rfl rfl rfl rfl (by kernel_rfl) ?_)
 clear hK fr; intro fr hK
 refine qp 15 (.bool (a0.kind == a1.kind)) hK fun fr hK => ?_
 refine qp 16 (.bool (a0.kind == a1.kind)) hK fun fr hK => ?_
 refine split_b (x := (a0.kind == a1.kind)) (fun hb1 => ?_) (fun hb1 => ?_)
 ·
  replace hK := hK.more (t := 16) (v' := .bool true) rfl (by rw [hb1])
  replace hK := hK.more (t := 15) (v' := .bool true) rfl (by rw [hb1])
  replace h := ite_t (eq_of_beq hb1) h
  refine qp 17 (.pointer (some ⟨b1, 1, none⟩)) hK fun fr hK => ?_
  refine qo 18 hK (s_load hK.at_ hS 1 rfl rfl rfl rfl (by kernel_rfl) ?_)
  clear hK fr; intro fr hK
  refine qp 19 (.pointer (some ⟨b2, 1, none⟩)) hK fun fr hK => ?_
  refine qo 20 hK (s_load hK.at_ hS 0 rfl rfl rfl rfl (by kernel_rfl) ?_)
  clear hK fr; intro fr hK
  refine qp 21 (.bool (a0.to == a1.to)) hK fun fr hK => ?_
  refine qp 22 (.bool (a0.to == a1.to)) hK fun fr hK => ?_
  refine qp 23 (.bool (a0.to == a1.to)) hK fun fr hK => ?_
  refine split_b (x := (a0.to == a1.to)) (fun hb2 => ?_) (fun hb2 => ?_)
  ·
   replace hK := hK.more (t := 23) (v' := .bool true) rfl (by rw [hb2])
   replace hK := hK.more (t := 22) (v' := .bool true) rfl (by rw [hb2])
   replace hK := hK.more (t := 21) (v' := .bool true) rfl (by rw [hb2])
   replace h := ite_t (eq_of_beq hb2) h
   refine qp 24 (.pointer (some ⟨b1, 2, none⟩)) hK fun fr hK => ?_
   refine qo 25 hK (s_load hK.at_ hS 1 rfl rfl rfl rfl (by kernel_rfl) ?_)
   clear hK fr; intro fr hK
   refine qp 26 (.pointer (some ⟨b2, 2, none⟩)) hK fun fr hK => ?_
   refine qo 27 hK (s_load hK.at_ hS 0 rfl rfl rfl rfl (by kernel_rfl) ?_)
   clear hK fr; intro fr hK
   refine qp 28 (.bool (a0.from_ == a1.from_)) hK fun fr hK => ?_
   refine qp 29 (.bool (a0.from_ == a1.from_)) hK fun fr hK => ?_
   refine qp 30 (.bool (a0.from_ == a1.from_)) hK fun fr hK => ?_
   refine split_b (x := (a0.from_ == a1.from_)) (fun hb3 => ?_) (fun hb3 => ?_)
   ·
    replace hK := hK.more (t := 30) (v' := .bool true) rfl (by rw [hb3])
    replace hK := hK.more (t := 29) (v' := .bool true) rfl (by rw [hb3])
    replace hK := hK.more (t := 28) (v' := .bool true) rfl (by rw [hb3])
    replace h := ite_t (eq_of_beq hb3) h
    refine qp 31 (.pointer (some ⟨b1, 3, none⟩)) hK fun fr hK => ?_
    refine qo 32 hK (s_load hK.at_ hS 1 rfl rfl rfl rfl (by kernel_rfl) ?_)
    clear hK fr; intro fr hK
    refine qp 33 (.pointer (some ⟨b2, 3, none⟩)) hK fun fr hK => ?_
    refine qo 34 hK (s_load hK.at_ hS 0 rfl rfl rfl rfl (by kernel_rfl) ?_)
    clear hK fr; intro fr hK
    refine qp 35 (.bool (a0.len == a1.len)) hK fun fr hK => ?_
    refine qp 36 (.bool (a0.len == a1.len)) hK fun fr hK => ?_
    refine qp 37 (.bool (a0.len == a1.len)) hK fun fr hK => ?_
    refine split_b (x := (a0.len == a1.len)) (fun hb4 => ?_) (fun hb4 => ?_)
    ·
     replace hK := hK.more (t := 37) (v' := .bool true) rfl (by rw [hb4])
     replace hK := hK.more (t := 36) (v' := .bool true) rfl (by rw [hb4])
     replace hK := hK.more (t := 35) (v' := .bool true) rfl (by rw [hb4])
     replace h := ite_t (eq_of_beq hb4) h
     refine qp 38 (.slice a0_data_a a0.data.length a0_data_c) hK fun fr hK => ?_
     refine qp 39 (.slice a1_data_a a1.data.length a1_data_c) hK fun fr hK => ?_
     replace a0_data_f := Els.mono rep_U8 a0_data_f l3
     replace a1_data_f := Els.mono rep_U8 a1_data_f l3
     obtain ⟨y1, hy1, h⟩ := bind_some h
     refine qo 40 hK (s_call hK.at_ hS ent99_10 rfl rfl rfl rfl (G.bytes_Equal_spec a0_data_f a1_data_f hy1) (by kernel_rfl) ?_)
     clear hK fr hS; rintro _ m4 _ l4 hS ⟨rfl, rfl⟩ fr hK
     replace hS : St _ m m4 [.box b2 #[.int .i64 a1.kind, .int .i64 a1.to, .int .i64 a1.from_, .int .i64 a1.len, .slice a1_data_a a1.data.length a1_data_c] 50, .box b1 #[.int .i64 a0.kind, .int .i64 a0.to, .int .i64 a0.from_, .int .i64 a0.len, .slice a0_data_a a0.data.length a0_data_c] 50] := hS
     refine qp 41 (.bool y1) hK fun fr hK => ?_
     refine qp 4 (.bool y1) hK fun fr hK => ?_
     refine wpListIn_nil (then_n ?_)
     refine wpIn_ret ?_
     replace h := Option.some.inj h; subst h
     refine ret_of [.tmp 4] [.bool y1] rfl hK (.tmp rfl .nil) hS.dropAll ?_
     exact ⟨rfl, rfl⟩
    ·
     replace hK := hK.more (t := 37) (v' := .bool false) rfl (by rw [hb4])
     replace hK := hK.more (t := 36) (v' := .bool false) rfl (by rw [hb4])
     replace hK := hK.more (t := 35) (v' := .bool false) rfl (by rw [hb4])
     replace h := ite_f (ne_of_beq_false hb4) h
     refine qs 38 hK ?_
     clear hK fr; intro fr hK
     refine qs 39 hK ?_
     clear hK fr; intro fr hK
     refine qs 40 hK ?_
     clear hK fr; intro fr hK
     refine qp 41 (.bool false) hK fun fr hK => ?_
     refine qp 4 (.bool false) hK fun fr hK => ?_
     refine wpListIn_nil (then_n ?_)
     refine wpIn_ret ?_
     replace h := Option.some.inj h; subst h
     refine ret_of [.tmp 4] [.bool false] rfl hK (.tmp rfl .nil) hS.dropAll ?_
     exact ⟨rfl, rfl⟩
   ·
    replace hK := hK.more (t := 30) (v' := .bool false) rfl (by rw [hb3])
    replace hK := hK.more (t := 29) (v' := .bool false) rfl (by rw [hb3])
    replace hK := hK.more (t := 28) (v' := .bool false) rfl (by rw [hb3])
    replace h := ite_f (ne_of_beq_false hb3) h
    refine qs 31 hK ?_
    clear hK fr; intro fr hK
    refine qs 32 hK ?_
    clear hK fr; intro fr hK
    refine qs 33 hK ?_
    clear hK fr; intro fr hK
    refine qs 34 hK ?_
    clear hK fr; intro fr hK
    refine qs 35 hK ?_
    clear hK fr; intro fr hK
    refine qp 36 (.bool false) hK fun fr hK => ?_
    refine qp 37 (.bool false) hK fun fr hK => ?_
    refine qs 38 hK ?_
    clear hK fr; intro fr hK
    refine qs 39 hK ?_
    clear hK fr; intro fr hK
    refine qs 40 hK ?_
    clear hK fr; intro fr hK
    refine qp 41 (.bool false) hK fun fr hK => ?_
    refine qp 4 (.bool false) hK fun fr hK => ?_
    refine wpListIn_nil (then_n ?_)
    refine wpIn_ret ?_
    replace h := Option.some.inj h; subst h
    refine ret_of [.tmp 4] [.bool false] rfl hK (.tmp rfl .nil) hS.dropAll ?_
    exact ⟨rfl, rfl⟩
  ·
   replace hK := hK.more (t := 23) (v' := .bool false) rfl (by rw [hb2])
   replace hK := hK.more (t := 22) (v' := .bool false) rfl (by rw [hb2])
   replace hK := hK.more (t := 21) (v' := .bool false) rfl (by rw [hb2])
   replace h := ite_f (ne_of_beq_false hb2) h
   refine qs 24 hK ?_
   clear hK fr; intro fr hK
   refine qs 25 hK ?_
   clear hK fr; intro fr hK
   refine qs 26 hK ?_
   clear hK fr; intro fr hK
   refine qs 27 hK ?_
   clear hK fr; intro fr hK
   refine qs 28 hK ?_
   clear hK fr; intro fr hK
   refine qp 29 (.bool false) hK fun fr hK => ?_
   refine qp 30 (.bool false) hK fun fr hK => ?_
   refine qs 31 hK ?_
   clear hK fr; intro fr hK
   refine qs 32 hK ?_
   clear hK fr; intro fr hK
   refine qs 33 hK ?_
   clear hK fr; intro fr hK
   refine qs 34 hK ?_
   clear hK fr; intro fr hK
   refine qs 35 hK ?_
   clear hK fr; intro fr hK
   refine qp 36 (.bool false) hK fun fr hK => ?_
   refine qp 37 (.bool false) hK fun fr hK => ?_
   refine qs 38 hK ?_
   clear hK fr; intro fr hK
   refine qs 39 hK ?_
   clear hK fr; intro fr hK
   refine qs 40 hK ?_
   clear hK fr; intro fr hK
   refine qp 41 (.bool false) hK fun fr hK => ?_
   refine qp 4 (.bool false) hK fun fr hK => ?_
   refine wpListIn_nil (then_n ?_)
   refine wpIn_ret ?_
   replace h := Option.some.inj h; subst h
   refine ret_of [.tmp 4] [.bool false] rfl hK (.tmp rfl .nil) hS.dropAll ?_
   exact ⟨rfl, rfl⟩
 ·
  replace hK := hK.more (t := 16) (v' := .bool false) rfl (by rw [hb1])
  replace hK := hK.more (t := 15) (v' := .bool false) rfl (by rw [hb1])
  replace h := ite_f (ne_of_beq_false hb1) h
  refine qs 17 hK ?_
  clear hK fr; intro fr hK
  refine qs 18 hK ?_
  clear hK fr; intro fr hK
  refine qs 19 hK ?_
  clear hK fr; intro fr hK
  refine qs 20 hK ?_
  clear hK fr; intro fr hK
  refine qs 21 hK ?_
  clear hK fr; intro fr hK
  refine qp 22 (.bool false) hK fun fr hK => ?_
  refine qp 23 (.bool false) hK fun fr hK => ?_
  refine qs 24 hK ?_
  clear hK fr; intro fr hK
  refine qs 25 hK ?_
  clear hK fr; intro fr hK
  refine qs 26 hK ?_
  clear hK fr; intro fr hK
  refine qs 27 hK ?_
  clear hK fr; intro fr hK
  refine qs 28 hK ?_
  clear hK fr; intro fr hK
  refine qp 29 (.bool false) hK fun fr hK => ?_
  refine qp 30 (.bool false) hK fun fr hK => ?_
  refine qs 31 hK ?_
  clear hK fr; intro fr hK
  refine qs 32 hK ?_
  clear hK fr; intro fr hK
  refine qs 33 hK ?_
  clear hK fr; intro fr hK
  refine qs 34 hK ?_
  clear hK fr; intro fr hK
  refine qs 35 hK ?_
  clear hK fr; intro fr hK
  refine qp 36 (.bool false) hK fun fr hK => ?_
  refine qp 37 (.bool false) hK fun fr hK => ?_
  refine qs 38 hK ?_
  clear hK fr; intro fr hK
  refine qs 39 hK ?_
  clear hK fr; intro fr hK
  refine qs 40 hK ?_
  clear hK fr; intro fr hK
  refine qp 41 (.bool false) hK fun fr hK => ?_
  refine qp 4 (.bool false) hK fun fr hK => ?_
  refine wpListIn_nil (then_n ?_)
  refine wpIn_ret ?_
  replace h := Option.some.inj h; subst h
  refine ret_of [.tmp 4] [.bool false] rfl hK (.tmp rfl .nil) hS.dropAll ?_
  exact ⟨rfl, rfl⟩
set_option maxRecDepth 100000 in
set_option maxHeartbeats 1000000 in
theorem G.slices_EqualFunc_api_Command_api_Command_api_Command_api_Command_command_Same_spec {m : Mem} {a0 : List G.Command} {a0_a : Option Addr} {a0_c : Nat} {a1 : List G.Command} {a1_a : Option Addr} {a1_c : Nat} {a2 : Unit} (a0_f : Els is_G_Command m 5 a0_a a0_c a0) (a1_f : Els is_G_Command m 5 a1_a a1_c a1) {r : Bool} (h : G.slices_EqualFunc_api_Command_api_Command_api_Command_api_Command_command_Same a0 a1 a2 = some r) :
  Spec Try.prog 72 #[.slice a0_a a0.length a0_c, .slice a1_a a1.length a1_c, .func (.func 73) #[] #[]] m [] fun v m' L => L = [] ∧ v = .bool r := by
 unfold G.slices_EqualFunc_api_Command_api_Command_api_Command_api_Command_command_Same at h
 refine enter (args := [_, _, _]) 32 Try.func72 rfl rfl (by simp) fun fr hK => ?_
 have hS := St.refl (Ow.nil m)
 replace hK : Kn 32 fr [(0, .slice a0_a a0.length a0_c), (1, .slice a1_a a1.length a1_c), (2, .func (.func 73) #[] #[])] := hK
 refine w_seq (w_region ?_)
 refine qp 6 (.bool false) hK fun fr hK => ?_
 refine wpListIn_nil (then_n ?_)
 refine w_seq ?_
 refine w_seq (w_region ?_)
 refine qp 10 (.slice a0_a a0.length a0_c) hK fun fr hK => ?_
 refine qp 11 (.int .i64 (a0.length : Int)) hK fun fr hK => ?_
 refine qp 12 (.slice a1_a a1.length a1_c) hK fun fr hK => ?_
 refine qp 13 (.int .i64 (a1.length : Int)) hK fun fr hK => ?_
 refine qp 14 (.bool ((a0.length : Int) != (a1.length : Int))) hK fun fr hK => ?_
 refine wpListIn_nil (then_n ?_)
 refine w_cond hK rfl (fun hb1 => ?_) (fun hb1 => ?_)
 ·
  replace hK := hK.more (t := 14) (v' := .bool true) rfl (by rw [hb1])
  replace h := ite_t (ne_of_bne hb1) h
  refine w_seq (w_region ?_)
  refine qp 6 (.bool false) hK fun fr hK => ?_
  refine wpListIn_nil (then_n ?_)
  refine wpIn_ret ?_
  refine then_r ?_
  replace h := Option.some.inj h; subst h
  refine ret_of [.tmp 6] [.bool false] rfl hK (.tmp rfl .nil) hS.dropAll ?_
  exact ⟨rfl, rfl⟩
 ·
  replace hK := hK.more (t := 14) (v' := .bool false) rfl (by rw [hb1])
  replace h := ite_f (not_not_intro (eq_of_bne hb1)) h
  refine wpIn_skip ?_
  refine then_n ?_
  refine w_seq ?_
  refine w_seq (w_region ?_)
  refine qp 15 (.slice a0_a a0.length a0_c) hK fun fr hK => ?_
  refine qp 16 (.int .i64 (a0.length : Int)) hK fun fr hK => ?_
  refine qp 17 (.int .i64 0) hK fun fr hK => ?_
  refine wpListIn_nil (then_n ?_)
  refine wpIn_block ?_
  refine w_loopL h (fun (s1 : Int) fr ww => ∃ m1 : Mem, m1.w = ww ∧ Kn 32 fr [(1, .slice a1_a a1.length a1_c), (2, .func (.func 73) #[] #[]), (15, .slice a0_a a0.length a0_c), (16, .int .i64 (a0.length : Int)), (17, .int .i64 s1)] ∧ Le m m1 ∧ St (blocksOf []) m m1 []) ?_ ?_
  · exact ⟨m, rfl, hK.only [1, 2, 15, 16, 17], Le.refl _, hS⟩
  clear hK hS fr h
  rintro k1 s1 x1 fr _ ⟨m1, rfl, hK, l1, hS⟩ h hn1
  unfold G.slices_EqualFunc_api_Command_api_Command_api_Command_api_Command_command_Same_l1 at h
  refine w_seq (w_region ?_)
  refine qp 18 (.bool (decide (s1 < (a0.length : Int)))) hK fun fr hK => ?_
  refine wpListIn_nil (then_n ?_)
  refine w_seq ?_
  refine w_cond hK rfl (fun hb2 => ?_) (fun hb2 => ?_)
  ·
   replace hK := hK.more (t := 18) (v' := .bool true) rfl (by rw [hb2])
   replace h := ite_t (of_decide_eq_true hb2) h
   refine wpIn_skip ?_
   refine then_n ?_
   refine w_seq ?_
   refine wpIn_block ?_
   refine w_seq (w_region ?_)
   refine qp 19 (.int .i64 s1) hK fun fr hK => ?_
   replace a0_f := Els.mono rep_G_Command a0_f l1
   obtain ⟨x2, hy1, h⟩ := bind_some h
   refine qo 20 hK (s_idx elT25_10 a0_f hy1 hK.at_ rfl rfl rfl ?_)
   clear hK fr; intro b1 p1 cs1 hR1 hA1 fr hK
   obtain ⟨e1_data_a, e1_data_c, rfl, e1_data_f⟩ := hR1
   refine qo 21 hK (s_loadAtN [.int .i64 x2.kind, .int .i64 x2.to, .int .i64 x2.from_, .int .i64 x2.len, .slice e1_data_a x2.data.length e1_data_c] hK.at_ hA1 0 rfl rfl rfl (by kernel_rfl) (by kernel_rfl) ?_)
   clear hK fr; intro fr hK
   refine qo 8 hK (s_alloc (.agg #[.int .i64 0, .int .i64 0, .int .i64 0, .int .i64 0, .slice none 0 0]) hK.at_ hS rfl (by kernel_rfl) ?_)
   clear hK fr hS; intro m2 b2 b2z l2 hS fr hK
   refine qp 7 (.int .i64 s1) hK fun fr hK => ?_
   refine qo0 hK (s_storeAll hK.at_ 0 hS rfl rfl rfl rfl (by kernel_rfl) (by kernel_rfl) (by kernel_rfl) ?_)
   clear hK fr hS; intro m3 l3 hS fr hK
   replace hS : St _ m m3 [.box b2 #[.int .i64 x2.kind, .int .i64 x2.to, .int .i64 x2.from_, .int .i64 x2.len, .slice e1_data_a x2.data.length e1_data_c] 50] := hS
   refine wpListIn_nil (then_n ?_)
   refine w_seq (w_region ?_)
   refine qp 22 (.slice a1_a a1.length a1_c) hK fun fr hK => ?_
   refine qp 23 (.int .i64 s1) hK fun fr hK => ?_
   replace a1_f := Els.mono rep_G_Command a1_f (l1.trans (l2.trans l3))
   obtain ⟨x3, hy2, h⟩ := bind_some h
   refine qo 24 hK (s_idx elT25_10 a1_f hy2 hK.at_ rfl rfl rfl ?_)
   clear hK fr; intro b3 p2 cs2 hR2 hA2 fr hK
   obtain ⟨e2_data_a, e2_data_c, rfl, e2_data_f⟩ := hR2
   refine qo 25 hK (s_loadAtN [.int .i64 x3.kind, .int .i64 x3.to, .int .i64 x3.from_, .int .i64 x3.len, .slice e2_data_a x3.data.length e2_data_c] hK.at_ hA2 0 rfl rfl rfl (by kernel_rfl) (by kernel_rfl) ?_)
   clear hK fr; intro fr hK
   refine qo 9 hK (s_alloc (.agg #[.int .i64 0, .int .i64 0, .int .i64 0, .int .i64 0, .slice none 0 0]) hK.at_ hS rfl (by kernel_rfl) ?_)
   clear hK fr hS; intro m4 b4 b4z l4 hS fr hK
   refine qo0 hK (s_storeAll hK.at_ 0 hS rfl rfl rfl rfl (by kernel_rfl) (by kernel_rfl) (by kernel_rfl) ?_)
   clear hK fr hS; intro m5 l5 hS fr hK
   replace hS : St _ m m5 [.box b4 #[.int .i64 x3.kind, .int .i64 x3.to, .int .i64 x3.from_, .int .i64 x3.len, .slice e2_data_a x3.data.length e2_data_c] 50, .box b2 #[.int .i64 x2.kind, .int .i64 x2.to, .int .i64 x2.from_, .int .i64 x2.len, .slice e1_data_a x2.data.length e1_data_c] 50] := hS
   refine wpListIn_nil (then_n ?_)
   refine w_seq (w_region ?_)
   refine qp 26 (.func (.func 73) #[] #[]) hK fun fr hK => ?_
   refine qo 27 hK (s_loadAll hK.at_ hS 1 rfl rfl rfl (by kernel_rfl) ?_)
   clear hK fr; intro fr hK
   refine qo 28 hK (s_loadAll hK.at_ hS 0 rfl rfl rfl (by kernel_rfl) ?_)
   clear hK fr; intro fr hK
   replace e1_data_f := Els.mono rep_U8 e1_data_f (l2.trans (l3.trans (l4.trans l5)))
   replace e2_data_f := Els.mono rep_U8 e2_data_f (l4.trans l5)
   obtain ⟨y1, hy3, h⟩ := bind_some h
   refine qo 29 hK (s_call hK.at_ hS ent73_10 rfl rfl rfl rfl (G.command_Same_spec e1_data_f e2_data_f hy3) (by kernel_rfl) ?_)
   clear hK fr hS; rintro _ m6 _ l6 hS ⟨rfl, rfl⟩ fr hK
   replace hS : St _ m m6 [.box b4 #[.int .i64 x3.kind, .int .i64 x3.to, .int .i64 x3.from_, .int .i64 x3.len, .slice e2_data_a x3.data.length e2_data_c] 50, .box b2 #[.int .i64 x2.kind, .int .i64 x2.to, .int .i64 x2.from_, .int .i64 x2.len, .slice e1_data_a x2.data.length e1_data_c] 50] := hS
   refine qp 30 (.bool (!y1)) hK fun fr hK => ?_
   refine wpListIn_nil (then_n ?_)
   refine w_cond hK rfl (fun hb3 => ?_) (fun hb3 => ?_)
   ·
    replace hK := hK.more (t := 30) (v' := .bool true) rfl (by rw [hb3])
    replace h := ite_t ((Bool.not_eq_true' _).mp hb3) h
    refine w_seq (w_region ?_)
    refine qp 6 (.bool false) hK fun fr hK => ?_
    refine wpListIn_nil (then_n ?_)
    refine wpIn_ret ?_
    refine blk_r ?_
    refine then_r ?_
    refine then_r ?_
    refine blk_r ?_
    refine then_r ?_
    replace h := Option.some.inj h; subst h
    replace h := Option.some.inj (loop_out hn1); subst h
    refine ret_of [.tmp 6] [.bool false] rfl hK (.tmp rfl .nil) hS.dropAll ?_
    exact ⟨rfl, rfl⟩
   ·
    replace hK := hK.more (t := 30) (v' := .bool false) rfl (by rw [hb3])
    replace h := ite_f (not_false_of ((Bool.not_eq_false' _).mp hb3)) h
    refine wpIn_skip ?_
    refine blk_n ?_
    refine then_n ?_
    refine w_region ?_
    refine qp 31 (.int .i64 (IntKind.i64.wrap (s1 + 1))) hK fun fr hK => ?_
    refine qp 17 (.int .i64 (IntKind.i64.wrap (s1 + 1))) hK fun fr hK => ?_
    refine wpListIn_nil (then_n ?_)
    replace hS := St.keep (L := []) (R := [.box b4 #[.int .i64 x3.kind, .int .i64 x3.to, .int .i64 x3.from_, .int .i64 x3.len, .slice e2_data_a x3.data.length e2_data_c] 50, .box b2 #[.int .i64 x2.kind, .int .i64 x2.to, .int .i64 x2.from_, .int .i64 x2.len, .slice e1_data_a x2.data.length e1_data_c] 50]) hS
    replace h := Option.some.inj h; subst h
    obtain ⟨kq, hk1, hk2⟩ := hn1
    exact ⟨kq, hk1, _, hk2, m6, rfl, hK.only [1, 2, 15, 16, 17], l1.trans (l2.trans (l3.trans (l4.trans (l5.trans l6)))), hS⟩
  ·
   replace hK := hK.more (t := 18) (v' := .bool false) rfl (by rw [hb2])
   replace h := ite_f (of_decide_eq_false hb2) h
   refine wpIn_exit ?_
   refine then_x ?_
   refine then_x ?_
   refine blk_e ?_
   refine then_n ?_
   refine w_seq (w_region ?_)
   refine qp 6 (.bool true) hK fun fr hK => ?_
   refine wpListIn_nil (then_n ?_)
   refine wpIn_ret ?_
   replace h := Option.some.inj h; subst h
   replace h := Option.some.inj (loop_out hn1); subst h
   refine ret_of [.tmp 6] [.bool true] rfl hK (.tmp rfl .nil) hS.dropAll ?_
   exact ⟨rfl, rfl⟩
set_option maxRecDepth 100000 in
set_option maxHeartbeats 1000000 in
theorem G.delta_Same_spec {m : Mem} {a0 : G.Delta} {a0_commands_a : Option Addr} {a0_commands_c : Nat} {a1 : G.Delta} {a1_commands_a : Option Addr} {a1_commands_c : Nat} (a0_commands_f : Els is_G_Command m 5 a0_commands_a a0_commands_c a0.commands) (a1_commands_f : Els is_G_Command m 5 a1_commands_a a1_commands_c a1.commands) {r : Bool} (h : G.delta_Same a0 a1 = some r) :
  Spec Try.prog 35 #[.agg (G_Delta_cells a0 a0_commands_a a0_commands_c), .agg (G_Delta_cells a1 a1_commands_a a1_commands_c)] m [] fun v m' L => L = [] ∧ v = .bool r := by
 unfold G.delta_Same at h
 refine enter (args := [_, _]) 38 Try.func35 rfl rfl (by simp) fun fr hK => ?_
 have hS := St.refl (Ow.nil m)
 replace hK : Kn 38 fr [(0, .agg (G_Delta_cells a0 a0_commands_a a0_commands_c)), (1, .agg (G_Delta_cells a1 a1_commands_a a1_commands_c))] := hK
 refine w_seq (w_region ?_)
 refine qo 2 hK (s_box hK.at_ hS rfl rfl ?_)
 clear hK fr hS; intro m1 b1 b1z l1 hS fr hK
 refine qo 3 hK (s_box hK.at_ hS rfl rfl ?_)
 clear hK fr hS; intro m2 b2 b2z l2 hS fr hK
 replace hS : St _ m m2 [.box b2 (G_Delta_cells a1 a1_commands_a a1_commands_c) 27, .box b1 (G_Delta_cells a0 a0_commands_a a0_commands_c) 27] := hS
 refine qp 4 (.bool false) hK fun fr hK => ?_
 refine wpListIn_nil (then_n ?_)
 refine w_seq (w_region ?_)
 refine qp 5 (.pointer (some ⟨b1, 0, none⟩)) hK fun fr hK => ?_
 refine qo 6 hK (s_load hK.at_ hS 1 rfl rfl rfl rfl (by kernel_rfl) ?_)
 clear hK fr; intro fr hK
 refine qp 7 (.pointer (some ⟨b2, 0, none⟩)) hK fun fr hK => ?_
 refine qo 8 hK (s_load hK.at_ hS 0 rfl rfl rfl rfl (by kernel_rfl) ?_)
 clear hK fr; intro fr hK
 refine qp 9 (.bool (a0.oldLen == a1.oldLen)) hK fun fr hK => ?_
 refine qp 10 (.bool (a0.oldLen == a1.oldLen)) hK fun fr hK => ?_
 refine split_b (x := (a0.oldLen == a1.oldLen)) (fun hb1 => ?_) (fun hb1 => ?_)
 ·
  replace hK := hK.more (t := 10) (v' := .bool true) rfl (by rw [hb1])
  replace hK := hK.more (t := 9) (v' := .bool true) rfl (by rw [hb1])
  replace h := ite_t (eq_of_beq hb1) h
  refine qp 11 (.pointer (some ⟨b1, 1, none⟩)) hK fun fr hK => ?_
  refine qo 12 hK (s_load hK.at_ hS 1 rfl rfl rfl rfl (by kernel_rfl) ?_)
  clear hK fr; intro fr hK
  refine qp 13 (.pointer (some ⟨b2, 1, none⟩)) hK fun fr hK => ?_
  refine qo 14 hK (s_load hK.at_ hS 0 rfl rfl rfl rfl (by kernel_rfl) ?_)
  clear hK fr; intro fr hK
  refine qp 15 (.bool (a0.newLen == a1.newLen)) hK fun fr hK => ?_
  refine qp 16 (.bool (a0.newLen == a1.newLen)) hK fun fr hK => ?_
  refine qp 17 (.bool (a0.newLen == a1.newLen)) hK fun fr hK => ?_
  refine split_b (x := (a0.newLen == a1.newLen)) (fun hb2 => ?_) (fun hb2 => ?_)
  ·
   replace hK := hK.more (t := 17) (v' := .bool true) rfl (by rw [hb2])
   replace hK := hK.more (t := 16) (v' := .bool true) rfl (by rw [hb2])
   replace hK := hK.more (t := 15) (v' := .bool true) rfl (by rw [hb2])
   replace h := ite_t (eq_of_beq hb2) h
   refine qp 18 (.pointer (some ⟨b1, 2, none⟩)) hK fun fr hK => ?_
   refine qo 19 hK (s_loadN [.int .u8 ((a0.oldHash 0).toNat : Int), .int .u8 ((a0.oldHash 1).toNat : Int), .int .u8 ((a0.oldHash 2).toNat : Int), .int .u8 ((a0.oldHash 3).toNat : Int), .int .u8 ((a0.oldHash 4).toNat : Int), .int .u8 ((a0.oldHash 5).toNat : Int), .int .u8 ((a0.oldHash 6).toNat : Int), .int .u8 ((a0.oldHash 7).toNat : Int), .int .u8 ((a0.oldHash 8).toNat : Int), .int .u8 ((a0.oldHash 9).toNat : Int), .int .u8 ((a0.oldHash 10).toNat : Int), .int .u8 ((a0.oldHash 11).toNat : Int), .int .u8 ((a0.oldHash 12).toNat : Int), .int .u8 ((a0.oldHash 13).toNat : Int), .int .u8 ((a0.oldHash 14).toNat : Int), .int .u8 ((a0.oldHash 15).toNat : Int), .int .u8 ((a0.oldHash 16).toNat : Int), .int .u8 ((a0.oldHash 17).toNat : Int), .int .u8 ((a0.oldHash 18).toNat : Int), .int .u8 ((a0.oldHash 19).toNat : Int), .int .u8 ((a0.oldHash 20).toNat : Int), .int .u8 ((a0.oldHash 21).toNat : Int), .int .u8 ((a0.oldHash 22).toNat : Int), .int .u8 ((a0.oldHash 23).toNat : Int), .int .u8 ((a0.oldHash 24).toNat : Int), .int .u8 ((a0.oldHash 25).toNat : Int), .int .u8 ((a0.oldHash 26).toNat : Int), .int .u8 ((a0.oldHash 27).toNat : Int), .int .u8 ((a0.oldHash 28).toNat : Int), .int .u8 ((a0.oldHash 29).toNat : Int), .int .u8 ((a0.oldHash 30).toNat : Int), .int .u8 ((a0.oldHash 31).toNat : Int)] hK.at_ hS 1 rfl rfl rfl (by kernel_rfl) (by kernel_rfl) ?_)
   clear hK fr; intro fr hK
   refine qp 20 (.pointer (some ⟨b2, 2, none⟩)) hK fun fr hK => ?_
   refine qo 21 hK (s_loadN [.int .u8 ((a1.oldHash 0).toNat : Int), .int .u8 ((a1.oldHash 1).toNat : Int), .int .u8 ((a1.oldHash 2).toNat : Int), .int .u8 ((a1.oldHash 3).toNat : Int), .int .u8 ((a1.oldHash 4).toNat : Int), .int .u8 ((a1.oldHash 5).toNat : Int), .int .u8 ((a1.oldHash 6).toNat : Int), .int .u8 ((a1.oldHash 7).toNat : Int), .int .u8 ((a1.oldHash 8).toNat : Int), .int .u8 ((a1.oldHash 9).toNat : Int), .int .u8 ((a1.oldHash 10).toNat : Int), .int .u8 ((a1.oldHash 11).toNat : Int), .int .u8 ((a1.oldHash 12).toNat : Int), .int .u8 ((a1.oldHash 13).toNat : Int), .int .u8 ((a1.oldHash 14).toNat : Int), .int .u8 ((a1.oldHash 15).toNat : Int), .int .u8 ((a1.oldHash 16).toNat : Int), .int .u8 ((a1.oldHash 17).toNat : Int), .int .u8 ((a1.oldHash 18).toNat : Int), .int .u8 ((a1.oldHash 19).toNat : Int), .int .u8 ((a1.oldHash 20).toNat : Int), .int .u8 ((a1.oldHash 21).toNat : Int), .int .u8 ((a1.oldHash 22).toNat : Int), .int .u8 ((a1.oldHash 23).toNat : Int), .int .u8 ((a1.oldHash 24).toNat : Int), .int .u8 ((a1.oldHash 25).toNat : Int), .int .u8 ((a1.oldHash 26).toNat : Int), .int .u8 ((a1.oldHash 27).toNat : Int), .int .u8 ((a1.oldHash 28).toNat : Int), .int .u8 ((a1.oldHash 29).toNat : Int), .int .u8 ((a1.oldHash 30).toNat : Int), .int .u8 ((a1.oldHash 31).toNat : Int)] hK.at_ hS 0 rfl rfl rfl (by kernel_rfl) (by kernel_rfl) ?_)
   clear hK fr; intro fr hK
   refine qr 22 (.bool (hashEq a0.oldHash a1.oldHash)) hK (by exact run_binAgg rfl rfl rfl (by kernel_rfl) (eqH24_10 a0.oldHash a1.oldHash _)) ?_
   clear hK fr; intro fr hK
   refine qp 23 (.bool (hashEq a0.oldHash a1.oldHash)) hK fun fr hK => ?_
   refine qp 24 (.bool (hashEq a0.oldHash a1.oldHash)) hK fun fr hK => ?_
   refine split_b (x := (hashEq a0.oldHash a1.oldHash)) (fun hb3 => ?_) (fun hb3 => ?_)
   ·
    replace hK := hK.more (t := 24) (v' := .bool true) rfl (by rw [hb3])
    replace hK := hK.more (t := 23) (v' := .bool true) rfl (by rw [hb3])
    replace hK := hK.more (t := 22) (v' := .bool true) rfl (by rw [hb3])
    replace h := ite_t (hb3) h
    refine qp 25 (.pointer (some ⟨b1, 34, none⟩)) hK fun fr hK => ?_
    refine qo 26 hK (s_loadN [.int .u8 ((a0.newHash 0).toNat : Int), .int .u8 ((a0.newHash 1).toNat : Int), .int .u8 ((a0.newHash 2).toNat : Int), .int .u8 ((a0.newHash 3).toNat : Int), .int .u8 ((a0.newHash 4).toNat : Int), .int .u8 ((a0.newHash 5).toNat : Int), .int .u8 ((a0.newHash 6).toNat : Int), .int .u8 ((a0.newHash 7).toNat : Int), .int .u8 ((a0.newHash 8).toNat : Int), .int .u8 ((a0.newHash 9).toNat : Int), .int .u8 ((a0.newHash 10).toNat : Int), .int .u8 ((a0.newHash 11).toNat : Int), .int .u8 ((a0.newHash 12).toNat : Int), .int .u8 ((a0.newHash 13).toNat : Int), .int .u8 ((a0.newHash 14).toNat : Int), .int .u8 ((a0.newHash 15).toNat : Int), .int .u8 ((a0.newHash 16).toNat : Int), .int .u8 ((a0.newHash 17).toNat : Int), .int .u8 ((a0.newHash 18).toNat : Int), .int .u8 ((a0.newHash 19).toNat : Int), .int .u8 ((a0.newHash 20).toNat : Int), .int .u8 ((a0.newHash 21).toNat : Int), .int .u8 ((a0.newHash 22).toNat : Int), .int .u8 ((a0.newHash 23).toNat : Int), .int .u8 ((a0.newHash 24).toNat : Int), .int .u8 ((a0.newHash 25).toNat : Int), .int .u8 ((a0.newHash 26).toNat : Int), .int .u8 ((a0.newHash 27).toNat : Int), .int .u8 ((a0.newHash 28).toNat : Int), .int .u8 ((a0.newHash 29).toNat : Int), .int .u8 ((a0.newHash 30).toNat : Int), .int .u8 ((a0.newHash 31).toNat : Int)] hK.at_ hS 1 rfl rfl rfl (by kernel_rfl) (by kernel_rfl) ?_)
    clear hK fr; intro fr hK
    refine qp 27 (.pointer (some ⟨b2, 34, none⟩)) hK fun fr hK => ?_
    refine qo 28 hK (s_loadN [.int .u8 ((a1.newHash 0).toNat : Int), .int .u8 ((a1.newHash 1).toNat : Int), .int .u8 ((a1.newHash 2).toNat : Int), .int .u8 ((a1.newHash 3).toNat : Int), .int .u8 ((a1.newHash 4).toNat : Int), .int .u8 ((a1.newHash 5).toNat : Int), .int .u8 ((a1.newHash 6).toNat : Int), .int .u8 ((a1.newHash 7).toNat : Int), .int .u8 ((a1.newHash 8).toNat : Int), .int .u8 ((a1.newHash 9).toNat : Int), .int .u8 ((a1.newHash 10).toNat : Int), .int .u8 ((a1.newHash 11).toNat : Int), .int .u8 ((a1.newHash 12).toNat : Int), .int .u8 ((a1.newHash 13).toNat : Int), .int .u8 ((a1.newHash 14).toNat : Int), .int .u8 ((a1.newHash 15).toNat : Int), .int .u8 ((a1.newHash 16).toNat : Int), .int .u8 ((a1.newHash 17).toNat : Int), .int .u8 ((a1.newHash 18).toNat : Int), .int .u8 ((a1.newHash 19).toNat : Int), .int .u8 ((a1.newHash 20).toNat : Int), .int .u8 ((a1.newHash 21).toNat : Int), .int .u8 ((a1.newHash 22).toNat : Int), .int .u8 ((a1.newHash 23).toNat : Int), .int .u8 ((a1.newHash 24).toNat : Int), .int .u8 ((a1.newHash 25).toNat : Int), .int .u8 ((a1.newHash 26).toNat : Int), .int .u8 ((a1.newHash 27).toNat : Int), .int .u8 ((a1.newHash 28).toNat : Int), .int .u8 ((a1.newHash 29).toNat : Int), .int .u8 ((a1.newHash 30).toNat : Int), .int .u8 ((a1.newHash 31).toNat : Int)] hK.at_ hS 0 rfl rfl rfl (by kernel_rfl) (by kernel_rfl) ?_)
    clear hK fr; intro fr hK
    refine qr 29 (.bool (hashEq a0.newHash a1.newHash)) hK (by exact run_binAgg rfl rfl rfl (by kernel_rfl) (eqH24_10 a0.newHash a1.newHash _)) ?_
    clear hK fr; intro fr hK
    refine qp 30 (.bool (hashEq a0.newHash a1.newHash)) hK fun fr hK => ?_
    refine qp 31 (.bool (hashEq a0.newHash a1.newHash)) hK fun fr hK => ?_
    refine split_b (x := (hashEq a0.newHash a1.newHash)) (fun hb4 => ?_) (fun hb4 => ?_)
    ·
     replace hK := hK.more (t := 31) (v' := .bool true) rfl (by rw [hb4])
     replace hK := hK.more (t := 30) (v' := .bool true) rfl (by rw [hb4])
     replace hK := hK.more (t := 29) (v' := .bool true) rfl (by rw [hb4])
     replace h := ite_t (hb4) h
     refine qp 32 (.pointer (some ⟨b1, 66, none⟩)) hK fun fr hK => ?_
     refine qo 33 hK (s_load hK.at_ hS 1 rfl rfl rfl rfl (by kernel_rfl) ?_)
     clear hK fr; intro fr hK
     refine qp 34 (.pointer (some ⟨b2, 66, none⟩)) hK fun fr hK => ?_
     refine qo 35 hK (s_load hK.at_ hS 0 rfl rfl rfl rfl (by kernel_rfl) ?_)
     clear hK fr; intro fr hK
     replace a0_commands_f := Els.mono rep_G_Command a0_commands_f (l1.trans l2)
     replace a1_commands_f := Els.mono rep_G_Command a1_commands_f (l1.trans l2)
     obtain ⟨y1, hy1, h⟩ := bind_some h
     refine qo 36 hK (s_call hK.at_ hS ent72_10 rfl rfl rfl rfl (G.slices_EqualFunc_api_Command_api_Command_api_Command_api_Command_command_Same_spec a0_commands_f a1_commands_f hy1) (by kernel_rfl) ?_)
     clear hK fr hS; rintro _ m3 _ l3 hS ⟨rfl, rfl⟩ fr hK
     replace hS : St _ m m3 [.box b2 (G_Delta_cells a1 a1_commands_a a1_commands_c) 27, .box b1 (G_Delta_cells a0 a0_commands_a a0_commands_c) 27] := hS
     refine qp 37 (.bool y1) hK fun fr hK => ?_
     refine qp 4 (.bool y1) hK fun fr hK => ?_
     refine wpListIn_nil (then_n ?_)
     refine wpIn_ret ?_
     replace h := Option.some.inj h; subst h
     refine ret_of [.tmp 4] [.bool y1] rfl hK (.tmp rfl .nil) hS.dropAll ?_
     exact ⟨rfl, rfl⟩
    ·
     replace hK := hK.more (t := 31) (v' := .bool false) rfl (by rw [hb4])
     replace hK := hK.more (t := 30) (v' := .bool false) rfl (by rw [hb4])
     replace hK := hK.more (t := 29) (v' := .bool false) rfl (by rw [hb4])
     replace h := ite_f (ne_true_of_eq_false hb4) h
     refine qs 32 hK ?_
     clear hK fr; intro fr hK
     refine qs 33 hK ?_
     clear hK fr; intro fr hK
     refine qs 34 hK ?_
     clear hK fr; intro fr hK
     refine qs 35 hK ?_
     clear hK fr; intro fr hK
     refine qs 36 hK ?_
     clear hK fr; intro fr hK
     refine qp 37 (.bool false) hK fun fr hK => ?_
     refine qp 4 (.bool false) hK fun fr hK => ?_
     refine wpListIn_nil (then_n ?_)
     refine wpIn_ret ?_
     replace h := Option.some.inj h; subst h
     refine ret_of [.tmp 4] [.bool false] rfl hK (.tmp rfl .nil) hS.dropAll ?_
     exact ⟨rfl, rfl⟩
   ·
    replace hK := hK.more (t := 24) (v' := .bool false) rfl (by rw [hb3])
    replace hK := hK.more (t := 23) (v' := .bool false) rfl (by rw [hb3])
    replace hK := hK.more (t := 22) (v' := .bool false) rfl (by rw [hb3])
    replace h := ite_f (ne_true_of_eq_false hb3) h
    refine qs 25 hK ?_
    clear hK fr; intro fr hK
    refine qs 26 hK ?_
    clear hK fr; intro fr hK
    refine qs 27 hK ?_
    clear hK fr; intro fr hK
    refine qs 28 hK ?_
    clear hK fr; intro fr hK
    refine qs 29 hK ?_
    clear hK fr; intro fr hK
    refine qp 30 (.bool false) hK fun fr hK => ?_
    refine qp 31 (.bool false) hK fun fr hK => ?_
    refine qs 32 hK ?_
    clear hK fr; intro fr hK
    refine qs 33 hK ?_
    clear hK fr; intro fr hK
    refine qs 34 hK ?_
    clear hK fr; intro fr hK
    refine qs 35 hK ?_
    clear hK fr; intro fr hK
    refine qs 36 hK ?_
    clear hK fr; intro fr hK
    refine qp 37 (.bool false) hK fun fr hK => ?_
    refine qp 4 (.bool false) hK fun fr hK => ?_
    refine wpListIn_nil (then_n ?_)
    refine wpIn_ret ?_
    replace h := Option.some.inj h; subst h
    refine ret_of [.tmp 4] [.bool false] rfl hK (.tmp rfl .nil) hS.dropAll ?_
    exact ⟨rfl, rfl⟩
  ·
   replace hK := hK.more (t := 17) (v' := .bool false) rfl (by rw [hb2])
   replace hK := hK.more (t := 16) (v' := .bool false) rfl (by rw [hb2])
   replace hK := hK.more (t := 15) (v' := .bool false) rfl (by rw [hb2])
   replace h := ite_f (ne_of_beq_false hb2) h
   refine qs 18 hK ?_
   clear hK fr; intro fr hK
   refine qs 19 hK ?_
   clear hK fr; intro fr hK
   refine qs 20 hK ?_
   clear hK fr; intro fr hK
   refine qs 21 hK ?_
   clear hK fr; intro fr hK
   refine qs 22 hK ?_
   clear hK fr; intro fr hK
   refine qp 23 (.bool false) hK fun fr hK => ?_
   refine qp 24 (.bool false) hK fun fr hK => ?_
   refine qs 25 hK ?_
   clear hK fr; intro fr hK
   refine qs 26 hK ?_
   clear hK fr; intro fr hK
   refine qs 27 hK ?_
   clear hK fr; intro fr hK
   refine qs 28 hK ?_
   clear hK fr; intro fr hK
   refine qs 29 hK ?_
   clear hK fr; intro fr hK
   refine qp 30 (.bool false) hK fun fr hK => ?_
   refine qp 31 (.bool false) hK fun fr hK => ?_
   refine qs 32 hK ?_
   clear hK fr; intro fr hK
   refine qs 33 hK ?_
   clear hK fr; intro fr hK
   refine qs 34 hK ?_
   clear hK fr; intro fr hK
   refine qs 35 hK ?_
   clear hK fr; intro fr hK
   refine qs 36 hK ?_
   clear hK fr; intro fr hK
   refine qp 37 (.bool false) hK fun fr hK => ?_
   refine qp 4 (.bool false) hK fun fr hK => ?_
   refine wpListIn_nil (then_n ?_)
   refine wpIn_ret ?_
   replace h := Option.some.inj h; subst h
   refine ret_of [.tmp 4] [.bool false] rfl hK (.tmp rfl .nil) hS.dropAll ?_
   exact ⟨rfl, rfl⟩
 ·
  replace hK := hK.more (t := 10) (v' := .bool false) rfl (by rw [hb1])
  replace hK := hK.more (t := 9) (v' := .bool false) rfl (by rw [hb1])
  replace h := ite_f (ne_of_beq_false hb1) h
  refine qs 11 hK ?_
  clear hK fr; intro fr hK
  refine qs 12 hK ?_
  clear hK fr; intro fr hK
  refine qs 13 hK ?_
  clear hK fr; intro fr hK
  refine qs 14 hK ?_
  clear hK fr; intro fr hK
  refine qs 15 hK ?_
  clear hK fr; intro fr hK
  refine qp 16 (.bool false) hK fun fr hK => ?_
  refine qp 17 (.bool false) hK fun fr hK => ?_
  refine qs 18 hK ?_
  clear hK fr; intro fr hK
  refine qs 19 hK ?_
  clear hK fr; intro fr hK
  refine qs 20 hK ?_
  clear hK fr; intro fr hK
  refine qs 21 hK ?_
  clear hK fr; intro fr hK
  refine qs 22 hK ?_
  clear hK fr; intro fr hK
  refine qp 23 (.bool false) hK fun fr hK => ?_
  refine qp 24 (.bool false) hK fun fr hK => ?_
  refine qs 25 hK ?_
  clear hK fr; intro fr hK
  refine qs 26 hK ?_
  clear hK fr; intro fr hK
  refine qs 27 hK ?_
  clear hK fr; intro fr hK
  refine qs 28 hK ?_
  clear hK fr; intro fr hK
  refine qs 29 hK ?_
  clear hK fr; intro fr hK
  refine qp 30 (.bool false) hK fun fr hK => ?_
  refine qp 31 (.bool false) hK fun fr hK => ?_
  refine qs 32 hK ?_
  clear hK fr; intro fr hK
  refine qs 33 hK ?_
  clear hK fr; intro fr hK
  refine qs 34 hK ?_
  clear hK fr; intro fr hK
  refine qs 35 hK ?_
  clear hK fr; intro fr hK
  refine qs 36 hK ?_
  clear hK fr; intro fr hK
  refine qp 37 (.bool false) hK fun fr hK => ?_
  refine qp 4 (.bool false) hK fun fr hK => ?_
  refine wpListIn_nil (then_n ?_)
  refine wpIn_ret ?_
  replace h := Option.some.inj h; subst h
  refine ret_of [.tmp 4] [.bool false] rfl hK (.tmp rfl .nil) hS.dropAll ?_
  exact ⟨rfl, rfl⟩
set_option maxRecDepth 100000 in
set_option maxHeartbeats 1000000 in
theorem G.graftlaw05_DeltaWith_spec {m : Mem} {a0 : G.Delta} {a0_commands_a : Option Addr} {a0_commands_c : Nat} {a1 : G.Delta} {a1_commands_a : Option Addr} {a1_commands_c : Nat} (a0_commands_f : Els is_G_Command m 5 a0_commands_a a0_commands_c a0.commands) (a1_commands_f : Els is_G_Command m 5 a1_commands_a a1_commands_c a1.commands) {r : Bool} (h : G.graftlaw05_DeltaWith a0 a1 = some r) :
  Spec Try.prog 12 #[.agg (G_Delta_cells a0 a0_commands_a a0_commands_c), .agg (G_Delta_cells a1 a1_commands_a a1_commands_c)] m [] fun v m' L => L = [] ∧ v = .bool r := by
 unfold G.graftlaw05_DeltaWith at h
 refine enter (args := [_, _]) 53 Try.func12 rfl rfl (by simp) fun fr hK => ?_
 have hS := St.refl (Ow.nil m)
 replace hK : Kn 53 fr [(0, .agg (G_Delta_cells a0 a0_commands_a a0_commands_c)), (1, .agg (G_Delta_cells a1 a1_commands_a a1_commands_c))] := hK
 refine w_seq (w_region ?_)
 refine qo 2 hK (s_box hK.at_ hS rfl rfl ?_)
 clear hK fr hS; intro m1 b1 b1z l1 hS fr hK
 refine qo 3 hK (s_box hK.at_ hS rfl rfl ?_)
 clear hK fr hS; intro m2 b2 b2z l2 hS fr hK
 replace hS : St _ m m2 [.box b2 (G_Delta_cells a1 a1_commands_a a1_commands_c) 27, .box b1 (G_Delta_cells a0 a0_commands_a a0_commands_c) 27] := hS
 refine qp 4 (.bool false) hK fun fr hK => ?_
 refine wpListIn_nil (then_n ?_)
 refine w_seq ?_
 refine w_seq ?_
 obtain ⟨v1, hv1, h⟩ := bind_some h
 refine w_join (fun fr ww => ∃ m3 : Mem, m3.w = ww ∧ Kn 53 fr [(2, .pointer (some ⟨b1, 0, none⟩)), (3, .pointer (some ⟨b2, 0, none⟩)), (13, .bool v1)] ∧ Le m2 m3 ∧ St (blocksOf []) m m3 [.box b2 (G_Delta_cells a1 a1_commands_a a1_commands_c) 27, .box b1 (G_Delta_cells a0 a0_commands_a a0_commands_c) 27]) ?_ ?_
 ·
  clear hK hS fr hv1
  rintro fr _ ⟨m3, rfl, hK, l3, hS⟩
  refine then_n ?_
  refine w_cond hK rfl (fun hb1 => ?_) (fun hb1 => ?_)
  ·
   replace hK := hK.more (t := 13) (v' := .bool true) rfl (by rw [hb1])
   replace h := ite_t (hb1) h
   refine w_seq (w_region ?_)
   obtain ⟨y1, hy1, h⟩ := bind_some h
   refine qo 14 hK (s_call hK.at_ hS ent23_10 rfl rfl rfl rfl (G.graftlaw05_alive_spec hy1) (by kernel_rfl) ?_)
   clear hK fr hS; rintro _ m4 _ l4 hS ⟨rfl, rfl⟩ fr hK
   replace hS : St _ m m4 [.box b2 (G_Delta_cells a1 a1_commands_a a1_commands_c) 27, .box b1 (G_Delta_cells a0 a0_commands_a a0_commands_c) 27] := hS
   refine qp 4 (.bool y1) hK fun fr hK => ?_
   refine wpListIn_nil (then_n ?_)
   refine wpIn_ret ?_
   refine then_r ?_
   replace h := Option.some.inj h; subst h
   refine ret_of [.tmp 4] [.bool y1] rfl hK (.tmp rfl .nil) hS.dropAll ?_
   exact ⟨rfl, rfl⟩
  ·
   replace hK := hK.more (t := 13) (v' := .bool false) rfl (by rw [hb1])
   replace h := ite_f (ne_true_of_eq_false hb1) h
   refine wpIn_skip ?_
   refine then_n ?_
   refine w_seq (w_region ?_)
   refine qo 15 hK (s_loadAll hK.at_ hS 1 rfl rfl rfl (by kernel_rfl) ?_)
   clear hK fr; intro fr hK
   refine qp 16 (.pointer (some ⟨b2, 66, none⟩)) hK fun fr hK => ?_
   refine qo 17 hK (s_load hK.at_ hS 0 rfl rfl rfl rfl (by kernel_rfl) ?_)
   clear hK fr; intro fr hK
   replace a0_commands_f := Els.mono rep_G_Command a0_commands_f (l1.trans (l2.trans l3))
   replace a1_commands_f := Els.mono rep_G_Command a1_commands_f (l1.trans (l2.trans l3))
   obtain ⟨y2, hy2, h⟩ := bind_some h
   refine qo 18 hK (s_call hK.at_ hS ent28_10 rfl rfl rfl rfl (G.delta_With_spec a0_commands_f a1_commands_f hy2) (by kernel_rfl) ?_)
   clear hK fr hS; rintro _ m5 _ l5 hS ⟨c2r0_commands_g, c2r0_commands_c, rfl, rfl, c2r0_commands_f⟩ fr hK
   refine qo 5 hK (s_alloc (.agg #[.int .i64 0, .int .i64 0, .int .u8 0, .int .u8 0, .int .u8 0, .int .u8 0, .int .u8 0, .int .u8 0, .int .u8 0, .int .u8 0, .int .u8 0, .int .u8 0, .int .u8 0, .int .u8 0, .int .u8 0, .int .u8 0, .int .u8 0, .int .u8 0, .int .u8 0, .int .u8 0, .int .u8 0, .int .u8 0, .int .u8 0, .int .u8 0, .int .u8 0, .int .u8 0, .int .u8 0, .int .u8 0, .int .u8 0, .int .u8 0, .int .u8 0, .int .u8 0, .int .u8 0, .int .u8 0, .int .u8 0, .int .u8 0, .int .u8 0, .int .u8 0, .int .u8 0, .int .u8 0, .int .u8 0, .int .u8 0, .int .u8 0, .int .u8 0, .int .u8 0, .int .u8 0, .int .u8 0, .int .u8 0, .int .u8 0, .int .u8 0, .int .u8 0, .int .u8 0, .int .u8 0, .int .u8 0, .int .u8 0, .int .u8 0, .int .u8 0, .int .u8 0, .int .u8 0, .int .u8 0, .int .u8 0, .int .u8 0, .int .u8 0, .int .u8 0, .int .u8 0, .int .u8 0, .slice none 0 0]) hK.at_ hS rfl (by kernel_rfl) ?_)
   clear hK fr hS; intro m6 b3 b3z l6 hS fr hK
   refine qo0 hK (s_storeAll hK.at_ 0 hS rfl rfl rfl rfl (by kernel_rfl) (by kernel_rfl) (by kernel_rfl) ?_)
   clear hK fr hS; intro m7 l7 hS fr hK
   replace hS : St _ m m7 [.box b3 (G_Delta_cells y2 (adr c2r0_commands_g) c2r0_commands_c) 27, rowOf 50 5 c2r0_commands_g c2r0_commands_c y2.commands, .box b2 (G_Delta_cells a1 a1_commands_a a1_commands_c) 27, .box b1 (G_Delta_cells a0 a0_commands_a a0_commands_c) 27] := hS
   refine wpListIn_nil (then_n ?_)
   refine w_seq ?_
   replace a0_commands_f := Els.mono rep_G_Command a0_commands_f (l5.trans (l6.trans l7))
   replace a1_commands_f := Els.mono rep_G_Command a1_commands_f (l5.trans (l6.trans l7))
   replace c2r0_commands_f := Els.mono rep_G_Command c2r0_commands_f (l6.trans l7)
   obtain ⟨y3, hy3, h⟩ := bind_some h
   refine split_b (x := y3) (fun hb2 => ?_) (fun hb2 => ?_)
   ·
    replace h := ite_t (hb2) h
    obtain ⟨y4, hy4, h⟩ := bind_some h
    obtain ⟨y5, hy5, h⟩ := bind_some h
    refine split_b (x := y5) (fun hb3 => ?_) (fun hb3 => ?_)
    ·
     replace h := ite_t (hb3) h
     obtain ⟨y6, hy6, h⟩ := bind_some h
     obtain ⟨y7, hy7, h⟩ := bind_some h
     refine split_b (x := (y6 == y7)) (fun hb4 => ?_) (fun hb4 => ?_)
     ·
      replace h := ite_t (eq_of_beq hb4) h
      obtain ⟨y8, hy8, h⟩ := bind_some h
      refine split_b (x := y8) (fun hb5 => ?_) (fun hb5 => ?_)
      ·
       replace h := ite_t (hb5) h
       obtain ⟨y9, hy9, h⟩ := bind_some h
       have hlt0 : ∀ bq ∈ blocksOf [.box b3 (G_Delta_cells y2 (adr c2r0_commands_g) c2r0_commands_c) 27, rowOf 50 5 c2r0_commands_g c2r0_commands_c y2.commands, .box b2 (G_Delta_cells a1 a1_commands_a a1_commands_c) 27, .box b1 (G_Delta_cells a0 a0_commands_a a0_commands_c) 27], bq < m7.w.heap.size := fun bq hbq => hS.ow.lt hbq
       refine D.wp_draw (Gr := D.GO m7 none) (S := D.SO none (blocksOf []) m m7 (fun _ => [.box b3 (G_Delta_cells y2 (adr c2r0_commands_g) c2r0_commands_c) 27, rowOf 50 5 c2r0_commands_g c2r0_commands_c y2.commands, .box b2 (G_Delta_cells a1 a1_commands_a a1_commands_c) 27, .box b1 (G_Delta_cells a0 a0_commands_a a0_commands_c) 27]) (fun _ => True)) (N := 0) 31 [] [([], 0, 0, false), ([(19, some 0)], 0, 0, false), ([(5, none), (20, some 0)], 0, 0, false), ([(2, none), (20, some 1)], 0, 0, false), ([(3, none), (20, some 2)], 0, 0, false), ([(23, some 0), (20, some 3)], 0, 0, false), ([(22, some 2), (24, some 0), (20, some 4)], 0, 0, false), ([(21, some 4), (25, some 0), (20, some 5)], 0, 0, false), ([(20, some 6), (26, some 0)], 0, 0, false), ([(27, some 0)], 0, 0, false), ([(2, none), (28, some 0)], 0, 0, false), ([(3, none), (28, some 1)], 0, 0, false), ([(29, some 1), (30, some 0), (28, some 2)], 0, 0, false), ([(2, none), (28, some 3)], 0, 0, false), ([(3, none), (28, some 4)], 0, 0, false), ([(32, some 1), (33, some 0), (28, some 5)], 0, 0, false), ([(31, some 3), (34, some 0), (28, some 6)], 0, 0, false), ([(28, some 7), (35, some 0)], 0, 0, false), ([(36, some 0)], 0, 0, false), ([(2, none), (37, some 0)], 0, 0, false), ([(2, none), (37, some 1)], 0, 0, false), ([(38, some 1), (39, some 0), (37, some 2)], 0, 0, false), ([(37, some 3), (40, some 0)], 0, 0, false), ([(41, some 0)], 0, 0, false), ([(5, none), (42, some 0)], 0, 0, false), ([(2, none), (42, some 1)], 0, 0, false), ([(43, some 1), (44, some 0), (42, some 2)], 0, 0, false), ([(2, none), (42, some 3)], 0, 0, false), ([(46, some 0), (42, some 4)], 0, 0, false), ([(3, none), (42, some 5)], 0, 0, false), ([(48, some 0), (42, some 6)], 0, 0, false)] hK.size (by kernel_rfl) (by kernel_rfl) (by kernel_rfl) rfl (D.startO hS trivial) ?_
       refine D.on_op (fun uu _ => uu = .bool true) (fun _ _ _ h _ => h) (by
        intro ac ww kk hlo hhi hb hk
        obtain rfl : kk = 0 := by omega
        have h0 := hS; replace hS := hb.2.1
        have hKe : Ke ac [] := (.nil _)
        exact ⟨D.wanted0 rfl, D.callO h0 (fun bq hbq => hlt0 bq (by revert hbq; simp [blocksOf, Ent.box, rowOf, Ent.row]; try omega)) hb hKe ent23_10 rfl rfl rfl rfl (G.graftlaw05_alive_spec hy3) (by kernel_rfl) (by rintro _ m' _ hg hn hl ⟨rfl, rfl⟩; exact (by rw [hb2]))⟩) ?_
       refine D.on_pure (D.GO_refl _ _) [(19, .bool true)] (.bool true) (fun ac ww hk => (.cons (hk.1) (.nil _))) ?_
       refine D.on_det (D.GO_refl _ _) [(5, .pointer (some ⟨b3, 0, none⟩)), (20, .bool true)] (.agg (G_Delta_cells y2 (adr c2r0_commands_g) c2r0_commands_c)) (fun ac ww hk => (.cons (hk.1.trans (hK.at_ 5 _ rfl)) (.cons (hk.2.1) (.nil _)))) (fun ac ww kk hb hKe Post hp => (fun hS => s_loadAll hKe hS 0 rfl rfl rfl (by kernel_rfl) hp) hb.2.1) ?_
       refine D.on_det (D.GO_refl _ _) [(2, .pointer (some ⟨b1, 0, none⟩)), (20, .bool true)] (.agg (G_Delta_cells a0 a0_commands_a a0_commands_c)) (fun ac ww hk => (.cons (hk.1.trans (hK.at_ 2 _ rfl)) (.cons (hk.2.1) (.nil _)))) (fun ac ww kk hb hKe Post hp => (fun hS => s_loadAll hKe hS 3 rfl rfl rfl (by kernel_rfl) hp) hb.2.1) ?_
       refine D.on_pure (D.GO_refl _ _) [(3, .pointer (some ⟨b2, 0, none⟩)), (20, .bool true)] (.pointer (some ⟨b2, 66, none⟩)) (fun ac ww hk => (.cons (hk.1.trans (hK.at_ 3 _ rfl)) (.cons (hk.2.1) (.nil _)))) ?_
       refine D.on_det (D.GO_refl _ _) [(23, .pointer (some ⟨b2, 66, none⟩)), (20, .bool true)] (.slice a1_commands_a a1.commands.length a1_commands_c) (fun ac ww hk => (.cons (hk.1) (.cons (hk.2.1) (.nil _)))) (fun ac ww kk hb hKe Post hp => (fun hS => s_load hKe hS 2 rfl rfl rfl rfl (by kernel_rfl) hp) hb.2.1) ?_
       refine D.on_op (fun uu ww => ∃ (c19r0_commands_a : Option Addr) (c19r0_commands_c : Nat), uu = .agg (G_Delta_cells y4 c19r0_commands_a c19r0_commands_c) ∧ Els is_G_Command (m7.upO none ww) 5 c19r0_commands_a c19r0_commands_c y4.commands) (fun _ _ _ ⟨c19r0_commands_a, c19r0_commands_c, e, c19r0_commands_f⟩ g => ⟨c19r0_commands_a, c19r0_commands_c, e, Els.mono rep_G_Command c19r0_commands_f g.1⟩) (by
        intro ac ww kk hlo hhi hb hk
        obtain rfl : kk = 0 := by omega
        have h0 := hS; replace hS := hb.2.1
        have k22 : ac.eval (.tmp 22) = .agg (G_Delta_cells a0 a0_commands_a a0_commands_c) := hk.1
        have k24 : ac.eval (.tmp 24) = .slice a1_commands_a a1.commands.length a1_commands_c := hk.2.1
        have k20 : ac.eval (.tmp 20) = .bool true := hk.2.2.1
        have hKe : Ke ac [(22, .agg (G_Delta_cells a0 a0_commands_a a0_commands_c)), (24, .slice a1_commands_a a1.commands.length a1_commands_c), (20, .bool true)] := (.cons k22 (.cons k24 (.cons k20 (.nil _))))
        replace a0_commands_f := Els.mono rep_G_Command a0_commands_f hb.1
        replace a1_commands_f := Els.mono rep_G_Command a1_commands_f hb.1
        exact ⟨D.wantedE hKe (by kernel_rfl), D.callO h0 (fun bq hbq => hlt0 bq (by revert hbq; simp [blocksOf, Ent.box, rowOf, Ent.row]; try omega)) hb hKe ent30_10 rfl rfl rfl rfl (G.graftref05_With_spec a0_commands_f a1_commands_f hy4) (by kernel_rfl) (by rintro _ m' _ hg hn hl ⟨c19r0_commands_a, c19r0_commands_c, rfl, rfl, c19r0_commands_f⟩; exact ⟨c19r0_commands_a, c19r0_commands_c, rfl, Els.mono rep_G_Command c19r0_commands_f (hn rfl)⟩)⟩) ?_
       refine D.on_op (fun uu _ => uu = .bool true) (fun _ _ _ h _ => h) (by
        intro ac ww kk hlo hhi hb hk
        obtain rfl : kk = 0 := by omega
        have h0 := hS; replace hS := hb.2.1
        have k21 : ac.eval (.tmp 21) = .agg (G_Delta_cells y2 (adr c2r0_commands_g) c2r0_commands_c) := hk.1
        obtain ⟨c19r0_commands_a, c19r0_commands_c, k25, c19r0_commands_f⟩ : ∃ (c19r0_commands_a : Option Addr) (c19r0_commands_c : Nat), ac.eval (.tmp 25) = .agg (G_Delta_cells y4 c19r0_commands_a c19r0_commands_c) ∧ Els is_G_Command (m7.upO none ww) 5 c19r0_commands_a c19r0_commands_c y4.commands := hk.2.1
        have k20 : ac.eval (.tmp 20) = .bool true := hk.2.2.1
        have hKe : Ke ac [(21, .agg (G_Delta_cells y2 (adr c2r0_commands_g) c2r0_commands_c)), (25, .agg (G_Delta_cells y4 c19r0_commands_a c19r0_commands_c)), (20, .bool true)] := (.cons k21 (.cons k25 (.cons k20 (.nil _))))
        replace c2r0_commands_f := Els.mono rep_G_Command c2r0_commands_f hb.1
        exact ⟨D.wantedE hKe (by kernel_rfl), D.callO h0 (fun bq hbq => hlt0 bq (by revert hbq; simp [blocksOf, Ent.box, rowOf, Ent.row]; try omega)) hb hKe ent16_10 rfl rfl rfl rfl (G.graftref05_Same_spec c2r0_commands_f c19r0_commands_f hy5) (by kernel_rfl) (by rintro _ m' _ hg hn hl ⟨rfl, rfl⟩; exact (by rw [hb3]))⟩) ?_
       refine D.on_pure (D.GO_refl _ _) [(20, .bool true), (26, .bool true)] (.bool true) (fun ac ww hk => (.cons (hk.1) (.cons (hk.2.1) (.nil _)))) ?_
       refine D.on_pure (D.GO_refl _ _) [(27, .bool true)] (.bool true) (fun ac ww hk => (.cons (hk.1) (.nil _))) ?_
       refine D.on_det (D.GO_refl _ _) [(2, .pointer (some ⟨b1, 0, none⟩)), (28, .bool true)] (.agg (G_Delta_cells a0 a0_commands_a a0_commands_c)) (fun ac ww hk => (.cons (hk.1.trans (hK.at_ 2 _ rfl)) (.cons (hk.2.1) (.nil _)))) (fun ac ww kk hb hKe Post hp => (fun hS => s_loadAll hKe hS 3 rfl rfl rfl (by kernel_rfl) hp) hb.2.1) ?_
       refine D.on_det (D.GO_refl _ _) [(3, .pointer (some ⟨b2, 0, none⟩)), (28, .bool true)] (.agg (G_Delta_cells a1 a1_commands_a a1_commands_c)) (fun ac ww hk => (.cons (hk.1.trans (hK.at_ 3 _ rfl)) (.cons (hk.2.1) (.nil _)))) (fun ac ww kk hb hKe Post hp => (fun hS => s_loadAll hKe hS 2 rfl rfl rfl (by kernel_rfl) hp) hb.2.1) ?_
       refine D.on_op (fun uu _ => uu = .bool y6) (fun _ _ _ h _ => h) (by
        intro ac ww kk hlo hhi hb hk
        obtain rfl : kk = 0 := by omega
        have h0 := hS; replace hS := hb.2.1
        have k29 : ac.eval (.tmp 29) = .agg (G_Delta_cells a0 a0_commands_a a0_commands_c) := hk.1
        have k30 : ac.eval (.tmp 30) = .agg (G_Delta_cells a1 a1_commands_a a1_commands_c) := hk.2.1
        have k28 : ac.eval (.tmp 28) = .bool true := hk.2.2.1
        have hKe : Ke ac [(29, .agg (G_Delta_cells a0 a0_commands_a a0_commands_c)), (30, .agg (G_Delta_cells a1 a1_commands_a a1_commands_c)), (28, .bool true)] := (.cons k29 (.cons k30 (.cons k28 (.nil _))))
        replace a0_commands_f := Els.mono rep_G_Command a0_commands_f hb.1
        replace a1_commands_f := Els.mono rep_G_Command a1_commands_f hb.1
        exact ⟨D.wantedE hKe (by kernel_rfl), D.callO h0 (fun bq hbq => hlt0 bq (by revert hbq; simp [blocksOf, Ent.box, rowOf, Ent.row]; try omega)) hb hKe ent35_10 rfl rfl rfl rfl (G.delta_Same_spec a0_commands_f a1_commands_f hy6) (by kernel_rfl) (by rintro _ m' _ hg hn hl ⟨rfl, rfl⟩; exact rfl)⟩) ?_
       refine D.on_det (D.GO_refl _ _) [(2, .pointer (some ⟨b1, 0, none⟩)), (28, .bool true)] (.agg (G_Delta_cells a0 a0_commands_a a0_commands_c)) (fun ac ww hk => (.cons (hk.1.trans (hK.at_ 2 _ rfl)) (.cons (hk.2.1) (.nil _)))) (fun ac ww kk hb hKe Post hp => (fun hS => s_loadAll hKe hS 3 rfl rfl rfl (by kernel_rfl) hp) hb.2.1) ?_
       refine D.on_det (D.GO_refl _ _) [(3, .pointer (some ⟨b2, 0, none⟩)), (28, .bool true)] (.agg (G_Delta_cells a1 a1_commands_a a1_commands_c)) (fun ac ww hk => (.cons (hk.1.trans (hK.at_ 3 _ rfl)) (.cons (hk.2.1) (.nil _)))) (fun ac ww kk hb hKe Post hp => (fun hS => s_loadAll hKe hS 2 rfl rfl rfl (by kernel_rfl) hp) hb.2.1) ?_
       refine D.on_op (fun uu _ => uu = .bool y7) (fun _ _ _ h _ => h) (by
        intro ac ww kk hlo hhi hb hk
        obtain rfl : kk = 0 := by omega
        have h0 := hS; replace hS := hb.2.1
        have k32 : ac.eval (.tmp 32) = .agg (G_Delta_cells a0 a0_commands_a a0_commands_c) := hk.1
        have k33 : ac.eval (.tmp 33) = .agg (G_Delta_cells a1 a1_commands_a a1_commands_c) := hk.2.1
        have k28 : ac.eval (.tmp 28) = .bool true := hk.2.2.1
        have hKe : Ke ac [(32, .agg (G_Delta_cells a0 a0_commands_a a0_commands_c)), (33, .agg (G_Delta_cells a1 a1_commands_a a1_commands_c)), (28, .bool true)] := (.cons k32 (.cons k33 (.cons k28 (.nil _))))
        replace a0_commands_f := Els.mono rep_G_Command a0_commands_f hb.1
        replace a1_commands_f := Els.mono rep_G_Command a1_commands_f hb.1
        exact ⟨D.wantedE hKe (by kernel_rfl), D.callO h0 (fun bq hbq => hlt0 bq (by revert hbq; simp [blocksOf, Ent.box, rowOf, Ent.row]; try omega)) hb hKe ent16_10 rfl rfl rfl rfl (G.graftref05_Same_spec a0_commands_f a1_commands_f hy7) (by kernel_rfl) (by rintro _ m' _ hg hn hl ⟨rfl, rfl⟩; exact rfl)⟩) ?_
       refine D.on_det (D.GO_refl _ _) [(31, .bool y6), (34, .bool y7), (28, .bool true)] (.bool true) (fun ac ww hk => (.cons (hk.1) (.cons (hk.2.1) (.cons (hk.2.2.1) (.nil _))))) (fun ac ww kk hb hKe Post hp => s_pureE (.bool true) (.bool (y6 == y7)) hKe (by kernel_rfl) (by kernel_rfl) (by rw [hb4]) hp) ?_
       refine D.on_pure (D.GO_refl _ _) [(28, .bool true), (35, .bool true)] (.bool true) (fun ac ww hk => (.cons (hk.1) (.cons (hk.2.1) (.nil _)))) ?_
       refine D.on_pure (D.GO_refl _ _) [(36, .bool true)] (.bool true) (fun ac ww hk => (.cons (hk.1) (.nil _))) ?_
       refine D.on_det (D.GO_refl _ _) [(2, .pointer (some ⟨b1, 0, none⟩)), (37, .bool true)] (.agg (G_Delta_cells a0 a0_commands_a a0_commands_c)) (fun ac ww hk => (.cons (hk.1.trans (hK.at_ 2 _ rfl)) (.cons (hk.2.1) (.nil _)))) (fun ac ww kk hb hKe Post hp => (fun hS => s_loadAll hKe hS 3 rfl rfl rfl (by kernel_rfl) hp) hb.2.1) ?_
       refine D.on_det (D.GO_refl _ _) [(2, .pointer (some ⟨b1, 0, none⟩)), (37, .bool true)] (.agg (G_Delta_cells a0 a0_commands_a a0_commands_c)) (fun ac ww hk => (.cons (hk.1.trans (hK.at_ 2 _ rfl)) (.cons (hk.2.1) (.nil _)))) (fun ac ww kk hb hKe Post hp => (fun hS => s_loadAll hKe hS 3 rfl rfl rfl (by kernel_rfl) hp) hb.2.1) ?_
       refine D.on_op (fun uu _ => uu = .bool true) (fun _ _ _ h _ => h) (by
        intro ac ww kk hlo hhi hb hk
        obtain rfl : kk = 0 := by omega
        have h0 := hS; replace hS := hb.2.1
        have k38 : ac.eval (.tmp 38) = .agg (G_Delta_cells a0 a0_commands_a a0_commands_c) := hk.1
        have k39 : ac.eval (.tmp 39) = .agg (G_Delta_cells a0 a0_commands_a a0_commands_c) := hk.2.1
        have k37 : ac.eval (.tmp 37) = .bool true := hk.2.2.1
        have hKe : Ke ac [(38, .agg (G_Delta_cells a0 a0_commands_a a0_commands_c)), (39, .agg (G_Delta_cells a0 a0_commands_a a0_commands_c)), (37, .bool true)] := (.cons k38 (.cons k39 (.cons k37 (.nil _))))
        replace a0_commands_f := Els.mono rep_G_Command a0_commands_f hb.1
        exact ⟨D.wantedE hKe (by kernel_rfl), D.callO h0 (fun bq hbq => hlt0 bq (by revert hbq; simp [blocksOf, Ent.box, rowOf, Ent.row]; try omega)) hb hKe ent35_10 rfl rfl rfl rfl (G.delta_Same_spec a0_commands_f a0_commands_f hy8) (by kernel_rfl) (by rintro _ m' _ hg hn hl ⟨rfl, rfl⟩; exact (by rw [hb5]))⟩) ?_
       refine D.on_pure (D.GO_refl _ _) [(37, .bool true), (40, .bool true)] (.bool true) (fun ac ww hk => (.cons (hk.1) (.cons (hk.2.1) (.nil _)))) ?_
       refine D.on_pure (D.GO_refl _ _) [(41, .bool true)] (.bool true) (fun ac ww hk => (.cons (hk.1) (.nil _))) ?_
       refine D.on_det (D.GO_refl _ _) [(5, .pointer (some ⟨b3, 0, none⟩)), (42, .bool true)] (.agg (G_Delta_cells y2 (adr c2r0_commands_g) c2r0_commands_c)) (fun ac ww hk => (.cons (hk.1.trans (hK.at_ 5 _ rfl)) (.cons (hk.2.1) (.nil _)))) (fun ac ww kk hb hKe Post hp => (fun hS => s_loadAll hKe hS 0 rfl rfl rfl (by kernel_rfl) hp) hb.2.1) ?_
       refine D.on_det (D.GO_refl _ _) [(2, .pointer (some ⟨b1, 0, none⟩)), (42, .bool true)] (.agg (G_Delta_cells a0 a0_commands_a a0_commands_c)) (fun ac ww hk => (.cons (hk.1.trans (hK.at_ 2 _ rfl)) (.cons (hk.2.1) (.nil _)))) (fun ac ww kk hb hKe Post hp => (fun hS => s_loadAll hKe hS 3 rfl rfl rfl (by kernel_rfl) hp) hb.2.1) ?_
       refine D.on_op (fun uu _ => uu = .bool y9) (fun _ _ _ h _ => h) (by
        intro ac ww kk hlo hhi hb hk
        obtain rfl : kk = 0 := by omega
        have h0 := hS; replace hS := hb.2.1
        have k43 : ac.eval (.tmp 43) = .agg (G_Delta_cells y2 (adr c2r0_commands_g) c2r0_commands_c) := hk.1
        have k44 : ac.eval (.tmp 44) = .agg (G_Delta_cells a0 a0_commands_a a0_commands_c) := hk.2.1
        have k42 : ac.eval (.tmp 42) = .bool true := hk.2.2.1
        have hKe : Ke ac [(43, .agg (G_Delta_cells y2 (adr c2r0_commands_g) c2r0_commands_c)), (44, .agg (G_Delta_cells a0 a0_commands_a a0_commands_c)), (42, .bool true)] := (.cons k43 (.cons k44 (.cons k42 (.nil _))))
        replace c2r0_commands_f := Els.mono rep_G_Command c2r0_commands_f hb.1
        replace a0_commands_f := Els.mono rep_G_Command a0_commands_f hb.1
        exact ⟨D.wantedE hKe (by kernel_rfl), D.callO h0 (fun bq hbq => hlt0 bq (by revert hbq; simp [blocksOf, Ent.box, rowOf, Ent.row]; try omega)) hb hKe ent35_10 rfl rfl rfl rfl (G.delta_Same_spec c2r0_commands_f a0_commands_f hy9) (by kernel_rfl) (by rintro _ m' _ hg hn hl ⟨rfl, rfl⟩; exact rfl)⟩) ?_
       refine D.on_pure (D.GO_refl _ _) [(2, .pointer (some ⟨b1, 0, none⟩)), (42, .bool true)] (.pointer (some ⟨b1, 66, none⟩)) (fun ac ww hk => (.cons (hk.1.trans (hK.at_ 2 _ rfl)) (.cons (hk.2.1) (.nil _)))) ?_
       refine D.on_det (D.GO_refl _ _) [(46, .pointer (some ⟨b1, 66, none⟩)), (42, .bool true)] (.slice a0_commands_a a0.commands.length a0_commands_c) (fun ac ww hk => (.cons (hk.1) (.cons (hk.2.1) (.nil _)))) (fun ac ww kk hb hKe Post hp => (fun hS => s_load hKe hS 3 rfl rfl rfl rfl (by kernel_rfl) hp) hb.2.1) ?_
       refine D.on_pure (D.GO_refl _ _) [(3, .pointer (some ⟨b2, 0, none⟩)), (42, .bool true)] (.pointer (some ⟨b2, 66, none⟩)) (fun ac ww hk => (.cons (hk.1.trans (hK.at_ 3 _ rfl)) (.cons (hk.2.1) (.nil _)))) ?_
       refine D.on_det (D.GO_refl _ _) [(48, .pointer (some ⟨b2, 66, none⟩)), (42, .bool true)] (.slice a1_commands_a a1.commands.length a1_commands_c) (fun ac ww hk => (.cons (hk.1) (.cons (hk.2.1) (.nil _)))) (fun ac ww kk hb hKe Post hp => (fun hS => s_load hKe hS 2 rfl rfl rfl rfl (by kernel_rfl) hp) hb.2.1) ?_
       refine D.finO ?_
       intro fr2 m8 hm1 l8 hS2 hF2 hE
       replace hS2 : St _ m m8 [.box b3 (G_Delta_cells y2 (adr c2r0_commands_g) c2r0_commands_c) 27, rowOf 50 5 c2r0_commands_g c2r0_commands_c y2.commands, .box b2 (G_Delta_cells a1 a1_commands_a a1_commands_c) 27, .box b1 (G_Delta_cells a0 a0_commands_a a0_commands_c) 27] := hS2
       have hK2 := D.kn_ends [(19, .bool true), (20, .bool true), (21, .agg (G_Delta_cells y2 (adr c2r0_commands_g) c2r0_commands_c)), (22, .agg (G_Delta_cells a0 a0_commands_a a0_commands_c)), (23, .pointer (some ⟨b2, 66, none⟩)), (24, .slice a1_commands_a a1.commands.length a1_commands_c), (25, fr2.eval (.tmp 25)), (26, .bool true), (27, .bool true), (28, .bool true), (29, .agg (G_Delta_cells a0 a0_commands_a a0_commands_c)), (30, .agg (G_Delta_cells a1 a1_commands_a a1_commands_c)), (31, .bool y6), (32, .agg (G_Delta_cells a0 a0_commands_a a0_commands_c)), (33, .agg (G_Delta_cells a1 a1_commands_a a1_commands_c)), (34, .bool y7), (35, .bool true), (36, .bool true), (37, .bool true), (38, .agg (G_Delta_cells a0 a0_commands_a a0_commands_c)), (39, .agg (G_Delta_cells a0 a0_commands_a a0_commands_c)), (40, .bool true), (41, .bool true), (42, .bool true), (43, .agg (G_Delta_cells y2 (adr c2r0_commands_g) c2r0_commands_c)), (44, .agg (G_Delta_cells a0 a0_commands_a a0_commands_c)), (45, .bool y9), (46, .pointer (some ⟨b1, 66, none⟩)), (47, .slice a0_commands_a a0.commands.length a0_commands_c), (48, .pointer (some ⟨b2, 66, none⟩)), (49, .slice a1_commands_a a1.commands.length a1_commands_c)] hK hE rfl (by kernel_rfl) (.cons (hE.slots 19) (.cons (hE.slots 20) (.cons (hE.slots 21) (.cons (hE.slots 22) (.cons (hE.slots 23) (.cons (hE.slots 24) (.cons (rfl) (.cons (hE.slots 26) (.cons (hE.slots 27) (.cons (hE.slots 28) (.cons (hE.slots 29) (.cons (hE.slots 30) (.cons (hE.slots 31) (.cons (hE.slots 32) (.cons (hE.slots 33) (.cons (hE.slots 34) (.cons (hE.slots 35) (.cons (hE.slots 36) (.cons (hE.slots 37) (.cons (hE.slots 38) (.cons (hE.slots 39) (.cons (hE.slots 40) (.cons (hE.slots 41) (.cons (hE.slots 42) (.cons (hE.slots 43) (.cons (hE.slots 44) (.cons (hE.slots 45) (.cons (hE.slots 46) (.cons (hE.slots 47) (.cons (hE.slots 48) (.cons (hE.slots 49) (.nil _))))))))))))))))))))))))))))))))
       replace hK2 : Kn 53 fr2 [(19, .bool true), (20, .bool true), (21, .agg (G_Delta_cells y2 (adr c2r0_commands_g) c2r0_commands_c)), (22, .agg (G_Delta_cells a0 a0_commands_a a0_commands_c)), (23, .pointer (some ⟨b2, 66, none⟩)), (24, .slice a1_commands_a a1.commands.length a1_commands_c), (26, .bool true), (27, .bool true), (28, .bool true), (29, .agg (G_Delta_cells a0 a0_commands_a a0_commands_c)), (30, .agg (G_Delta_cells a1 a1_commands_a a1_commands_c)), (31, .bool y6), (32, .agg (G_Delta_cells a0 a0_commands_a a0_commands_c)), (33, .agg (G_Delta_cells a1 a1_commands_a a1_commands_c)), (34, .bool y7), (35, .bool true), (36, .bool true), (37, .bool true), (38, .agg (G_Delta_cells a0 a0_commands_a a0_commands_c)), (39, .agg (G_Delta_cells a0 a0_commands_a a0_commands_c)), (40, .bool true), (41, .bool true), (42, .bool true), (43, .agg (G_Delta_cells y2 (adr c2r0_commands_g) c2r0_commands_c)), (44, .agg (G_Delta_cells a0 a0_commands_a a0_commands_c)), (45, .bool y9), (46, .pointer (some ⟨b1, 66, none⟩)), (47, .slice a0_commands_a a0.commands.length a0_commands_c), (48, .pointer (some ⟨b2, 66, none⟩)), (49, .slice a1_commands_a a1.commands.length a1_commands_c), (5, .pointer (some ⟨b3, 0, none⟩)), (18, .agg (G_Delta_cells y2 (adr c2r0_commands_g) c2r0_commands_c)), (17, .slice a1_commands_a a1.commands.length a1_commands_c), (16, .pointer (some ⟨b2, 66, none⟩)), (15, .agg (G_Delta_cells a0 a0_commands_a a0_commands_c)), (13, .bool false), (2, .pointer (some ⟨b1, 0, none⟩)), (3, .pointer (some ⟨b2, 0, none⟩))] := hK2.only [19, 20, 21, 22, 23, 24, 26, 27, 28, 29, 30, 31, 32, 33, 34, 35, 36, 37, 38, 39, 40, 41, 42, 43, 44, 45, 46, 47, 48, 49, 5, 18, 17, 16, 15, 13, 2, 3]
       clear hE hK; revert hK2; clear hm1 hS hlt0; revert fr2; clear fr; intro fr hK; have hS := hS2; clear hS2
       replace hS : St _ m m8 [.box b3 (G_Delta_cells y2 (adr c2r0_commands_g) c2r0_commands_c) 27, rowOf 50 5 c2r0_commands_g c2r0_commands_c y2.commands, .box b2 (G_Delta_cells a1 a1_commands_a a1_commands_c) 27, .box b1 (G_Delta_cells a0 a0_commands_a a0_commands_c) 27] := hS
       replace a0_commands_f := Els.mono rep_G_Command a0_commands_f l8
       replace a1_commands_f := Els.mono rep_G_Command a1_commands_f l8
       obtain ⟨y10, hy10, h⟩ := bind_some h
       refine qo 50 hK (s_call hK.at_ hS ent36_10 rfl rfl rfl rfl (G.graftref04_All_spec a0_commands_f a1_commands_f hy10) (by kernel_rfl) ?_)
       clear hK fr hS; rintro _ m9 _ l9 hS ⟨rfl, rfl⟩ fr hK
       replace hS : St _ m m9 [.box b3 (G_Delta_cells y2 (adr c2r0_commands_g) c2r0_commands_c) 27, rowOf 50 5 c2r0_commands_g c2r0_commands_c y2.commands, .box b2 (G_Delta_cells a1 a1_commands_a a1_commands_c) 27, .box b1 (G_Delta_cells a0 a0_commands_a a0_commands_c) 27] := hS
       refine qp 51 (.bool (y9 == y10)) hK fun fr hK => ?_
       refine qp 52 (.bool (y9 == y10)) hK fun fr hK => ?_
       refine qp 4 (.bool (y9 == y10)) hK fun fr hK => ?_
       refine wpListIn_nil (then_n ?_)
       refine wpIn_ret ?_
       replace h := Option.some.inj h; subst h
       refine ret_of [.tmp 4] [.bool (y9 == y10)] rfl hK (.tmp rfl .nil) hS.dropAll ?_
       exact ⟨rfl, rfl⟩
      ·
       replace h := ite_f (ne_true_of_eq_false hb5) h
       have hlt0 : ∀ bq ∈ blocksOf [.box b3 (G_Delta_cells y2 (adr c2r0_commands_g) c2r0_commands_c) 27, rowOf 50 5 c2r0_commands_g c2r0_commands_c y2.commands, .box b2 (G_Delta_cells a1 a1_commands_a a1_commands_c) 27, .box b1 (G_Delta_cells a0 a0_commands_a a0_commands_c) 27], bq < m7.w.heap.size := fun bq hbq => hS.ow.lt hbq
       refine D.wp_draw (Gr := D.GO m7 none) (S := D.SO none (blocksOf []) m m7 (fun _ => [.box b3 (G_Delta_cells y2 (adr c2r0_commands_g) c2r0_commands_c) 27, rowOf 50 5 c2r0_commands_g c2r0_commands_c y2.commands, .box b2 (G_Delta_cells a1 a1_commands_a a1_commands_c) 27, .box b1 (G_Delta_cells a0 a0_commands_a a0_commands_c) 27]) (fun _ => True)) (N := 0) 31 [] [([], 0, 0, false), ([(19, some 0)], 0, 0, false), ([(5, none), (20, some 0)], 0, 0, false), ([(2, none), (20, some 1)], 0, 0, false), ([(3, none), (20, some 2)], 0, 0, false), ([(23, some 0), (20, some 3)], 0, 0, false), ([(22, some 2), (24, some 0), (20, some 4)], 0, 0, false), ([(21, some 4), (25, some 0), (20, some 5)], 0, 0, false), ([(20, some 6), (26, some 0)], 0, 0, false), ([(27, some 0)], 0, 0, false), ([(2, none), (28, some 0)], 0, 0, false), ([(3, none), (28, some 1)], 0, 0, false), ([(29, some 1), (30, some 0), (28, some 2)], 0, 0, false), ([(2, none), (28, some 3)], 0, 0, false), ([(3, none), (28, some 4)], 0, 0, false), ([(32, some 1), (33, some 0), (28, some 5)], 0, 0, false), ([(31, some 3), (34, some 0), (28, some 6)], 0, 0, false), ([(28, some 7), (35, some 0)], 0, 0, false), ([(36, some 0)], 0, 0, false), ([(2, none), (37, some 0)], 0, 0, false), ([(2, none), (37, some 1)], 0, 0, false), ([(38, some 1), (39, some 0), (37, some 2)], 0, 0, false), ([(37, some 3), (40, some 0)], 0, 0, false), ([(41, some 0)], 0, 0, false), ([(5, none), (42, some 0)], 0, 0, false), ([(2, none), (42, some 1)], 0, 0, false), ([(43, some 1), (44, some 0), (42, some 2)], 0, 0, false), ([(2, none), (42, some 3)], 0, 0, false), ([(46, some 0), (42, some 4)], 0, 0, false), ([(3, none), (42, some 5)], 0, 0, false), ([(48, some 0), (42, some 6)], 0, 0, false)] hK.size (by kernel_rfl) (by kernel_rfl) (by kernel_rfl) rfl (D.startO hS trivial) ?_
       refine D.on_op (fun uu _ => uu = .bool true) (fun _ _ _ h _ => h) (by
        intro ac ww kk hlo hhi hb hk
        obtain rfl : kk = 0 := by omega
        have h0 := hS; replace hS := hb.2.1
        have hKe : Ke ac [] := (.nil _)
        exact ⟨D.wanted0 rfl, D.callO h0 (fun bq hbq => hlt0 bq (by revert hbq; simp [blocksOf, Ent.box, rowOf, Ent.row]; try omega)) hb hKe ent23_10 rfl rfl rfl rfl (G.graftlaw05_alive_spec hy3) (by kernel_rfl) (by rintro _ m' _ hg hn hl ⟨rfl, rfl⟩; exact (by rw [hb2]))⟩) ?_
       refine D.on_pure (D.GO_refl _ _) [(19, .bool true)] (.bool true) (fun ac ww hk => (.cons (hk.1) (.nil _))) ?_
       refine D.on_det (D.GO_refl _ _) [(5, .pointer (some ⟨b3, 0, none⟩)), (20, .bool true)] (.agg (G_Delta_cells y2 (adr c2r0_commands_g) c2r0_commands_c)) (fun ac ww hk => (.cons (hk.1.trans (hK.at_ 5 _ rfl)) (.cons (hk.2.1) (.nil _)))) (fun ac ww kk hb hKe Post hp => (fun hS => s_loadAll hKe hS 0 rfl rfl rfl (by kernel_rfl) hp) hb.2.1) ?_
       refine D.on_det (D.GO_refl _ _) [(2, .pointer (some ⟨b1, 0, none⟩)), (20, .bool true)] (.agg (G_Delta_cells a0 a0_commands_a a0_commands_c)) (fun ac ww hk => (.cons (hk.1.trans (hK.at_ 2 _ rfl)) (.cons (hk.2.1) (.nil _)))) (fun ac ww kk hb hKe Post hp => (fun hS => s_loadAll hKe hS 3 rfl rfl rfl (by kernel_rfl) hp) hb.2.1) ?_
       refine D.on_pure (D.GO_refl _ _) [(3, .pointer (some ⟨b2, 0, none⟩)), (20, .bool true)] (.pointer (some ⟨b2, 66, none⟩)) (fun ac ww hk => (.cons (hk.1.trans (hK.at_ 3 _ rfl)) (.cons (hk.2.1) (.nil _)))) ?_
       refine D.on_det (D.GO_refl _ _) [(23, .pointer (some ⟨b2, 66, none⟩)), (20, .bool true)] (.slice a1_commands_a a1.commands.length a1_commands_c) (fun ac ww hk => (.cons (hk.1) (.cons (hk.2.1) (.nil _)))) (fun ac ww kk hb hKe Post hp => (fun hS => s_load hKe hS 2 rfl rfl rfl rfl (by kernel_rfl) hp) hb.2.1) ?_
       refine D.on_op (fun uu ww => ∃ (c27r0_commands_a : Option Addr) (c27r0_commands_c : Nat), uu = .agg (G_Delta_cells y4 c27r0_commands_a c27r0_commands_c) ∧ Els is_G_Command (m7.upO none ww) 5 c27r0_commands_a c27r0_commands_c y4.commands) (fun _ _ _ ⟨c27r0_commands_a, c27r0_commands_c, e, c27r0_commands_f⟩ g => ⟨c27r0_commands_a, c27r0_commands_c, e, Els.mono rep_G_Command c27r0_commands_f g.1⟩) (by
        intro ac ww kk hlo hhi hb hk
        obtain rfl : kk = 0 := by omega
        have h0 := hS; replace hS := hb.2.1
        have k22 : ac.eval (.tmp 22) = .agg (G_Delta_cells a0 a0_commands_a a0_commands_c) := hk.1
        have k24 : ac.eval (.tmp 24) = .slice a1_commands_a a1.commands.length a1_commands_c := hk.2.1
        have k20 : ac.eval (.tmp 20) = .bool true := hk.2.2.1
        have hKe : Ke ac [(22, .agg (G_Delta_cells a0 a0_commands_a a0_commands_c)), (24, .slice a1_commands_a a1.commands.length a1_commands_c), (20, .bool true)] := (.cons k22 (.cons k24 (.cons k20 (.nil _))))
        replace a0_commands_f := Els.mono rep_G_Command a0_commands_f hb.1
        replace a1_commands_f := Els.mono rep_G_Command a1_commands_f hb.1
        exact ⟨D.wantedE hKe (by kernel_rfl), D.callO h0 (fun bq hbq => hlt0 bq (by revert hbq; simp [blocksOf, Ent.box, rowOf, Ent.row]; try omega)) hb hKe ent30_10 rfl rfl rfl rfl (G.graftref05_With_spec a0_commands_f a1_commands_f hy4) (by kernel_rfl) (by rintro _ m' _ hg hn hl ⟨c27r0_commands_a, c27r0_commands_c, rfl, rfl, c27r0_commands_f⟩; exact ⟨c27r0_commands_a, c27r0_commands_c, rfl, Els.mono rep_G_Command c27r0_commands_f (hn rfl)⟩)⟩) ?_
       refine D.on_op (fun uu _ => uu = .bool true) (fun _ _ _ h _ => h) (by
        intro ac ww kk hlo hhi hb hk
        obtain rfl : kk = 0 := by omega
        have h0 := hS; replace hS := hb.2.1
        have k21 : ac.eval (.tmp 21) = .agg (G_Delta_cells y2 (adr c2r0_commands_g) c2r0_commands_c) := hk.1
        obtain ⟨c27r0_commands_a, c27r0_commands_c, k25, c27r0_commands_f⟩ : ∃ (c27r0_commands_a : Option Addr) (c27r0_commands_c : Nat), ac.eval (.tmp 25) = .agg (G_Delta_cells y4 c27r0_commands_a c27r0_commands_c) ∧ Els is_G_Command (m7.upO none ww) 5 c27r0_commands_a c27r0_commands_c y4.commands := hk.2.1
        have k20 : ac.eval (.tmp 20) = .bool true := hk.2.2.1
        have hKe : Ke ac [(21, .agg (G_Delta_cells y2 (adr c2r0_commands_g) c2r0_commands_c)), (25, .agg (G_Delta_cells y4 c27r0_commands_a c27r0_commands_c)), (20, .bool true)] := (.cons k21 (.cons k25 (.cons k20 (.nil _))))
        replace c2r0_commands_f := Els.mono rep_G_Command c2r0_commands_f hb.1
        exact ⟨D.wantedE hKe (by kernel_rfl), D.callO h0 (fun bq hbq => hlt0 bq (by revert hbq; simp [blocksOf, Ent.box, rowOf, Ent.row]; try omega)) hb hKe ent16_10 rfl rfl rfl rfl (G.graftref05_Same_spec c2r0_commands_f c27r0_commands_f hy5) (by kernel_rfl) (by rintro _ m' _ hg hn hl ⟨rfl, rfl⟩; exact (by rw [hb3]))⟩) ?_
       refine D.on_pure (D.GO_refl _ _) [(20, .bool true), (26, .bool true)] (.bool true) (fun ac ww hk => (.cons (hk.1) (.cons (hk.2.1) (.nil _)))) ?_
       refine D.on_pure (D.GO_refl _ _) [(27, .bool true)] (.bool true) (fun ac ww hk => (.cons (hk.1) (.nil _))) ?_
       refine D.on_det (D.GO_refl _ _) [(2, .pointer (some ⟨b1, 0, none⟩)), (28, .bool true)] (.agg (G_Delta_cells a0 a0_commands_a a0_commands_c)) (fun ac ww hk => (.cons (hk.1.trans (hK.at_ 2 _ rfl)) (.cons (hk.2.1) (.nil _)))) (fun ac ww kk hb hKe Post hp => (fun hS => s_loadAll hKe hS 3 rfl rfl rfl (by kernel_rfl) hp) hb.2.1) ?_
       refine D.on_det (D.GO_refl _ _) [(3, .pointer (some ⟨b2, 0, none⟩)), (28, .bool true)] (.agg (G_Delta_cells a1 a1_commands_a a1_commands_c)) (fun ac ww hk => (.cons (hk.1.trans (hK.at_ 3 _ rfl)) (.cons (hk.2.1) (.nil _)))) (fun ac ww kk hb hKe Post hp => (fun hS => s_loadAll hKe hS 2 rfl rfl rfl (by kernel_rfl) hp) hb.2.1) ?_
       refine D.on_op (fun uu _ => uu = .bool y6) (fun _ _ _ h _ => h) (by
        intro ac ww kk hlo hhi hb hk
        obtain rfl : kk = 0 := by omega
        have h0 := hS; replace hS := hb.2.1
        have k29 : ac.eval (.tmp 29) = .agg (G_Delta_cells a0 a0_commands_a a0_commands_c) := hk.1
        have k30 : ac.eval (.tmp 30) = .agg (G_Delta_cells a1 a1_commands_a a1_commands_c) := hk.2.1
        have k28 : ac.eval (.tmp 28) = .bool true := hk.2.2.1
        have hKe : Ke ac [(29, .agg (G_Delta_cells a0 a0_commands_a a0_commands_c)), (30, .agg (G_Delta_cells a1 a1_commands_a a1_commands_c)), (28, .bool true)] := (.cons k29 (.cons k30 (.cons k28 (.nil _))))
        replace a0_commands_f := Els.mono rep_G_Command a0_commands_f hb.1
        replace a1_commands_f := Els.mono rep_G_Command a1_commands_f hb.1
        exact ⟨D.wantedE hKe (by kernel_rfl), D.callO h0 (fun bq hbq => hlt0 bq (by revert hbq; simp [blocksOf, Ent.box, rowOf, Ent.row]; try omega)) hb hKe ent35_10 rfl rfl rfl rfl (G.delta_Same_spec a0_commands_f a1_commands_f hy6) (by kernel_rfl) (by rintro _ m' _ hg hn hl ⟨rfl, rfl⟩; exact rfl)⟩) ?_
       refine D.on_det (D.GO_refl _ _) [(2, .pointer (some ⟨b1, 0, none⟩)), (28, .bool true)] (.agg (G_Delta_cells a0 a0_commands_a a0_commands_c)) (fun ac ww hk => (.cons (hk.1.trans (hK.at_ 2 _ rfl)) (.cons (hk.2.1) (.nil _)))) (fun ac ww kk hb hKe Post hp => (fun hS => s_loadAll hKe hS 3 rfl rfl rfl (by kernel_rfl) hp) hb.2.1) ?_
       refine D.on_det (D.GO_refl _ _) [(3, .pointer (some ⟨b2, 0, none⟩)), (28, .bool true)] (.agg (G_Delta_cells a1 a1_commands_a a1_commands_c)) (fun ac ww hk => (.cons (hk.1.trans (hK.at_ 3 _ rfl)) (.cons (hk.2.1) (.nil _)))) (fun ac ww kk hb hKe Post hp => (fun hS => s_loadAll hKe hS 2 rfl rfl rfl (by kernel_rfl) hp) hb.2.1) ?_
       refine D.on_op (fun uu _ => uu = .bool y7) (fun _ _ _ h _ => h) (by
        intro ac ww kk hlo hhi hb hk
        obtain rfl : kk = 0 := by omega
        have h0 := hS; replace hS := hb.2.1
        have k32 : ac.eval (.tmp 32) = .agg (G_Delta_cells a0 a0_commands_a a0_commands_c) := hk.1
        have k33 : ac.eval (.tmp 33) = .agg (G_Delta_cells a1 a1_commands_a a1_commands_c) := hk.2.1
        have k28 : ac.eval (.tmp 28) = .bool true := hk.2.2.1
        have hKe : Ke ac [(32, .agg (G_Delta_cells a0 a0_commands_a a0_commands_c)), (33, .agg (G_Delta_cells a1 a1_commands_a a1_commands_c)), (28, .bool true)] := (.cons k32 (.cons k33 (.cons k28 (.nil _))))
        replace a0_commands_f := Els.mono rep_G_Command a0_commands_f hb.1
        replace a1_commands_f := Els.mono rep_G_Command a1_commands_f hb.1
        exact ⟨D.wantedE hKe (by kernel_rfl), D.callO h0 (fun bq hbq => hlt0 bq (by revert hbq; simp [blocksOf, Ent.box, rowOf, Ent.row]; try omega)) hb hKe ent16_10 rfl rfl rfl rfl (G.graftref05_Same_spec a0_commands_f a1_commands_f hy7) (by kernel_rfl) (by rintro _ m' _ hg hn hl ⟨rfl, rfl⟩; exact rfl)⟩) ?_
       refine D.on_det (D.GO_refl _ _) [(31, .bool y6), (34, .bool y7), (28, .bool true)] (.bool true) (fun ac ww hk => (.cons (hk.1) (.cons (hk.2.1) (.cons (hk.2.2.1) (.nil _))))) (fun ac ww kk hb hKe Post hp => s_pureE (.bool true) (.bool (y6 == y7)) hKe (by kernel_rfl) (by kernel_rfl) (by rw [hb4]) hp) ?_
       refine D.on_pure (D.GO_refl _ _) [(28, .bool true), (35, .bool true)] (.bool true) (fun ac ww hk => (.cons (hk.1) (.cons (hk.2.1) (.nil _)))) ?_
       refine D.on_pure (D.GO_refl _ _) [(36, .bool true)] (.bool true) (fun ac ww hk => (.cons (hk.1) (.nil _))) ?_
       refine D.on_det (D.GO_refl _ _) [(2, .pointer (some ⟨b1, 0, none⟩)), (37, .bool true)] (.agg (G_Delta_cells a0 a0_commands_a a0_commands_c)) (fun ac ww hk => (.cons (hk.1.trans (hK.at_ 2 _ rfl)) (.cons (hk.2.1) (.nil _)))) (fun ac ww kk hb hKe Post hp => (fun hS => s_loadAll hKe hS 3 rfl rfl rfl (by kernel_rfl) hp) hb.2.1) ?_
       refine D.on_det (D.GO_refl _ _) [(2, .pointer (some ⟨b1, 0, none⟩)), (37, .bool true)] (.agg (G_Delta_cells a0 a0_commands_a a0_commands_c)) (fun ac ww hk => (.cons (hk.1.trans (hK.at_ 2 _ rfl)) (.cons (hk.2.1) (.nil _)))) (fun ac ww kk hb hKe Post hp => (fun hS => s_loadAll hKe hS 3 rfl rfl rfl (by kernel_rfl) hp) hb.2.1) ?_
       refine D.on_op (fun uu _ => uu = .bool false) (fun _ _ _ h _ => h) (by
        intro ac ww kk hlo hhi hb hk
        obtain rfl : kk = 0 := by omega
        have h0 := hS; replace hS := hb.2.1
        have k38 : ac.eval (.tmp 38) = .agg (G_Delta_cells a0 a0_commands_a a0_commands_c) := hk.1
        have k39 : ac.eval (.tmp 39) = .agg (G_Delta_cells a0 a0_commands_a a0_commands_c) := hk.2.1
        have k37 : ac.eval (.tmp 37) = .bool true := hk.2.2.1
        have hKe : Ke ac [(38, .agg (G_Delta_cells a0 a0_commands_a a0_commands_c)), (39, .agg (G_Delta_cells a0 a0_commands_a a0_commands_c)), (37, .bool true)] := (.cons k38 (.cons k39 (.cons k37 (.nil _))))
        replace a0_commands_f := Els.mono rep_G_Command a0_commands_f hb.1
        exact ⟨D.wantedE hKe (by kernel_rfl), D.callO h0 (fun bq hbq => hlt0 bq (by revert hbq; simp [blocksOf, Ent.box, rowOf, Ent.row]; try omega)) hb hKe ent35_10 rfl rfl rfl rfl (G.delta_Same_spec a0_commands_f a0_commands_f hy8) (by kernel_rfl) (by rintro _ m' _ hg hn hl ⟨rfl, rfl⟩; exact (by rw [hb5]))⟩) ?_
       refine D.on_pure (D.GO_refl _ _) [(37, .bool true), (40, .bool false)] (.bool false) (fun ac ww hk => (.cons (hk.1) (.cons (hk.2.1) (.nil _)))) ?_
       refine D.on_pure (D.GO_refl _ _) [(41, .bool false)] (.bool false) (fun ac ww hk => (.cons (hk.1) (.nil _))) ?_
       refine D.on_no [(42, .bool false)] (fun ac ww hk => .cons (hk.2.1) (.nil _)) ?_
       refine D.on_no [(42, .bool false)] (fun ac ww hk => .cons (hk.2.1) (.nil _)) ?_
       refine D.on_no [(42, .bool false)] (fun ac ww hk => .cons (hk.2.2.1) (.nil _)) ?_
       refine D.on_no [(42, .bool false)] (fun ac ww hk => .cons (hk.2.1) (.nil _)) ?_
       refine D.on_no [(42, .bool false)] (fun ac ww hk => .cons (hk.2.1) (.nil _)) ?_
       refine D.on_no [(42, .bool false)] (fun ac ww hk => .cons (hk.2.1) (.nil _)) ?_
       refine D.on_no [(42, .bool false)] (fun ac ww hk => .cons (hk.2.1) (.nil _)) ?_
       refine D.finO ?_
       intro fr2 m10 hm1 l10 hS2 hF2 hE
       replace hS2 : St _ m m10 [.box b3 (G_Delta_cells y2 (adr c2r0_commands_g) c2r0_commands_c) 27, rowOf 50 5 c2r0_commands_g c2r0_commands_c y2.commands, .box b2 (G_Delta_cells a1 a1_commands_a a1_commands_c) 27, .box b1 (G_Delta_cells a0 a0_commands_a a0_commands_c) 27] := hS2
       have hK2 := D.kn_ends [(19, .bool true), (20, .bool true), (21, .agg (G_Delta_cells y2 (adr c2r0_commands_g) c2r0_commands_c)), (22, .agg (G_Delta_cells a0 a0_commands_a a0_commands_c)), (23, .pointer (some ⟨b2, 66, none⟩)), (24, .slice a1_commands_a a1.commands.length a1_commands_c), (25, fr2.eval (.tmp 25)), (26, .bool true), (27, .bool true), (28, .bool true), (29, .agg (G_Delta_cells a0 a0_commands_a a0_commands_c)), (30, .agg (G_Delta_cells a1 a1_commands_a a1_commands_c)), (31, .bool y6), (32, .agg (G_Delta_cells a0 a0_commands_a a0_commands_c)), (33, .agg (G_Delta_cells a1 a1_commands_a a1_commands_c)), (34, .bool y7), (35, .bool true), (36, .bool true), (37, .bool true), (38, .agg (G_Delta_cells a0 a0_commands_a a0_commands_c)), (39, .agg (G_Delta_cells a0 a0_commands_a a0_commands_c)), (40, .bool false), (41, .bool false), (42, .bool false), (43, undef), (44, undef), (45, undef), (46, undef), (47, undef), (48, undef), (49, undef)] hK hE rfl (by kernel_rfl) (.cons (hE.slots 19) (.cons (hE.slots 20) (.cons (hE.slots 21) (.cons (hE.slots 22) (.cons (hE.slots 23) (.cons (hE.slots 24) (.cons (rfl) (.cons (hE.slots 26) (.cons (hE.slots 27) (.cons (hE.slots 28) (.cons (hE.slots 29) (.cons (hE.slots 30) (.cons (hE.slots 31) (.cons (hE.slots 32) (.cons (hE.slots 33) (.cons (hE.slots 34) (.cons (hE.slots 35) (.cons (hE.slots 36) (.cons (hE.slots 37) (.cons (hE.slots 38) (.cons (hE.slots 39) (.cons (hE.slots 40) (.cons (hE.slots 41) (.cons (hE.slots 42) (.cons (hE.slots 43) (.cons (hE.slots 44) (.cons (hE.slots 45) (.cons (hE.slots 46) (.cons (hE.slots 47) (.cons (hE.slots 48) (.cons (hE.slots 49) (.nil _))))))))))))))))))))))))))))))))
       replace hK2 : Kn 53 fr2 [(19, .bool true), (20, .bool true), (21, .agg (G_Delta_cells y2 (adr c2r0_commands_g) c2r0_commands_c)), (22, .agg (G_Delta_cells a0 a0_commands_a a0_commands_c)), (23, .pointer (some ⟨b2, 66, none⟩)), (24, .slice a1_commands_a a1.commands.length a1_commands_c), (26, .bool true), (27, .bool true), (28, .bool true), (29, .agg (G_Delta_cells a0 a0_commands_a a0_commands_c)), (30, .agg (G_Delta_cells a1 a1_commands_a a1_commands_c)), (31, .bool y6), (32, .agg (G_Delta_cells a0 a0_commands_a a0_commands_c)), (33, .agg (G_Delta_cells a1 a1_commands_a a1_commands_c)), (34, .bool y7), (35, .bool true), (36, .bool true), (37, .bool true), (38, .agg (G_Delta_cells a0 a0_commands_a a0_commands_c)), (39, .agg (G_Delta_cells a0 a0_commands_a a0_commands_c)), (40, .bool false), (41, .bool false), (42, .bool false), (43, undef), (44, undef), (45, undef), (46, undef), (47, undef), (48, undef), (49, undef), (5, .pointer (some ⟨b3, 0, none⟩)), (18, .agg (G_Delta_cells y2 (adr c2r0_commands_g) c2r0_commands_c)), (17, .slice a1_commands_a a1.commands.length a1_commands_c), (16, .pointer (some ⟨b2, 66, none⟩)), (15, .agg (G_Delta_cells a0 a0_commands_a a0_commands_c)), (13, .bool false), (2, .pointer (some ⟨b1, 0, none⟩)), (3, .pointer (some ⟨b2, 0, none⟩))] := hK2.only [19, 20, 21, 22, 23, 24, 26, 27, 28, 29, 30, 31, 32, 33, 34, 35, 36, 37, 38, 39, 40, 41, 42, 43, 44, 45, 46, 47, 48, 49, 5, 18, 17, 16, 15, 13, 2, 3]
       clear hE hK; revert hK2; clear hm1 hS hlt0; revert fr2; clear fr; intro fr hK; have hS := hS2; clear hS2
       replace hS : St _ m m10 [.box b3 (G_Delta_cells y2 (adr c2r0_commands_g) c2r0_commands_c) 27, rowOf 50 5 c2r0_commands_g c2r0_commands_c y2.commands, .box b2 (G_Delta_cells a1 a1_commands_a a1_commands_c) 27, .box b1 (G_Delta_cells a0 a0_commands_a a0_commands_c) 27] := hS
       refine qs 50 hK ?_
       clear hK fr; intro fr hK
       refine qs 51 hK ?_
       clear hK fr; intro fr hK
       refine qp 52 (.bool false) hK fun fr hK => ?_
       refine qp 4 (.bool false) hK fun fr hK => ?_
       refine wpListIn_nil (then_n ?_)
       refine wpIn_ret ?_
       replace h := Option.some.inj h; subst h
       refine ret_of [.tmp 4] [.bool false] rfl hK (.tmp rfl .nil) hS.dropAll ?_
       exact ⟨rfl, rfl⟩
     ·
      replace h := ite_f (ne_of_beq_false hb4) h
      have hlt0 : ∀ bq ∈ blocksOf [.box b3 (G_Delta_cells y2 (adr c2r0_commands_g) c2r0_commands_c) 27, rowOf 50 5 c2r0_commands_g c2r0_commands_c y2.commands, .box b2 (G_Delta_cells a1 a1_commands_a a1_commands_c) 27, .box b1 (G_Delta_cells a0 a0_commands_a a0_commands_c) 27], bq < m7.w.heap.size := fun bq hbq => hS.ow.lt hbq
      refine D.wp_draw (Gr := D.GO m7 none) (S := D.SO none (blocksOf []) m m7 (fun _ => [.box b3 (G_Delta_cells y2 (adr c2r0_commands_g) c2r0_commands_c) 27, rowOf 50 5 c2r0_commands_g c2r0_commands_c y2.commands, .box b2 (G_Delta_cells a1 a1_commands_a a1_commands_c) 27, .box b1 (G_Delta_cells a0 a0_commands_a a0_commands_c) 27]) (fun _ => True)) (N := 0) 31 [] [([], 0, 0, false), ([(19, some 0)], 0, 0, false), ([(5, none), (20, some 0)], 0, 0, false), ([(2, none), (20, some 1)], 0, 0, false), ([(3, none), (20, some 2)], 0, 0, false), ([(23, some 0), (20, some 3)], 0, 0, false), ([(22, some 2), (24, some 0), (20, some 4)], 0, 0, false), ([(21, some 4), (25, some 0), (20, some 5)], 0, 0, false), ([(20, some 6), (26, some 0)], 0, 0, false), ([(27, some 0)], 0, 0, false), ([(2, none), (28, some 0)], 0, 0, false), ([(3, none), (28, some 1)], 0, 0, false), ([(29, some 1), (30, some 0), (28, some 2)], 0, 0, false), ([(2, none), (28, some 3)], 0, 0, false), ([(3, none), (28, some 4)], 0, 0, false), ([(32, some 1), (33, some 0), (28, some 5)], 0, 0, false), ([(31, some 3), (34, some 0), (28, some 6)], 0, 0, false), ([(28, some 7), (35, some 0)], 0, 0, false), ([(36, some 0)], 0, 0, false), ([(2, none), (37, some 0)], 0, 0, false), ([(2, none), (37, some 1)], 0, 0, false), ([(38, some 1), (39, some 0), (37, some 2)], 0, 0, false), ([(37, some 3), (40, some 0)], 0, 0, false), ([(41, some 0)], 0, 0, false), ([(5, none), (42, some 0)], 0, 0, false), ([(2, none), (42, some 1)], 0, 0, false), ([(43, some 1), (44, some 0), (42, some 2)], 0, 0, false), ([(2, none), (42, some 3)], 0, 0, false), ([(46, some 0), (42, some 4)], 0, 0, false), ([(3, none), (42, some 5)], 0, 0, false), ([(48, some 0), (42, some 6)], 0, 0, false)] hK.size (by kernel_rfl) (by kernel_rfl) (by kernel_rfl) rfl (D.startO hS trivial) ?_
      refine D.on_op (fun uu _ => uu = .bool true) (fun _ _ _ h _ => h) (by
       intro ac ww kk hlo hhi hb hk
       obtain rfl : kk = 0 := by omega
       have h0 := hS; replace hS := hb.2.1
       have hKe : Ke ac [] := (.nil _)
       exact ⟨D.wanted0 rfl, D.callO h0 (fun bq hbq => hlt0 bq (by revert hbq; simp [blocksOf, Ent.box, rowOf, Ent.row]; try omega)) hb hKe ent23_10 rfl rfl rfl rfl (G.graftlaw05_alive_spec hy3) (by kernel_rfl) (by rintro _ m' _ hg hn hl ⟨rfl, rfl⟩; exact (by rw [hb2]))⟩) ?_
      refine D.on_pure (D.GO_refl _ _) [(19, .bool true)] (.bool true) (fun ac ww hk => (.cons (hk.1) (.nil _))) ?_
      refine D.on_det (D.GO_refl _ _) [(5, .pointer (some ⟨b3, 0, none⟩)), (20, .bool true)] (.agg (G_Delta_cells y2 (adr c2r0_commands_g) c2r0_commands_c)) (fun ac ww hk => (.cons (hk.1.trans (hK.at_ 5 _ rfl)) (.cons (hk.2.1) (.nil _)))) (fun ac ww kk hb hKe Post hp => (fun hS => s_loadAll hKe hS 0 rfl rfl rfl (by kernel_rfl) hp) hb.2.1) ?_
      refine D.on_det (D.GO_refl _ _) [(2, .pointer (some ⟨b1, 0, none⟩)), (20, .bool true)] (.agg (G_Delta_cells a0 a0_commands_a a0_commands_c)) (fun ac ww hk => (.cons (hk.1.trans (hK.at_ 2 _ rfl)) (.cons (hk.2.1) (.nil _)))) (fun ac ww kk hb hKe Post hp => (fun hS => s_loadAll hKe hS 3 rfl rfl rfl (by kernel_rfl) hp) hb.2.1) ?_
      refine D.on_pure (D.GO_refl _ _) [(3, .pointer (some ⟨b2, 0, none⟩)), (20, .bool true)] (.pointer (some ⟨b2, 66, none⟩)) (fun ac ww hk => (.cons (hk.1.trans (hK.at_ 3 _ rfl)) (.cons (hk.2.1) (.nil _)))) ?_
      refine D.on_det (D.GO_refl _ _) [(23, .pointer (some ⟨b2, 66, none⟩)), (20, .bool true)] (.slice a1_commands_a a1.commands.length a1_commands_c) (fun ac ww hk => (.cons (hk.1) (.cons (hk.2.1) (.nil _)))) (fun ac ww kk hb hKe Post hp => (fun hS => s_load hKe hS 2 rfl rfl rfl rfl (by kernel_rfl) hp) hb.2.1) ?_
      refine D.on_op (fun uu ww => ∃ (c33r0_commands_a : Option Addr) (c33r0_commands_c : Nat), uu = .agg (G_Delta_cells y4 c33r0_commands_a c33r0_commands_c) ∧ Els is_G_Command (m7.upO none ww) 5 c33r0_commands_a c33r0_commands_c y4.commands) (fun _ _ _ ⟨c33r0_commands_a, c33r0_commands_c, e, c33r0_commands_f⟩ g => ⟨c33r0_commands_a, c33r0_commands_c, e, Els.mono rep_G_Command c33r0_commands_f g.1⟩) (by
       intro ac ww kk hlo hhi hb hk
       obtain rfl : kk = 0 := by omega
       have h0 := hS; replace hS := hb.2.1
       have k22 : ac.eval (.tmp 22) = .agg (G_Delta_cells a0 a0_commands_a a0_commands_c) := hk.1
       have k24 : ac.eval (.tmp 24) = .slice a1_commands_a a1.commands.length a1_commands_c := hk.2.1
       have k20 : ac.eval (.tmp 20) = .bool true := hk.2.2.1
       have hKe : Ke ac [(22, .agg (G_Delta_cells a0 a0_commands_a a0_commands_c)), (24, .slice a1_commands_a a1.commands.length a1_commands_c), (20, .bool true)] := (.cons k22 (.cons k24 (.cons k20 (.nil _))))
       replace a0_commands_f := Els.mono rep_G_Command a0_commands_f hb.1
       replace a1_commands_f := Els.mono rep_G_Command a1_commands_f hb.1
       exact ⟨D.wantedE hKe (by kernel_rfl), D.callO h0 (fun bq hbq => hlt0 bq (by revert hbq; simp [blocksOf, Ent.box, rowOf, Ent.row]; try omega)) hb hKe ent30_10 rfl rfl rfl rfl (G.graftref05_With_spec a0_commands_f a1_commands_f hy4) (by kernel_rfl) (by rintro _ m' _ hg hn hl ⟨c33r0_commands_a, c33r0_commands_c, rfl, rfl, c33r0_commands_f⟩; exact ⟨c33r0_commands_a, c33r0_commands_c, rfl, Els.mono rep_G_Command c33r0_commands_f (hn rfl)⟩)⟩) ?_
      refine D.on_op (fun uu _ => uu = .bool true) (fun _ _ _ h _ => h) (by
       intro ac ww kk hlo hhi hb hk
       obtain rfl : kk = 0 := by omega
       have h0 := hS; replace hS := hb.2.1
       have k21 : ac.eval (.tmp 21) = .agg (G_Delta_cells y2 (adr c2r0_commands_g) c2r0_commands_c) := hk.1
       obtain ⟨c33r0_commands_a, c33r0_commands_c, k25, c33r0_commands_f⟩ : ∃ (c33r0_commands_a : Option Addr) (c33r0_commands_c : Nat), ac.eval (.tmp 25) = .agg (G_Delta_cells y4 c33r0_commands_a c33r0_commands_c) ∧ Els is_G_Command (m7.upO none ww) 5 c33r0_commands_a c33r0_commands_c y4.commands := hk.2.1
       have k20 : ac.eval (.tmp 20) = .bool true := hk.2.2.1
       have hKe : Ke ac [(21, .agg (G_Delta_cells y2 (adr c2r0_commands_g) c2r0_commands_c)), (25, .agg (G_Delta_cells y4 c33r0_commands_a c33r0_commands_c)), (20, .bool true)] := (.cons k21 (.cons k25 (.cons k20 (.nil _))))
       replace c2r0_commands_f := Els.mono rep_G_Command c2r0_commands_f hb.1
       exact ⟨D.wantedE hKe (by kernel_rfl), D.callO h0 (fun bq hbq => hlt0 bq (by revert hbq; simp [blocksOf, Ent.box, rowOf, Ent.row]; try omega)) hb hKe ent16_10 rfl rfl rfl rfl (G.graftref05_Same_spec c2r0_commands_f c33r0_commands_f hy5) (by kernel_rfl) (by rintro _ m' _ hg hn hl ⟨rfl, rfl⟩; exact (by rw [hb3]))⟩) ?_
      refine D.on_pure (D.GO_refl _ _) [(20, .bool true), (26, .bool true)] (.bool true) (fun ac ww hk => (.cons (hk.1) (.cons (hk.2.1) (.nil _)))) ?_
      refine D.on_pure (D.GO_refl _ _) [(27, .bool true)] (.bool true) (fun ac ww hk => (.cons (hk.1) (.nil _))) ?_
      refine D.on_det (D.GO_refl _ _) [(2, .pointer (some ⟨b1, 0, none⟩)), (28, .bool true)] (.agg (G_Delta_cells a0 a0_commands_a a0_commands_c)) (fun ac ww hk => (.cons (hk.1.trans (hK.at_ 2 _ rfl)) (.cons (hk.2.1) (.nil _)))) (fun ac ww kk hb hKe Post hp => (fun hS => s_loadAll hKe hS 3 rfl rfl rfl (by kernel_rfl) hp) hb.2.1) ?_
      refine D.on_det (D.GO_refl _ _) [(3, .pointer (some ⟨b2, 0, none⟩)), (28, .bool true)] (.agg (G_Delta_cells a1 a1_commands_a a1_commands_c)) (fun ac ww hk => (.cons (hk.1.trans (hK.at_ 3 _ rfl)) (.cons (hk.2.1) (.nil _)))) (fun ac ww kk hb hKe Post hp => (fun hS => s_loadAll hKe hS 2 rfl rfl rfl (by kernel_rfl) hp) hb.2.1) ?_
      refine D.on_op (fun uu _ => uu = .bool y6) (fun _ _ _ h _ => h) (by
       intro ac ww kk hlo hhi hb hk
       obtain rfl : kk = 0 := by omega
       have h0 := hS; replace hS := hb.2.1
       have k29 : ac.eval (.tmp 29) = .agg (G_Delta_cells a0 a0_commands_a a0_commands_c) := hk.1
       have k30 : ac.eval (.tmp 30) = .agg (G_Delta_cells a1 a1_commands_a a1_commands_c) := hk.2.1
       have k28 : ac.eval (.tmp 28) = .bool true := hk.2.2.1
       have hKe : Ke ac [(29, .agg (G_Delta_cells a0 a0_commands_a a0_commands_c)), (30, .agg (G_Delta_cells a1 a1_commands_a a1_commands_c)), (28, .bool true)] := (.cons k29 (.cons k30 (.cons k28 (.nil _))))
       replace a0_commands_f := Els.mono rep_G_Command a0_commands_f hb.1
       replace a1_commands_f := Els.mono rep_G_Command a1_commands_f hb.1
       exact ⟨D.wantedE hKe (by kernel_rfl), D.callO h0 (fun bq hbq => hlt0 bq (by revert hbq; simp [blocksOf, Ent.box, rowOf, Ent.row]; try omega)) hb hKe ent35_10 rfl rfl rfl rfl (G.delta_Same_spec a0_commands_f a1_commands_f hy6) (by kernel_rfl) (by rintro _ m' _ hg hn hl ⟨rfl, rfl⟩; exact rfl)⟩) ?_
      refine D.on_det (D.GO_refl _ _) [(2, .pointer (some ⟨b1, 0, none⟩)), (28, .bool true)] (.agg (G_Delta_cells a0 a0_commands_a a0_commands_c)) (fun ac ww hk => (.cons (hk.1.trans (hK.at_ 2 _ rfl)) (.cons (hk.2.1) (.nil _)))) (fun ac ww kk hb hKe Post hp => (fun hS => s_loadAll hKe hS 3 rfl rfl rfl (by kernel_rfl) hp) hb.2.1) ?_
      refine D.on_det (D.GO_refl _ _) [(3, .pointer (some ⟨b2, 0, none⟩)), (28, .bool true)] (.agg (G_Delta_cells a1 a1_commands_a a1_commands_c)) (fun ac ww hk => (.cons (hk.1.trans (hK.at_ 3 _ rfl)) (.cons (hk.2.1) (.nil _)))) (fun ac ww kk hb hKe Post hp => (fun hS => s_loadAll hKe hS 2 rfl rfl rfl (by kernel_rfl) hp) hb.2.1) ?_
      refine D.on_op (fun uu _ => uu = .bool y7) (fun _ _ _ h _ => h) (by
       intro ac ww kk hlo hhi hb hk
       obtain rfl : kk = 0 := by omega
       have h0 := hS; replace hS := hb.2.1
       have k32 : ac.eval (.tmp 32) = .agg (G_Delta_cells a0 a0_commands_a a0_commands_c) := hk.1
       have k33 : ac.eval (.tmp 33) = .agg (G_Delta_cells a1 a1_commands_a a1_commands_c) := hk.2.1
       have k28 : ac.eval (.tmp 28) = .bool true := hk.2.2.1
       have hKe : Ke ac [(32, .agg (G_Delta_cells a0 a0_commands_a a0_commands_c)), (33, .agg (G_Delta_cells a1 a1_commands_a a1_commands_c)), (28, .bool true)] := (.cons k32 (.cons k33 (.cons k28 (.nil _))))
       replace a0_commands_f := Els.mono rep_G_Command a0_commands_f hb.1
       replace a1_commands_f := Els.mono rep_G_Command a1_commands_f hb.1
       exact ⟨D.wantedE hKe (by kernel_rfl), D.callO h0 (fun bq hbq => hlt0 bq (by revert hbq; simp [blocksOf, Ent.box, rowOf, Ent.row]; try omega)) hb hKe ent16_10 rfl rfl rfl rfl (G.graftref05_Same_spec a0_commands_f a1_commands_f hy7) (by kernel_rfl) (by rintro _ m' _ hg hn hl ⟨rfl, rfl⟩; exact rfl)⟩) ?_
      refine D.on_det (D.GO_refl _ _) [(31, .bool y6), (34, .bool y7), (28, .bool true)] (.bool false) (fun ac ww hk => (.cons (hk.1) (.cons (hk.2.1) (.cons (hk.2.2.1) (.nil _))))) (fun ac ww kk hb hKe Post hp => s_pureE (.bool false) (.bool (y6 == y7)) hKe (by kernel_rfl) (by kernel_rfl) (by rw [hb4]) hp) ?_
      refine D.on_pure (D.GO_refl _ _) [(28, .bool true), (35, .bool false)] (.bool false) (fun ac ww hk => (.cons (hk.1) (.cons (hk.2.1) (.nil _)))) ?_
      refine D.on_pure (D.GO_refl _ _) [(36, .bool false)] (.bool false) (fun ac ww hk => (.cons (hk.1) (.nil _))) ?_
      refine D.on_no [(37, .bool false)] (fun ac ww hk => .cons (hk.2.1) (.nil _)) ?_
      refine D.on_no [(37, .bool false)] (fun ac ww hk => .cons (hk.2.1) (.nil _)) ?_
      refine D.on_no [(37, .bool false)] (fun ac ww hk => .cons (hk.2.2.1) (.nil _)) ?_
      refine D.on_pure (D.GO_refl _ _) [(37, .bool false), (40, undef)] (.bool false) (fun ac ww hk => (.cons (hk.1) (.cons (hk.2.1) (.nil _)))) ?_
      refine D.on_pure (D.GO_refl _ _) [(41, .bool false)] (.bool false) (fun ac ww hk => (.cons (hk.1) (.nil _))) ?_
      refine D.on_no [(42, .bool false)] (fun ac ww hk => .cons (hk.2.1) (.nil _)) ?_
      refine D.on_no [(42, .bool false)] (fun ac ww hk => .cons (hk.2.1) (.nil _)) ?_
      refine D.on_no [(42, .bool false)] (fun ac ww hk => .cons (hk.2.2.1) (.nil _)) ?_
      refine D.on_no [(42, .bool false)] (fun ac ww hk => .cons (hk.2.1) (.nil _)) ?_
      refine D.on_no [(42, .bool false)] (fun ac ww hk => .cons (hk.2.1) (.nil _)) ?_
      refine D.on_no [(42, .bool false)] (fun ac ww hk => .cons (hk.2.1) (.nil _)) ?_
      refine D.on_no [(42, .bool false)] (fun ac ww hk => .cons (hk.2.1) (.nil _)) ?_
      refine D.finO ?_
      intro fr2 m11 hm1 l11 hS2 hF2 hE
      replace hS2 : St _ m m11 [.box b3 (G_Delta_cells y2 (adr c2r0_commands_g) c2r0_commands_c) 27, rowOf 50 5 c2r0_commands_g c2r0_commands_c y2.commands, .box b2 (G_Delta_cells a1 a1_commands_a a1_commands_c) 27, .box b1 (G_Delta_cells a0 a0_commands_a a0_commands_c) 27] := hS2
      have hK2 := D.kn_ends [(19, .bool true), (20, .bool true), (21, .agg (G_Delta_cells y2 (adr c2r0_commands_g) c2r0_commands_c)), (22, .agg (G_Delta_cells a0 a0_commands_a a0_commands_c)), (23, .pointer (some ⟨b2, 66, none⟩)), (24, .slice a1_commands_a a1.commands.length a1_commands_c), (25, fr2.eval (.tmp 25)), (26, .bool true), (27, .bool true), (28, .bool true), (29, .agg (G_Delta_cells a0 a0_commands_a a0_commands_c)), (30, .agg (G_Delta_cells a1 a1_commands_a a1_commands_c)), (31, .bool y6), (32, .agg (G_Delta_cells a0 a0_commands_a a0_commands_c)), (33, .agg (G_Delta_cells a1 a1_commands_a a1_commands_c)), (34, .bool y7), (35, .bool false), (36, .bool false), (37, .bool false), (38, undef), (39, undef), (40, undef), (41, .bool false), (42, .bool false), (43, undef), (44, undef), (45, undef), (46, undef), (47, undef), (48, undef), (49, undef)] hK hE rfl (by kernel_rfl) (.cons (hE.slots 19) (.cons (hE.slots 20) (.cons (hE.slots 21) (.cons (hE.slots 22) (.cons (hE.slots 23) (.cons (hE.slots 24) (.cons (rfl) (.cons (hE.slots 26) (.cons (hE.slots 27) (.cons (hE.slots 28) (.cons (hE.slots 29) (.cons (hE.slots 30) (.cons (hE.slots 31) (.cons (hE.slots 32) (.cons (hE.slots 33) (.cons (hE.slots 34) (.cons (hE.slots 35) (.cons (hE.slots 36) (.cons (hE.slots 37) (.cons (hE.slots 38) (.cons (hE.slots 39) (.cons (hE.slots 40) (.cons (hE.slots 41) (.cons (hE.slots 42) (.cons (hE.slots 43) (.cons (hE.slots 44) (.cons (hE.slots 45) (.cons (hE.slots 46) (.cons (hE.slots 47) (.cons (hE.slots 48) (.cons (hE.slots 49) (.nil _))))))))))))))))))))))))))))))))
      replace hK2 : Kn 53 fr2 [(19, .bool true), (20, .bool true), (21, .agg (G_Delta_cells y2 (adr c2r0_commands_g) c2r0_commands_c)), (22, .agg (G_Delta_cells a0 a0_commands_a a0_commands_c)), (23, .pointer (some ⟨b2, 66, none⟩)), (24, .slice a1_commands_a a1.commands.length a1_commands_c), (26, .bool true), (27, .bool true), (28, .bool true), (29, .agg (G_Delta_cells a0 a0_commands_a a0_commands_c)), (30, .agg (G_Delta_cells a1 a1_commands_a a1_commands_c)), (31, .bool y6), (32, .agg (G_Delta_cells a0 a0_commands_a a0_commands_c)), (33, .agg (G_Delta_cells a1 a1_commands_a a1_commands_c)), (34, .bool y7), (35, .bool false), (36, .bool false), (37, .bool false), (38, undef), (39, undef), (40, undef), (41, .bool false), (42, .bool false), (43, undef), (44, undef), (45, undef), (46, undef), (47, undef), (48, undef), (49, undef), (5, .pointer (some ⟨b3, 0, none⟩)), (18, .agg (G_Delta_cells y2 (adr c2r0_commands_g) c2r0_commands_c)), (17, .slice a1_commands_a a1.commands.length a1_commands_c), (16, .pointer (some ⟨b2, 66, none⟩)), (15, .agg (G_Delta_cells a0 a0_commands_a a0_commands_c)), (13, .bool false), (2, .pointer (some ⟨b1, 0, none⟩)), (3, .pointer (some ⟨b2, 0, none⟩))] := hK2.only [19, 20, 21, 22, 23, 24, 26, 27, 28, 29, 30, 31, 32, 33, 34, 35, 36, 37, 38, 39, 40, 41, 42, 43, 44, 45, 46, 47, 48, 49, 5, 18, 17, 16, 15, 13, 2, 3]
      clear hE hK; revert hK2; clear hm1 hS hlt0; revert fr2; clear fr; intro fr hK; have hS := hS2; clear hS2
      replace hS : St _ m m11 [.box b3 (G_Delta_cells y2 (adr c2r0_commands_g) c2r0_commands_c) 27, rowOf 50 5 c2r0_commands_g c2r0_commands_c y2.commands, .box b2 (G_Delta_cells a1 a1_commands_a a1_commands_c) 27, .box b1 (G_Delta_cells a0 a0_commands_a a0_commands_c) 27] := hS
      refine qs 50 hK ?_
      clear hK fr; intro fr hK
      refine qs 51 hK ?_
      clear hK fr; intro fr hK
      refine qp 52 (.bool false) hK fun fr hK => ?_
      refine qp 4 (.bool false) hK fun fr hK => ?_
      refine wpListIn_nil (then_n ?_)
      refine wpIn_ret ?_
      replace h := Option.some.inj h; subst h
      refine ret_of [.tmp 4] [.bool false] rfl hK (.tmp rfl .nil) hS.dropAll ?_
      exact ⟨rfl, rfl⟩
    ·
     replace h := ite_f (ne_true_of_eq_false hb3) h
     have hlt0 : ∀ bq ∈ blocksOf [.box b3 (G_Delta_cells y2 (adr c2r0_commands_g) c2r0_commands_c) 27, rowOf 50 5 c2r0_commands_g c2r0_commands_c y2.commands, .box b2 (G_Delta_cells a1 a1_commands_a a1_commands_c) 27, .box b1 (G_Delta_cells a0 a0_commands_a a0_commands_c) 27], bq < m7.w.heap.size := fun bq hbq => hS.ow.lt hbq
     refine D.wp_draw (Gr := D.GO m7 none) (S := D.SO none (blocksOf []) m m7 (fun _ => [.box b3 (G_Delta_cells y2 (adr c2r0_commands_g) c2r0_commands_c) 27, rowOf 50 5 c2r0_commands_g c2r0_commands_c y2.commands, .box b2 (G_Delta_cells a1 a1_commands_a a1_commands_c) 27, .box b1 (G_Delta_cells a0 a0_commands_a a0_commands_c) 27]) (fun _ => True)) (N := 0) 31 [] [([], 0, 0, false), ([(19, some 0)], 0, 0, false), ([(5, none), (20, some 0)], 0, 0, false), ([(2, none), (20, some 1)], 0, 0, false), ([(3, none), (20, some 2)], 0, 0, false), ([(23, some 0), (20, some 3)], 0, 0, false), ([(22, some 2), (24, some 0), (20, some 4)], 0, 0, false), ([(21, some 4), (25, some 0), (20, some 5)], 0, 0, false), ([(20, some 6), (26, some 0)], 0, 0, false), ([(27, some 0)], 0, 0, false), ([(2, none), (28, some 0)], 0, 0, false), ([(3, none), (28, some 1)], 0, 0, false), ([(29, some 1), (30, some 0), (28, some 2)], 0, 0, false), ([(2, none), (28, some 3)], 0, 0, false), ([(3, none), (28, some 4)], 0, 0, false), ([(32, some 1), (33, some 0), (28, some 5)], 0, 0, false), ([(31, some 3), (34, some 0), (28, some 6)], 0, 0, false), ([(28, some 7), (35, some 0)], 0, 0, false), ([(36, some 0)], 0, 0, false), ([(2, none), (37, some 0)], 0, 0, false), ([(2, none), (37, some 1)], 0, 0, false), ([(38, some 1), (39, some 0), (37, some 2)], 0, 0, false), ([(37, some 3), (40, some 0)], 0, 0, false), ([(41, some 0)], 0, 0, false), ([(5, none), (42, some 0)], 0, 0, false), ([(2, none), (42, some 1)], 0, 0, false), ([(43, some 1), (44, some 0), (42, some 2)], 0, 0, false), ([(2, none), (42, some 3)], 0, 0, false), ([(46, some 0), (42, some 4)], 0, 0, false), ([(3, none), (42, some 5)], 0, 0, false), ([(48, some 0), (42, some 6)], 0, 0, false)] hK.size (by kernel_rfl) (by kernel_rfl) (by kernel_rfl) rfl (D.startO hS trivial) ?_
     refine D.on_op (fun uu _ => uu = .bool true) (fun _ _ _ h _ => h) (by
      intro ac ww kk hlo hhi hb hk
      obtain rfl : kk = 0 := by omega
      have h0 := hS; replace hS := hb.2.1
      have hKe : Ke ac [] := (.nil _)
      exact ⟨D.wanted0 rfl, D.callO h0 (fun bq hbq => hlt0 bq (by revert hbq; simp [blocksOf, Ent.box, rowOf, Ent.row]; try omega)) hb hKe ent23_10 rfl rfl rfl rfl (G.graftlaw05_alive_spec hy3) (by kernel_rfl) (by rintro _ m' _ hg hn hl ⟨rfl, rfl⟩; exact (by rw [hb2]))⟩) ?_
     refine D.on_pure (D.GO_refl _ _) [(19, .bool true)] (.bool true) (fun ac ww hk => (.cons (hk.1) (.nil _))) ?_
     refine D.on_det (D.GO_refl _ _) [(5, .pointer (some ⟨b3, 0, none⟩)), (20, .bool true)] (.agg (G_Delta_cells y2 (adr c2r0_commands_g) c2r0_commands_c)) (fun ac ww hk => (.cons (hk.1.trans (hK.at_ 5 _ rfl)) (.cons (hk.2.1) (.nil _)))) (fun ac ww kk hb hKe Post hp => (fun hS => s_loadAll hKe hS 0 rfl rfl rfl (by kernel_rfl) hp) hb.2.1) ?_
     refine D.on_det (D.GO_refl _ _) [(2, .pointer (some ⟨b1, 0, none⟩)), (20, .bool true)] (.agg (G_Delta_cells a0 a0_commands_a a0_commands_c)) (fun ac ww hk => (.cons (hk.1.trans (hK.at_ 2 _ rfl)) (.cons (hk.2.1) (.nil _)))) (fun ac ww kk hb hKe Post hp => (fun hS => s_loadAll hKe hS 3 rfl rfl rfl (by kernel_rfl) hp) hb.2.1) ?_
     refine D.on_pure (D.GO_refl _ _) [(3, .pointer (some ⟨b2, 0, none⟩)), (20, .bool true)] (.pointer (some ⟨b2, 66, none⟩)) (fun ac ww hk => (.cons (hk.1.trans (hK.at_ 3 _ rfl)) (.cons (hk.2.1) (.nil _)))) ?_
     refine D.on_det (D.GO_refl _ _) [(23, .pointer (some ⟨b2, 66, none⟩)), (20, .bool true)] (.slice a1_commands_a a1.commands.length a1_commands_c) (fun ac ww hk => (.cons (hk.1) (.cons (hk.2.1) (.nil _)))) (fun ac ww kk hb hKe Post hp => (fun hS => s_load hKe hS 2 rfl rfl rfl rfl (by kernel_rfl) hp) hb.2.1) ?_
     refine D.on_op (fun uu ww => ∃ (c38r0_commands_a : Option Addr) (c38r0_commands_c : Nat), uu = .agg (G_Delta_cells y4 c38r0_commands_a c38r0_commands_c) ∧ Els is_G_Command (m7.upO none ww) 5 c38r0_commands_a c38r0_commands_c y4.commands) (fun _ _ _ ⟨c38r0_commands_a, c38r0_commands_c, e, c38r0_commands_f⟩ g => ⟨c38r0_commands_a, c38r0_commands_c, e, Els.mono rep_G_Command c38r0_commands_f g.1⟩) (by
      intro ac ww kk hlo hhi hb hk
      obtain rfl : kk = 0 := by omega
      have h0 := hS; replace hS := hb.2.1
      have k22 : ac.eval (.tmp 22) = .agg (G_Delta_cells a0 a0_commands_a a0_commands_c) := hk.1
      have k24 : ac.eval (.tmp 24) = .slice a1_commands_a a1.commands.length a1_commands_c := hk.2.1
      have k20 : ac.eval (.tmp 20) = .bool true := hk.2.2.1
      have hKe : Ke ac [(22, .agg (G_Delta_cells a0 a0_commands_a a0_commands_c)), (24, .slice a1_commands_a a1.commands.length a1_commands_c), (20, .bool true)] := (.cons k22 (.cons k24 (.cons k20 (.nil _))))
      replace a0_commands_f := Els.mono rep_G_Command a0_commands_f hb.1
      replace a1_commands_f := Els.mono rep_G_Command a1_commands_f hb.1
      exact ⟨D.wantedE hKe (by kernel_rfl), D.callO h0 (fun bq hbq => hlt0 bq (by revert hbq; simp [blocksOf, Ent.box, rowOf, Ent.row]; try omega)) hb hKe ent30_10 rfl rfl rfl rfl (G.graftref05_With_spec a0_commands_f a1_commands_f hy4) (by kernel_rfl) (by rintro _ m' _ hg hn hl ⟨c38r0_commands_a, c38r0_commands_c, rfl, rfl, c38r0_commands_f⟩; exact ⟨c38r0_commands_a, c38r0_commands_c, rfl, Els.mono rep_G_Command c38r0_commands_f (hn rfl)⟩)⟩) ?_
     refine D.on_op (fun uu _ => uu = .bool false) (fun _ _ _ h _ => h) (by
      intro ac ww kk hlo hhi hb hk
      obtain rfl : kk = 0 := by omega
      have h0 := hS; replace hS := hb.2.1
      have k21 : ac.eval (.tmp 21) = .agg (G_Delta_cells y2 (adr c2r0_commands_g) c2r0_commands_c) := hk.1
      obtain ⟨c38r0_commands_a, c38r0_commands_c, k25, c38r0_commands_f⟩ : ∃ (c38r0_commands_a : Option Addr) (c38r0_commands_c : Nat), ac.eval (.tmp 25) = .agg (G_Delta_cells y4 c38r0_commands_a c38r0_commands_c) ∧ Els is_G_Command (m7.upO none ww) 5 c38r0_commands_a c38r0_commands_c y4.commands := hk.2.1
      have k20 : ac.eval (.tmp 20) = .bool true := hk.2.2.1
      have hKe : Ke ac [(21, .agg (G_Delta_cells y2 (adr c2r0_commands_g) c2r0_commands_c)), (25, .agg (G_Delta_cells y4 c38r0_commands_a c38r0_commands_c)), (20, .bool true)] := (.cons k21 (.cons k25 (.cons k20 (.nil _))))
      replace c2r0_commands_f := Els.mono rep_G_Command c2r0_commands_f hb.1
      exact ⟨D.wantedE hKe (by kernel_rfl), D.callO h0 (fun bq hbq => hlt0 bq (by revert hbq; simp [blocksOf, Ent.box, rowOf, Ent.row]; try omega)) hb hKe ent16_10 rfl rfl rfl rfl (G.graftref05_Same_spec c2r0_commands_f c38r0_commands_f hy5) (by kernel_rfl) (by rintro _ m' _ hg hn hl ⟨rfl, rfl⟩; exact (by rw [hb3]))⟩) ?_
     refine D.on_pure (D.GO_refl _ _) [(20, .bool true), (26, .bool false)] (.bool false) (fun ac ww hk => (.cons (hk.1) (.cons (hk.2.1) (.nil _)))) ?_
     refine D.on_pure (D.GO_refl _ _) [(27, .bool false)] (.bool false) (fun ac ww hk => (.cons (hk.1) (.nil _))) ?_
     refine D.on_no [(28, .bool false)] (fun ac ww hk => .cons (hk.2.1) (.nil _)) ?_
     refine D.on_no [(28, .bool false)] (fun ac ww hk => .cons (hk.2.1) (.nil _)) ?_
     refine D.on_no [(28, .bool false)] (fun ac ww hk => .cons (hk.2.2.1) (.nil _)) ?_
     refine D.on_no [(28, .bool false)] (fun ac ww hk => .cons (hk.2.1) (.nil _)) ?_
     refine D.on_no [(28, .bool false)] (fun ac ww hk => .cons (hk.2.1) (.nil _)) ?_
     refine D.on_no [(28, .bool false)] (fun ac ww hk => .cons (hk.2.2.1) (.nil _)) ?_
     refine D.on_no [(28, .bool false)] (fun ac ww hk => .cons (hk.2.2.1) (.nil _)) ?_
     refine D.on_pure (D.GO_refl _ _) [(28, .bool false), (35, undef)] (.bool false) (fun ac ww hk => (.cons (hk.1) (.cons (hk.2.1) (.nil _)))) ?_
     refine D.on_pure (D.GO_refl _ _) [(36, .bool false)] (.bool false) (fun ac ww hk => (.cons (hk.1) (.nil _))) ?_
     refine D.on_no [(37, .bool false)] (fun ac ww hk => .cons (hk.2.1) (.nil _)) ?_
     refine D.on_no [(37, .bool false)] (fun ac ww hk => .cons (hk.2.1) (.nil _)) ?_
     refine D.on_no [(37, .bool false)] (fun ac ww hk => .cons (hk.2.2.1) (.nil _)) ?_
     refine D.on_pure (D.GO_refl _ _) [(37, .bool false), (40, undef)] (.bool false) (fun ac ww hk => (.cons (hk.1) (.cons (hk.2.1) (.nil _)))) ?_
     refine D.on_pure (D.GO_refl _ _) [(41, .bool false)] (.bool false) (fun ac ww hk => (.cons (hk.1) (.nil _))) ?_
     refine D.on_no [(42, .bool false)] (fun ac ww hk => .cons (hk.2.1) (.nil _)) ?_
     refine D.on_no [(42, .bool false)] (fun ac ww hk => .cons (hk.2.1) (.nil _)) ?_
     refine D.on_no [(42, .bool false)] (fun ac ww hk => .cons (hk.2.2.1) (.nil _)) ?_
     refine D.on_no [(42, .bool false)] (fun ac ww hk => .cons (hk.2.1) (.nil _)) ?_
     refine D.on_no [(42, .bool false)] (fun ac ww hk => .cons (hk.2.1) (.nil _)) ?_
     refine D.on_no [(42, .bool false)] (fun ac ww hk => .cons (hk.2.1) (.nil _)) ?_
     refine D.on_no [(42, .bool false)] (fun ac ww hk => .cons (hk.2.1) (.nil _)) ?_
     refine D.finO ?_
     intro fr2 m12 hm1 l12 hS2 hF2 hE
     replace hS2 : St _ m m12 [.box b3 (G_Delta_cells y2 (adr c2r0_commands_g) c2r0_commands_c) 27, rowOf 50 5 c2r0_commands_g c2r0_commands_c y2.commands, .box b2 (G_Delta_cells a1 a1_commands_a a1_commands_c) 27, .box b1 (G_Delta_cells a0 a0_commands_a a0_commands_c) 27] := hS2
     have hK2 := D.kn_ends [(19, .bool true), (20, .bool true), (21, .agg (G_Delta_cells y2 (adr c2r0_commands_g) c2r0_commands_c)), (22, .agg (G_Delta_cells a0 a0_commands_a a0_commands_c)), (23, .pointer (some ⟨b2, 66, none⟩)), (24, .slice a1_commands_a a1.commands.length a1_commands_c), (25, fr2.eval (.tmp 25)), (26, .bool false), (27, .bool false), (28, .bool false), (29, undef), (30, undef), (31, undef), (32, undef), (33, undef), (34, undef), (35, undef), (36, .bool false), (37, .bool false), (38, undef), (39, undef), (40, undef), (41, .bool false), (42, .bool false), (43, undef), (44, undef), (45, undef), (46, undef), (47, undef), (48, undef), (49, undef)] hK hE rfl (by kernel_rfl) (.cons (hE.slots 19) (.cons (hE.slots 20) (.cons (hE.slots 21) (.cons (hE.slots 22) (.cons (hE.slots 23) (.cons (hE.slots 24) (.cons (rfl) (.cons (hE.slots 26) (.cons (hE.slots 27) (.cons (hE.slots 28) (.cons (hE.slots 29) (.cons (hE.slots 30) (.cons (hE.slots 31) (.cons (hE.slots 32) (.cons (hE.slots 33) (.cons (hE.slots 34) (.cons (hE.slots 35) (.cons (hE.slots 36) (.cons (hE.slots 37) (.cons (hE.slots 38) (.cons (hE.slots 39) (.cons (hE.slots 40) (.cons (hE.slots 41) (.cons (hE.slots 42) (.cons (hE.slots 43) (.cons (hE.slots 44) (.cons (hE.slots 45) (.cons (hE.slots 46) (.cons (hE.slots 47) (.cons (hE.slots 48) (.cons (hE.slots 49) (.nil _))))))))))))))))))))))))))))))))
     replace hK2 : Kn 53 fr2 [(19, .bool true), (20, .bool true), (21, .agg (G_Delta_cells y2 (adr c2r0_commands_g) c2r0_commands_c)), (22, .agg (G_Delta_cells a0 a0_commands_a a0_commands_c)), (23, .pointer (some ⟨b2, 66, none⟩)), (24, .slice a1_commands_a a1.commands.length a1_commands_c), (26, .bool false), (27, .bool false), (28, .bool false), (29, undef), (30, undef), (31, undef), (32, undef), (33, undef), (34, undef), (35, undef), (36, .bool false), (37, .bool false), (38, undef), (39, undef), (40, undef), (41, .bool false), (42, .bool false), (43, undef), (44, undef), (45, undef), (46, undef), (47, undef), (48, undef), (49, undef), (5, .pointer (some ⟨b3, 0, none⟩)), (18, .agg (G_Delta_cells y2 (adr c2r0_commands_g) c2r0_commands_c)), (17, .slice a1_commands_a a1.commands.length a1_commands_c), (16, .pointer (some ⟨b2, 66, none⟩)), (15, .agg (G_Delta_cells a0 a0_commands_a a0_commands_c)), (13, .bool false), (2, .pointer (some ⟨b1, 0, none⟩)), (3, .pointer (some ⟨b2, 0, none⟩))] := hK2.only [19, 20, 21, 22, 23, 24, 26, 27, 28, 29, 30, 31, 32, 33, 34, 35, 36, 37, 38, 39, 40, 41, 42, 43, 44, 45, 46, 47, 48, 49, 5, 18, 17, 16, 15, 13, 2, 3]
     clear hE hK; revert hK2; clear hm1 hS hlt0; revert fr2; clear fr; intro fr hK; have hS := hS2; clear hS2
     replace hS : St _ m m12 [.box b3 (G_Delta_cells y2 (adr c2r0_commands_g) c2r0_commands_c) 27, rowOf 50 5 c2r0_commands_g c2r0_commands_c y2.commands, .box b2 (G_Delta_cells a1 a1_commands_a a1_commands_c) 27, .box b1 (G_Delta_cells a0 a0_commands_a a0_commands_c) 27] := hS
     refine qs 50 hK ?_
     clear hK fr; intro fr hK
     refine qs 51 hK ?_
     clear hK fr; intro fr hK
     refine qp 52 (.bool false) hK fun fr hK => ?_
     refine qp 4 (.bool false) hK fun fr hK => ?_
     refine wpListIn_nil (then_n ?_)
     refine wpIn_ret ?_
     replace h := Option.some.inj h; subst h
     refine ret_of [.tmp 4] [.bool false] rfl hK (.tmp rfl .nil) hS.dropAll ?_
     exact ⟨rfl, rfl⟩
   ·
    replace h := ite_f (ne_true_of_eq_false hb2) h
    have hlt0 : ∀ bq ∈ blocksOf [.box b3 (G_Delta_cells y2 (adr c2r0_commands_g) c2r0_commands_c) 27, rowOf 50 5 c2r0_commands_g c2r0_commands_c y2.commands, .box b2 (G_Delta_cells a1 a1_commands_a a1_commands_c) 27, .box b1 (G_Delta_cells a0 a0_commands_a a0_commands_c) 27], bq < m7.w.heap.size := fun bq hbq => hS.ow.lt hbq
    refine D.wp_draw (Gr := D.GO m7 none) (S := D.SO none (blocksOf []) m m7 (fun _ => [.box b3 (G_Delta_cells y2 (adr c2r0_commands_g) c2r0_commands_c) 27, rowOf 50 5 c2r0_commands_g c2r0_commands_c y2.commands, .box b2 (G_Delta_cells a1 a1_commands_a a1_commands_c) 27, .box b1 (G_Delta_cells a0 a0_commands_a a0_commands_c) 27]) (fun _ => True)) (N := 0) 31 [] [([], 0, 0, false), ([(19, some 0)], 0, 0, false), ([(5, none), (20, some 0)], 0, 0, false), ([(2, none), (20, some 1)], 0, 0, false), ([(3, none), (20, some 2)], 0, 0, false), ([(23, some 0), (20, some 3)], 0, 0, false), ([(22, some 2), (24, some 0), (20, some 4)], 0, 0, false), ([(21, some 4), (25, some 0), (20, some 5)], 0, 0, false), ([(20, some 6), (26, some 0)], 0, 0, false), ([(27, some 0)], 0, 0, false), ([(2, none), (28, some 0)], 0, 0, false), ([(3, none), (28, some 1)], 0, 0, false), ([(29, some 1), (30, some 0), (28, some 2)], 0, 0, false), ([(2, none), (28, some 3)], 0, 0, false), ([(3, none), (28, some 4)], 0, 0, false), ([(32, some 1), (33, some 0), (28, some 5)], 0, 0, false), ([(31, some 3), (34, some 0), (28, some 6)], 0, 0, false), ([(28, some 7), (35, some 0)], 0, 0, false), ([(36, some 0)], 0, 0, false), ([(2, none), (37, some 0)], 0, 0, false), ([(2, none), (37, some 1)], 0, 0, false), ([(38, some 1), (39, some 0), (37, some 2)], 0, 0, false), ([(37, some 3), (40, some 0)], 0, 0, false), ([(41, some 0)], 0, 0, false), ([(5, none), (42, some 0)], 0, 0, false), ([(2, none), (42, some 1)], 0, 0, false), ([(43, some 1), (44, some 0), (42, some 2)], 0, 0, false), ([(2, none), (42, some 3)], 0, 0, false), ([(46, some 0), (42, some 4)], 0, 0, false), ([(3, none), (42, some 5)], 0, 0, false), ([(48, some 0), (42, some 6)], 0, 0, false)] hK.size (by kernel_rfl) (by kernel_rfl) (by kernel_rfl) rfl (D.startO hS trivial) ?_
    refine D.on_op (fun uu _ => uu = .bool false) (fun _ _ _ h _ => h) (by
     intro ac ww kk hlo hhi hb hk
     obtain rfl : kk = 0 := by omega
     have h0 := hS; replace hS := hb.2.1
     have hKe : Ke ac [] := (.nil _)
     exact ⟨D.wanted0 rfl, D.callO h0 (fun bq hbq => hlt0 bq (by revert hbq; simp [blocksOf, Ent.box, rowOf, Ent.row]; try omega)) hb hKe ent23_10 rfl rfl rfl rfl (G.graftlaw05_alive_spec hy3) (by kernel_rfl) (by rintro _ m' _ hg hn hl ⟨rfl, rfl⟩; exact (by rw [hb2]))⟩) ?_
    refine D.on_pure (D.GO_refl _ _) [(19, .bool false)] (.bool false) (fun ac ww hk => (.cons (hk.1) (.nil _))) ?_
    refine D.on_no [(20, .bool false)] (fun ac ww hk => .cons (hk.2.1) (.nil _)) ?_
    refine D.on_no [(20, .bool false)] (fun ac ww hk => .cons (hk.2.1) (.nil _)) ?_
    refine D.on_no [(20, .bool false)] (fun ac ww hk => .cons (hk.2.1) (.nil _)) ?_
    refine D.on_no [(20, .bool false)] (fun ac ww hk => .cons (hk.2.1) (.nil _)) ?_
    refine D.on_no [(20, .bool false)] (fun ac ww hk => .cons (hk.2.2.1) (.nil _)) ?_
    refine D.on_no [(20, .bool false)] (fun ac ww hk => .cons (hk.2.2.1) (.nil _)) ?_
    refine D.on_pure (D.GO_refl _ _) [(20, .bool false), (26, undef)] (.bool false) (fun ac ww hk => (.cons (hk.1) (.cons (hk.2.1) (.nil _)))) ?_
    refine D.on_pure (D.GO_refl _ _) [(27, .bool false)] (.bool false) (fun ac ww hk => (.cons (hk.1) (.nil _))) ?_
    refine D.on_no [(28, .bool false)] (fun ac ww hk => .cons (hk.2.1) (.nil _)) ?_
    refine D.on_no [(28, .bool false)] (fun ac ww hk => .cons (hk.2.1) (.nil _)) ?_
    refine D.on_no [(28, .bool false)] (fun ac ww hk => .cons (hk.2.2.1) (.nil _)) ?_
    refine D.on_no [(28, .bool false)] (fun ac ww hk => .cons (hk.2.1) (.nil _)) ?_
    refine D.on_no [(28, .bool false)] (fun ac ww hk => .cons (hk.2.1) (.nil _)) ?_
    refine D.on_no [(28, .bool false)] (fun ac ww hk => .cons (hk.2.2.1) (.nil _)) ?_
    refine D.on_no [(28, .bool false)] (fun ac ww hk => .cons (hk.2.2.1) (.nil _)) ?_
    refine D.on_pure (D.GO_refl _ _) [(28, .bool false), (35, undef)] (.bool false) (fun ac ww hk => (.cons (hk.1) (.cons (hk.2.1) (.nil _)))) ?_
    refine D.on_pure (D.GO_refl _ _) [(36, .bool false)] (.bool false) (fun ac ww hk => (.cons (hk.1) (.nil _))) ?_
    refine D.on_no [(37, .bool false)] (fun ac ww hk => .cons (hk.2.1) (.nil _)) ?_
    refine D.on_no [(37, .bool false)] (fun ac ww hk => .cons (hk.2.1) (.nil _)) ?_
    refine D.on_no [(37, .bool false)] (fun ac ww hk => .cons (hk.2.2.1) (.nil _)) ?_
    refine D.on_pure (D.GO_refl _ _) [(37, .bool false), (40, undef)] (.bool false) (fun ac ww hk => (.cons (hk.1) (.cons (hk.2.1) (.nil _)))) ?_
    refine D.on_pure (D.GO_refl _ _) [(41, .bool false)] (.bool false) (fun ac ww hk => (.cons (hk.1) (.nil _))) ?_
    refine D.on_no [(42, .bool false)] (fun ac ww hk => .cons (hk.2.1) (.nil _)) ?_
    refine D.on_no [(42, .bool false)] (fun ac ww hk => .cons (hk.2.1) (.nil _)) ?_
    refine D.on_no [(42, .bool false)] (fun ac ww hk => .cons (hk.2.2.1) (.nil _)) ?_
    refine D.on_no [(42, .bool false)] (fun ac ww hk => .cons (hk.2.1) (.nil _)) ?_
    refine D.on_no [(42, .bool false)] (fun ac ww hk => .cons (hk.2.1) (.nil _)) ?_
    refine D.on_no [(42, .bool false)] (fun ac ww hk => .cons (hk.2.1) (.nil _)) ?_
    refine D.on_no [(42, .bool false)] (fun ac ww hk => .cons (hk.2.1) (.nil _)) ?_
    refine D.finO ?_
    intro fr2 m13 hm1 l13 hS2 hF2 hE
    replace hS2 : St _ m m13 [.box b3 (G_Delta_cells y2 (adr c2r0_commands_g) c2r0_commands_c) 27, rowOf 50 5 c2r0_commands_g c2r0_commands_c y2.commands, .box b2 (G_Delta_cells a1 a1_commands_a a1_commands_c) 27, .box b1 (G_Delta_cells a0 a0_commands_a a0_commands_c) 27] := hS2
    have hK2 := D.kn_ends [(19, .bool false), (20, .bool false), (21, undef), (22, undef), (23, undef), (24, undef), (25, undef), (26, undef), (27, .bool false), (28, .bool false), (29, undef), (30, undef), (31, undef), (32, undef), (33, undef), (34, undef), (35, undef), (36, .bool false), (37, .bool false), (38, undef), (39, undef), (40, undef), (41, .bool false), (42, .bool false), (43, undef), (44, undef), (45, undef), (46, undef), (47, undef), (48, undef), (49, undef)] hK hE rfl (by kernel_rfl) (.cons (hE.slots 19) (.cons (hE.slots 20) (.cons (hE.slots 21) (.cons (hE.slots 22) (.cons (hE.slots 23) (.cons (hE.slots 24) (.cons (hE.slots 25) (.cons (hE.slots 26) (.cons (hE.slots 27) (.cons (hE.slots 28) (.cons (hE.slots 29) (.cons (hE.slots 30) (.cons (hE.slots 31) (.cons (hE.slots 32) (.cons (hE.slots 33) (.cons (hE.slots 34) (.cons (hE.slots 35) (.cons (hE.slots 36) (.cons (hE.slots 37) (.cons (hE.slots 38) (.cons (hE.slots 39) (.cons (hE.slots 40) (.cons (hE.slots 41) (.cons (hE.slots 42) (.cons (hE.slots 43) (.cons (hE.slots 44) (.cons (hE.slots 45) (.cons (hE.slots 46) (.cons (hE.slots 47) (.cons (hE.slots 48) (.cons (hE.slots 49) (.nil _))))))))))))))))))))))))))))))))
    replace hK2 : Kn 53 fr2 [(19, .bool false), (20, .bool false), (21, undef), (22, undef), (23, undef), (24, undef), (25, undef), (26, undef), (27, .bool false), (28, .bool false), (29, undef), (30, undef), (31, undef), (32, undef), (33, undef), (34, undef), (35, undef), (36, .bool false), (37, .bool false), (38, undef), (39, undef), (40, undef), (41, .bool false), (42, .bool false), (43, undef), (44, undef), (45, undef), (46, undef), (47, undef), (48, undef), (49, undef), (5, .pointer (some ⟨b3, 0, none⟩)), (18, .agg (G_Delta_cells y2 (adr c2r0_commands_g) c2r0_commands_c)), (17, .slice a1_commands_a a1.commands.length a1_commands_c), (16, .pointer (some ⟨b2, 66, none⟩)), (15, .agg (G_Delta_cells a0 a0_commands_a a0_commands_c)), (13, .bool false), (2, .pointer (some ⟨b1, 0, none⟩)), (3, .pointer (some ⟨b2, 0, none⟩))] := hK2.only [19, 20, 21, 22, 23, 24, 25, 26, 27, 28, 29, 30, 31, 32, 33, 34, 35, 36, 37, 38, 39, 40, 41, 42, 43, 44, 45, 46, 47, 48, 49, 5, 18, 17, 16, 15, 13, 2, 3]
    clear hE hK; revert hK2; clear hm1 hS hlt0; revert fr2; clear fr; intro fr hK; have hS := hS2; clear hS2
    replace hS : St _ m m13 [.box b3 (G_Delta_cells y2 (adr c2r0_commands_g) c2r0_commands_c) 27, rowOf 50 5 c2r0_commands_g c2r0_commands_c y2.commands, .box b2 (G_Delta_cells a1 a1_commands_a a1_commands_c) 27, .box b1 (G_Delta_cells a0 a0_commands_a a0_commands_c) 27] := hS
    refine qs 50 hK ?_
    clear hK fr; intro fr hK
    refine qs 51 hK ?_
    clear hK fr; intro fr hK
    refine qp 52 (.bool false) hK fun fr hK => ?_
    refine qp 4 (.bool false) hK fun fr hK => ?_
    refine wpListIn_nil (then_n ?_)
    refine wpIn_ret ?_
    replace h := Option.some.inj h; subst h
    refine ret_of [.tmp 4] [.bool false] rfl hK (.tmp rfl .nil) hS.dropAll ?_
    exact ⟨rfl, rfl⟩
 ·
  replace h := hv1; clear hv1
  refine w_region ?_
  refine qo 6 hK (s_loadAll hK.at_ hS 1 rfl rfl rfl (by kernel_rfl) ?_)
  clear hK fr; intro fr hK
  replace a0_commands_f := Els.mono rep_G_Command a0_commands_f (l1.trans l2)
  obtain ⟨y11, hy11, h⟩ := bind_some h
  refine qo 7 hK (s_call hK.at_ hS ent17_10 rfl rfl rfl rfl (G.graftref05_Few_spec a0_commands_f hy11) (by kernel_rfl) ?_)
  clear hK fr hS; rintro _ m14 _ l14 hS ⟨rfl, rfl⟩ fr hK
  replace hS : St _ m m14 [.box b2 (G_Delta_cells a1 a1_commands_a a1_commands_c) 27, .box b1 (G_Delta_cells a0 a0_commands_a a0_commands_c) 27] := hS
  refine qp 8 (.bool (!y11)) hK fun fr hK => ?_
  refine qp 9 (.bool (!y11)) hK fun fr hK => ?_
  refine split_b (x := (!y11)) (fun hb6 => ?_) (fun hb6 => ?_)
  ·
   replace hK := hK.more (t := 9) (v' := .bool true) rfl (by rw [hb6])
   replace hK := hK.more (t := 8) (v' := .bool true) rfl (by rw [hb6])
   replace h := ite_t ((Bool.not_eq_true' _).mp hb6) h
   refine qs 10 hK ?_
   clear hK fr; intro fr hK
   refine qs 11 hK ?_
   clear hK fr; intro fr hK
   refine qs 12 hK ?_
   clear hK fr; intro fr hK
   refine qp 13 (.bool true) hK fun fr hK => ?_
   refine wpListIn_nil (then_n ?_)
   replace hS := hS.front 1 rfl
   replace hS := hS.front 1 rfl
   replace hS : St _ m m14 [.box b2 (G_Delta_cells a1 a1_commands_a a1_commands_c) 27, .box b1 (G_Delta_cells a0 a0_commands_a a0_commands_c) 27] := hS
   replace h := Option.some.inj h; subst h
   exact ⟨m14, rfl, hK.only [2, 3, 13], l14, hS⟩
  ·
   replace hK := hK.more (t := 9) (v' := .bool false) rfl (by rw [hb6])
   replace hK := hK.more (t := 8) (v' := .bool false) rfl (by rw [hb6])
   replace h := ite_f (not_false_of ((Bool.not_eq_false' _).mp hb6)) h
   refine qo 10 hK (s_loadAll hK.at_ hS 0 rfl rfl rfl (by kernel_rfl) ?_)
   clear hK fr; intro fr hK
   replace a1_commands_f := Els.mono rep_G_Command a1_commands_f (l1.trans (l2.trans l14))
   obtain ⟨y12, hy12, h⟩ := bind_some h
   refine qo 11 hK (s_call hK.at_ hS ent17_10 rfl rfl rfl rfl (G.graftref05_Few_spec a1_commands_f hy12) (by kernel_rfl) ?_)
   clear hK fr hS; rintro _ m15 _ l15 hS ⟨rfl, rfl⟩ fr hK
   replace hS : St _ m m15 [.box b2 (G_Delta_cells a1 a1_commands_a a1_commands_c) 27, .box b1 (G_Delta_cells a0 a0_commands_a a0_commands_c) 27] := hS
   refine qp 12 (.bool (!y12)) hK fun fr hK => ?_
   refine qp 13 (.bool (!y12)) hK fun fr hK => ?_
   refine wpListIn_nil (then_n ?_)
   replace hS := hS.front 1 rfl
   replace hS := hS.front 1 rfl
   replace hS : St _ m m15 [.box b2 (G_Delta_cells a1 a1_commands_a a1_commands_c) 27, .box b1 (G_Delta_cells a0 a0_commands_a a0_commands_c) 27] := hS
   replace h := Option.some.inj h; subst h
   exact ⟨m15, rfl, hK.only [2, 3, 13], l14.trans l15, hS⟩
end Go.Proofs.Ytkalbidbhaalmaa
