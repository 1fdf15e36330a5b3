/- The program computes the plain functions: extent_Valid, format_within, format_check, format_length, slices_Clone_byte_byte, wire_Field_fits, wire_Append, format_Encode, wire_New, bytes_Equal, bytes_HasPrefix, wire_position_fail, wire_position_take, wire_Reader_Expect, wire_number, wire_number_1. Printed by a program. -/
import Derived.Test.YtkalbidbhaalmaaProg
import Derived.Test.YtkalbidbhaalmaaGs
import Derived.Test.YtkalbidbhaalmaaRep
namespace Go.Proofs.Ytkalbidbhaalmaa
open Go.RowKit G
theorem ent55_0 : Enters Try.prog 55 := enters_of Try.func55 (by decide +kernel) (by decide +kernel)
theorem ent56_0 : Enters Try.prog 56 := enters_of Try.func56 (by decide +kernel) (by decide +kernel)
theorem ent57_0 : Enters Try.prog 57 := enters_of Try.func57 (by decide +kernel) (by decide +kernel)
theorem ent75_0 : Enters Try.prog 75 := enters_of Try.func75 (by decide +kernel) (by decide +kernel)
theorem ent76_0 : Enters Try.prog 76 := enters_of Try.func76 (by decide +kernel) (by decide +kernel)
theorem ent77_0 : Enters Try.prog 77 := enters_of Try.func77 (by decide +kernel) (by decide +kernel)
theorem ent78_0 : Enters Try.prog 78 := enters_of Try.func78 (by decide +kernel) (by decide +kernel)
theorem ent83_0 : Enters Try.prog 83 := enters_of Try.func83 (by decide +kernel) (by decide +kernel)
theorem ent84_0 : Enters Try.prog 84 := enters_of Try.func84 (by decide +kernel) (by decide +kernel)
theorem ent91_0 : Enters Try.prog 91 := enters_of Try.func91 (by decide +kernel) (by decide +kernel)
theorem ent99_0 : Enters Try.prog 99 := enters_of Try.func99 (by decide +kernel) (by decide +kernel)
theorem elT22_0 : ElemT Try.prog 22 5 (.int .u8 0) 1 1 := ⟨by kernel_rfl, by kernel_rfl, by kernel_rfl, by decide⟩
theorem elT25_0 : ElemT Try.prog 25 50 (.agg #[.int .i64 0, .int .i64 0, .int .i64 0, .int .i64 0, .slice none 0 0]) 5 56 := ⟨by kernel_rfl, by kernel_rfl, by kernel_rfl, by decide⟩
theorem elT86_0 : ElemT Try.prog 86 84 (.agg #[.int .u64 0, .int .i64 0]) 2 16 := ⟨by kernel_rfl, by kernel_rfl, by kernel_rfl, by decide⟩
theorem elT124_0 : ElemT Try.prog 124 3 (.int .i64 0) 1 8 := ⟨by kernel_rfl, by kernel_rfl, by kernel_rfl, by decide⟩
set_option maxRecDepth 100000 in
set_option maxHeartbeats 1000000 in
theorem G.extent_Valid_spec {m : Mem} {a0 : G.Extent} {r : Bool} (h : G.extent_Valid a0 = some r) :
  Spec Try.prog 91 #[.agg #[.int .i64 a0.off, .int .i64 a0.len]] m [] fun v m' L => L = [] ∧ v = .bool r := by
 unfold G.extent_Valid at h
 refine enter (args := [_]) 22 Try.func91 rfl rfl (by simp) fun fr hK => ?_
 have hS := St.refl (Ow.nil m)
 replace hK : Kn 22 fr [(0, .agg #[.int .i64 a0.off, .int .i64 a0.len])] := hK
 refine w_seq (w_region ?_)
 refine qo 1 hK (s_box hK.at_ hS rfl rfl ?_)
 clear hK fr hS; intro m1 b1 b1z l1 hS fr hK
 replace hS : St _ m m1 [.box b1 #[.int .i64 a0.off, .int .i64 a0.len] 91] := hS
 refine qp 2 (.bool false) hK fun fr hK => ?_
 refine wpList_nil (then_n ?_)
 refine w_seq (w_region ?_)
 refine qp 3 (.pointer (some ⟨b1, 0, none⟩)) hK fun fr hK => ?_
 refine qo 4 hK (s_load hK.at_ hS 0 rfl rfl rfl rfl (by kernel_rfl) ?_)
 clear hK fr; intro fr hK
 refine qp 5 (.pointer (some ⟨b1, 1, none⟩)) hK fun fr hK => ?_
 refine qo 6 hK (s_load hK.at_ hS 0 rfl rfl rfl rfl (by kernel_rfl) ?_)
 clear hK fr; intro fr hK
 refine qp 7 (.int .i64 (imin a0.off a0.len)) hK fun fr hK => ?_
 refine qp 8 (.bool (decide ((imin a0.off a0.len) ≥ 0))) hK fun fr hK => ?_
 refine qp 9 (.bool (decide ((imin a0.off a0.len) ≥ 0))) hK fun fr hK => ?_
 refine split_b (x := decide ((imin a0.off a0.len) ≥ 0)) (fun hb1 => ?_) (fun hb1 => ?_)
 ·
  replace hK := hK.more (t := 9) (v' := .bool true) rfl (by rw [hb1])
  replace hK := hK.more (t := 8) (v' := .bool true) rfl (by rw [hb1])
  replace h := ite_t (of_decide_eq_true hb1) h
  refine qp 10 (.pointer (some ⟨b1, 0, none⟩)) hK fun fr hK => ?_
  refine qo 11 hK (s_load hK.at_ hS 0 rfl rfl rfl rfl (by kernel_rfl) ?_)
  clear hK fr; intro fr hK
  refine qp 12 (.bool (decide (a0.off ≤ 4611686018427387903))) hK fun fr hK => ?_
  refine qp 13 (.bool (decide (a0.off ≤ 4611686018427387903))) hK fun fr hK => ?_
  refine qp 14 (.bool (decide (a0.off ≤ 4611686018427387903))) hK fun fr hK => ?_
  refine split_b (x := decide (a0.off ≤ 4611686018427387903)) (fun hb2 => ?_) (fun hb2 => ?_)
  ·
   replace hK := hK.more (t := 14) (v' := .bool true) rfl (by rw [hb2])
   replace hK := hK.more (t := 13) (v' := .bool true) rfl (by rw [hb2])
   replace hK := hK.more (t := 12) (v' := .bool true) rfl (by rw [hb2])
   replace h := ite_t (of_decide_eq_true hb2) h
   refine qp 15 (.pointer (some ⟨b1, 1, none⟩)) hK fun fr hK => ?_
   refine qo 16 hK (s_load hK.at_ hS 0 rfl rfl rfl rfl (by kernel_rfl) ?_)
   clear hK fr; intro fr hK
   refine qp 17 (.pointer (some ⟨b1, 0, none⟩)) hK fun fr hK => ?_
   refine qo 18 hK (s_load hK.at_ hS 0 rfl rfl rfl rfl (by kernel_rfl) ?_)
   clear hK fr; intro fr hK
   refine qp 19 (.int .i64 (IntKind.i64.wrap (4611686018427387903 - a0.off))) hK fun fr hK => ?_
   refine qp 20 (.bool (decide (a0.len ≤ (IntKind.i64.wrap (4611686018427387903 - a0.off))))) hK fun fr hK => ?_
   refine qp 21 (.bool (decide (a0.len ≤ (IntKind.i64.wrap (4611686018427387903 - a0.off))))) hK fun fr hK => ?_
   refine qp 2 (.bool (decide (a0.len ≤ (IntKind.i64.wrap (4611686018427387903 - a0.off))))) hK fun fr hK => ?_
   refine wpList_nil (then_n ?_)
   refine wp_ret ?_
   replace h := Option.some.inj h; subst h
   refine ret_of [.tmp 2] [.bool (decide (a0.len ≤ (IntKind.i64.wrap (4611686018427387903 - a0.off))))] rfl hK (.tmp rfl .nil) hS.dropAll ?_
   exact ⟨rfl, rfl⟩
  ·
   replace hK := hK.more (t := 14) (v' := .bool false) rfl (by rw [hb2])
   replace hK := hK.more (t := 13) (v' := .bool false) rfl (by rw [hb2])
   replace hK := hK.more (t := 12) (v' := .bool false) rfl (by rw [hb2])
   replace h := ite_f (of_decide_eq_false hb2) h
   refine qs 15 hK ?_
   clear hK fr; intro fr hK
   refine qs 16 hK ?_
   clear hK fr; intro fr hK
   refine qs 17 hK ?_
   clear hK fr; intro fr hK
   refine qs 18 hK ?_
   clear hK fr; intro fr hK
   refine qs 19 hK ?_
   clear hK fr; intro fr hK
   refine qs 20 hK ?_
   clear hK fr; intro fr hK
   refine qp 21 (.bool false) hK fun fr hK => ?_
   refine qp 2 (.bool false) hK fun fr hK => ?_
   refine wpList_nil (then_n ?_)
   refine wp_ret ?_
   replace h := Option.some.inj h; subst h
   refine ret_of [.tmp 2] [.bool false] rfl hK (.tmp rfl .nil) hS.dropAll ?_
   exact ⟨rfl, rfl⟩
 ·
  replace hK := hK.more (t := 9) (v' := .bool false) rfl (by rw [hb1])
  replace hK := hK.more (t := 8) (v' := .bool false) rfl (by rw [hb1])
  replace h := ite_f (of_decide_eq_false hb1) h
  refine qs 10 hK ?_
  clear hK fr; intro fr hK
  refine qs 11 hK ?_
  clear hK fr; intro fr hK
  refine qs 12 hK ?_
  clear hK fr; intro fr hK
  refine qp 13 (.bool false) hK fun fr hK => ?_
  refine qp 14 (.bool false) hK fun fr hK => ?_
  refine qs 15 hK ?_
  clear hK fr; intro fr hK
  refine qs 16 hK ?_
  clear hK fr; intro fr hK
  refine qs 17 hK ?_
  clear hK fr; intro fr hK
  refine qs 18 hK ?_
  clear hK fr; intro fr hK
  refine qs 19 hK ?_
  clear hK fr; intro fr hK
  refine qs 20 hK ?_
  clear hK fr; intro fr hK
  refine qp 21 (.bool false) hK fun fr hK => ?_
  refine qp 2 (.bool false) hK fun fr hK => ?_
  refine wpList_nil (then_n ?_)
  refine wp_ret ?_
  replace h := Option.some.inj h; subst h
  refine ret_of [.tmp 2] [.bool false] rfl hK (.tmp rfl .nil) hS.dropAll ?_
  exact ⟨rfl, rfl⟩
set_option maxRecDepth 100000 in
set_option maxHeartbeats 1000000 in
theorem G.format_within_spec {m : Mem} {a0 : List Int} {a0_a : Option Addr} {a0_c : Nat} (a0_f : Els (isNum .i64) m 1 a0_a a0_c a0) {r : Bool} (h : G.format_within a0 = some r) :
  Spec Try.prog 83 #[.slice a0_a a0.length a0_c] m [] fun v m' L => L = [] ∧ v = .bool r := by
 unfold G.format_within at h
 refine enter (args := [_]) 16 Try.func83 rfl rfl (by simp) fun fr hK => ?_
 have hS := St.refl (Ow.nil m)
 replace hK : Kn 16 fr [(0, .slice a0_a a0.length a0_c)] := hK
 refine w_seq (w_region ?_)
 refine qp 2 (.bool false) hK fun fr hK => ?_
 refine wpList_nil (then_n ?_)
 refine w_seq ?_
 refine w_seq (w_region ?_)
 refine qp 5 (.slice a0_a a0.length a0_c) hK fun fr hK => ?_
 refine qp 6 (.int .i64 (a0.length : Int)) hK fun fr hK => ?_
 refine qp 7 (.int .i64 0) hK fun fr hK => ?_
 refine wpList_nil (then_n ?_)
 refine wp_block ?_
 refine w_loopL h (fun (s1 : Int) fr ww => ∃ m1 : Mem, m1.w = ww ∧ Kn 16 fr [(5, .slice a0_a a0.length a0_c), (6, .int .i64 (a0.length : Int)), (7, .int .i64 s1)] ∧ Le m m1 ∧ St (blocksOf []) m m1 []) ?_ ?_
 · exact ⟨m, rfl, hK.only [5, 6, 7], Le.refl _, hS⟩
 clear hK hS fr h
 rintro k1 s1 x1 fr _ ⟨m1, rfl, hK, l1, hS⟩ h hn1
 unfold G.format_within_l1 at h
 refine w_seq (w_region ?_)
 refine qp 8 (.bool (decide (s1 < (a0.length : Int)))) hK fun fr hK => ?_
 refine wpList_nil (then_n ?_)
 refine w_seq ?_
 refine w_cond hK rfl (fun hb1 => ?_) (fun hb1 => ?_)
 ·
  replace hK := hK.more (t := 8) (v' := .bool true) rfl (by rw [hb1])
  replace h := ite_t (of_decide_eq_true hb1) h
  refine wp_skip ?_
  refine then_n ?_
  refine w_seq ?_
  refine wp_block ?_
  refine w_seq (w_region ?_)
  replace a0_f := Els.mono (rep_Num .i64) a0_f l1
  obtain ⟨x2, hy1, h⟩ := bind_some h
  refine qo 9 hK (s_idx elT124_0 a0_f hy1 hK.at_ rfl rfl rfl ?_)
  clear hK fr; intro b1 p1 cs1 hR1 hA1 fr hK
  obtain rfl := hR1
  refine qo 10 hK (s_loadAt hK.at_ hA1 0 rfl rfl rfl rfl (by kernel_rfl) ?_)
  clear hK fr; intro fr hK
  refine qp 4 (.int .i64 x2) hK fun fr hK => ?_
  refine wpList_nil (then_n ?_)
  refine w_seq (w_region ?_)
  refine qp 11 (.int .i64 x2) hK fun fr hK => ?_
  refine qp 12 (.agg #[.int .i64 0, .int .i64 x2]) hK fun fr hK => ?_
  obtain ⟨y1, hy2, h⟩ := bind_some h
  refine qo 13 hK (s_call hK.at_ hS ent91_0 rfl rfl rfl rfl (G.extent_Valid_spec hy2) (by kernel_rfl) ?_)
  clear hK fr hS; rintro _ m2 _ l2 hS ⟨rfl, rfl⟩ fr hK
  replace hS : St _ m m2 [] := hS
  refine qp 14 (.bool (!y1)) hK fun fr hK => ?_
  refine wpList_nil (then_n ?_)
  refine w_cond hK rfl (fun hb2 => ?_) (fun hb2 => ?_)
  ·
   replace hK := hK.more (t := 14) (v' := .bool true) rfl (by rw [hb2])
   replace h := ite_t ((Bool.not_eq_true' _).mp hb2) h
   refine w_seq (w_region ?_)
   refine qp 2 (.bool false) hK fun fr hK => ?_
   refine wpList_nil (then_n ?_)
   refine wp_ret ?_
   refine blk_r ?_
   refine then_r ?_
   refine then_r ?_
   refine blk_r ?_
   refine then_r ?_
   replace h := Option.some.inj h; subst h
   replace h := Option.some.inj (loop_out hn1); subst h
   refine ret_of [.tmp 2] [.bool false] rfl hK (.tmp rfl .nil) hS.dropAll ?_
   exact ⟨rfl, rfl⟩
  ·
   replace hK := hK.more (t := 14) (v' := .bool false) rfl (by rw [hb2])
   replace h := ite_f (not_false_of ((Bool.not_eq_false' _).mp hb2)) h
   refine wp_skip ?_
   refine blk_n ?_
   refine then_n ?_
   refine w_region ?_
   refine qp 15 (.int .i64 (IntKind.i64.wrap (s1 + 1))) hK fun fr hK => ?_
   refine qp 7 (.int .i64 (IntKind.i64.wrap (s1 + 1))) hK fun fr hK => ?_
   refine wpList_nil (then_n ?_)
   replace h := Option.some.inj h; subst h
   obtain ⟨kq, hk1, hk2⟩ := hn1
   exact ⟨kq, hk1, _, hk2, m2, rfl, hK.only [5, 6, 7], l1.trans l2, hS⟩
 ·
  replace hK := hK.more (t := 8) (v' := .bool false) rfl (by rw [hb1])
  replace h := ite_f (of_decide_eq_false hb1) h
  refine wp_exit ?_
  refine then_x ?_
  refine then_x ?_
  refine blk_e ?_
  refine then_n ?_
  refine w_seq (w_region ?_)
  refine qp 2 (.bool true) hK fun fr hK => ?_
  refine wpList_nil (then_n ?_)
  refine wp_ret ?_
  replace h := Option.some.inj h; subst h
  replace h := Option.some.inj (loop_out hn1); subst h
  refine ret_of [.tmp 2] [.bool true] rfl hK (.tmp rfl .nil) hS.dropAll ?_
  exact ⟨rfl, rfl⟩
set_option maxRecDepth 100000 in
set_option maxHeartbeats 1000000 in
theorem G.format_check_spec {m : Mem} {a0 : G.Delta} {a0_commands_a : Option Addr} {a0_commands_c : Nat} (a0_commands_f : Els is_G_Command m 5 a0_commands_a a0_commands_c a0.commands) {r : Int} (h : G.format_check a0 = some r) :
  Spec Try.prog 55 #[.agg (G_Delta_cells a0 a0_commands_a a0_commands_c)] m [] fun v m' L => L = [] ∧ v = .int .i64 r := by
 unfold G.format_check at h
 refine enter (args := [_]) 62 Try.func55 rfl rfl (by simp) fun fr hK => ?_
 have hS := St.refl (Ow.nil m)
 replace hK : Kn 62 fr [(0, .agg (G_Delta_cells a0 a0_commands_a a0_commands_c))] := hK
 refine w_seq (w_region ?_)
 refine qo 1 hK (s_box hK.at_ hS rfl rfl ?_)
 clear hK fr hS; intro m1 b1 b1z l1 hS fr hK
 replace hS : St _ m m1 [.box b1 (G_Delta_cells a0 a0_commands_a a0_commands_c) 27] := hS
 refine qp 2 (.int .i64 0) hK fun fr hK => ?_
 refine wpList_nil (then_n ?_)
 refine w_seq (w_region ?_)
 refine qp 6 (.pointer (some ⟨b1, 0, none⟩)) hK fun fr hK => ?_
 refine qo 7 hK (s_load hK.at_ hS 0 rfl rfl rfl rfl (by kernel_rfl) ?_)
 clear hK fr; intro fr hK
 refine qp 8 (.pointer (some ⟨b1, 1, none⟩)) hK fun fr hK => ?_
 refine qo 9 hK (s_load hK.at_ hS 0 rfl rfl rfl rfl (by kernel_rfl) ?_)
 clear hK fr; intro fr hK
 refine qo 10 hK (s_buildSlice (elem := 3) #[.int .i64 a0.oldLen, .int .i64 a0.newLen] hK.at_ hS rfl (by kernel_rfl) (by kernel_rfl) ?_)
 clear hK fr hS; intro m2 b2 b2z b2n l2 hS hA1 fr hK
 replace hS : St _ m m2 [.box b1 (G_Delta_cells a0 a0_commands_a a0_commands_c) 27] := hS
 have f1 : Els (isNum .i64) m2 1 (some ⟨b2, 0, none⟩) 2 ([a0.oldLen, a0.newLen] : List Int) := els_lit (rep_Num .i64) [[.int .i64 a0.oldLen], [.int .i64 a0.newLen]] hA1 (by simp) (by decide) (.cons rfl (.cons rfl .nil))
 replace hK : Kn 62 fr [(10, .slice (some ⟨b2, 0, none⟩) (([a0.oldLen, a0.newLen] : List Int).length) 2), (9, .int .i64 a0.newLen), (8, .pointer (some ⟨b1, 1, none⟩)), (7, .int .i64 a0.oldLen), (6, .pointer (some ⟨b1, 0, none⟩)), (2, .int .i64 0), (1, .pointer (some ⟨b1, 0, none⟩)), (0, .agg (G_Delta_cells a0 a0_commands_a a0_commands_c))] := hK.only [10, 9, 8, 7, 6, 2, 1, 0]
 obtain ⟨y1, hy1, h⟩ := bind_some h
 refine qo 11 hK (s_call hK.at_ hS ent83_0 rfl rfl rfl rfl (G.format_within_spec f1 hy1) (by kernel_rfl) ?_)
 clear hK fr hS; rintro _ m3 _ l3 hS ⟨rfl, rfl⟩ fr hK
 replace hS : St _ m m3 [.box b1 (G_Delta_cells a0 a0_commands_a a0_commands_c) 27] := hS
 refine qp 3 (.bool y1) hK fun fr hK => ?_
 refine wpList_nil (then_n ?_)
 refine w_seq ?_
 refine w_seq (w_region ?_)
 refine qp 12 (.pointer (some ⟨b1, 66, none⟩)) hK fun fr hK => ?_
 refine qo 13 hK (s_load hK.at_ hS 0 rfl rfl rfl rfl (by kernel_rfl) ?_)
 clear hK fr; intro fr hK
 refine qp 14 (.int .i64 (a0.commands.length : Int)) hK fun fr hK => ?_
 refine qp 15 (.int .i64 0) hK fun fr hK => ?_
 refine wpList_nil (then_n ?_)
 obtain ⟨v1, hv1, hk1⟩ := bind_some h; clear h
 refine w_join (fun fr ww => ∃ u1, v1 = .inl u1 ∧ ∃ m4 : Mem, m4.w = ww ∧ Kn 62 fr [(3, .bool u1)] ∧ Le m3 m4 ∧ St (blocksOf []) m m4 []) ?_ ?_
 ·
  clear hK hS fr
  rintro fr _ ⟨u1, rfl, m4, rfl, hK, l4, hS⟩
  have h := join_in hk1
  refine then_n ?_
  refine w_seq ?_
  refine w_seq (w_region ?_)
  refine qp 60 (.bool u1) hK fun fr hK => ?_
  refine qp 61 (.bool (!u1)) hK fun fr hK => ?_
  refine wpList_nil (then_n ?_)
  refine w_cond hK rfl (fun hb1 => ?_) (fun hb1 => ?_)
  ·
   replace hK := hK.more (t := 61) (v' := .bool true) rfl (by rw [hb1])
   replace h := ite_t ((Bool.not_eq_true' _).mp hb1) h
   refine w_seq (w_region ?_)
   refine qp 2 (.int .i64 2) hK fun fr hK => ?_
   refine wpList_nil (then_n ?_)
   refine wp_ret ?_
   refine then_r ?_
   replace h := Option.some.inj h; subst h
   refine ret_of [.tmp 2] [.int .i64 2] rfl hK (.tmp rfl .nil) hS.dropAll ?_
   exact ⟨rfl, rfl⟩
  ·
   replace hK := hK.more (t := 61) (v' := .bool false) rfl (by rw [hb1])
   replace h := ite_f (not_false_of ((Bool.not_eq_false' _).mp hb1)) h
   refine wp_skip ?_
   refine then_n ?_
   refine w_seq (w_region ?_)
   refine qp 2 (.int .i64 0) hK fun fr hK => ?_
   refine wpList_nil (then_n ?_)
   refine wp_ret ?_
   replace h := Option.some.inj h; subst h
   refine ret_of [.tmp 2] [.int .i64 0] rfl hK (.tmp rfl .nil) hS.dropAll ?_
   exact ⟨rfl, rfl⟩
 ·
  have h := hv1; clear hv1
  refine wp_block ?_
  replace hS := St.keep (L := []) (R := [.box b1 (G_Delta_cells a0 a0_commands_a a0_commands_c) 27]) hS
  refine w_loopL h (fun (s1 : Bool × Int) fr ww => ∃ m5 : Mem, m5.w = ww ∧ Kn 62 fr [(3, .bool s1.1), (13, .slice a0_commands_a a0.commands.length a0_commands_c), (14, .int .i64 (a0.commands.length : Int)), (15, .int .i64 s1.2)] ∧ Le m3 m5 ∧ St (blocksOf []) m m5 []) ?_ ?_
  · exact ⟨m3, rfl, hK.only [3, 13, 14, 15], Le.refl _, hS⟩
  clear hK hS fr h
  rintro k1 s1 x1 fr _ ⟨m5, rfl, hK, l5, hS⟩ h hn1
  unfold G.format_check_l1 at h
  refine w_seq (w_region ?_)
  refine qp 16 (.bool (decide (s1.2 < (a0.commands.length : Int)))) hK fun fr hK => ?_
  refine wpList_nil (then_n ?_)
  refine w_seq ?_
  refine w_cond hK rfl (fun hb2 => ?_) (fun hb2 => ?_)
  ·
   replace hK := hK.more (t := 16) (v' := .bool true) rfl (by rw [hb2])
   replace h := ite_t (of_decide_eq_true hb2) h
   refine wp_skip ?_
   refine then_n ?_
   refine w_seq ?_
   refine wp_block ?_
   refine w_seq (w_region ?_)
   replace a0_commands_f := Els.mono rep_G_Command a0_commands_f (l1.trans (l2.trans (l3.trans l5)))
   obtain ⟨x2, hy2, h⟩ := bind_some h
   refine qo 17 hK (s_idx elT25_0 a0_commands_f hy2 hK.at_ rfl rfl rfl ?_)
   clear hK fr; intro b3 p1 cs1 hR1 hA2 fr hK
   obtain ⟨e1_data_a, e1_data_c, rfl, e1_data_f⟩ := hR1
   refine qo 18 hK (s_loadAtN [.int .i64 x2.kind, .int .i64 x2.to, .int .i64 x2.from_, .int .i64 x2.len, .slice e1_data_a x2.data.length e1_data_c] hK.at_ hA2 0 rfl rfl rfl (by kernel_rfl) (by kernel_rfl) ?_)
   clear hK fr; intro fr hK
   refine qo 5 hK (s_alloc (.agg #[.int .i64 0, .int .i64 0, .int .i64 0, .int .i64 0, .slice none 0 0]) hK.at_ hS rfl (by kernel_rfl) ?_)
   clear hK fr hS; intro m6 b4 b4z l6 hS fr hK
   refine qo0 hK (s_storeAll hK.at_ 0 hS rfl rfl rfl rfl (by kernel_rfl) (by kernel_rfl) (by kernel_rfl) ?_)
   clear hK fr hS; intro m7 l7 hS fr hK
   replace hS : St _ m m7 [.box b4 #[.int .i64 x2.kind, .int .i64 x2.to, .int .i64 x2.from_, .int .i64 x2.len, .slice e1_data_a x2.data.length e1_data_c] 50] := hS
   refine wpList_nil (then_n ?_)
   refine w_seq (w_region ?_)
   refine qp 19 (.pointer (some ⟨b4, 0, none⟩)) hK fun fr hK => ?_
   refine qo 20 hK (s_load hK.at_ hS 0 rfl rfl rfl rfl (by kernel_rfl) ?_)
   clear hK fr; intro fr hK
   refine wpList_nil (then_n ?_)
   refine wp_block ?_
   refine w_seq (w_region ?_)
   refine qp 22 (.bool (x2.kind == 1)) hK fun fr hK => ?_
   refine qp 21 (.bool (x2.kind == 1)) hK fun fr hK => ?_
   refine wpList_nil (then_n ?_)
   refine w_cond hK rfl (fun hb3 => ?_) (fun hb3 => ?_)
   ·
    replace hK := hK.more (t := 21) (v' := .bool true) rfl (by rw [hb3])
    replace hK := hK.more (t := 22) (v' := .bool true) rfl (by rw [hb3])
    replace h := ite_t (eq_of_beq hb3) h
    refine w_region ?_
    refine qp 23 (.bool s1.1) hK fun fr hK => ?_
    refine qp 24 (.bool s1.1) hK fun fr hK => ?_
    refine split_b (x := s1.1) (fun hb4 => ?_) (fun hb4 => ?_)
    ·
     replace hK := hK.more (t := 24) (v' := .bool true) rfl (by rw [hb4])
     replace hK := hK.more (t := 23) (v' := .bool true) rfl (by rw [hb4])
     replace hK := hK.more (t := 3) (v' := .bool true) rfl (by rw [hb4])
     replace h := ite_t (hb4) h
     refine qp 25 (.pointer (some ⟨b4, 1, none⟩)) hK fun fr hK => ?_
     refine qo 26 hK (s_load hK.at_ hS 0 rfl rfl rfl rfl (by kernel_rfl) ?_)
     clear hK fr; intro fr hK
     refine qp 27 (.pointer (some ⟨b4, 2, none⟩)) hK fun fr hK => ?_
     refine qo 28 hK (s_load hK.at_ hS 0 rfl rfl rfl rfl (by kernel_rfl) ?_)
     clear hK fr; intro fr hK
     refine qp 29 (.pointer (some ⟨b4, 3, none⟩)) hK fun fr hK => ?_
     refine qo 30 hK (s_load hK.at_ hS 0 rfl rfl rfl rfl (by kernel_rfl) ?_)
     clear hK fr; intro fr hK
     refine qo 31 hK (s_buildSlice (elem := 3) #[.int .i64 x2.to, .int .i64 x2.from_, .int .i64 x2.len] hK.at_ hS rfl (by kernel_rfl) (by kernel_rfl) ?_)
     clear hK fr hS; intro m8 b5 b5z b5n l8 hS hA3 fr hK
     replace hS : St _ m m8 [.box b4 #[.int .i64 x2.kind, .int .i64 x2.to, .int .i64 x2.from_, .int .i64 x2.len, .slice e1_data_a x2.data.length e1_data_c] 50] := hS
     have f2 : Els (isNum .i64) m8 1 (some ⟨b5, 0, none⟩) 3 ([x2.to, x2.from_, x2.len] : List Int) := els_lit (rep_Num .i64) [[.int .i64 x2.to], [.int .i64 x2.from_], [.int .i64 x2.len]] hA3 (by simp) (by decide) (.cons rfl (.cons rfl (.cons rfl .nil)))
     replace hK : Kn 62 fr [(31, .slice (some ⟨b5, 0, none⟩) (([x2.to, x2.from_, x2.len] : List Int).length) 3), (30, .int .i64 x2.len), (29, .pointer (some ⟨b4, 3, none⟩)), (28, .int .i64 x2.from_), (27, .pointer (some ⟨b4, 2, none⟩)), (26, .int .i64 x2.to), (25, .pointer (some ⟨b4, 1, none⟩)), (3, .bool true), (23, .bool true), (24, .bool true), (22, .bool true), (21, .bool true), (20, .int .i64 x2.kind), (19, .pointer (some ⟨b4, 0, none⟩)), (5, .pointer (some ⟨b4, 0, none⟩)), (18, .agg #[.int .i64 x2.kind, .int .i64 x2.to, .int .i64 x2.from_, .int .i64 x2.len, .slice e1_data_a x2.data.length e1_data_c]), (17, .pointer (some ⟨b3, p1, none⟩)), (16, .bool true), (13, .slice a0_commands_a a0.commands.length a0_commands_c), (14, .int .i64 (a0.commands.length : Int)), (15, .int .i64 s1.2)] := hK.only [31, 30, 29, 28, 27, 26, 25, 3, 23, 24, 22, 21, 20, 19, 5, 18, 17, 16, 13, 14, 15]
     obtain ⟨y2, hy3, h⟩ := bind_some h
     refine qo 32 hK (s_call hK.at_ hS ent83_0 rfl rfl rfl rfl (G.format_within_spec f2 hy3) (by kernel_rfl) ?_)
     clear hK fr hS; rintro _ m9 _ l9 hS ⟨rfl, rfl⟩ fr hK
     replace hS : St _ m m9 [.box b4 #[.int .i64 x2.kind, .int .i64 x2.to, .int .i64 x2.from_, .int .i64 x2.len, .slice e1_data_a x2.data.length e1_data_c] 50] := hS
     refine qp 33 (.bool y2) hK fun fr hK => ?_
     refine qp 34 (.bool y2) hK fun fr hK => ?_
     refine split_b (x := y2) (fun hb5 => ?_) (fun hb5 => ?_)
     ·
      replace hK := hK.more (t := 34) (v' := .bool true) rfl (by rw [hb5])
      replace hK := hK.more (t := 33) (v' := .bool true) rfl (by rw [hb5])
      replace hK := hK.more (t := 32) (v' := .bool true) rfl (by rw [hb5])
      replace h := ite_t (hb5) h
      refine qp 35 (.pointer (some ⟨b4, 4, none⟩)) hK fun fr hK => ?_
      refine qo 36 hK (s_load hK.at_ hS 0 rfl rfl rfl rfl (by kernel_rfl) ?_)
      clear hK fr; intro fr hK
      refine qp 37 (.int .i64 (x2.data.length : Int)) hK fun fr hK => ?_
      refine qp 38 (.bool ((x2.data.length : Int) == 0)) hK fun fr hK => ?_
      refine qp 39 (.bool ((x2.data.length : Int) == 0)) hK fun fr hK => ?_
      refine qp 3 (.bool ((x2.data.length : Int) == 0)) hK fun fr hK => ?_
      refine wpList_nil ?_
      refine blk_n ?_
      refine blk_n ?_
      refine then_n ?_
      refine w_region ?_
      refine qp 59 (.int .i64 (IntKind.i64.wrap (s1.2 + 1))) hK fun fr hK => ?_
      refine qp 15 (.int .i64 (IntKind.i64.wrap (s1.2 + 1))) hK fun fr hK => ?_
      refine wpList_nil (then_n ?_)
      replace hS := St.keep (L := []) (R := [.box b4 #[.int .i64 x2.kind, .int .i64 x2.to, .int .i64 x2.from_, .int .i64 x2.len, .slice e1_data_a x2.data.length e1_data_c] 50]) hS
      replace h := Option.some.inj h; subst h
      obtain ⟨kq, hk1, hk2⟩ := hn1
      exact ⟨kq, hk1, _, hk2, m9, rfl, hK.only [3, 13, 14, 15], l5.trans (l6.trans (l7.trans (l8.trans l9))), hS⟩
     ·
      replace hK := hK.more (t := 34) (v' := .bool false) rfl (by rw [hb5])
      replace hK := hK.more (t := 33) (v' := .bool false) rfl (by rw [hb5])
      replace hK := hK.more (t := 32) (v' := .bool false) rfl (by rw [hb5])
      replace h := ite_f (ne_true_of_eq_false hb5) h
      refine qs 35 hK ?_
      clear hK fr; intro fr hK
      refine qs 36 hK ?_
      clear hK fr; intro fr hK
      refine qs 37 hK ?_
      clear hK fr; intro fr hK
      refine qs 38 hK ?_
      clear hK fr; intro fr hK
      refine qp 39 (.bool false) hK fun fr hK => ?_
      refine qp 3 (.bool false) hK fun fr hK => ?_
      refine wpList_nil ?_
      refine blk_n ?_
      refine blk_n ?_
      refine then_n ?_
      refine w_region ?_
      refine qp 59 (.int .i64 (IntKind.i64.wrap (s1.2 + 1))) hK fun fr hK => ?_
      refine qp 15 (.int .i64 (IntKind.i64.wrap (s1.2 + 1))) hK fun fr hK => ?_
      refine wpList_nil (then_n ?_)
      replace hS := St.keep (L := []) (R := [.box b4 #[.int .i64 x2.kind, .int .i64 x2.to, .int .i64 x2.from_, .int .i64 x2.len, .slice e1_data_a x2.data.length e1_data_c] 50]) hS
      replace h := Option.some.inj h; subst h
      obtain ⟨kq, hk1, hk2⟩ := hn1
      exact ⟨kq, hk1, _, hk2, m9, rfl, hK.only [3, 13, 14, 15], l5.trans (l6.trans (l7.trans (l8.trans l9))), hS⟩
    ·
     replace hK := hK.more (t := 24) (v' := .bool false) rfl (by rw [hb4])
     replace hK := hK.more (t := 23) (v' := .bool false) rfl (by rw [hb4])
     replace hK := hK.more (t := 3) (v' := .bool false) rfl (by rw [hb4])
     replace h := ite_f (ne_true_of_eq_false hb4) h
     refine qs 25 hK ?_
     clear hK fr; intro fr hK
     refine qs 26 hK ?_
     clear hK fr; intro fr hK
     refine qs 27 hK ?_
     clear hK fr; intro fr hK
     refine qs 28 hK ?_
     clear hK fr; intro fr hK
     refine qs 29 hK ?_
     clear hK fr; intro fr hK
     refine qs 30 hK ?_
     clear hK fr; intro fr hK
     refine qs 31 hK ?_
     clear hK fr; intro fr hK
     refine qs 32 hK ?_
     clear hK fr; intro fr hK
     refine qp 33 (.bool false) hK fun fr hK => ?_
     refine qp 34 (.bool false) hK fun fr hK => ?_
     refine qs 35 hK ?_
     clear hK fr; intro fr hK
     refine qs 36 hK ?_
     clear hK fr; intro fr hK
     refine qs 37 hK ?_
     clear hK fr; intro fr hK
     refine qs 38 hK ?_
     clear hK fr; intro fr hK
     refine qp 39 (.bool false) hK fun fr hK => ?_
     refine qp 3 (.bool false) hK fun fr hK => ?_
     refine wpList_nil ?_
     refine blk_n ?_
     refine blk_n ?_
     refine then_n ?_
     refine w_region ?_
     refine qp 59 (.int .i64 (IntKind.i64.wrap (s1.2 + 1))) hK fun fr hK => ?_
     refine qp 15 (.int .i64 (IntKind.i64.wrap (s1.2 + 1))) hK fun fr hK => ?_
     refine wpList_nil (then_n ?_)
     replace hS := St.keep (L := []) (R := [.box b4 #[.int .i64 x2.kind, .int .i64 x2.to, .int .i64 x2.from_, .int .i64 x2.len, .slice e1_data_a x2.data.length e1_data_c] 50]) hS
     replace h := Option.some.inj h; subst h
     obtain ⟨kq, hk1, hk2⟩ := hn1
     exact ⟨kq, hk1, _, hk2, m7, rfl, hK.only [3, 13, 14, 15], l5.trans (l6.trans l7), hS⟩
   ·
    replace hK := hK.more (t := 21) (v' := .bool false) rfl (by rw [hb3])
    replace hK := hK.more (t := 22) (v' := .bool false) rfl (by rw [hb3])
    replace h := ite_f (ne_of_beq_false hb3) h
    refine w_seq (w_region ?_)
    refine qp 41 (.bool (x2.kind == 2)) hK fun fr hK => ?_
    refine qp 40 (.bool (x2.kind == 2)) hK fun fr hK => ?_
    refine wpList_nil (then_n ?_)
    refine w_cond hK rfl (fun hb6 => ?_) (fun hb6 => ?_)
    ·
     replace hK := hK.more (t := 40) (v' := .bool true) rfl (by rw [hb6])
     replace hK := hK.more (t := 41) (v' := .bool true) rfl (by rw [hb6])
     replace h := ite_t (eq_of_beq hb6) h
     refine w_region ?_
     refine qp 42 (.bool s1.1) hK fun fr hK => ?_
     refine qp 43 (.bool s1.1) hK fun fr hK => ?_
     refine split_b (x := s1.1) (fun hb7 => ?_) (fun hb7 => ?_)
     ·
      replace hK := hK.more (t := 43) (v' := .bool true) rfl (by rw [hb7])
      replace hK := hK.more (t := 42) (v' := .bool true) rfl (by rw [hb7])
      replace hK := hK.more (t := 3) (v' := .bool true) rfl (by rw [hb7])
      replace h := ite_t (hb7) h
      refine qp 44 (.pointer (some ⟨b4, 1, none⟩)) hK fun fr hK => ?_
      refine qo 45 hK (s_load hK.at_ hS 0 rfl rfl rfl rfl (by kernel_rfl) ?_)
      clear hK fr; intro fr hK
      refine qo 46 hK (s_buildSlice (elem := 3) #[.int .i64 x2.to] hK.at_ hS rfl (by kernel_rfl) (by kernel_rfl) ?_)
      clear hK fr hS; intro m10 b6 b6z b6n l10 hS hA4 fr hK
      replace hS : St _ m m10 [.box b4 #[.int .i64 x2.kind, .int .i64 x2.to, .int .i64 x2.from_, .int .i64 x2.len, .slice e1_data_a x2.data.length e1_data_c] 50] := hS
      have f3 : Els (isNum .i64) m10 1 (some ⟨b6, 0, none⟩) 1 ([x2.to] : List Int) := els_lit (rep_Num .i64) [[.int .i64 x2.to]] hA4 (by simp) (by decide) (.cons rfl .nil)
      replace hK : Kn 62 fr [(46, .slice (some ⟨b6, 0, none⟩) (([x2.to] : List Int).length) 1), (45, .int .i64 x2.to), (44, .pointer (some ⟨b4, 1, none⟩)), (3, .bool true), (42, .bool true), (43, .bool true), (41, .bool true), (40, .bool true), (22, .bool false), (21, .bool false), (20, .int .i64 x2.kind), (19, .pointer (some ⟨b4, 0, none⟩)), (5, .pointer (some ⟨b4, 0, none⟩)), (18, .agg #[.int .i64 x2.kind, .int .i64 x2.to, .int .i64 x2.from_, .int .i64 x2.len, .slice e1_data_a x2.data.length e1_data_c]), (17, .pointer (some ⟨b3, p1, none⟩)), (16, .bool true), (13, .slice a0_commands_a a0.commands.length a0_commands_c), (14, .int .i64 (a0.commands.length : Int)), (15, .int .i64 s1.2)] := hK.only [46, 45, 44, 3, 42, 43, 41, 40, 22, 21, 20, 19, 5, 18, 17, 16, 13, 14, 15]
      obtain ⟨y3, hy4, h⟩ := bind_some h
      refine qo 47 hK (s_call hK.at_ hS ent83_0 rfl rfl rfl rfl (G.format_within_spec f3 hy4) (by kernel_rfl) ?_)
      clear hK fr hS; rintro _ m11 _ l11 hS ⟨rfl, rfl⟩ fr hK
      replace hS : St _ m m11 [.box b4 #[.int .i64 x2.kind, .int .i64 x2.to, .int .i64 x2.from_, .int .i64 x2.len, .slice e1_data_a x2.data.length e1_data_c] 50] := hS
      refine qp 48 (.bool y3) hK fun fr hK => ?_
      refine qp 49 (.bool y3) hK fun fr hK => ?_
      refine split_b (x := y3) (fun hb8 => ?_) (fun hb8 => ?_)
      ·
       replace hK := hK.more (t := 49) (v' := .bool true) rfl (by rw [hb8])
       replace hK := hK.more (t := 48) (v' := .bool true) rfl (by rw [hb8])
       replace hK := hK.more (t := 47) (v' := .bool true) rfl (by rw [hb8])
       replace h := ite_t (hb8) h
       refine qp 50 (.pointer (some ⟨b4, 2, none⟩)) hK fun fr hK => ?_
       refine qo 51 hK (s_load hK.at_ hS 0 rfl rfl rfl rfl (by kernel_rfl) ?_)
       clear hK fr; intro fr hK
       refine qp 52 (.bool (x2.from_ == 0)) hK fun fr hK => ?_
       refine qp 53 (.bool (x2.from_ == 0)) hK fun fr hK => ?_
       refine qp 54 (.bool (x2.from_ == 0)) hK fun fr hK => ?_
       refine split_b (x := (x2.from_ == 0)) (fun hb9 => ?_) (fun hb9 => ?_)
       ·
        replace hK := hK.more (t := 54) (v' := .bool true) rfl (by rw [hb9])
        replace hK := hK.more (t := 53) (v' := .bool true) rfl (by rw [hb9])
        replace hK := hK.more (t := 52) (v' := .bool true) rfl (by rw [hb9])
        replace h := ite_t (eq_of_beq hb9) h
        refine qp 55 (.pointer (some ⟨b4, 3, none⟩)) hK fun fr hK => ?_
        refine qo 56 hK (s_load hK.at_ hS 0 rfl rfl rfl rfl (by kernel_rfl) ?_)
        clear hK fr; intro fr hK
        refine qp 57 (.bool (x2.len == 0)) hK fun fr hK => ?_
        refine qp 58 (.bool (x2.len == 0)) hK fun fr hK => ?_
        refine qp 3 (.bool (x2.len == 0)) hK fun fr hK => ?_
        refine wpList_nil ?_
        refine blk_n ?_
        refine blk_n ?_
        refine then_n ?_
        refine w_region ?_
        refine qp 59 (.int .i64 (IntKind.i64.wrap (s1.2 + 1))) hK fun fr hK => ?_
        refine qp 15 (.int .i64 (IntKind.i64.wrap (s1.2 + 1))) hK fun fr hK => ?_
        refine wpList_nil (then_n ?_)
        replace hS := St.keep (L := []) (R := [.box b4 #[.int .i64 x2.kind, .int .i64 x2.to, .int .i64 x2.from_, .int .i64 x2.len, .slice e1_data_a x2.data.length e1_data_c] 50]) hS
        replace h := Option.some.inj h; subst h
        obtain ⟨kq, hk1, hk2⟩ := hn1
        exact ⟨kq, hk1, _, hk2, m11, rfl, hK.only [3, 13, 14, 15], l5.trans (l6.trans (l7.trans (l10.trans l11))), hS⟩
       ·
        replace hK := hK.more (t := 54) (v' := .bool false) rfl (by rw [hb9])
        replace hK := hK.more (t := 53) (v' := .bool false) rfl (by rw [hb9])
        replace hK := hK.more (t := 52) (v' := .bool false) rfl (by rw [hb9])
        replace h := ite_f (ne_of_beq_false hb9) h
        refine qs 55 hK ?_
        clear hK fr; intro fr hK
        refine qs 56 hK ?_
        clear hK fr; intro fr hK
        refine qs 57 hK ?_
        clear hK fr; intro fr hK
        refine qp 58 (.bool false) hK fun fr hK => ?_
        refine qp 3 (.bool false) hK fun fr hK => ?_
        refine wpList_nil ?_
        refine blk_n ?_
        refine blk_n ?_
        refine then_n ?_
        refine w_region ?_
        refine qp 59 (.int .i64 (IntKind.i64.wrap (s1.2 + 1))) hK fun fr hK => ?_
        refine qp 15 (.int .i64 (IntKind.i64.wrap (s1.2 + 1))) hK fun fr hK => ?_
        refine wpList_nil (then_n ?_)
        replace hS := St.keep (L := []) (R := [.box b4 #[.int .i64 x2.kind, .int .i64 x2.to, .int .i64 x2.from_, .int .i64 x2.len, .slice e1_data_a x2.data.length e1_data_c] 50]) hS
        replace h := Option.some.inj h; subst h
        obtain ⟨kq, hk1, hk2⟩ := hn1
        exact ⟨kq, hk1, _, hk2, m11, rfl, hK.only [3, 13, 14, 15], l5.trans (l6.trans (l7.trans (l10.trans l11))), hS⟩
      ·
       replace hK := hK.more (t := 49) (v' := .bool false) rfl (by rw [hb8])
       replace hK := hK.more (t := 48) (v' := .bool false) rfl (by rw [hb8])
       replace hK := hK.more (t := 47) (v' := .bool false) rfl (by rw [hb8])
       replace h := ite_f (ne_true_of_eq_false hb8) h
       refine qs 50 hK ?_
       clear hK fr; intro fr hK
       refine qs 51 hK ?_
       clear hK fr; intro fr hK
       refine qs 52 hK ?_
       clear hK fr; intro fr hK
       refine qp 53 (.bool false) hK fun fr hK => ?_
       refine qp 54 (.bool false) hK fun fr hK => ?_
       refine qs 55 hK ?_
       clear hK fr; intro fr hK
       refine qs 56 hK ?_
       clear hK fr; intro fr hK
       refine qs 57 hK ?_
       clear hK fr; intro fr hK
       refine qp 58 (.bool false) hK fun fr hK => ?_
       refine qp 3 (.bool false) hK fun fr hK => ?_
       refine wpList_nil ?_
       refine blk_n ?_
       refine blk_n ?_
       refine then_n ?_
       refine w_region ?_
       refine qp 59 (.int .i64 (IntKind.i64.wrap (s1.2 + 1))) hK fun fr hK => ?_
       refine qp 15 (.int .i64 (IntKind.i64.wrap (s1.2 + 1))) hK fun fr hK => ?_
       refine wpList_nil (then_n ?_)
       replace hS := St.keep (L := []) (R := [.box b4 #[.int .i64 x2.kind, .int .i64 x2.to, .int .i64 x2.from_, .int .i64 x2.len, .slice e1_data_a x2.data.length e1_data_c] 50]) hS
       replace h := Option.some.inj h; subst h
       obtain ⟨kq, hk1, hk2⟩ := hn1
       exact ⟨kq, hk1, _, hk2, m11, rfl, hK.only [3, 13, 14, 15], l5.trans (l6.trans (l7.trans (l10.trans l11))), hS⟩
     ·
      replace hK := hK.more (t := 43) (v' := .bool false) rfl (by rw [hb7])
      replace hK := hK.more (t := 42) (v' := .bool false) rfl (by rw [hb7])
      replace hK := hK.more (t := 3) (v' := .bool false) rfl (by rw [hb7])
      replace h := ite_f (ne_true_of_eq_false hb7) h
      refine qs 44 hK ?_
      clear hK fr; intro fr hK
      refine qs 45 hK ?_
      clear hK fr; intro fr hK
      refine qs 46 hK ?_
      clear hK fr; intro fr hK
      refine qs 47 hK ?_
      clear hK fr; intro fr hK
      refine qp 48 (.bool false) hK fun fr hK => ?_
      refine qp 49 (.bool false) hK fun fr hK => ?_
      refine qs 50 hK ?_
      clear hK fr; intro fr hK
      refine qs 51 hK ?_
      clear hK fr; intro fr hK
      refine qs 52 hK ?_
      clear hK fr; intro fr hK
      refine qp 53 (.bool false) hK fun fr hK => ?_
      refine qp 54 (.bool false) hK fun fr hK => ?_
      refine qs 55 hK ?_
      clear hK fr; intro fr hK
      refine qs 56 hK ?_
      clear hK fr; intro fr hK
      refine qs 57 hK ?_
      clear hK fr; intro fr hK
      refine qp 58 (.bool false) hK fun fr hK => ?_
      refine qp 3 (.bool false) hK fun fr hK => ?_
      refine wpList_nil ?_
      refine blk_n ?_
      refine blk_n ?_
      refine then_n ?_
      refine w_region ?_
      refine qp 59 (.int .i64 (IntKind.i64.wrap (s1.2 + 1))) hK fun fr hK => ?_
      refine qp 15 (.int .i64 (IntKind.i64.wrap (s1.2 + 1))) hK fun fr hK => ?_
      refine wpList_nil (then_n ?_)
      replace hS := St.keep (L := []) (R := [.box b4 #[.int .i64 x2.kind, .int .i64 x2.to, .int .i64 x2.from_, .int .i64 x2.len, .slice e1_data_a x2.data.length e1_data_c] 50]) hS
      replace h := Option.some.inj h; subst h
      obtain ⟨kq, hk1, hk2⟩ := hn1
      exact ⟨kq, hk1, _, hk2, m7, rfl, hK.only [3, 13, 14, 15], l5.trans (l6.trans l7), hS⟩
    ·
     replace hK := hK.more (t := 40) (v' := .bool false) rfl (by rw [hb6])
     replace hK := hK.more (t := 41) (v' := .bool false) rfl (by rw [hb6])
     replace h := ite_f (ne_of_beq_false hb6) h
     refine w_seq (w_region ?_)
     refine qp 2 (.int .i64 11) hK fun fr hK => ?_
     refine wpList_nil (then_n ?_)
     refine wp_ret ?_
     refine blk_r ?_
     refine blk_r ?_
     refine then_r ?_
     refine then_r ?_
     refine blk_r ?_
     refine then_r ?_
     refine then_r ?_
     replace h := Option.some.inj h; subst h
     replace h := Option.some.inj (loop_out hn1); subst h
     replace h := Option.some.inj (join_out hk1); subst h
     refine ret_of [.tmp 2] [.int .i64 11] rfl hK (.tmp rfl .nil) hS.dropAll ?_
     exact ⟨rfl, rfl⟩
  ·
   replace hK := hK.more (t := 16) (v' := .bool false) rfl (by rw [hb2])
   replace h := ite_f (of_decide_eq_false hb2) h
   refine wp_exit ?_
   refine then_x ?_
   refine then_x ?_
   refine blk_e ?_
   refine then_n ?_
   replace h := Option.some.inj h; subst h
   replace h := Option.some.inj (loop_out hn1); subst h
   exact ⟨_, rfl, m5, rfl, hK.only [3], l5, hS⟩
set_option maxRecDepth 100000 in
set_option maxHeartbeats 1000000 in
theorem G.format_length_spec {m : Mem} {a0 : Int} {r : G.wire_Field} (h : G.format_length a0 = some r) :
  Spec Try.prog 57 #[.int .i64 a0] m [] fun v m' L => L = [] ∧ v = .agg #[.int .u64 r.value, .int .i64 r.size] := by
 unfold G.format_length at h
 refine enter (args := [_]) 6 Try.func57 rfl rfl (by simp) fun fr hK => ?_
 have hS := St.refl (Ow.nil m)
 replace hK : Kn 6 fr [(0, .int .i64 a0)] := hK
 refine w_seq (w_region ?_)
 refine qo 2 hK (s_alloc (.agg #[.int .u64 0, .int .i64 0]) hK.at_ hS rfl (by kernel_rfl) ?_)
 clear hK fr hS; intro m1 b1 b1z l1 hS fr hK
 replace hS : St _ m m1 [.box b1 #[.int .u64 0, .int .i64 0] 84] := hS
 refine wpList_nil (then_n ?_)
 refine w_seq (w_region ?_)
 refine qp 3 (.int .i64 a0) hK fun fr hK => ?_
 refine qp 4 (.int .u64 (IntKind.u64.wrap a0)) hK fun fr hK => ?_
 refine qp 5 (.agg #[.int .u64 (IntKind.u64.wrap a0), .int .i64 8]) hK fun fr hK => ?_
 refine qo0 hK (s_storeAll hK.at_ 0 hS rfl rfl rfl rfl (by kernel_rfl) (by kernel_rfl) (by kernel_rfl) ?_)
 clear hK fr hS; intro m2 l2 hS fr hK
 replace hS : St _ m m2 [.box b1 #[.int .u64 (IntKind.u64.wrap a0), .int .i64 8] 84] := hS
 refine wpList_nil (then_n ?_)
 refine wp_ret ?_
 replace h := Option.some.inj h; subst h
 refine ret_of [.cell 2 84] [.agg #[.int .u64 (IntKind.u64.wrap a0), .int .i64 8]] rfl hK (ResL.box hS 0 rfl rfl (by kernel_rfl) .nil) hS.dropAll ?_
 exact ⟨rfl, rfl⟩
set_option maxRecDepth 100000 in
set_option maxHeartbeats 1000000 in
theorem G.slices_Clone_byte_byte_spec {m : Mem} {a0 : List UInt8} {a0_a : Option Addr} {a0_c : Nat} (a0_f : Els isU8 m 1 a0_a a0_c a0) {r : (List UInt8)} (h : G.slices_Clone_byte_byte a0 = some r) :
  Spec Try.prog 75 #[.slice a0_a a0.length a0_c] m [] fun v m' L => ∃ (r0_g : Option Nat) (r0_c : Nat), L = [rowOf 5 1 r0_g r0_c r] ∧ v = .slice (adr r0_g) r.length r0_c ∧ Els isU8 m' 1 (adr r0_g) r0_c r := by
 unfold G.slices_Clone_byte_byte at h
 refine enter (args := [_]) 8 Try.func75 rfl rfl (by simp) fun fr hK => ?_
 have hS := St.refl (Ow.nil m)
 replace hK : Kn 8 fr [(0, .slice a0_a a0.length a0_c)] := hK
 refine w_seq (w_region ?_)
 refine qp 2 (.slice none 0 0) hK fun fr hK => ?_
 refine wpList_nil (then_n ?_)
 refine w_seq ?_
 refine w_seq (w_region ?_)
 refine qp 3 (.slice a0_a a0.length a0_c) hK fun fr hK => ?_
 refine qr 4 (.bool (Option.isNone a0_a)) hK (by exact run_nilEq rfl rfl rfl Try.underlying22) ?_
 clear hK fr; intro fr hK
 refine wpList_nil (then_n ?_)
 refine w_cond hK rfl (fun hb1 => ?_) (fun hb1 => ?_)
 ·
  replace hK := hK.more (t := 4) (v' := .bool true) rfl (by rw [hb1])
  replace h : some ([] : List UInt8) = some r := by have e0 := Els.isNone_nil a0_f hb1; rw [e0] at h; simpa [app] using h
  refine w_seq (w_region ?_)
  refine qp 2 (.slice none 0 0) hK fun fr hK => ?_
  refine wpList_nil (then_n ?_)
  refine wp_ret ?_
  refine then_r ?_
  replace hS := hS.addRow (α := UInt8) 5 1
  replace h := Option.some.inj h; subst h
  replace hS : St _ m m [rowOf 5 1 none 0 ([] : List UInt8)] := hS
  refine ret_of [.tmp 2] [.slice none 0 0] rfl hK (.tmp rfl .nil) hS ?_
  exact ⟨none, 0, rfl, rfl, (Els.nil _ _)⟩
 ·
  replace hK := hK.more (t := 4) (v' := .bool false) rfl (by rw [hb1])
  refine wp_skip ?_
  refine then_n ?_
  refine w_seq (w_region ?_)
  refine qo 5 hK (s_buildRow (elem := 5) #[] hK.at_ hS rfl (by kernel_rfl) (by kernel_rfl) ?_)
  clear hK fr hS; intro m1 b1 l1 hS hA1 fr hK
  have f1 : Els isU8 m1 1 (some ⟨b1, 0, none⟩) 0 ([] : List UInt8) := els_lit rep_U8 [] hA1 (by simp) (by decide) .nil
  replace hS : St _ m m1 [rowOf 5 1 (some b1) 0 ([] : List UInt8)] := hS
  replace hK : Kn 8 fr [(5, .slice (adr (some b1)) (([] : List UInt8).length) 0), (4, .bool false), (3, .slice a0_a a0.length a0_c), (2, .slice none 0 0), (0, .slice a0_a a0.length a0_c)] := hK.only [5, 4, 3, 2, 0]
  refine qp 6 (.slice a0_a a0.length a0_c) hK fun fr hK => ?_
  replace a0_f := Els.mono rep_U8 a0_f l1
  obtain ⟨x1, hy1, h⟩ := bind_some h
  refine qo 7 hK (s_app elT22_0 rep_U8 hy1 hK.at_ 0 hS rfl f1 a0_f rfl rfl rfl (by decide) ?_)
  clear hK fr hS; intro m2 g1 cp1 l2 hS f2 fr hK
  replace hS : St _ m m2 [rowOf 5 1 g1 cp1 x1] := hS
  refine qp 2 (.slice (adr g1) x1.length cp1) hK fun fr hK => ?_
  refine wpList_nil (then_n ?_)
  refine wp_ret ?_
  replace h := Option.some.inj h; subst h
  replace hS : St _ m m2 [rowOf 5 1 g1 cp1 x1] := hS
  refine ret_of [.tmp 2] [.slice (adr g1) x1.length cp1] rfl hK (.tmp rfl .nil) hS ?_
  exact ⟨g1, cp1, rfl, rfl, f2⟩
set_option maxRecDepth 100000 in
set_option maxHeartbeats 1000000 in
theorem G.wire_Field_fits_spec {m : Mem} {a0 : G.wire_Field} {r : Bool} (h : G.wire_Field_fits a0 = some r) :
  Spec Try.prog 84 #[.agg #[.int .u64 a0.value, .int .i64 a0.size]] m [] fun v m' L => L = [] ∧ v = .bool r := by
 unfold G.wire_Field_fits at h
 refine enter (args := [_]) 22 Try.func84 rfl rfl (by simp) fun fr hK => ?_
 have hS := St.refl (Ow.nil m)
 replace hK : Kn 22 fr [(0, .agg #[.int .u64 a0.value, .int .i64 a0.size])] := hK
 refine w_seq (w_region ?_)
 refine qo 1 hK (s_box hK.at_ hS rfl rfl ?_)
 clear hK fr hS; intro m1 b1 b1z l1 hS fr hK
 replace hS : St _ m m1 [.box b1 #[.int .u64 a0.value, .int .i64 a0.size] 84] := hS
 refine qp 2 (.bool false) hK fun fr hK => ?_
 refine wpList_nil (then_n ?_)
 refine w_seq (w_region ?_)
 refine qp 3 (.pointer (some ⟨b1, 1, none⟩)) hK fun fr hK => ?_
 refine qo 4 hK (s_load hK.at_ hS 0 rfl rfl rfl rfl (by kernel_rfl) ?_)
 clear hK fr; intro fr hK
 refine qp 5 (.bool (decide (a0.size ≥ 1))) hK fun fr hK => ?_
 refine qp 6 (.bool (decide (a0.size ≥ 1))) hK fun fr hK => ?_
 refine split_b (x := decide (a0.size ≥ 1)) (fun hb1 => ?_) (fun hb1 => ?_)
 ·
  replace hK := hK.more (t := 6) (v' := .bool true) rfl (by rw [hb1])
  replace hK := hK.more (t := 5) (v' := .bool true) rfl (by rw [hb1])
  replace h := ite_t (of_decide_eq_true hb1) h
  refine qp 7 (.pointer (some ⟨b1, 1, none⟩)) hK fun fr hK => ?_
  refine qo 8 hK (s_load hK.at_ hS 0 rfl rfl rfl rfl (by kernel_rfl) ?_)
  clear hK fr; intro fr hK
  refine qp 9 (.bool (decide (a0.size ≤ 8))) hK fun fr hK => ?_
  refine qp 10 (.bool (decide (a0.size ≤ 8))) hK fun fr hK => ?_
  refine qp 11 (.bool (decide (a0.size ≤ 8))) hK fun fr hK => ?_
  refine split_b (x := decide (a0.size ≤ 8)) (fun hb2 => ?_) (fun hb2 => ?_)
  ·
   replace hK := hK.more (t := 11) (v' := .bool true) rfl (by rw [hb2])
   replace hK := hK.more (t := 10) (v' := .bool true) rfl (by rw [hb2])
   replace hK := hK.more (t := 9) (v' := .bool true) rfl (by rw [hb2])
   replace h := ite_t (of_decide_eq_true hb2) h
   refine qp 12 (.pointer (some ⟨b1, 0, none⟩)) hK fun fr hK => ?_
   refine qo 13 hK (s_load hK.at_ hS 0 rfl rfl rfl rfl (by kernel_rfl) ?_)
   clear hK fr; intro fr hK
   refine qp 14 (.pointer (some ⟨b1, 1, none⟩)) hK fun fr hK => ?_
   refine qo 15 hK (s_load hK.at_ hS 0 rfl rfl rfl rfl (by kernel_rfl) ?_)
   clear hK fr; intro fr hK
   refine qp 16 (.int .i64 (IntKind.i64.wrap (8 * a0.size))) hK fun fr hK => ?_
   refine qp 17 (.int .i64 (IntKind.i64.wrap ((IntKind.i64.wrap (8 * a0.size)) - 1))) hK fun fr hK => ?_
   obtain ⟨y1, hy1, h⟩ := bind_some h
   refine qr 18 (.int .u64 (ishr .u64 a0.value (IntKind.i64.wrap ((IntKind.i64.wrap (8 * a0.size)) - 1)))) hK (by exact run_shr (chk_some hy1) rfl rfl rfl) ?_
   clear hK fr; intro fr hK
   refine qr 19 (.int .u64 (ishr .u64 (ishr .u64 a0.value (IntKind.i64.wrap ((IntKind.i64.wrap (8 * a0.size)) - 1))) 1)) hK (by exact run_shr (by decide) rfl rfl rfl) ?_
   clear hK fr; intro fr hK
   refine qp 20 (.bool ((ishr .u64 (ishr .u64 a0.value (IntKind.i64.wrap ((IntKind.i64.wrap (8 * a0.size)) - 1))) 1) == 0)) hK fun fr hK => ?_
   refine qp 21 (.bool ((ishr .u64 (ishr .u64 a0.value (IntKind.i64.wrap ((IntKind.i64.wrap (8 * a0.size)) - 1))) 1) == 0)) hK fun fr hK => ?_
   refine qp 2 (.bool ((ishr .u64 (ishr .u64 a0.value (IntKind.i64.wrap ((IntKind.i64.wrap (8 * a0.size)) - 1))) 1) == 0)) hK fun fr hK => ?_
   refine wpList_nil (then_n ?_)
   refine wp_ret ?_
   replace h := Option.some.inj h; subst h
   refine ret_of [.tmp 2] [.bool ((ishr .u64 (ishr .u64 a0.value (IntKind.i64.wrap ((IntKind.i64.wrap (8 * a0.size)) - 1))) 1) == 0)] rfl hK (.tmp rfl .nil) hS.dropAll ?_
   exact ⟨rfl, rfl⟩
  ·
   replace hK := hK.more (t := 11) (v' := .bool false) rfl (by rw [hb2])
   replace hK := hK.more (t := 10) (v' := .bool false) rfl (by rw [hb2])
   replace hK := hK.more (t := 9) (v' := .bool false) rfl (by rw [hb2])
   replace h := ite_f (of_decide_eq_false hb2) h
   refine qs 12 hK ?_
   clear hK fr; intro fr hK
   refine qs 13 hK ?_
   clear hK fr; intro fr hK
   refine qs 14 hK ?_
   clear hK fr; intro fr hK
   refine qs 15 hK ?_
   clear hK fr; intro fr hK
   refine qs 16 hK ?_
   clear hK fr; intro fr hK
   refine qs 17 hK ?_
   clear hK fr; intro fr hK
   refine qs 18 hK ?_
   clear hK fr; intro fr hK
   refine qs 19 hK ?_
   clear hK fr; intro fr hK
   refine qs 20 hK ?_
   clear hK fr; intro fr hK
   refine qp 21 (.bool false) hK fun fr hK => ?_
   refine qp 2 (.bool false) hK fun fr hK => ?_
   refine wpList_nil (then_n ?_)
   refine wp_ret ?_
   replace h := Option.some.inj h; subst h
   refine ret_of [.tmp 2] [.bool false] rfl hK (.tmp rfl .nil) hS.dropAll ?_
   exact ⟨rfl, rfl⟩
 ·
  replace hK := hK.more (t := 6) (v' := .bool false) rfl (by rw [hb1])
  replace hK := hK.more (t := 5) (v' := .bool false) rfl (by rw [hb1])
  replace h := ite_f (of_decide_eq_false hb1) h
  refine qs 7 hK ?_
  clear hK fr; intro fr hK
  refine qs 8 hK ?_
  clear hK fr; intro fr hK
  refine qs 9 hK ?_
  clear hK fr; intro fr hK
  refine qp 10 (.bool false) hK fun fr hK => ?_
  refine qp 11 (.bool false) hK fun fr hK => ?_
  refine qs 12 hK ?_
  clear hK fr; intro fr hK
  refine qs 13 hK ?_
  clear hK fr; intro fr hK
  refine qs 14 hK ?_
  clear hK fr; intro fr hK
  refine qs 15 hK ?_
  clear hK fr; intro fr hK
  refine qs 16 hK ?_
  clear hK fr; intro fr hK
  refine qs 17 hK ?_
  clear hK fr; intro fr hK
  refine qs 18 hK ?_
  clear hK fr; intro fr hK
  refine qs 19 hK ?_
  clear hK fr; intro fr hK
  refine qs 20 hK ?_
  clear hK fr; intro fr hK
  refine qp 21 (.bool false) hK fun fr hK => ?_
  refine qp 2 (.bool false) hK fun fr hK => ?_
  refine wpList_nil (then_n ?_)
  refine wp_ret ?_
  replace h := Option.some.inj h; subst h
  refine ret_of [.tmp 2] [.bool false] rfl hK (.tmp rfl .nil) hS.dropAll ?_
  exact ⟨rfl, rfl⟩
set_option maxRecDepth 100000 in
set_option maxHeartbeats 1000000 in
theorem G.wire_Append_spec {m : Mem} {a0 : List UInt8} {a0_a : Option Addr} {a0_c : Nat} {a1 : List G.wire_Field} {a1_a : Option Addr} {a1_c : Nat} (a0_f : Els isU8 m 1 a0_a a0_c a0) (a1_f : Els is_G_wire_Field m 2 a1_a a1_c a1) {r : (List UInt8) × Bool} (h : G.wire_Append a0 a1 = some r) :
  Spec Try.prog 56 #[.slice a0_a a0.length a0_c, .slice a1_a a1.length a1_c] m [] fun v m' L => ∃ (r0_g : Option Nat) (r0_c : Nat), L = [rowOf 5 1 r0_g r0_c r.1] ∧ v = .tuple #[.slice (adr r0_g) r.1.length r0_c, .bool r.2] ∧ Els isU8 m' 1 (adr r0_g) r0_c r.1 := by
 unfold G.wire_Append at h
 refine enter (args := [_, _]) 39 Try.func56 rfl rfl (by simp) fun fr hK => ?_
 have hS := St.refl (Ow.nil m)
 replace hK : Kn 39 fr [(0, .slice a0_a a0.length a0_c), (1, .slice a1_a a1.length a1_c)] := hK
 refine w_seq (w_region ?_)
 refine qp 4 (.slice none 0 0) hK fun fr hK => ?_
 refine qp 5 (.bool false) hK fun fr hK => ?_
 refine wpList_nil (then_n ?_)
 refine w_seq (w_region ?_)
 refine qp 10 (.slice a0_a a0.length a0_c) hK fun fr hK => ?_
 obtain ⟨y1, hy1, h⟩ := bind_some h
 refine qo 11 hK (s_call hK.at_ hS ent75_0 rfl rfl rfl rfl (G.slices_Clone_byte_byte_spec a0_f hy1) (by kernel_rfl) ?_)
 clear hK fr hS; rintro _ m1 _ l1 hS ⟨c1r0_g, c1r0_c, rfl, rfl, c1r0_f⟩ fr hK
 replace hS : St _ m m1 [rowOf 5 1 c1r0_g c1r0_c y1] := hS
 refine qp 6 (.slice (adr c1r0_g) y1.length c1r0_c) hK fun fr hK => ?_
 refine wpList_nil (then_n ?_)
 refine w_seq ?_
 refine w_seq (w_region ?_)
 refine qp 12 (.slice a1_a a1.length a1_c) hK fun fr hK => ?_
 refine qp 13 (.int .i64 (a1.length : Int)) hK fun fr hK => ?_
 refine qp 14 (.int .i64 0) hK fun fr hK => ?_
 refine wpList_nil (then_n ?_)
 refine wp_block ?_
 replace hS : St _ m m1 [rowOf 5 1 c1r0_g c1r0_c y1] := hS
 refine w_loopL h (fun (s1 : (List UInt8) × Int) fr ww => ∃ (g1 : Option Nat), ∃ (g2 : Nat), ∃ m2 : Mem, m2.w = ww ∧ Kn 39 fr [(6, .slice (adr g1) s1.1.length g2), (12, .slice a1_a a1.length a1_c), (13, .int .i64 (a1.length : Int)), (14, .int .i64 s1.2)] ∧ Le m1 m2 ∧ St (blocksOf []) m m2 [rowOf 5 1 g1 g2 s1.1] ∧ Els isU8 m2 1 (adr g1) g2 s1.1) ?_ ?_
 · exact ⟨c1r0_g, c1r0_c, m1, rfl, hK.only [6, 12, 13, 14], Le.refl _, hS, c1r0_f⟩
 clear hK hS fr h
 rintro k1 s1 x1 fr _ ⟨g1, g2, m2, rfl, hK, l2, hS, f1⟩ h hn1
 unfold G.wire_Append_l1 at h
 refine w_seq (w_region ?_)
 refine qp 15 (.bool (decide (s1.2 < (a1.length : Int)))) hK fun fr hK => ?_
 refine wpList_nil (then_n ?_)
 refine w_seq ?_
 refine w_cond hK rfl (fun hb1 => ?_) (fun hb1 => ?_)
 ·
  replace hK := hK.more (t := 15) (v' := .bool true) rfl (by rw [hb1])
  replace h := ite_t (of_decide_eq_true hb1) h
  refine wp_skip ?_
  refine then_n ?_
  refine w_seq ?_
  refine wp_block ?_
  refine w_seq (w_region ?_)
  replace a1_f := Els.mono rep_G_wire_Field a1_f (l1.trans l2)
  obtain ⟨x2, hy2, h⟩ := bind_some h
  refine qo 16 hK (s_idx elT86_0 a1_f hy2 hK.at_ rfl rfl rfl ?_)
  clear hK fr; intro b1 p1 cs1 hR1 hA1 fr hK
  obtain rfl := hR1
  refine qo 17 hK (s_loadAtN [.int .u64 x2.value, .int .i64 x2.size] hK.at_ hA1 0 rfl rfl rfl (by kernel_rfl) (by kernel_rfl) ?_)
  clear hK fr; intro fr hK
  refine qo 8 hK (s_alloc (.agg #[.int .u64 0, .int .i64 0]) hK.at_ hS rfl (by kernel_rfl) ?_)
  clear hK fr hS; intro m3 b2 b2z l3 hS fr hK
  refine qo0 hK (s_storeAll hK.at_ 0 hS rfl rfl rfl rfl (by kernel_rfl) (by kernel_rfl) (by kernel_rfl) ?_)
  clear hK fr hS; intro m4 l4 hS fr hK
  replace hS : St _ m m4 [.box b2 #[.int .u64 x2.value, .int .i64 x2.size] 84, rowOf 5 1 g1 g2 s1.1] := hS
  refine wpList_nil (then_n ?_)
  refine w_seq ?_
  refine w_seq (w_region ?_)
  refine qo 18 hK (s_loadAll hK.at_ hS 0 rfl rfl rfl (by kernel_rfl) ?_)
  clear hK fr; intro fr hK
  obtain ⟨y2, hy3, h⟩ := bind_some h
  refine qo 19 hK (s_call hK.at_ hS ent84_0 rfl rfl rfl rfl (G.wire_Field_fits_spec hy3) (by kernel_rfl) ?_)
  clear hK fr hS; rintro _ m5 _ l5 hS ⟨rfl, rfl⟩ fr hK
  replace hS : St _ m m5 [.box b2 #[.int .u64 x2.value, .int .i64 x2.size] 84, rowOf 5 1 g1 g2 s1.1] := hS
  refine qp 20 (.bool (!y2)) hK fun fr hK => ?_
  refine wpList_nil (then_n ?_)
  refine w_cond hK rfl (fun hb2 => ?_) (fun hb2 => ?_)
  ·
   replace hK := hK.more (t := 20) (v' := .bool true) rfl (by rw [hb2])
   replace h := ite_t ((Bool.not_eq_true' _).mp hb2) h
   refine w_seq (w_region ?_)
   refine qp 4 (.slice none 0 0) hK fun fr hK => ?_
   refine qp 5 (.bool false) hK fun fr hK => ?_
   refine wpList_nil (then_n ?_)
   refine wp_ret ?_
   refine then_r ?_
   refine blk_r ?_
   refine then_r ?_
   refine then_r ?_
   refine blk_r ?_
   refine then_r ?_
   replace hS := hS.addRow (α := UInt8) 5 1
   replace h := Option.some.inj h; subst h
   replace h := Option.some.inj (loop_out hn1); subst h
   replace hS : St _ m m5 [rowOf 5 1 none 0 ([] : List UInt8), .box b2 #[.int .u64 x2.value, .int .i64 x2.size] 84, rowOf 5 1 g1 g2 s1.1] := hS
   refine ret_of [.tmp 4, .tmp 5] [.slice none 0 0, .bool false] rfl hK (.tmp rfl (.tmp rfl .nil)) (St.keep (L := [rowOf 5 1 none 0 ([] : List UInt8)]) (R := [.box b2 #[.int .u64 x2.value, .int .i64 x2.size] 84, rowOf 5 1 g1 g2 s1.1]) hS) ?_
   exact ⟨none, 0, rfl, rfl, (Els.nil _ _)⟩
  ·
   replace hK := hK.more (t := 20) (v' := .bool false) rfl (by rw [hb2])
   replace h := ite_f (not_false_of ((Bool.not_eq_false' _).mp hb2)) h
   refine wp_skip ?_
   refine then_n ?_
   refine w_seq (w_region ?_)
   refine qp 21 (.pointer (some ⟨b2, 1, none⟩)) hK fun fr hK => ?_
   refine qo 22 hK (s_load hK.at_ hS 0 rfl rfl rfl rfl (by kernel_rfl) ?_)
   clear hK fr; intro fr hK
   refine qp 23 (.int .i64 (IntKind.i64.wrap (x2.size - 1))) hK fun fr hK => ?_
   refine qp 9 (.int .i64 (IntKind.i64.wrap (x2.size - 1))) hK fun fr hK => ?_
   refine wpList_nil (then_n ?_)
   refine wp_block ?_
   replace f1 := Els.mono rep_U8 f1 (l3.trans (l4.trans l5))
   replace hS := hS.front 1 rfl
   replace hS := hS.front 1 rfl
   replace hS : St _ m m5 [.box b2 #[.int .u64 x2.value, .int .i64 x2.size] 84, rowOf 5 1 g1 g2 s1.1] := hS
   refine w_loopL h (fun (s2 : (List UInt8) × Int) fr ww => ∃ (g3 : Option Nat), ∃ (g4 : Nat), ∃ m6 : Mem, m6.w = ww ∧ Kn 39 fr [(6, .slice (adr g3) s2.1.length g4), (8, .pointer (some ⟨b2, 0, none⟩)), (9, .int .i64 s2.2), (12, .slice a1_a a1.length a1_c), (13, .int .i64 (a1.length : Int)), (14, .int .i64 s1.2)] ∧ Le m5 m6 ∧ St (blocksOf []) m m6 [.box b2 #[.int .u64 x2.value, .int .i64 x2.size] 84, rowOf 5 1 g3 g4 s2.1] ∧ Els isU8 m6 1 (adr g3) g4 s2.1) ?_ ?_
   · exact ⟨g1, g2, m5, rfl, hK.only [6, 8, 9, 12, 13, 14], Le.refl _, hS, f1⟩
   clear hK hS fr h
   rintro k2 s2 x3 fr _ ⟨g3, g4, m6, rfl, hK, l6, hS, f2⟩ h hn2
   unfold G.wire_Append_l2 at h
   refine w_seq ?_
   refine w_seq (w_region ?_)
   refine qp 24 (.int .i64 s2.2) hK fun fr hK => ?_
   refine qp 25 (.bool (decide (s2.2 ≥ 0))) hK fun fr hK => ?_
   refine wpList_nil (then_n ?_)
   refine w_cond hK rfl (fun hb3 => ?_) (fun hb3 => ?_)
   ·
    replace hK := hK.more (t := 25) (v' := .bool true) rfl (by rw [hb3])
    replace h := ite_t (of_decide_eq_true hb3) h
    refine wp_skip ?_
    refine then_n ?_
    refine w_seq ?_
    refine wp_block ?_
    refine w_region ?_
    refine qp 28 (.slice (adr g3) s2.1.length g4) hK fun fr hK => ?_
    refine qp 29 (.pointer (some ⟨b2, 0, none⟩)) hK fun fr hK => ?_
    refine qo 30 hK (s_load hK.at_ hS 0 rfl rfl rfl rfl (by kernel_rfl) ?_)
    clear hK fr; intro fr hK
    refine qp 31 (.int .i64 s2.2) hK fun fr hK => ?_
    refine qp 32 (.int .i64 (IntKind.i64.wrap (8 * s2.2))) hK fun fr hK => ?_
    obtain ⟨y3, hy4, h⟩ := bind_some h
    refine qr 33 (.int .u64 (ishr .u64 x2.value (IntKind.i64.wrap (8 * s2.2)))) hK (by exact run_shr (chk_some hy4) rfl rfl rfl) ?_
    clear hK fr; intro fr hK
    refine qe 34 (.int .u8 ((u8 (ishr .u64 x2.value (IntKind.i64.wrap (8 * s2.2)))).toNat : Int)) (.int .u8 (IntKind.u8.wrap (ishr .u64 x2.value (IntKind.i64.wrap (8 * s2.2))))) hK (by exact v_int (u8_wrap _)) ?_
    clear hK fr; intro fr hK
    refine qo 35 hK (s_buildSlice (elem := 5) #[.int .u8 ((u8 (ishr .u64 x2.value (IntKind.i64.wrap (8 * s2.2)))).toNat : Int)] hK.at_ hS rfl (by kernel_rfl) (by kernel_rfl) ?_)
    clear hK fr hS; intro m7 b3 b3z b3n l7 hS hA2 fr hK
    replace hS : St _ m m7 [.box b2 #[.int .u64 x2.value, .int .i64 x2.size] 84, rowOf 5 1 g3 g4 s2.1] := hS
    have f3 : Els isU8 m7 1 (some ⟨b3, 0, none⟩) 1 ([(u8 (ishr .u64 x2.value (IntKind.i64.wrap (8 * s2.2))))] : List UInt8) := els_lit rep_U8 [[.int .u8 ((u8 (ishr .u64 x2.value (IntKind.i64.wrap (8 * s2.2)))).toNat : Int)]] hA2 (by simp) (by decide) (.cons rfl .nil)
    replace hK : Kn 39 fr [(35, .slice (some ⟨b3, 0, none⟩) (([(u8 (ishr .u64 x2.value (IntKind.i64.wrap (8 * s2.2))))] : List UInt8).length) 1), (34, .int .u8 ((u8 (ishr .u64 x2.value (IntKind.i64.wrap (8 * s2.2)))).toNat : Int)), (33, .int .u64 (ishr .u64 x2.value (IntKind.i64.wrap (8 * s2.2)))), (32, .int .i64 (IntKind.i64.wrap (8 * s2.2))), (31, .int .i64 s2.2), (30, .int .u64 x2.value), (29, .pointer (some ⟨b2, 0, none⟩)), (28, .slice (adr g3) s2.1.length g4), (25, .bool true), (24, .int .i64 s2.2), (6, .slice (adr g3) s2.1.length g4), (8, .pointer (some ⟨b2, 0, none⟩)), (9, .int .i64 s2.2), (12, .slice a1_a a1.length a1_c), (13, .int .i64 (a1.length : Int)), (14, .int .i64 s1.2)] := hK.only [35, 34, 33, 32, 31, 30, 29, 28, 25, 24, 6, 8, 9, 12, 13, 14]
    replace f2 := Els.mono rep_U8 f2 l7
    obtain ⟨x4, hy5, h⟩ := bind_some h
    refine qo 36 hK (s_app elT22_0 rep_U8 hy5 hK.at_ 1 hS rfl f2 f3 rfl rfl rfl (by decide) ?_)
    clear hK fr hS; intro m8 g5 cp1 l8 hS f4 fr hK
    replace hS : St _ m m8 [rowOf 5 1 g5 cp1 x4, .box b2 #[.int .u64 x2.value, .int .i64 x2.size] 84] := hS
    refine qp 6 (.slice (adr g5) x4.length cp1) hK fun fr hK => ?_
    refine wpList_nil ?_
    refine blk_n ?_
    refine then_n ?_
    refine w_region ?_
    refine qp 26 (.int .i64 s2.2) hK fun fr hK => ?_
    refine qp 27 (.int .i64 (IntKind.i64.wrap (s2.2 - 1))) hK fun fr hK => ?_
    refine qp 9 (.int .i64 (IntKind.i64.wrap (s2.2 - 1))) hK fun fr hK => ?_
    refine wpList_nil (then_n ?_)
    replace hS := hS.front 1 rfl
    replace hS : St _ m m8 [.box b2 #[.int .u64 x2.value, .int .i64 x2.size] 84, rowOf 5 1 g5 cp1 x4] := hS
    replace h := Option.some.inj h; subst h
    obtain ⟨kq, hk1, hk2⟩ := hn2
    exact ⟨kq, hk1, _, hk2, g5, cp1, m8, rfl, hK.only [6, 8, 9, 12, 13, 14], l6.trans (l7.trans l8), hS, f4⟩
   ·
    replace hK := hK.more (t := 25) (v' := .bool false) rfl (by rw [hb3])
    replace h := ite_f (of_decide_eq_false hb3) h
    refine wp_exit ?_
    refine then_x ?_
    refine then_x ?_
    refine blk_e ?_
    refine blk_n ?_
    refine then_n ?_
    refine w_region ?_
    refine qp 37 (.int .i64 (IntKind.i64.wrap (s1.2 + 1))) hK fun fr hK => ?_
    refine qp 14 (.int .i64 (IntKind.i64.wrap (s1.2 + 1))) hK fun fr hK => ?_
    refine wpList_nil (then_n ?_)
    replace hS := hS.front 1 rfl
    replace hS := St.keep (L := [rowOf 5 1 g3 g4 s2.1]) (R := [.box b2 #[.int .u64 x2.value, .int .i64 x2.size] 84]) hS
    replace h := Option.some.inj h; subst h
    replace h := Option.some.inj (loop_out hn2); subst h
    obtain ⟨kq, hk1, hk2⟩ := hn1
    exact ⟨kq, hk1, _, hk2, g3, g4, m6, rfl, hK.only [6, 12, 13, 14], l2.trans (l3.trans (l4.trans (l5.trans l6))), hS, f2⟩
 ·
  replace hK := hK.more (t := 15) (v' := .bool false) rfl (by rw [hb1])
  replace h := ite_f (of_decide_eq_false hb1) h
  refine wp_exit ?_
  refine then_x ?_
  refine then_x ?_
  refine blk_e ?_
  refine then_n ?_
  refine w_seq (w_region ?_)
  refine qp 38 (.slice (adr g1) s1.1.length g2) hK fun fr hK => ?_
  refine qp 4 (.slice (adr g1) s1.1.length g2) hK fun fr hK => ?_
  refine qp 5 (.bool true) hK fun fr hK => ?_
  refine wpList_nil (then_n ?_)
  refine wp_ret ?_
  replace h := Option.some.inj h; subst h
  replace h := Option.some.inj (loop_out hn1); subst h
  replace hS : St _ m m2 [rowOf 5 1 g1 g2 s1.1] := hS
  refine ret_of [.tmp 4, .tmp 5] [.slice (adr g1) s1.1.length g2, .bool true] rfl hK (.tmp rfl (.tmp rfl .nil)) hS ?_
  exact ⟨g1, g2, rfl, rfl, f1⟩
set_option maxRecDepth 100000 in
set_option maxHeartbeats 1000000 in
theorem G.format_Encode_spec {m : Mem} {a0 : G.Delta} {a0_commands_a : Option Addr} {a0_commands_c : Nat} (a0_commands_f : Els is_G_Command m 5 a0_commands_a a0_commands_c a0.commands) {r : (List UInt8) × Int} (h : G.format_Encode a0 = some r) :
  Spec Try.prog 19 #[.agg (G_Delta_cells a0 a0_commands_a a0_commands_c)] m [] fun v m' L => ∃ (r0_g : Option Nat) (r0_c : Nat), L = [rowOf 5 1 r0_g r0_c r.1] ∧ v = .tuple #[.slice (adr r0_g) r.1.length r0_c, .int .i64 r.2] ∧ Els isU8 m' 1 (adr r0_g) r0_c r.1 := by
 unfold G.format_Encode at h
 refine enter (args := [_]) 100 Try.func19 rfl rfl (by simp) fun fr hK => ?_
 have hS := St.refl (Ow.nil m)
 replace hK : Kn 100 fr [(0, .agg (G_Delta_cells a0 a0_commands_a a0_commands_c))] := hK
 refine w_seq (w_region ?_)
 refine qo 1 hK (s_box hK.at_ hS rfl rfl ?_)
 clear hK fr hS; intro m1 b1 b1z l1 hS fr hK
 replace hS : St _ m m1 [.box b1 (G_Delta_cells a0 a0_commands_a a0_commands_c) 27] := hS
 refine qp 2 (.slice none 0 0) hK fun fr hK => ?_
 refine qp 3 (.int .i64 0) hK fun fr hK => ?_
 refine wpList_nil (then_n ?_)
 refine w_seq ?_
 refine w_seq (w_region ?_)
 refine qo 11 hK (s_loadAll hK.at_ hS 0 rfl rfl rfl (by kernel_rfl) ?_)
 clear hK fr; intro fr hK
 replace a0_commands_f := Els.mono rep_G_Command a0_commands_f l1
 obtain ⟨y1, hy1, h⟩ := bind_some h
 refine qo 12 hK (s_call hK.at_ hS ent55_0 rfl rfl rfl rfl (G.format_check_spec a0_commands_f hy1) (by kernel_rfl) ?_)
 clear hK fr hS; rintro _ m2 _ l2 hS ⟨rfl, rfl⟩ fr hK
 replace hS : St _ m m2 [.box b1 (G_Delta_cells a0 a0_commands_a a0_commands_c) 27] := hS
 refine qp 4 (.int .i64 y1) hK fun fr hK => ?_
 refine wpList_nil (then_n ?_)
 refine w_seq (w_region ?_)
 refine qp 13 (.int .i64 y1) hK fun fr hK => ?_
 refine qp 14 (.bool (y1 != 0)) hK fun fr hK => ?_
 refine wpList_nil (then_n ?_)
 refine w_cond hK rfl (fun hb1 => ?_) (fun hb1 => ?_)
 ·
  replace hK := hK.more (t := 14) (v' := .bool true) rfl (by rw [hb1])
  replace h := ite_t (ne_of_bne hb1) h
  refine w_seq (w_region ?_)
  refine qp 15 (.int .i64 y1) hK fun fr hK => ?_
  refine qp 2 (.slice none 0 0) hK fun fr hK => ?_
  refine qp 3 (.int .i64 y1) hK fun fr hK => ?_
  refine wpList_nil (then_n ?_)
  refine wp_ret ?_
  refine then_r ?_
  replace hS := hS.addRow (α := UInt8) 5 1
  replace h := Option.some.inj h; subst h
  replace hS : St _ m m2 [rowOf 5 1 none 0 ([] : List UInt8), .box b1 (G_Delta_cells a0 a0_commands_a a0_commands_c) 27] := hS
  refine ret_of [.tmp 2, .tmp 3] [.slice none 0 0, .int .i64 y1] rfl hK (.tmp rfl (.tmp rfl .nil)) (St.keep (L := [rowOf 5 1 none 0 ([] : List UInt8)]) (R := [.box b1 (G_Delta_cells a0 a0_commands_a a0_commands_c) 27]) hS) ?_
  exact ⟨none, 0, rfl, rfl, (Els.nil _ _)⟩
 ·
  replace hK := hK.more (t := 14) (v' := .bool false) rfl (by rw [hb1])
  replace h := ite_f (not_not_intro (eq_of_bne hb1)) h
  refine wp_skip ?_
  refine then_n ?_
  refine w_seq ?_
  replace a0_commands_f := Els.mono rep_G_Command a0_commands_f l2
  obtain ⟨y2, hy2, h⟩ := bind_some h
  obtain ⟨y3, hy3, h⟩ := bind_some h
  obtain ⟨y4, hy4, h⟩ := bind_some h
  have hm0 : ∀ p ∈ ([(fun _ A _ => A = []), (fun l A M => ∃ (b2 : Nat), l[0]? = some (.slice (adr (some b2)) (([(71 : UInt8), (82 : UInt8), (70 : UInt8), (84 : UInt8)] : List UInt8).length) 4) ∧ A = [rowOf 5 1 (some b2) 4 ([(71 : UInt8), (82 : UInt8), (70 : UInt8), (84 : UInt8)] : List UInt8)] ∧ Els isU8 M 1 (adr (some b2)) 4 ([(71 : UInt8), (82 : UInt8), (70 : UInt8), (84 : UInt8)] : List UInt8)), (fun l A M => ∃ (b2 : Nat), l[0]? = some (.slice (adr (some b2)) (([(71 : UInt8), (82 : UInt8), (70 : UInt8), (84 : UInt8)] : List UInt8).length) 4) ∧ l[1]? = some (.slice (adr (some b2)) (([(71 : UInt8), (82 : UInt8), (70 : UInt8), (84 : UInt8)] : List UInt8).length) 4) ∧ A = [] ∧ Els isU8 M 1 (adr (some b2)) 4 ([(71 : UInt8), (82 : UInt8), (70 : UInt8), (84 : UInt8)] : List UInt8))] : List D.Stage), D.MonoP p := D.allP_cons (fun _ _ _ _ h _ => h) (D.allP_cons (fun _ _ _ _ ⟨b2, el0, eA, f1⟩ hl => ⟨b2, el0, eA, Els.mono rep_U8 f1 hl⟩) (D.allP_cons (fun _ _ _ _ ⟨b2, el0, el1, eA, f1⟩ hl => ⟨b2, el0, el1, eA, Els.mono rep_U8 f1 hl⟩) (D.allP_nil)))
  have hm1 : ∀ p ∈ ([(fun _ A _ => A = []), (fun l A M => ∃ (c4r0_g : Option Nat) (c4r0_c : Nat), l[0]? = some (.tuple #[.slice (adr c4r0_g) y4.1.length c4r0_c, .bool y4.2]) ∧ A = [rowOf 5 1 c4r0_g c4r0_c y4.1] ∧ Els isU8 M 1 (adr c4r0_g) c4r0_c y4.1)] : List D.Stage), D.MonoP p := D.allP_cons (fun _ _ _ _ h _ => h) (D.allP_cons (fun _ _ _ _ ⟨c4r0_g, c4r0_c, el0, eA, c4r0_f⟩ hl => ⟨c4r0_g, c4r0_c, el0, eA, Els.mono rep_U8 c4r0_f hl⟩) (D.allP_nil))
  have hCm := D.C2_mono [.box b1 (G_Delta_cells a0 a0_commands_a a0_commands_c) 27] hm0 hm1
  refine D.wp_drawM (m0 := m2) 15 [[0, 1], [10]] [([], [(0, 0), (0, 0)], some 0), ([(17, some 0)], [(1, 1), (0, 0)], some 0), ([], [(0, 2), (0, 0)], none), ([(1, none)], [(0, 2), (0, 0)], none), ([(20, some 0)], [(0, 2), (0, 0)], none), ([(21, some 0)], [(0, 2), (0, 0)], none), ([(1, none)], [(0, 2), (0, 0)], none), ([(23, some 0)], [(0, 2), (0, 0)], none), ([(24, some 0)], [(0, 2), (0, 0)], none), ([(19, some 6), (22, some 3), (25, some 0)], [(0, 2), (0, 0)], none), ([(18, some 8), (26, some 0)], [(2, 2), (0, 0)], some 1), ([(27, some 0)], [(2, 2), (1, 1)], none), ([(16, some 0)], [(2, 2), (1, 1)], none), ([(16, some 1)], [(2, 2), (1, 1)], none), ([(28, some 1)], [(2, 2), (1, 1)], none)] (D.SM m2 m (blocksOf []) (D.C2 [(fun _ A _ => A = []), (fun l A M => ∃ (b2 : Nat), l[0]? = some (.slice (adr (some b2)) (([(71 : UInt8), (82 : UInt8), (70 : UInt8), (84 : UInt8)] : List UInt8).length) 4) ∧ A = [rowOf 5 1 (some b2) 4 ([(71 : UInt8), (82 : UInt8), (70 : UInt8), (84 : UInt8)] : List UInt8)] ∧ Els isU8 M 1 (adr (some b2)) 4 ([(71 : UInt8), (82 : UInt8), (70 : UInt8), (84 : UInt8)] : List UInt8)), (fun l A M => ∃ (b2 : Nat), l[0]? = some (.slice (adr (some b2)) (([(71 : UInt8), (82 : UInt8), (70 : UInt8), (84 : UInt8)] : List UInt8).length) 4) ∧ l[1]? = some (.slice (adr (some b2)) (([(71 : UInt8), (82 : UInt8), (70 : UInt8), (84 : UInt8)] : List UInt8).length) 4) ∧ A = [] ∧ Els isU8 M 1 (adr (some b2)) 4 ([(71 : UInt8), (82 : UInt8), (70 : UInt8), (84 : UInt8)] : List UInt8))] [(fun _ A _ => A = []), (fun l A M => ∃ (c4r0_g : Option Nat) (c4r0_c : Nat), l[0]? = some (.tuple #[.slice (adr c4r0_g) y4.1.length c4r0_c, .bool y4.2]) ∧ A = [rowOf 5 1 c4r0_g c4r0_c y4.1] ∧ Els isU8 M 1 (adr c4r0_g) c4r0_c y4.1)] [.box b1 (G_Delta_cells a0 a0_commands_a a0_commands_c) 27])) hK.size (by kernel_rfl) (by kernel_rfl) (by kernel_rfl) (D.start2 hS (fun _ => rfl) (fun _ => rfl)) ?_
  refine D.onA (fun uu MM => ∃ (b2 : Nat), uu = .slice (adr (some b2)) (([(71 : UInt8), (82 : UInt8), (70 : UInt8), (84 : UInt8)] : List UInt8).length) 4 ∧ Els isU8 MM 1 (adr (some b2)) 4 ([(71 : UInt8), (82 : UInt8), (70 : UInt8), (84 : UInt8)] : List UInt8)) (fun _ _ _ ⟨b2, e, f1⟩ g => ⟨b2, e, Els.mono rep_U8 f1 g⟩) (by
   intro ac MM vs hbd hcor hS00 hk; have hS0 := hS00
   obtain ⟨hle, LL, hC, hSt⟩ := hS0
   have hSt0 := hSt
   have hC0 := hC; obtain ⟨A0, A1, h0, h1, rfl⟩ := hC
   have hn := D.bd_eq hbd 0 0 rfl
   obtain rfl := D.CH.at h0 hn rfl
   replace hSt := hSt
   have hKe : Ke ac [] := (.nil _)
   exact ⟨D.wanted0 rfl, s_buildRow (elem := 5) #[.int .u8 71, .int .u8 82, .int .u8 70, .int .u8 84] hKe hSt rfl (by kernel_rfl) (by kernel_rfl) (by
     intro M2 b2 l2 hS2 hA1
     have f1 : Els isU8 M2 1 (some ⟨b2, 0, none⟩) 4 ([(71 : UInt8), (82 : UInt8), (70 : UInt8), (84 : UInt8)] : List UInt8) := els_lit rep_U8 [[.int .u8 71], [.int .u8 82], [.int .u8 70], [.int .u8 84]] hA1 (by simp) (by decide) (.cons rfl (.cons rfl (.cons rfl (.cons rfl .nil))))
     exact ⟨M2, rfl, l2, ⟨b2, rfl, f1⟩, hle.trans l2, _, ⟨_, _, D.CH.push hn rfl ⟨b2, D.get_push hn, rfl, f1⟩, D.CH.mono hm1 h1 l2, rfl⟩, hS2⟩)⟩) ?_
  refine D.onA (fun uu MM => ∃ (b2 : Nat), uu = .slice (adr (some b2)) (([(71 : UInt8), (82 : UInt8), (70 : UInt8), (84 : UInt8)] : List UInt8).length) 4 ∧ Els isU8 MM 1 (adr (some b2)) 4 ([(71 : UInt8), (82 : UInt8), (70 : UInt8), (84 : UInt8)] : List UInt8)) (fun _ _ _ ⟨b2, e, f2⟩ g => ⟨b2, e, Els.mono rep_U8 f2 g⟩) (by
   intro ac MM vs hbd hcor hS00 hk; have hS0 := hS00
   obtain ⟨hle, LL, hC, hSt⟩ := hS0
   have hSt0 := hSt
   have hC0 := hC; obtain ⟨A0, A1, h0, h1, rfl⟩ := hC
   have hn := D.bd_eq hbd 0 1 rfl
   obtain ⟨b2, el0, rfl, f1⟩ := D.CH.at h0 hn rfl
   replace hSt := hSt
   have k17 : ac.eval (.tmp 17) = .slice (adr (some b2)) (([(71 : UInt8), (82 : UInt8), (70 : UInt8), (84 : UInt8)] : List UInt8).length) 4 := hcor 0 0 _ _ _ _ rfl rfl rfl el0
   have hKe : Ke ac [(17, .slice (adr (some b2)) (([(71 : UInt8), (82 : UInt8), (70 : UInt8), (84 : UInt8)] : List UInt8).length) 4)] := (.cons k17 (.nil _))
   exact ⟨D.wanted0 rfl, s_stringishRow hKe hSt rfl rfl Try.underlying22 Try.underlying5 (by
     intro M2 l2 hS2
     exact ⟨M2, rfl, l2, ⟨b2, rfl, Els.mono rep_U8 f1 l2⟩, hle.trans l2, _, ⟨_, _, D.CH.push hn rfl ⟨b2, D.get_old el0, D.get_push hn, rfl, Els.mono rep_U8 f1 l2⟩, D.CH.mono hm1 h1 l2, rfl⟩, hS2⟩)⟩) ?_
  refine D.onP [] (.agg #[.int .u64 1, .int .i64 1]) (fun ac MM hk => (.nil _)) ?_
  refine D.onP [(1, .pointer (some ⟨b1, 0, none⟩))] (.pointer (some ⟨b1, 0, none⟩)) (fun ac MM hk => (.cons (hk.1.trans (hK.at_ 1 _ rfl)) (.nil _))) ?_
  refine D.onA (fun uu _ => uu = .int .i64 a0.oldLen) (fun _ _ _ h _ => h) (by
   intro ac MM vs hbd hcor hS00 hk; have hS0 := hS00
   obtain ⟨hle, LL, hC, hSt⟩ := hS0
   have hSt0 := hSt
   have hC0 := hC; obtain ⟨A0, A1, h0, h1, rfl⟩ := hC
   have hS := D.St_right (D.St_right (hSt))
   have k20 : ac.eval (.tmp 20) = .pointer (some ⟨b1, 0, none⟩) := hk.1
   have hKe : Ke ac [(20, .pointer (some ⟨b1, 0, none⟩))] := (.cons k20 (.nil _))
   exact ⟨D.wanted0 rfl, s_load hKe hS 0 rfl rfl rfl rfl (by kernel_rfl) ⟨MM, rfl, Le.refl _, rfl, hS00⟩⟩) ?_
  refine D.onA (fun uu _ => uu = .agg #[.int .u64 y2.value, .int .i64 y2.size]) (fun _ _ _ h _ => h) (by
   intro ac MM vs hbd hcor hS00 hk; have hS0 := hS00
   obtain ⟨hle, LL, hC, hSt⟩ := hS0
   have hSt0 := hSt
   have hC0 := hC; obtain ⟨A0, A1, h0, h1, rfl⟩ := hC
   have hS := D.St_right (D.St_right (hSt))
   have k21 : ac.eval (.tmp 21) = .int .i64 a0.oldLen := hk.1
   have hKe : Ke ac [(21, .int .i64 a0.oldLen)] := (.cons k21 (.nil _))
   exact ⟨D.wanted0 rfl, D.stepCall hCm hS00 hKe ent57_0 rfl rfl rfl rfl (G.format_length_spec hy2) (by kernel_rfl) (by rintro _ M2 _ hl ⟨rfl, rfl⟩; exact rfl)⟩) ?_
  refine D.onP [(1, .pointer (some ⟨b1, 0, none⟩))] (.pointer (some ⟨b1, 1, none⟩)) (fun ac MM hk => (.cons (hk.1.trans (hK.at_ 1 _ rfl)) (.nil _))) ?_
  refine D.onA (fun uu _ => uu = .int .i64 a0.newLen) (fun _ _ _ h _ => h) (by
   intro ac MM vs hbd hcor hS00 hk; have hS0 := hS00
   obtain ⟨hle, LL, hC, hSt⟩ := hS0
   have hSt0 := hSt
   have hC0 := hC; obtain ⟨A0, A1, h0, h1, rfl⟩ := hC
   have hS := D.St_right (D.St_right (hSt))
   have k23 : ac.eval (.tmp 23) = .pointer (some ⟨b1, 1, none⟩) := hk.1
   have hKe : Ke ac [(23, .pointer (some ⟨b1, 1, none⟩))] := (.cons k23 (.nil _))
   exact ⟨D.wanted0 rfl, s_load hKe hS 0 rfl rfl rfl rfl (by kernel_rfl) ⟨MM, rfl, Le.refl _, rfl, hS00⟩⟩) ?_
  refine D.onA (fun uu _ => uu = .agg #[.int .u64 y3.value, .int .i64 y3.size]) (fun _ _ _ h _ => h) (by
   intro ac MM vs hbd hcor hS00 hk; have hS0 := hS00
   obtain ⟨hle, LL, hC, hSt⟩ := hS0
   have hSt0 := hSt
   have hC0 := hC; obtain ⟨A0, A1, h0, h1, rfl⟩ := hC
   have hS := D.St_right (D.St_right (hSt))
   have k24 : ac.eval (.tmp 24) = .int .i64 a0.newLen := hk.1
   have hKe : Ke ac [(24, .int .i64 a0.newLen)] := (.cons k24 (.nil _))
   exact ⟨D.wanted0 rfl, D.stepCall hCm hS00 hKe ent57_0 rfl rfl rfl rfl (G.format_length_spec hy3) (by kernel_rfl) (by rintro _ M2 _ hl ⟨rfl, rfl⟩; exact rfl)⟩) ?_
  refine D.onA (fun uu MM => ∃ (b3 : Nat), uu = .slice (some ⟨b3, 0, none⟩) (([(⟨1, 1⟩ : G.wire_Field), y2, y3] : List G.wire_Field).length) 3 ∧ Els is_G_wire_Field MM 2 (some ⟨b3, 0, none⟩) 3 ([(⟨1, 1⟩ : G.wire_Field), y2, y3] : List G.wire_Field)) (fun _ _ _ ⟨b3, e, f3⟩ g => ⟨b3, e, Els.mono rep_G_wire_Field f3 g⟩) (by
   intro ac MM vs hbd hcor hS00 hk; have hS0 := hS00
   obtain ⟨hle, LL, hC, hSt⟩ := hS0
   have hSt0 := hSt
   have hC0 := hC; obtain ⟨A0, A1, h0, h1, rfl⟩ := hC
   have hS := D.St_right (D.St_right (hSt))
   have k19 : ac.eval (.tmp 19) = .agg #[.int .u64 1, .int .i64 1] := hk.1
   have k22 : ac.eval (.tmp 22) = .agg #[.int .u64 y2.value, .int .i64 y2.size] := hk.2.1
   have k25 : ac.eval (.tmp 25) = .agg #[.int .u64 y3.value, .int .i64 y3.size] := hk.2.2.1
   have hKe : Ke ac [(19, .agg #[.int .u64 1, .int .i64 1]), (22, .agg #[.int .u64 y2.value, .int .i64 y2.size]), (25, .agg #[.int .u64 y3.value, .int .i64 y3.size])] := (.cons k19 (.cons k22 (.cons k25 (.nil _))))
   exact ⟨D.wanted0 rfl, s_buildSlice (elem := 84) #[.int .u64 1, .int .i64 1, .int .u64 y2.value, .int .i64 y2.size, .int .u64 y3.value, .int .i64 y3.size] hKe hSt0 rfl (by kernel_rfl) (by kernel_rfl) (by
     intro M2 b3 hz_ hn_ hl2 hS2 hA2
     have f3 : Els is_G_wire_Field M2 2 (some ⟨b3, 0, none⟩) 3 ([(⟨1, 1⟩ : G.wire_Field), y2, y3] : List G.wire_Field) := els_lit rep_G_wire_Field [[.int .u64 1, .int .i64 1], [.int .u64 y2.value, .int .i64 y2.size], [.int .u64 y3.value, .int .i64 y3.size]] hA2 (by simp) (by decide) (.cons rfl (.cons rfl (.cons rfl .nil)))
     exact ⟨M2, rfl, hl2, ⟨b3, rfl, f3⟩, hle.trans hl2, _, hCm _ _ _ _ hC0 hl2, hS2⟩)⟩) ?_
  refine D.onA (fun uu MM => ∃ (c4r0_g : Option Nat) (c4r0_c : Nat), uu = .tuple #[.slice (adr c4r0_g) y4.1.length c4r0_c, .bool y4.2] ∧ Els isU8 MM 1 (adr c4r0_g) c4r0_c y4.1) (fun _ _ _ ⟨c4r0_g, c4r0_c, e, c4r0_f⟩ g => ⟨c4r0_g, c4r0_c, e, Els.mono rep_U8 c4r0_f g⟩) (by
   intro ac MM vs hbd hcor hS00 hk; have hS0 := hS00
   obtain ⟨hle, LL, hC, hSt⟩ := hS0
   have hSt0 := hSt
   have hC0 := hC; obtain ⟨A0, A1, h0, h1, rfl⟩ := hC
   have hn := D.bd_eq hbd 1 0 rfl
   obtain rfl := D.CH.at h1 hn rfl
   replace hSt := D.sw hSt
   obtain ⟨b2, k18, f2⟩ : ∃ (b2 : Nat), ac.eval (.tmp 18) = .slice (adr (some b2)) (([(71 : UInt8), (82 : UInt8), (70 : UInt8), (84 : UInt8)] : List UInt8).length) 4 ∧ Els isU8 MM 1 (adr (some b2)) 4 ([(71 : UInt8), (82 : UInt8), (70 : UInt8), (84 : UInt8)] : List UInt8) := hk.1
   obtain ⟨b3, k26, f3⟩ : ∃ (b3 : Nat), ac.eval (.tmp 26) = .slice (some ⟨b3, 0, none⟩) (([(⟨1, 1⟩ : G.wire_Field), y2, y3] : List G.wire_Field).length) 3 ∧ Els is_G_wire_Field MM 2 (some ⟨b3, 0, none⟩) 3 ([(⟨1, 1⟩ : G.wire_Field), y2, y3] : List G.wire_Field) := hk.2.1
   have hKe : Ke ac [(18, .slice (adr (some b2)) (([(71 : UInt8), (82 : UInt8), (70 : UInt8), (84 : UInt8)] : List UInt8).length) 4), (26, .slice (some ⟨b3, 0, none⟩) (([(⟨1, 1⟩ : G.wire_Field), y2, y3] : List G.wire_Field).length) 3)] := (.cons k18 (.cons k26 (.nil _)))
   exact ⟨D.wanted0 rfl, s_call hKe hSt ent56_0 rfl rfl rfl rfl (G.wire_Append_spec f2 f3 hy4) (by kernel_rfl) (by
     rintro _ M2 _ l2 hS2 ⟨c4r0_g, c4r0_c, rfl, rfl, c4r0_f⟩; replace hS2 := D.sw (A := [rowOf 5 1 c4r0_g c4r0_c y4.1]) (E := A0) (R := [.box b1 (G_Delta_cells a0 a0_commands_a a0_commands_c) 27]) hS2
     exact ⟨M2, rfl, l2, ⟨c4r0_g, c4r0_c, rfl, c4r0_f⟩, hle.trans l2, _, ⟨_, _, D.CH.mono hm0 h0 l2, D.CH.push hn rfl ⟨c4r0_g, c4r0_c, D.get_push hn, rfl, c4r0_f⟩, rfl⟩, hS2⟩)⟩) ?_
  refine D.onA (fun uu MM => ∃ (c4r0_g : Option Nat) (c4r0_c : Nat), uu = .tuple #[.slice (adr c4r0_g) y4.1.length c4r0_c, .bool y4.2] ∧ Els isU8 MM 1 (adr c4r0_g) c4r0_c y4.1) (fun _ _ _ ⟨c4r0_g, c4r0_c, e, c4r0_f⟩ g => ⟨c4r0_g, c4r0_c, e, Els.mono rep_U8 c4r0_f g⟩) (by
   intro ac MM vs hbd hcor hS00 hk; have hS0 := hS00
   obtain ⟨hle, LL, hC, hSt⟩ := hS0
   have hSt0 := hSt
   have hC0 := hC; obtain ⟨A0, A1, h0, h1, rfl⟩ := hC
   have hS := D.St_right (D.St_right (hSt))
   obtain ⟨c4r0_g, c4r0_c, k27, c4r0_f⟩ : ∃ (c4r0_g : Option Nat) (c4r0_c : Nat), ac.eval (.tmp 27) = .tuple #[.slice (adr c4r0_g) y4.1.length c4r0_c, .bool y4.2] ∧ Els isU8 MM 1 (adr c4r0_g) c4r0_c y4.1 := hk.1
   have hKe : Ke ac [(27, .tuple #[.slice (adr c4r0_g) y4.1.length c4r0_c, .bool y4.2])] := (.cons k27 (.nil _))
   exact ⟨D.wanted0 rfl, s_pure (.tuple #[.slice (adr c4r0_g) y4.1.length c4r0_c, .bool y4.2]) hKe (by kernel_rfl) (by kernel_rfl) ⟨MM, rfl, Le.refl _, ⟨c4r0_g, c4r0_c, rfl, c4r0_f⟩, hS00⟩⟩) ?_
  refine D.onA (fun uu MM => ∃ (c4r0_g : Option Nat) (c4r0_c : Nat), uu = .slice (adr c4r0_g) y4.1.length c4r0_c ∧ Els isU8 MM 1 (adr c4r0_g) c4r0_c y4.1) (fun _ _ _ ⟨c4r0_g, c4r0_c, e, c4r0_f⟩ g => ⟨c4r0_g, c4r0_c, e, Els.mono rep_U8 c4r0_f g⟩) (by
   intro ac MM vs hbd hcor hS00 hk; have hS0 := hS00
   obtain ⟨hle, LL, hC, hSt⟩ := hS0
   have hSt0 := hSt
   have hC0 := hC; obtain ⟨A0, A1, h0, h1, rfl⟩ := hC
   have hS := D.St_right (D.St_right (hSt))
   obtain ⟨c4r0_g, c4r0_c, k16, c4r0_f⟩ : ∃ (c4r0_g : Option Nat) (c4r0_c : Nat), ac.eval (.tmp 16) = .tuple #[.slice (adr c4r0_g) y4.1.length c4r0_c, .bool y4.2] ∧ Els isU8 MM 1 (adr c4r0_g) c4r0_c y4.1 := hk.1
   have hKe : Ke ac [(16, .tuple #[.slice (adr c4r0_g) y4.1.length c4r0_c, .bool y4.2])] := (.cons k16 (.nil _))
   exact ⟨D.wanted0 rfl, s_pure (.slice (adr c4r0_g) y4.1.length c4r0_c) hKe (by kernel_rfl) (by kernel_rfl) ⟨MM, rfl, Le.refl _, ⟨c4r0_g, c4r0_c, rfl, c4r0_f⟩, hS00⟩⟩) ?_
  refine D.onA (fun uu _ => uu = .bool y4.2) (fun _ _ _ h _ => h) (by
   intro ac MM vs hbd hcor hS00 hk; have hS0 := hS00
   obtain ⟨hle, LL, hC, hSt⟩ := hS0
   have hSt0 := hSt
   have hC0 := hC; obtain ⟨A0, A1, h0, h1, rfl⟩ := hC
   have hS := D.St_right (D.St_right (hSt))
   obtain ⟨c4r0_g, c4r0_c, k16, c4r0_f⟩ : ∃ (c4r0_g : Option Nat) (c4r0_c : Nat), ac.eval (.tmp 16) = .tuple #[.slice (adr c4r0_g) y4.1.length c4r0_c, .bool y4.2] ∧ Els isU8 MM 1 (adr c4r0_g) c4r0_c y4.1 := hk.1
   have hKe : Ke ac [(16, .tuple #[.slice (adr c4r0_g) y4.1.length c4r0_c, .bool y4.2])] := (.cons k16 (.nil _))
   exact ⟨D.wanted0 rfl, s_pure (.bool y4.2) hKe (by kernel_rfl) (by kernel_rfl) ⟨MM, rfl, Le.refl _, rfl, hS00⟩⟩) ?_
  refine D.onA (fun uu MM => ∃ (c4r0_g : Option Nat) (c4r0_c : Nat), uu = .slice (adr c4r0_g) y4.1.length c4r0_c ∧ Els isU8 MM 1 (adr c4r0_g) c4r0_c y4.1) (fun _ _ _ ⟨c4r0_g, c4r0_c, e, c4r0_f⟩ g => ⟨c4r0_g, c4r0_c, e, Els.mono rep_U8 c4r0_f g⟩) (by
   intro ac MM vs hbd hcor hS00 hk; have hS0 := hS00
   obtain ⟨hle, LL, hC, hSt⟩ := hS0
   have hSt0 := hSt
   have hC0 := hC; obtain ⟨A0, A1, h0, h1, rfl⟩ := hC
   have hS := D.St_right (D.St_right (hSt))
   obtain ⟨c4r0_g, c4r0_c, k28, c4r0_f⟩ : ∃ (c4r0_g : Option Nat) (c4r0_c : Nat), ac.eval (.tmp 28) = .slice (adr c4r0_g) y4.1.length c4r0_c ∧ Els isU8 MM 1 (adr c4r0_g) c4r0_c y4.1 := hk.1
   have hKe : Ke ac [(28, .slice (adr c4r0_g) y4.1.length c4r0_c)] := (.cons k28 (.nil _))
   exact ⟨D.wanted0 rfl, s_pure (.slice (adr c4r0_g) y4.1.length c4r0_c) hKe (by kernel_rfl) (by kernel_rfl) ⟨MM, rfl, Le.refl _, ⟨c4r0_g, c4r0_c, rfl, c4r0_f⟩, hS00⟩⟩) ?_
  intro fr2 m3 vs hlen hcor hS2 hE; obtain ⟨l3, LL, hC, hS2⟩ := hS2
  obtain ⟨A0, A1, h0, h1, rfl⟩ := hC
  obtain ⟨b2, el0_0, el0_1, rfl, f1⟩ := D.CH.at h0 (hlen 0) rfl
  obtain ⟨c4r0_g, c4r0_c, el1_0, rfl, c4r0_f⟩ := D.CH.at h1 (hlen 1) rfl
  replace hS2 : St _ m m3 [rowOf 5 1 c4r0_g c4r0_c y4.1, .box b1 (G_Delta_cells a0 a0_commands_a a0_commands_c) 27] := hS2
  have kl17 : fr2.eval (.tmp 17) = .slice (adr (some b2)) (([(71 : UInt8), (82 : UInt8), (70 : UInt8), (84 : UInt8)] : List UInt8).length) 4 := hcor 0 0 _ _ _ _ rfl rfl rfl el0_0
  have kl18 : fr2.eval (.tmp 18) = .slice (adr (some b2)) (([(71 : UInt8), (82 : UInt8), (70 : UInt8), (84 : UInt8)] : List UInt8).length) 4 := hcor 0 1 _ _ _ _ rfl rfl rfl el0_1
  have kl27 : fr2.eval (.tmp 27) = .tuple #[.slice (adr c4r0_g) y4.1.length c4r0_c, .bool y4.2] := hcor 1 0 _ _ _ _ rfl rfl rfl el1_0
  have kl16 : fr2.eval (.tmp 16) = .tuple #[.slice (adr c4r0_g) y4.1.length c4r0_c, .bool y4.2] := hE.move 11 rfl (Nat.le_of_ble_eq_true rfl) (by kernel_rfl) rfl (.inl rfl) kl27
  have kl28 : fr2.eval (.tmp 28) = .slice (adr c4r0_g) y4.1.length c4r0_c := hE.extract 12 rfl (Nat.le_of_ble_eq_true rfl) (by kernel_rfl) rfl rfl kl16 rfl
  have kl5 : fr2.eval (.tmp 5) = .slice (adr c4r0_g) y4.1.length c4r0_c := hE.move 14 rfl (Nat.le_of_ble_eq_true rfl) (by kernel_rfl) rfl (.inr rfl) kl28
  have hK2 := D.kn_endsM [(17, .slice (adr (some b2)) (([(71 : UInt8), (82 : UInt8), (70 : UInt8), (84 : UInt8)] : List UInt8).length) 4), (18, .slice (adr (some b2)) (([(71 : UInt8), (82 : UInt8), (70 : UInt8), (84 : UInt8)] : List UInt8).length) 4), (19, .agg #[.int .u64 1, .int .i64 1]), (20, .pointer (some ⟨b1, 0, none⟩)), (21, .int .i64 a0.oldLen), (22, .agg #[.int .u64 y2.value, .int .i64 y2.size]), (23, .pointer (some ⟨b1, 1, none⟩)), (24, .int .i64 a0.newLen), (25, .agg #[.int .u64 y3.value, .int .i64 y3.size]), (26, fr2.eval (.tmp 26)), (27, .tuple #[.slice (adr c4r0_g) y4.1.length c4r0_c, .bool y4.2]), (16, .tuple #[.slice (adr c4r0_g) y4.1.length c4r0_c, .bool y4.2]), (28, .slice (adr c4r0_g) y4.1.length c4r0_c), (29, .bool y4.2), (5, .slice (adr c4r0_g) y4.1.length c4r0_c)] hK hE rfl (by kernel_rfl) (.cons (kl17) (.cons (kl18) (.cons (hE.slots 19) (.cons (hE.slots 20) (.cons (hE.slots 21) (.cons (hE.slots 22) (.cons (hE.slots 23) (.cons (hE.slots 24) (.cons (hE.slots 25) (.cons (rfl) (.cons (kl27) (.cons (kl16) (.cons (kl28) (.cons (hE.slots 29) (.cons (kl5) (.nil _))))))))))))))))
  replace hK2 : Kn 100 fr2 [(17, .slice (adr (some b2)) (([(71 : UInt8), (82 : UInt8), (70 : UInt8), (84 : UInt8)] : List UInt8).length) 4), (18, .slice (adr (some b2)) (([(71 : UInt8), (82 : UInt8), (70 : UInt8), (84 : UInt8)] : List UInt8).length) 4), (19, .agg #[.int .u64 1, .int .i64 1]), (20, .pointer (some ⟨b1, 0, none⟩)), (21, .int .i64 a0.oldLen), (22, .agg #[.int .u64 y2.value, .int .i64 y2.size]), (23, .pointer (some ⟨b1, 1, none⟩)), (24, .int .i64 a0.newLen), (25, .agg #[.int .u64 y3.value, .int .i64 y3.size]), (27, .tuple #[.slice (adr c4r0_g) y4.1.length c4r0_c, .bool y4.2]), (16, .tuple #[.slice (adr c4r0_g) y4.1.length c4r0_c, .bool y4.2]), (28, .slice (adr c4r0_g) y4.1.length c4r0_c), (29, .bool y4.2), (5, .slice (adr c4r0_g) y4.1.length c4r0_c), (14, .bool false), (13, .int .i64 y1), (4, .int .i64 y1), (12, .int .i64 y1), (11, .agg (G_Delta_cells a0 a0_commands_a a0_commands_c)), (3, .int .i64 0), (2, .slice none 0 0), (1, .pointer (some ⟨b1, 0, none⟩)), (0, .agg (G_Delta_cells a0 a0_commands_a a0_commands_c))] := hK2.only [17, 18, 19, 20, 21, 22, 23, 24, 25, 27, 16, 28, 29, 5, 14, 13, 4, 12, 11, 3, 2, 1, 0]
  clear hE hK hcor hlen kl17 kl18 kl27 kl16 kl28 kl5 h0 el0_0 el0_1 h1 el1_0; revert hK2; clear hS; revert fr2; clear fr; intro fr hK; have hS := hS2; clear hS2 hCm hm0 hm1
  replace hS : St _ m m3 [rowOf 5 1 c4r0_g c4r0_c y4.1, .box b1 (G_Delta_cells a0 a0_commands_a a0_commands_c) 27] := hS
  refine qp 6 (.bool y4.2) hK fun fr hK => ?_
  refine wpList_nil (then_n ?_)
  refine w_seq ?_
  replace hS := hS.front 1 rfl
  replace hS : St _ m m3 [.box b1 (G_Delta_cells a0 a0_commands_a a0_commands_c) 27, rowOf 5 1 c4r0_g c4r0_c y4.1] := hS
  obtain ⟨m4, hw_, l4, hS, hA3⟩ := hS.freeze; rw [← hw_]; clear hw_
  replace hA3 : At m4 b1 0 [.int .i64 a0.oldLen, .int .i64 a0.newLen, .int .u8 ((a0.oldHash 0).toNat : Int), .int .u8 ((a0.oldHash 1).toNat : Int), .int .u8 ((a0.oldHash 2).toNat : Int), .int .u8 ((a0.oldHash 3).toNat : Int), .int .u8 ((a0.oldHash 4).toNat : Int), .int .u8 ((a0.oldHash 5).toNat : Int), .int .u8 ((a0.oldHash 6).toNat : Int), .int .u8 ((a0.oldHash 7).toNat : Int), .int .u8 ((a0.oldHash 8).toNat : Int), .int .u8 ((a0.oldHash 9).toNat : Int), .int .u8 ((a0.oldHash 10).toNat : Int), .int .u8 ((a0.oldHash 11).toNat : Int), .int .u8 ((a0.oldHash 12).toNat : Int), .int .u8 ((a0.oldHash 13).toNat : Int), .int .u8 ((a0.oldHash 14).toNat : Int), .int .u8 ((a0.oldHash 15).toNat : Int), .int .u8 ((a0.oldHash 16).toNat : Int), .int .u8 ((a0.oldHash 17).toNat : Int), .int .u8 ((a0.oldHash 18).toNat : Int), .int .u8 ((a0.oldHash 19).toNat : Int), .int .u8 ((a0.oldHash 20).toNat : Int), .int .u8 ((a0.oldHash 21).toNat : Int), .int .u8 ((a0.oldHash 22).toNat : Int), .int .u8 ((a0.oldHash 23).toNat : Int), .int .u8 ((a0.oldHash 24).toNat : Int), .int .u8 ((a0.oldHash 25).toNat : Int), .int .u8 ((a0.oldHash 26).toNat : Int), .int .u8 ((a0.oldHash 27).toNat : Int), .int .u8 ((a0.oldHash 28).toNat : Int), .int .u8 ((a0.oldHash 29).toNat : Int), .int .u8 ((a0.oldHash 30).toNat : Int), .int .u8 ((a0.oldHash 31).toNat : Int), .int .u8 ((a0.newHash 0).toNat : Int), .int .u8 ((a0.newHash 1).toNat : Int), .int .u8 ((a0.newHash 2).toNat : Int), .int .u8 ((a0.newHash 3).toNat : Int), .int .u8 ((a0.newHash 4).toNat : Int), .int .u8 ((a0.newHash 5).toNat : Int), .int .u8 ((a0.newHash 6).toNat : Int), .int .u8 ((a0.newHash 7).toNat : Int), .int .u8 ((a0.newHash 8).toNat : Int), .int .u8 ((a0.newHash 9).toNat : Int), .int .u8 ((a0.newHash 10).toNat : Int), .int .u8 ((a0.newHash 11).toNat : Int), .int .u8 ((a0.newHash 12).toNat : Int), .int .u8 ((a0.newHash 13).toNat : Int), .int .u8 ((a0.newHash 14).toNat : Int), .int .u8 ((a0.newHash 15).toNat : Int), .int .u8 ((a0.newHash 16).toNat : Int), .int .u8 ((a0.newHash 17).toNat : Int), .int .u8 ((a0.newHash 18).toNat : Int), .int .u8 ((a0.newHash 19).toNat : Int), .int .u8 ((a0.newHash 20).toNat : Int), .int .u8 ((a0.newHash 21).toNat : Int), .int .u8 ((a0.newHash 22).toNat : Int), .int .u8 ((a0.newHash 23).toNat : Int), .int .u8 ((a0.newHash 24).toNat : Int), .int .u8 ((a0.newHash 25).toNat : Int), .int .u8 ((a0.newHash 26).toNat : Int), .int .u8 ((a0.newHash 27).toNat : Int), .int .u8 ((a0.newHash 28).toNat : Int), .int .u8 ((a0.newHash 29).toNat : Int), .int .u8 ((a0.newHash 30).toNat : Int), .int .u8 ((a0.newHash 31).toNat : Int), .slice a0_commands_a a0.commands.length a0_commands_c] := hA3
  replace hS : St _ m m4 [rowOf 5 1 c4r0_g c4r0_c y4.1] := hS
  replace a0_commands_f := Els.mono rep_G_Command a0_commands_f (l3.trans l4)
  replace f1 := Els.mono rep_U8 f1 l4
  replace c4r0_f := Els.mono rep_U8 c4r0_f l4
  obtain ⟨x1, hy5, h⟩ := bind_some h
  have hm0 : ∀ p ∈ ([(fun _ A _ => A = [rowOf 5 1 c4r0_g c4r0_c y4.1]), (fun l A M => ∃ (g1 : Option Nat) (cp1 : Nat), l[0]? = some (.slice (adr g1) x1.length cp1) ∧ A = [rowOf 5 1 g1 cp1 x1] ∧ Els isU8 M 1 (adr g1) cp1 x1)] : List D.Stage), D.MonoP p := D.allP_cons (fun _ _ _ _ h _ => h) (D.allP_cons (fun _ _ _ _ ⟨g1, cp1, el0, eA, f5⟩ hl => ⟨g1, cp1, el0, eA, Els.mono rep_U8 f5 hl⟩) (D.allP_nil))
  have hCm := D.C1_mono [] hm0
  refine D.wp_drawM (m0 := m4) 6 [[3]] [([(5, none)], [(0, 0)], none), ([(1, none)], [(0, 0)], none), ([(31, some 0)], [(0, 0)], none), ([(30, some 2), (32, some 0)], [(0, 0)], some 0), ([(1, none)], [(0, 1)], none), ([(34, some 0)], [(0, 1)], none)] (D.SM m4 m (blocksOf []) (D.C1 [(fun _ A _ => A = [rowOf 5 1 c4r0_g c4r0_c y4.1]), (fun l A M => ∃ (g1 : Option Nat) (cp1 : Nat), l[0]? = some (.slice (adr g1) x1.length cp1) ∧ A = [rowOf 5 1 g1 cp1 x1] ∧ Els isU8 M 1 (adr g1) cp1 x1)] [])) hK.size (by kernel_rfl) (by kernel_rfl) (by kernel_rfl) (D.start1 hS (fun _ => rfl)) ?_
  refine D.onP [(5, .slice (adr c4r0_g) y4.1.length c4r0_c)] (.slice (adr c4r0_g) y4.1.length c4r0_c) (fun ac MM hk => (.cons (hk.1.trans (hK.at_ 5 _ rfl)) (.nil _))) ?_
  refine D.onP [(1, .pointer (some ⟨b1, 0, none⟩))] (.pointer (some ⟨b1, 2, none⟩)) (fun ac MM hk => (.cons (hk.1.trans (hK.at_ 1 _ rfl)) (.nil _))) ?_
  refine D.onP [(31, .pointer (some ⟨b1, 2, none⟩))] (.slice (some ⟨b1, 2, none⟩) 32 32) (fun ac MM hk => (.cons (hk.1) (.nil _))) ?_
  refine D.onA (fun uu MM => ∃ (g1 : Option Nat) (cp1 : Nat), uu = .slice (adr g1) x1.length cp1 ∧ Els isU8 MM 1 (adr g1) cp1 x1) (fun _ _ _ ⟨g1, cp1, e, f5⟩ g => ⟨g1, cp1, e, Els.mono rep_U8 f5 g⟩) (by
   intro ac MM vs hbd hcor hS00 hk; have hS0 := hS00
   obtain ⟨hle, LL, hC, hSt⟩ := hS0
   have hSt0 := hSt
   have hC0 := hC; obtain ⟨A0, h0, rfl⟩ := hC
   have hn := D.bd_eq hbd 0 0 rfl
   obtain rfl := D.CH.at h0 hn rfl
   replace hSt := hSt
   have k30 : ac.eval (.tmp 30) = .slice (adr c4r0_g) y4.1.length c4r0_c := hk.1
   have k32 : ac.eval (.tmp 32) = .slice (some ⟨b1, 2, none⟩) 32 32 := hk.2.1
   have hKe : Ke ac [(30, .slice (adr c4r0_g) y4.1.length c4r0_c), (32, .slice (some ⟨b1, 2, none⟩) 32 32)] := (.cons k30 (.cons k32 (.nil _)))
   replace hA3 := hA3.mono hle
   have f4 := els_arr (f := a0.oldHash) (p := 2) (n := 32) hA3 (by kernel_rfl) (by decide)
   replace c4r0_f := Els.mono rep_U8 c4r0_f hle
   exact ⟨D.wanted0 rfl, s_app elT22_0 rep_U8 hy5 hKe 0 hSt rfl c4r0_f f4 rfl rfl rfl (by decide) (by
     intro M2 g1 cp1 l2 hS2 f5
     exact ⟨M2, rfl, l2, ⟨g1, cp1, rfl, f5⟩, hle.trans l2, _, ⟨_, D.CH.push hn rfl ⟨g1, cp1, D.get_push hn, rfl, f5⟩, rfl⟩, hS2⟩)⟩) ?_
  refine D.onP [(1, .pointer (some ⟨b1, 0, none⟩))] (.pointer (some ⟨b1, 34, none⟩)) (fun ac MM hk => (.cons (hk.1.trans (hK.at_ 1 _ rfl)) (.nil _))) ?_
  refine D.onP [(34, .pointer (some ⟨b1, 34, none⟩))] (.slice (some ⟨b1, 34, none⟩) 32 32) (fun ac MM hk => (.cons (hk.1) (.nil _))) ?_
  intro fr2 m5 vs hlen hcor hS2 hE; obtain ⟨l5, LL, hC, hS2⟩ := hS2
  obtain ⟨A0, h0, rfl⟩ := hC
  obtain ⟨g1, cp1, el0_0, rfl, f5⟩ := D.CH.at h0 (hlen 0) rfl
  replace hS2 : St _ m m5 [rowOf 5 1 g1 cp1 x1] := hS2
  have kl33 : fr2.eval (.tmp 33) = .slice (adr g1) x1.length cp1 := hcor 0 0 _ _ _ _ rfl rfl rfl el0_0
  have hK2 := D.kn_endsM [(30, .slice (adr c4r0_g) y4.1.length c4r0_c), (31, .pointer (some ⟨b1, 2, none⟩)), (32, .slice (some ⟨b1, 2, none⟩) 32 32), (33, .slice (adr g1) x1.length cp1), (34, .pointer (some ⟨b1, 34, none⟩)), (35, .slice (some ⟨b1, 34, none⟩) 32 32)] hK hE rfl (by kernel_rfl) (.cons (hE.slots 30) (.cons (hE.slots 31) (.cons (hE.slots 32) (.cons (kl33) (.cons (hE.slots 34) (.cons (hE.slots 35) (.nil _)))))))
  replace hK2 : Kn 100 fr2 [(30, .slice (adr c4r0_g) y4.1.length c4r0_c), (31, .pointer (some ⟨b1, 2, none⟩)), (32, .slice (some ⟨b1, 2, none⟩) 32 32), (33, .slice (adr g1) x1.length cp1), (34, .pointer (some ⟨b1, 34, none⟩)), (35, .slice (some ⟨b1, 34, none⟩) 32 32), (6, .bool y4.2), (17, .slice (adr (some b2)) (([(71 : UInt8), (82 : UInt8), (70 : UInt8), (84 : UInt8)] : List UInt8).length) 4), (18, .slice (adr (some b2)) (([(71 : UInt8), (82 : UInt8), (70 : UInt8), (84 : UInt8)] : List UInt8).length) 4), (19, .agg #[.int .u64 1, .int .i64 1]), (20, .pointer (some ⟨b1, 0, none⟩)), (21, .int .i64 a0.oldLen), (22, .agg #[.int .u64 y2.value, .int .i64 y2.size]), (23, .pointer (some ⟨b1, 1, none⟩)), (24, .int .i64 a0.newLen), (25, .agg #[.int .u64 y3.value, .int .i64 y3.size]), (27, .tuple #[.slice (adr c4r0_g) y4.1.length c4r0_c, .bool y4.2]), (16, .tuple #[.slice (adr c4r0_g) y4.1.length c4r0_c, .bool y4.2]), (28, .slice (adr c4r0_g) y4.1.length c4r0_c), (29, .bool y4.2), (5, .slice (adr c4r0_g) y4.1.length c4r0_c), (14, .bool false), (13, .int .i64 y1), (4, .int .i64 y1), (12, .int .i64 y1), (11, .agg (G_Delta_cells a0 a0_commands_a a0_commands_c)), (3, .int .i64 0), (2, .slice none 0 0), (1, .pointer (some ⟨b1, 0, none⟩)), (0, .agg (G_Delta_cells a0 a0_commands_a a0_commands_c))] := hK2.only [30, 31, 32, 33, 34, 35, 6, 17, 18, 19, 20, 21, 22, 23, 24, 25, 27, 16, 28, 29, 5, 14, 13, 4, 12, 11, 3, 2, 1, 0]
  clear hE hK hcor hlen kl33 h0 el0_0; revert hK2; clear hS; revert fr2; clear fr; intro fr hK; have hS := hS2; clear hS2 hCm hm0
  replace hS : St _ m m5 [rowOf 5 1 g1 cp1 x1] := hS
  replace hA3 := hA3.mono l5
  have f6 := els_arr (f := a0.newHash) (p := 34) (n := 32) hA3 (by kernel_rfl) (by decide)
  obtain ⟨x2, hy6, h⟩ := bind_some h
  refine qo 36 hK (s_app elT22_0 rep_U8 hy6 hK.at_ 0 hS rfl f5 f6 rfl rfl rfl (by decide) ?_)
  clear hK fr hS; intro m6 g2 cp2 l6 hS f7 fr hK
  replace hS : St _ m m6 [rowOf 5 1 g2 cp2 x2] := hS
  refine qp 5 (.slice (adr g2) x2.length cp2) hK fun fr hK => ?_
  refine wpList_nil (then_n ?_)
  refine w_seq (w_region ?_)
  refine qp 38 (.slice (adr g2) x2.length cp2) hK fun fr hK => ?_
  refine qp 39 (.pointer (some ⟨b1, 66, none⟩)) hK fun fr hK => ?_
  replace hA3 := hA3.mono l6
  refine qo 40 hK (s_loadAt hK.at_ hA3 66 rfl rfl rfl rfl (by kernel_rfl) ?_)
  clear hK fr; intro fr hK
  refine qp 41 (.int .i64 (a0.commands.length : Int)) hK fun fr hK => ?_
  refine qp 42 (.int .u64 (IntKind.u64.wrap (a0.commands.length : Int))) hK fun fr hK => ?_
  refine qp 43 (.agg #[.int .u64 (IntKind.u64.wrap (a0.commands.length : Int)), .int .i64 4]) hK fun fr hK => ?_
  refine qo 44 hK (s_buildSlice (elem := 84) #[.int .u64 (IntKind.u64.wrap (a0.commands.length : Int)), .int .i64 4] hK.at_ hS rfl (by kernel_rfl) (by kernel_rfl) ?_)
  clear hK fr hS; intro m7 b4 b4z b4n l7 hS hA4 fr hK
  replace hS : St _ m m7 [rowOf 5 1 g2 cp2 x2] := hS
  have f8 : Els is_G_wire_Field m7 2 (some ⟨b4, 0, none⟩) 1 ([(⟨(IntKind.u64.wrap (a0.commands.length : Int)), 4⟩ : G.wire_Field)] : List G.wire_Field) := els_lit rep_G_wire_Field [[.int .u64 (IntKind.u64.wrap (a0.commands.length : Int)), .int .i64 4]] hA4 (by simp) (by decide) (.cons rfl .nil)
  replace hK : Kn 100 fr [(44, .slice (some ⟨b4, 0, none⟩) (([(⟨(IntKind.u64.wrap (a0.commands.length : Int)), 4⟩ : G.wire_Field)] : List G.wire_Field).length) 1), (43, .agg #[.int .u64 (IntKind.u64.wrap (a0.commands.length : Int)), .int .i64 4]), (42, .int .u64 (IntKind.u64.wrap (a0.commands.length : Int))), (41, .int .i64 (a0.commands.length : Int)), (40, .slice a0_commands_a a0.commands.length a0_commands_c), (39, .pointer (some ⟨b1, 66, none⟩)), (38, .slice (adr g2) x2.length cp2), (5, .slice (adr g2) x2.length cp2), (36, .slice (adr g2) x2.length cp2), (30, .slice (adr c4r0_g) y4.1.length c4r0_c), (31, .pointer (some ⟨b1, 2, none⟩)), (32, .slice (some ⟨b1, 2, none⟩) 32 32), (33, .slice (adr g1) x1.length cp1), (34, .pointer (some ⟨b1, 34, none⟩)), (35, .slice (some ⟨b1, 34, none⟩) 32 32), (6, .bool y4.2), (17, .slice (adr (some b2)) (([(71 : UInt8), (82 : UInt8), (70 : UInt8), (84 : UInt8)] : List UInt8).length) 4), (18, .slice (adr (some b2)) (([(71 : UInt8), (82 : UInt8), (70 : UInt8), (84 : UInt8)] : List UInt8).length) 4), (19, .agg #[.int .u64 1, .int .i64 1]), (20, .pointer (some ⟨b1, 0, none⟩)), (21, .int .i64 a0.oldLen), (22, .agg #[.int .u64 y2.value, .int .i64 y2.size]), (23, .pointer (some ⟨b1, 1, none⟩)), (24, .int .i64 a0.newLen), (25, .agg #[.int .u64 y3.value, .int .i64 y3.size]), (27, .tuple #[.slice (adr c4r0_g) y4.1.length c4r0_c, .bool y4.2]), (16, .tuple #[.slice (adr c4r0_g) y4.1.length c4r0_c, .bool y4.2]), (28, .slice (adr c4r0_g) y4.1.length c4r0_c), (29, .bool y4.2), (14, .bool false), (13, .int .i64 y1), (4, .int .i64 y1), (12, .int .i64 y1), (11, .agg (G_Delta_cells a0 a0_commands_a a0_commands_c)), (3, .int .i64 0), (2, .slice none 0 0), (1, .pointer (some ⟨b1, 0, none⟩)), (0, .agg (G_Delta_cells a0 a0_commands_a a0_commands_c))] := hK.only [44, 43, 42, 41, 40, 39, 38, 5, 36, 30, 31, 32, 33, 34, 35, 6, 17, 18, 19, 20, 21, 22, 23, 24, 25, 27, 16, 28, 29, 14, 13, 4, 12, 11, 3, 2, 1, 0]
  replace f7 := Els.mono rep_U8 f7 l7
  obtain ⟨y5, hy7, h⟩ := bind_some h
  refine qo 45 hK (s_call hK.at_ hS ent56_0 rfl rfl rfl rfl (G.wire_Append_spec f7 f8 hy7) (by kernel_rfl) ?_)
  clear hK fr hS; rintro _ m8 _ l8 hS ⟨c5r0_g, c5r0_c, rfl, rfl, c5r0_f⟩ fr hK
  replace hS : St _ m m8 [rowOf 5 1 c5r0_g c5r0_c y5.1, rowOf 5 1 g2 cp2 x2] := hS
  refine qp 37 (.tuple #[.slice (adr c5r0_g) y5.1.length c5r0_c, .bool y5.2]) hK fun fr hK => ?_
  refine qp 46 (.slice (adr c5r0_g) y5.1.length c5r0_c) hK fun fr hK => ?_
  refine qp 47 (.bool y5.2) hK fun fr hK => ?_
  refine qp 5 (.slice (adr c5r0_g) y5.1.length c5r0_c) hK fun fr hK => ?_
  refine qp 7 (.bool y5.2) hK fun fr hK => ?_
  refine wpList_nil (then_n ?_)
  refine w_seq ?_
  refine w_seq (w_region ?_)
  refine qp 48 (.pointer (some ⟨b1, 66, none⟩)) hK fun fr hK => ?_
  replace hA3 := hA3.mono (l7.trans l8)
  refine qo 49 hK (s_loadAt hK.at_ hA3 66 rfl rfl rfl rfl (by kernel_rfl) ?_)
  clear hK fr; intro fr hK
  refine qp 50 (.int .i64 (a0.commands.length : Int)) hK fun fr hK => ?_
  refine qp 51 (.int .i64 0) hK fun fr hK => ?_
  refine wpList_nil (then_n ?_)
  obtain ⟨v1, hv1, h⟩ := bind_some h
  refine w_join (fun fr ww => ∃ (g3 : Option Nat), ∃ (g4 : Nat), ∃ m9 : Mem, m9.w = ww ∧ Kn 100 fr [(5, .slice (adr g3) v1.length g4), (7, .bool y5.2)] ∧ Le m8 m9 ∧ St (blocksOf []) m m9 [rowOf 5 1 g3 g4 v1] ∧ Els isU8 m9 1 (adr g3) g4 v1) ?_ ?_
  ·
   clear hK hS fr hv1
   rintro fr _ ⟨g3, g4, m9, rfl, hK, l9, hS, f9⟩
   refine then_n ?_
   refine w_seq ?_
   refine w_seq (w_region ?_)
   refine qp 97 (.bool y5.2) hK fun fr hK => ?_
   refine qp 98 (.bool (!y5.2)) hK fun fr hK => ?_
   refine wpList_nil (then_n ?_)
   refine w_cond hK rfl (fun hb2 => ?_) (fun hb2 => ?_)
   ·
    replace hK := hK.more (t := 98) (v' := .bool true) rfl (by rw [hb2])
    replace h := ite_t ((Bool.not_eq_true' _).mp hb2) h
    refine w_seq (w_region ?_)
    refine qp 2 (.slice none 0 0) hK fun fr hK => ?_
    refine qp 3 (.int .i64 2) hK fun fr hK => ?_
    refine wpList_nil (then_n ?_)
    refine wp_ret ?_
    refine then_r ?_
    replace hS := hS.addRow (α := UInt8) 5 1
    replace h := Option.some.inj h; subst h
    replace hS : St _ m m9 [rowOf 5 1 none 0 ([] : List UInt8), rowOf 5 1 g3 g4 v1] := hS
    refine ret_of [.tmp 2, .tmp 3] [.slice none 0 0, .int .i64 2] rfl hK (.tmp rfl (.tmp rfl .nil)) (St.keep (L := [rowOf 5 1 none 0 ([] : List UInt8)]) (R := [rowOf 5 1 g3 g4 v1]) hS) ?_
    exact ⟨none, 0, rfl, rfl, (Els.nil _ _)⟩
   ·
    replace hK := hK.more (t := 98) (v' := .bool false) rfl (by rw [hb2])
    replace h := ite_f (not_false_of ((Bool.not_eq_false' _).mp hb2)) h
    refine wp_skip ?_
    refine then_n ?_
    refine w_seq (w_region ?_)
    refine qp 99 (.slice (adr g3) v1.length g4) hK fun fr hK => ?_
    refine qp 2 (.slice (adr g3) v1.length g4) hK fun fr hK => ?_
    refine qp 3 (.int .i64 0) hK fun fr hK => ?_
    refine wpList_nil (then_n ?_)
    refine wp_ret ?_
    replace h := Option.some.inj h; subst h
    replace hS : St _ m m9 [rowOf 5 1 g3 g4 v1] := hS
    refine ret_of [.tmp 2, .tmp 3] [.slice (adr g3) v1.length g4, .int .i64 0] rfl hK (.tmp rfl (.tmp rfl .nil)) hS ?_
    exact ⟨g3, g4, rfl, rfl, f9⟩
  ·
   replace h := hv1; clear hv1
   refine wp_block ?_
   replace hS := St.keep (L := [rowOf 5 1 c5r0_g c5r0_c y5.1]) (R := [rowOf 5 1 g2 cp2 x2]) hS
   refine w_loopL h (fun (s1 : (List UInt8) × Int) fr ww => ∃ (g5 : Option Nat), ∃ (g6 : Nat), ∃ m10 : Mem, m10.w = ww ∧ Kn 100 fr [(5, .slice (adr g5) s1.1.length g6), (7, .bool y5.2), (49, .slice a0_commands_a a0.commands.length a0_commands_c), (50, .int .i64 (a0.commands.length : Int)), (51, .int .i64 s1.2)] ∧ Le m8 m10 ∧ St (blocksOf []) m m10 [rowOf 5 1 g5 g6 s1.1] ∧ Els isU8 m10 1 (adr g5) g6 s1.1) ?_ ?_
   · exact ⟨c5r0_g, c5r0_c, m8, rfl, hK.only [5, 7, 49, 50, 51], Le.refl _, hS, c5r0_f⟩
   clear hK hS fr h
   rintro k1 s1 x3 fr _ ⟨g5, g6, m10, rfl, hK, l10, hS, f10⟩ h hn1
   unfold G.format_Encode_l1 at h
   refine w_seq (w_region ?_)
   refine qp 52 (.bool (decide (s1.2 < (a0.commands.length : Int)))) hK fun fr hK => ?_
   refine wpList_nil (then_n ?_)
   refine w_seq ?_
   refine w_cond hK rfl (fun hb3 => ?_) (fun hb3 => ?_)
   ·
    replace hK := hK.more (t := 52) (v' := .bool true) rfl (by rw [hb3])
    replace h := ite_t (of_decide_eq_true hb3) h
    refine wp_skip ?_
    refine then_n ?_
    refine w_seq ?_
    refine wp_block ?_
    refine w_seq (w_region ?_)
    replace a0_commands_f := Els.mono rep_G_Command a0_commands_f (l5.trans (l6.trans (l7.trans (l8.trans l10))))
    obtain ⟨x4, hy8, h⟩ := bind_some h
    refine qo 53 hK (s_idx elT25_0 a0_commands_f hy8 hK.at_ rfl rfl rfl ?_)
    clear hK fr; intro b5 p1 cs1 hR1 hA5 fr hK
    obtain ⟨e1_data_a, e1_data_c, rfl, e1_data_f⟩ := hR1
    refine qo 54 hK (s_loadAtN [.int .i64 x4.kind, .int .i64 x4.to, .int .i64 x4.from_, .int .i64 x4.len, .slice e1_data_a x4.data.length e1_data_c] hK.at_ hA5 0 rfl rfl rfl (by kernel_rfl) (by kernel_rfl) ?_)
    clear hK fr; intro fr hK
    refine qo 9 hK (s_alloc (.agg #[.int .i64 0, .int .i64 0, .int .i64 0, .int .i64 0, .slice none 0 0]) hK.at_ hS rfl (by kernel_rfl) ?_)
    clear hK fr hS; intro m11 b6 b6z l11 hS fr hK
    refine qo0 hK (s_storeAll hK.at_ 0 hS rfl rfl rfl rfl (by kernel_rfl) (by kernel_rfl) (by kernel_rfl) ?_)
    clear hK fr hS; intro m12 l12 hS fr hK
    replace hS : St _ m m12 [.box b6 #[.int .i64 x4.kind, .int .i64 x4.to, .int .i64 x4.from_, .int .i64 x4.len, .slice e1_data_a x4.data.length e1_data_c] 50, rowOf 5 1 g5 g6 s1.1] := hS
    refine wpList_nil (then_n ?_)
    refine w_seq ?_
    replace a0_commands_f := Els.mono rep_G_Command a0_commands_f (l11.trans l12)
    replace f8 := Els.mono rep_G_wire_Field f8 (l8.trans (l10.trans (l11.trans l12)))
    replace f10 := Els.mono rep_U8 f10 (l11.trans l12)
    replace e1_data_f := Els.mono rep_U8 e1_data_f (l11.trans l12)
    replace hA5 := hA5.mono (l11.trans l12)
    obtain ⟨y6, hy9, h⟩ := bind_some h
    have hlt0 : ∀ bq ∈ blocksOf [.box b6 #[.int .i64 x4.kind, .int .i64 x4.to, .int .i64 x4.from_, .int .i64 x4.len, .slice e1_data_a x4.data.length e1_data_c] 50, rowOf 5 1 g5 g6 s1.1], bq < m12.w.heap.size := fun bq hbq => hS.ow.lt hbq
    refine D.wp_draw (Gr := D.GO m12 none) (S := D.SO none (blocksOf []) m m12 (fun _ => [.box b6 #[.int .i64 x4.kind, .int .i64 x4.to, .int .i64 x4.from_, .int .i64 x4.len, .slice e1_data_a x4.data.length e1_data_c] 50, rowOf 5 1 g5 g6 s1.1]) (fun _ => True)) (N := 0) 7 [] [([(9, none)], 0, 0, false), ([(55, some 0)], 0, 0, false), ([(56, some 0)], 0, 0, false), ([(57, some 0)], 0, 0, false), ([(9, none)], 0, 0, false), ([(59, some 0)], 0, 0, false), ([(60, some 0)], 0, 0, false)] hK.size (by kernel_rfl) (by kernel_rfl) (by kernel_rfl) rfl (D.startO hS trivial) ?_
    refine D.on_pure (D.GO_refl _ _) [(9, .pointer (some ⟨b6, 0, none⟩))] (.pointer (some ⟨b6, 0, none⟩)) (fun ac ww hk => (.cons (hk.1.trans (hK.at_ 9 _ rfl)) (.nil _))) ?_
    refine D.on_det (D.GO_refl _ _) [(55, .pointer (some ⟨b6, 0, none⟩))] (.int .i64 x4.kind) (fun ac ww hk => (.cons (hk.1) (.nil _))) (fun ac ww kk hb hKe Post hp => (fun hS => s_load hKe hS 0 rfl rfl rfl rfl (by kernel_rfl) hp) hb.2.1) ?_
    refine D.on_pure (D.GO_refl _ _) [(56, .int .i64 x4.kind)] (.int .u64 (IntKind.u64.wrap x4.kind)) (fun ac ww hk => (.cons (hk.1) (.nil _))) ?_
    refine D.on_pure (D.GO_refl _ _) [(57, .int .u64 (IntKind.u64.wrap x4.kind))] (.agg #[.int .u64 (IntKind.u64.wrap x4.kind), .int .i64 1]) (fun ac ww hk => (.cons (hk.1) (.nil _))) ?_
    refine D.on_pure (D.GO_refl _ _) [(9, .pointer (some ⟨b6, 0, none⟩))] (.pointer (some ⟨b6, 1, none⟩)) (fun ac ww hk => (.cons (hk.1.trans (hK.at_ 9 _ rfl)) (.nil _))) ?_
    refine D.on_det (D.GO_refl _ _) [(59, .pointer (some ⟨b6, 1, none⟩))] (.int .i64 x4.to) (fun ac ww hk => (.cons (hk.1) (.nil _))) (fun ac ww kk hb hKe Post hp => (fun hS => s_load hKe hS 0 rfl rfl rfl rfl (by kernel_rfl) hp) hb.2.1) ?_
    refine D.on_op (fun uu _ => uu = .agg #[.int .u64 y6.value, .int .i64 y6.size]) (fun _ _ _ h _ => h) (by
     intro ac ww kk hlo hhi hb hk
     obtain rfl : kk = 0 := by omega
     have h0 := hS; replace hS := hb.2.1
     have k60 : ac.eval (.tmp 60) = .int .i64 x4.to := hk.1
     have hKe : Ke ac [(60, .int .i64 x4.to)] := (.cons k60 (.nil _))
     exact ⟨D.wanted0 rfl, D.callO h0 (fun bq hbq => hlt0 bq (by revert hbq; simp [blocksOf, Ent.box, rowOf, Ent.row]; try omega)) hb hKe ent57_0 rfl rfl rfl rfl (G.format_length_spec hy9) (by kernel_rfl) (by rintro _ m' _ hg hn hl ⟨rfl, rfl⟩; exact rfl)⟩) ?_
    refine D.finO ?_
    intro fr2 m13 hm1 l13 hS2 hF2 hE
    replace hS2 : St _ m m13 [.box b6 #[.int .i64 x4.kind, .int .i64 x4.to, .int .i64 x4.from_, .int .i64 x4.len, .slice e1_data_a x4.data.length e1_data_c] 50, rowOf 5 1 g5 g6 s1.1] := hS2
    have hK2 := D.kn_ends [(55, .pointer (some ⟨b6, 0, none⟩)), (56, .int .i64 x4.kind), (57, .int .u64 (IntKind.u64.wrap x4.kind)), (58, .agg #[.int .u64 (IntKind.u64.wrap x4.kind), .int .i64 1]), (59, .pointer (some ⟨b6, 1, none⟩)), (60, .int .i64 x4.to), (61, .agg #[.int .u64 y6.value, .int .i64 y6.size])] hK hE rfl (by kernel_rfl) (.cons (hE.slots 55) (.cons (hE.slots 56) (.cons (hE.slots 57) (.cons (hE.slots 58) (.cons (hE.slots 59) (.cons (hE.slots 60) (.cons (hE.slots 61) (.nil _))))))))
    replace hK2 : Kn 100 fr2 [(55, .pointer (some ⟨b6, 0, none⟩)), (56, .int .i64 x4.kind), (57, .int .u64 (IntKind.u64.wrap x4.kind)), (58, .agg #[.int .u64 (IntKind.u64.wrap x4.kind), .int .i64 1]), (59, .pointer (some ⟨b6, 1, none⟩)), (60, .int .i64 x4.to), (61, .agg #[.int .u64 y6.value, .int .i64 y6.size]), (9, .pointer (some ⟨b6, 0, none⟩)), (54, .agg #[.int .i64 x4.kind, .int .i64 x4.to, .int .i64 x4.from_, .int .i64 x4.len, .slice e1_data_a x4.data.length e1_data_c]), (53, .pointer (some ⟨b5, p1, none⟩)), (52, .bool true), (5, .slice (adr g5) s1.1.length g6), (7, .bool y5.2), (49, .slice a0_commands_a a0.commands.length a0_commands_c), (50, .int .i64 (a0.commands.length : Int)), (51, .int .i64 s1.2)] := hK2.only [55, 56, 57, 58, 59, 60, 61, 9, 54, 53, 52, 5, 7, 49, 50, 51]
    clear hE hK; revert hK2; clear hm1 hS hlt0; revert fr2; clear fr; intro fr hK; have hS := hS2; clear hS2
    refine qo 62 hK (s_buildRow (elem := 84) #[.int .u64 (IntKind.u64.wrap x4.kind), .int .i64 1, .int .u64 y6.value, .int .i64 y6.size] hK.at_ hS rfl (by kernel_rfl) (by kernel_rfl) ?_)
    clear hK fr hS; intro m14 b7 l14 hS hA6 fr hK
    have f11 : Els is_G_wire_Field m14 2 (some ⟨b7, 0, none⟩) 2 ([(⟨(IntKind.u64.wrap x4.kind), 1⟩ : G.wire_Field), y6] : List G.wire_Field) := els_lit rep_G_wire_Field [[.int .u64 (IntKind.u64.wrap x4.kind), .int .i64 1], [.int .u64 y6.value, .int .i64 y6.size]] hA6 (by simp) (by decide) (.cons rfl (.cons rfl .nil))
    replace hS : St _ m m14 [rowOf 84 2 (some b7) 2 ([(⟨(IntKind.u64.wrap x4.kind), 1⟩ : G.wire_Field), y6] : List G.wire_Field), .box b6 #[.int .i64 x4.kind, .int .i64 x4.to, .int .i64 x4.from_, .int .i64 x4.len, .slice e1_data_a x4.data.length e1_data_c] 50, rowOf 5 1 g5 g6 s1.1] := hS
    replace hK : Kn 100 fr [(62, .slice (adr (some b7)) (([(⟨(IntKind.u64.wrap x4.kind), 1⟩ : G.wire_Field), y6] : List G.wire_Field).length) 2), (55, .pointer (some ⟨b6, 0, none⟩)), (56, .int .i64 x4.kind), (57, .int .u64 (IntKind.u64.wrap x4.kind)), (58, .agg #[.int .u64 (IntKind.u64.wrap x4.kind), .int .i64 1]), (59, .pointer (some ⟨b6, 1, none⟩)), (60, .int .i64 x4.to), (61, .agg #[.int .u64 y6.value, .int .i64 y6.size]), (9, .pointer (some ⟨b6, 0, none⟩)), (54, .agg #[.int .i64 x4.kind, .int .i64 x4.to, .int .i64 x4.from_, .int .i64 x4.len, .slice e1_data_a x4.data.length e1_data_c]), (53, .pointer (some ⟨b5, p1, none⟩)), (52, .bool true), (5, .slice (adr g5) s1.1.length g6), (7, .bool y5.2), (49, .slice a0_commands_a a0.commands.length a0_commands_c), (50, .int .i64 (a0.commands.length : Int)), (51, .int .i64 s1.2)] := hK.only [62, 55, 56, 57, 58, 59, 60, 61, 9, 54, 53, 52, 5, 7, 49, 50, 51]
    refine qp 10 (.slice (adr (some b7)) (([(⟨(IntKind.u64.wrap x4.kind), 1⟩ : G.wire_Field), y6] : List G.wire_Field).length) 2) hK fun fr hK => ?_
    refine wpList_nil (then_n ?_)
    refine w_seq ?_
    refine w_seq (w_region ?_)
    refine qp 63 (.pointer (some ⟨b6, 0, none⟩)) hK fun fr hK => ?_
    refine qo 64 hK (s_load hK.at_ hS 1 rfl rfl rfl rfl (by kernel_rfl) ?_)
    clear hK fr; intro fr hK
    refine qp 65 (.bool (x4.kind == 1)) hK fun fr hK => ?_
    refine wpList_nil (then_n ?_)
    refine w_cond hK rfl (fun hb4 => ?_) (fun hb4 => ?_)
    ·
     replace hK := hK.more (t := 65) (v' := .bool true) rfl (by rw [hb4])
     replace h := ite_t (eq_of_beq hb4) h
     refine w_seq ?_
     replace a0_commands_f := Els.mono rep_G_Command a0_commands_f (l13.trans l14)
     replace f8 := Els.mono rep_G_wire_Field f8 (l13.trans l14)
     replace f10 := Els.mono rep_U8 f10 (l13.trans l14)
     replace e1_data_f := Els.mono rep_U8 e1_data_f (l13.trans l14)
     replace hA5 := hA5.mono (l13.trans l14)
     obtain ⟨y7, hy10, h⟩ := bind_some h
     obtain ⟨y8, hy11, h⟩ := bind_some h
     obtain ⟨x5, hy12, h⟩ := bind_some h
     obtain ⟨y9, hy13, h⟩ := bind_some h
     have hm0 : ∀ p ∈ ([(fun _ A _ => A = [rowOf 84 2 (some b7) 2 ([(⟨(IntKind.u64.wrap x4.kind), 1⟩ : G.wire_Field), y6] : List G.wire_Field)]), (fun l A M => ∃ (g7 : Option Nat) (cp3 : Nat), l[0]? = some (.slice (adr g7) x5.length cp3) ∧ A = [rowOf 84 2 g7 cp3 x5] ∧ Els is_G_wire_Field M 2 (adr g7) cp3 x5)] : List D.Stage), D.MonoP p := D.allP_cons (fun _ _ _ _ h _ => h) (D.allP_cons (fun _ _ _ _ ⟨g7, cp3, el0, eA, f13⟩ hl => ⟨g7, cp3, el0, eA, Els.mono rep_G_wire_Field f13 hl⟩) (D.allP_nil))
     have hm1 : ∀ p ∈ ([(fun _ A _ => A = []), (fun l A M => ∃ (c9r0_g : Option Nat) (c9r0_c : Nat), l[0]? = some (.tuple #[.slice (adr c9r0_g) y9.1.length c9r0_c, .bool y9.2]) ∧ A = [rowOf 5 1 c9r0_g c9r0_c y9.1] ∧ Els isU8 M 1 (adr c9r0_g) c9r0_c y9.1)] : List D.Stage), D.MonoP p := D.allP_cons (fun _ _ _ _ h _ => h) (D.allP_cons (fun _ _ _ _ ⟨c9r0_g, c9r0_c, el0, eA, c9r0_f⟩ hl => ⟨c9r0_g, c9r0_c, el0, eA, Els.mono rep_U8 c9r0_f hl⟩) (D.allP_nil))
     have hCm := D.C2_mono [.box b6 #[.int .i64 x4.kind, .int .i64 x4.to, .int .i64 x4.from_, .int .i64 x4.len, .slice e1_data_a x4.data.length e1_data_c] 50, rowOf 5 1 g5 g6 s1.1] hm0 hm1
     refine D.wp_drawM (m0 := m14) 15 [[9], [10]] [([(5, none)], [(0, 1), (0, 0)], none), ([(10, none)], [(0, 0), (0, 0)], none), ([(9, none)], [(0, 0), (0, 0)], none), ([(69, some 0)], [(0, 0), (0, 0)], none), ([(70, some 0)], [(0, 0), (0, 0)], none), ([(9, none)], [(0, 0), (0, 0)], none), ([(72, some 0)], [(0, 0), (0, 0)], none), ([(73, some 0)], [(0, 0), (0, 0)], none), ([(71, some 3), (74, some 0)], [(0, 0), (0, 0)], none), ([(68, some 7), (75, some 0)], [(0, 0), (0, 0)], some 0), ([(67, some 9), (76, some 0)], [(1, 1), (0, 0)], some 1), ([(77, some 0)], [(1, 1), (1, 1)], none), ([(66, some 0)], [(1, 1), (1, 1)], none), ([(66, some 1)], [(1, 1), (1, 1)], none), ([(78, some 1)], [(1, 1), (1, 1)], none)] (D.SM m14 m (blocksOf []) (D.C2 [(fun _ A _ => A = [rowOf 84 2 (some b7) 2 ([(⟨(IntKind.u64.wrap x4.kind), 1⟩ : G.wire_Field), y6] : List G.wire_Field)]), (fun l A M => ∃ (g7 : Option Nat) (cp3 : Nat), l[0]? = some (.slice (adr g7) x5.length cp3) ∧ A = [rowOf 84 2 g7 cp3 x5] ∧ Els is_G_wire_Field M 2 (adr g7) cp3 x5)] [(fun _ A _ => A = []), (fun l A M => ∃ (c9r0_g : Option Nat) (c9r0_c : Nat), l[0]? = some (.tuple #[.slice (adr c9r0_g) y9.1.length c9r0_c, .bool y9.2]) ∧ A = [rowOf 5 1 c9r0_g c9r0_c y9.1] ∧ Els isU8 M 1 (adr c9r0_g) c9r0_c y9.1)] [.box b6 #[.int .i64 x4.kind, .int .i64 x4.to, .int .i64 x4.from_, .int .i64 x4.len, .slice e1_data_a x4.data.length e1_data_c] 50, rowOf 5 1 g5 g6 s1.1])) hK.size (by kernel_rfl) (by kernel_rfl) (by kernel_rfl) (D.start2 hS (fun _ => rfl) (fun _ => rfl)) ?_
     refine D.onP [(5, .slice (adr g5) s1.1.length g6)] (.slice (adr g5) s1.1.length g6) (fun ac MM hk => (.cons (hk.1.trans (hK.at_ 5 _ rfl)) (.nil _))) ?_
     refine D.onP [(10, .slice (adr (some b7)) (([(⟨(IntKind.u64.wrap x4.kind), 1⟩ : G.wire_Field), y6] : List G.wire_Field).length) 2)] (.slice (adr (some b7)) (([(⟨(IntKind.u64.wrap x4.kind), 1⟩ : G.wire_Field), y6] : List G.wire_Field).length) 2) (fun ac MM hk => (.cons (hk.1.trans (hK.at_ 10 _ rfl)) (.nil _))) ?_
     refine D.onP [(9, .pointer (some ⟨b6, 0, none⟩))] (.pointer (some ⟨b6, 2, none⟩)) (fun ac MM hk => (.cons (hk.1.trans (hK.at_ 9 _ rfl)) (.nil _))) ?_
     refine D.onA (fun uu _ => uu = .int .i64 x4.from_) (fun _ _ _ h _ => h) (by
      intro ac MM vs hbd hcor hS00 hk; have hS0 := hS00
      obtain ⟨hle, LL, hC, hSt⟩ := hS0
      have hSt0 := hSt
      have hC0 := hC; obtain ⟨A0, A1, h0, h1, rfl⟩ := hC
      have hS := D.St_right (D.St_right (hSt))
      have k69 : ac.eval (.tmp 69) = .pointer (some ⟨b6, 2, none⟩) := hk.1
      have hKe : Ke ac [(69, .pointer (some ⟨b6, 2, none⟩))] := (.cons k69 (.nil _))
      exact ⟨D.wanted0 rfl, s_load hKe hS 0 rfl rfl rfl rfl (by kernel_rfl) ⟨MM, rfl, Le.refl _, rfl, hS00⟩⟩) ?_
     refine D.onA (fun uu _ => uu = .agg #[.int .u64 y7.value, .int .i64 y7.size]) (fun _ _ _ h _ => h) (by
      intro ac MM vs hbd hcor hS00 hk; have hS0 := hS00
      obtain ⟨hle, LL, hC, hSt⟩ := hS0
      have hSt0 := hSt
      have hC0 := hC; obtain ⟨A0, A1, h0, h1, rfl⟩ := hC
      have hS := D.St_right (D.St_right (hSt))
      have k70 : ac.eval (.tmp 70) = .int .i64 x4.from_ := hk.1
      have hKe : Ke ac [(70, .int .i64 x4.from_)] := (.cons k70 (.nil _))
      exact ⟨D.wanted0 rfl, D.stepCall hCm hS00 hKe ent57_0 rfl rfl rfl rfl (G.format_length_spec hy10) (by kernel_rfl) (by rintro _ M2 _ hl ⟨rfl, rfl⟩; exact rfl)⟩) ?_
     refine D.onP [(9, .pointer (some ⟨b6, 0, none⟩))] (.pointer (some ⟨b6, 3, none⟩)) (fun ac MM hk => (.cons (hk.1.trans (hK.at_ 9 _ rfl)) (.nil _))) ?_
     refine D.onA (fun uu _ => uu = .int .i64 x4.len) (fun _ _ _ h _ => h) (by
      intro ac MM vs hbd hcor hS00 hk; have hS0 := hS00
      obtain ⟨hle, LL, hC, hSt⟩ := hS0
      have hSt0 := hSt
      have hC0 := hC; obtain ⟨A0, A1, h0, h1, rfl⟩ := hC
      have hS := D.St_right (D.St_right (hSt))
      have k72 : ac.eval (.tmp 72) = .pointer (some ⟨b6, 3, none⟩) := hk.1
      have hKe : Ke ac [(72, .pointer (some ⟨b6, 3, none⟩))] := (.cons k72 (.nil _))
      exact ⟨D.wanted0 rfl, s_load hKe hS 0 rfl rfl rfl rfl (by kernel_rfl) ⟨MM, rfl, Le.refl _, rfl, hS00⟩⟩) ?_
     refine D.onA (fun uu _ => uu = .agg #[.int .u64 y8.value, .int .i64 y8.size]) (fun _ _ _ h _ => h) (by
      intro ac MM vs hbd hcor hS00 hk; have hS0 := hS00
      obtain ⟨hle, LL, hC, hSt⟩ := hS0
      have hSt0 := hSt
      have hC0 := hC; obtain ⟨A0, A1, h0, h1, rfl⟩ := hC
      have hS := D.St_right (D.St_right (hSt))
      have k73 : ac.eval (.tmp 73) = .int .i64 x4.len := hk.1
      have hKe : Ke ac [(73, .int .i64 x4.len)] := (.cons k73 (.nil _))
      exact ⟨D.wanted0 rfl, D.stepCall hCm hS00 hKe ent57_0 rfl rfl rfl rfl (G.format_length_spec hy11) (by kernel_rfl) (by rintro _ M2 _ hl ⟨rfl, rfl⟩; exact rfl)⟩) ?_
     refine D.onA (fun uu MM => ∃ (b8 : Nat), uu = .slice (some ⟨b8, 0, none⟩) (([y7, y8] : List G.wire_Field).length) 2 ∧ Els is_G_wire_Field MM 2 (some ⟨b8, 0, none⟩) 2 ([y7, y8] : List G.wire_Field)) (fun _ _ _ ⟨b8, e, f12⟩ g => ⟨b8, e, Els.mono rep_G_wire_Field f12 g⟩) (by
      intro ac MM vs hbd hcor hS00 hk; have hS0 := hS00
      obtain ⟨hle, LL, hC, hSt⟩ := hS0
      have hSt0 := hSt
      have hC0 := hC; obtain ⟨A0, A1, h0, h1, rfl⟩ := hC
      have hS := D.St_right (D.St_right (hSt))
      have k71 : ac.eval (.tmp 71) = .agg #[.int .u64 y7.value, .int .i64 y7.size] := hk.1
      have k74 : ac.eval (.tmp 74) = .agg #[.int .u64 y8.value, .int .i64 y8.size] := hk.2.1
      have hKe : Ke ac [(71, .agg #[.int .u64 y7.value, .int .i64 y7.size]), (74, .agg #[.int .u64 y8.value, .int .i64 y8.size])] := (.cons k71 (.cons k74 (.nil _)))
      exact ⟨D.wanted0 rfl, s_buildSlice (elem := 84) #[.int .u64 y7.value, .int .i64 y7.size, .int .u64 y8.value, .int .i64 y8.size] hKe hSt0 rfl (by kernel_rfl) (by kernel_rfl) (by
        intro M2 b8 hz_ hn_ hl2 hS2 hA7
        have f12 : Els is_G_wire_Field M2 2 (some ⟨b8, 0, none⟩) 2 ([y7, y8] : List G.wire_Field) := els_lit rep_G_wire_Field [[.int .u64 y7.value, .int .i64 y7.size], [.int .u64 y8.value, .int .i64 y8.size]] hA7 (by simp) (by decide) (.cons rfl (.cons rfl .nil))
        exact ⟨M2, rfl, hl2, ⟨b8, rfl, f12⟩, hle.trans hl2, _, hCm _ _ _ _ hC0 hl2, hS2⟩)⟩) ?_
     refine D.onA (fun uu MM => ∃ (g7 : Option Nat) (cp3 : Nat), uu = .slice (adr g7) x5.length cp3 ∧ Els is_G_wire_Field MM 2 (adr g7) cp3 x5) (fun _ _ _ ⟨g7, cp3, e, f13⟩ g => ⟨g7, cp3, e, Els.mono rep_G_wire_Field f13 g⟩) (by
      intro ac MM vs hbd hcor hS00 hk; have hS0 := hS00
      obtain ⟨hle, LL, hC, hSt⟩ := hS0
      have hSt0 := hSt
      have hC0 := hC; obtain ⟨A0, A1, h0, h1, rfl⟩ := hC
      have hn := D.bd_eq hbd 0 0 rfl
      obtain rfl := D.CH.at h0 hn rfl
      replace hSt := hSt
      have k68 : ac.eval (.tmp 68) = .slice (adr (some b7)) (([(⟨(IntKind.u64.wrap x4.kind), 1⟩ : G.wire_Field), y6] : List G.wire_Field).length) 2 := hk.1
      obtain ⟨b8, k75, f12⟩ : ∃ (b8 : Nat), ac.eval (.tmp 75) = .slice (some ⟨b8, 0, none⟩) (([y7, y8] : List G.wire_Field).length) 2 ∧ Els is_G_wire_Field MM 2 (some ⟨b8, 0, none⟩) 2 ([y7, y8] : List G.wire_Field) := hk.2.1
      have hKe : Ke ac [(68, .slice (adr (some b7)) (([(⟨(IntKind.u64.wrap x4.kind), 1⟩ : G.wire_Field), y6] : List G.wire_Field).length) 2), (75, .slice (some ⟨b8, 0, none⟩) (([y7, y8] : List G.wire_Field).length) 2)] := (.cons k68 (.cons k75 (.nil _)))
      replace f11 := Els.mono rep_G_wire_Field f11 hle
      exact ⟨D.wanted0 rfl, s_app elT86_0 rep_G_wire_Field hy12 hKe 0 hSt rfl f11 f12 rfl rfl rfl (by decide) (by
        intro M2 g7 cp3 l2 hS2 f13
        exact ⟨M2, rfl, l2, ⟨g7, cp3, rfl, f13⟩, hle.trans l2, _, ⟨_, _, D.CH.push hn rfl ⟨g7, cp3, D.get_push hn, rfl, f13⟩, D.CH.mono hm1 h1 l2, rfl⟩, hS2⟩)⟩) ?_
     refine D.onA (fun uu MM => ∃ (c9r0_g : Option Nat) (c9r0_c : Nat), uu = .tuple #[.slice (adr c9r0_g) y9.1.length c9r0_c, .bool y9.2] ∧ Els isU8 MM 1 (adr c9r0_g) c9r0_c y9.1) (fun _ _ _ ⟨c9r0_g, c9r0_c, e, c9r0_f⟩ g => ⟨c9r0_g, c9r0_c, e, Els.mono rep_U8 c9r0_f g⟩) (by
      intro ac MM vs hbd hcor hS00 hk; have hS0 := hS00
      obtain ⟨hle, LL, hC, hSt⟩ := hS0
      have hSt0 := hSt
      have hC0 := hC; obtain ⟨A0, A1, h0, h1, rfl⟩ := hC
      have hn := D.bd_eq hbd 1 0 rfl
      obtain rfl := D.CH.at h1 hn rfl
      replace hSt := D.sw hSt
      have k67 : ac.eval (.tmp 67) = .slice (adr g5) s1.1.length g6 := hk.1
      obtain ⟨g7, cp3, k76, f13⟩ : ∃ (g7 : Option Nat) (cp3 : Nat), ac.eval (.tmp 76) = .slice (adr g7) x5.length cp3 ∧ Els is_G_wire_Field MM 2 (adr g7) cp3 x5 := hk.2.1
      have hKe : Ke ac [(67, .slice (adr g5) s1.1.length g6), (76, .slice (adr g7) x5.length cp3)] := (.cons k67 (.cons k76 (.nil _)))
      replace f10 := Els.mono rep_U8 f10 hle
      exact ⟨D.wanted0 rfl, s_call hKe hSt ent56_0 rfl rfl rfl rfl (G.wire_Append_spec f10 f13 hy13) (by kernel_rfl) (by
        rintro _ M2 _ l2 hS2 ⟨c9r0_g, c9r0_c, rfl, rfl, c9r0_f⟩; replace hS2 := D.sw (A := [rowOf 5 1 c9r0_g c9r0_c y9.1]) (E := A0) (R := [.box b6 #[.int .i64 x4.kind, .int .i64 x4.to, .int .i64 x4.from_, .int .i64 x4.len, .slice e1_data_a x4.data.length e1_data_c] 50, rowOf 5 1 g5 g6 s1.1]) hS2
        exact ⟨M2, rfl, l2, ⟨c9r0_g, c9r0_c, rfl, c9r0_f⟩, hle.trans l2, _, ⟨_, _, D.CH.mono hm0 h0 l2, D.CH.push hn rfl ⟨c9r0_g, c9r0_c, D.get_push hn, rfl, c9r0_f⟩, rfl⟩, hS2⟩)⟩) ?_
     refine D.onA (fun uu MM => ∃ (c9r0_g : Option Nat) (c9r0_c : Nat), uu = .tuple #[.slice (adr c9r0_g) y9.1.length c9r0_c, .bool y9.2] ∧ Els isU8 MM 1 (adr c9r0_g) c9r0_c y9.1) (fun _ _ _ ⟨c9r0_g, c9r0_c, e, c9r0_f⟩ g => ⟨c9r0_g, c9r0_c, e, Els.mono rep_U8 c9r0_f g⟩) (by
      intro ac MM vs hbd hcor hS00 hk; have hS0 := hS00
      obtain ⟨hle, LL, hC, hSt⟩ := hS0
      have hSt0 := hSt
      have hC0 := hC; obtain ⟨A0, A1, h0, h1, rfl⟩ := hC
      have hS := D.St_right (D.St_right (hSt))
      obtain ⟨c9r0_g, c9r0_c, k77, c9r0_f⟩ : ∃ (c9r0_g : Option Nat) (c9r0_c : Nat), ac.eval (.tmp 77) = .tuple #[.slice (adr c9r0_g) y9.1.length c9r0_c, .bool y9.2] ∧ Els isU8 MM 1 (adr c9r0_g) c9r0_c y9.1 := hk.1
      have hKe : Ke ac [(77, .tuple #[.slice (adr c9r0_g) y9.1.length c9r0_c, .bool y9.2])] := (.cons k77 (.nil _))
      exact ⟨D.wanted0 rfl, s_pure (.tuple #[.slice (adr c9r0_g) y9.1.length c9r0_c, .bool y9.2]) hKe (by kernel_rfl) (by kernel_rfl) ⟨MM, rfl, Le.refl _, ⟨c9r0_g, c9r0_c, rfl, c9r0_f⟩, hS00⟩⟩) ?_
     refine D.onA (fun uu MM => ∃ (c9r0_g : Option Nat) (c9r0_c : Nat), uu = .slice (adr c9r0_g) y9.1.length c9r0_c ∧ Els isU8 MM 1 (adr c9r0_g) c9r0_c y9.1) (fun _ _ _ ⟨c9r0_g, c9r0_c, e, c9r0_f⟩ g => ⟨c9r0_g, c9r0_c, e, Els.mono rep_U8 c9r0_f g⟩) (by
      intro ac MM vs hbd hcor hS00 hk; have hS0 := hS00
      obtain ⟨hle, LL, hC, hSt⟩ := hS0
      have hSt0 := hSt
      have hC0 := hC; obtain ⟨A0, A1, h0, h1, rfl⟩ := hC
      have hS := D.St_right (D.St_right (hSt))
      obtain ⟨c9r0_g, c9r0_c, k66, c9r0_f⟩ : ∃ (c9r0_g : Option Nat) (c9r0_c : Nat), ac.eval (.tmp 66) = .tuple #[.slice (adr c9r0_g) y9.1.length c9r0_c, .bool y9.2] ∧ Els isU8 MM 1 (adr c9r0_g) c9r0_c y9.1 := hk.1
      have hKe : Ke ac [(66, .tuple #[.slice (adr c9r0_g) y9.1.length c9r0_c, .bool y9.2])] := (.cons k66 (.nil _))
      exact ⟨D.wanted0 rfl, s_pure (.slice (adr c9r0_g) y9.1.length c9r0_c) hKe (by kernel_rfl) (by kernel_rfl) ⟨MM, rfl, Le.refl _, ⟨c9r0_g, c9r0_c, rfl, c9r0_f⟩, hS00⟩⟩) ?_
     refine D.onA (fun uu _ => uu = .bool y9.2) (fun _ _ _ h _ => h) (by
      intro ac MM vs hbd hcor hS00 hk; have hS0 := hS00
      obtain ⟨hle, LL, hC, hSt⟩ := hS0
      have hSt0 := hSt
      have hC0 := hC; obtain ⟨A0, A1, h0, h1, rfl⟩ := hC
      have hS := D.St_right (D.St_right (hSt))
      obtain ⟨c9r0_g, c9r0_c, k66, c9r0_f⟩ : ∃ (c9r0_g : Option Nat) (c9r0_c : Nat), ac.eval (.tmp 66) = .tuple #[.slice (adr c9r0_g) y9.1.length c9r0_c, .bool y9.2] ∧ Els isU8 MM 1 (adr c9r0_g) c9r0_c y9.1 := hk.1
      have hKe : Ke ac [(66, .tuple #[.slice (adr c9r0_g) y9.1.length c9r0_c, .bool y9.2])] := (.cons k66 (.nil _))
      exact ⟨D.wanted0 rfl, s_pure (.bool y9.2) hKe (by kernel_rfl) (by kernel_rfl) ⟨MM, rfl, Le.refl _, rfl, hS00⟩⟩) ?_
     refine D.onA (fun uu MM => ∃ (c9r0_g : Option Nat) (c9r0_c : Nat), uu = .slice (adr c9r0_g) y9.1.length c9r0_c ∧ Els isU8 MM 1 (adr c9r0_g) c9r0_c y9.1) (fun _ _ _ ⟨c9r0_g, c9r0_c, e, c9r0_f⟩ g => ⟨c9r0_g, c9r0_c, e, Els.mono rep_U8 c9r0_f g⟩) (by
      intro ac MM vs hbd hcor hS00 hk; have hS0 := hS00
      obtain ⟨hle, LL, hC, hSt⟩ := hS0
      have hSt0 := hSt
      have hC0 := hC; obtain ⟨A0, A1, h0, h1, rfl⟩ := hC
      have hS := D.St_right (D.St_right (hSt))
      obtain ⟨c9r0_g, c9r0_c, k78, c9r0_f⟩ : ∃ (c9r0_g : Option Nat) (c9r0_c : Nat), ac.eval (.tmp 78) = .slice (adr c9r0_g) y9.1.length c9r0_c ∧ Els isU8 MM 1 (adr c9r0_g) c9r0_c y9.1 := hk.1
      have hKe : Ke ac [(78, .slice (adr c9r0_g) y9.1.length c9r0_c)] := (.cons k78 (.nil _))
      exact ⟨D.wanted0 rfl, s_pure (.slice (adr c9r0_g) y9.1.length c9r0_c) hKe (by kernel_rfl) (by kernel_rfl) ⟨MM, rfl, Le.refl _, ⟨c9r0_g, c9r0_c, rfl, c9r0_f⟩, hS00⟩⟩) ?_
     intro fr2 m15 vs hlen hcor hS2 hE; obtain ⟨l15, LL, hC, hS2⟩ := hS2
     obtain ⟨A0, A1, h0, h1, rfl⟩ := hC
     obtain ⟨g7, cp3, el0_0, rfl, f13⟩ := D.CH.at h0 (hlen 0) rfl
     obtain ⟨c9r0_g, c9r0_c, el1_0, rfl, c9r0_f⟩ := D.CH.at h1 (hlen 1) rfl
     replace hS2 : St _ m m15 [rowOf 84 2 g7 cp3 x5, rowOf 5 1 c9r0_g c9r0_c y9.1, .box b6 #[.int .i64 x4.kind, .int .i64 x4.to, .int .i64 x4.from_, .int .i64 x4.len, .slice e1_data_a x4.data.length e1_data_c] 50, rowOf 5 1 g5 g6 s1.1] := hS2
     have kl76 : fr2.eval (.tmp 76) = .slice (adr g7) x5.length cp3 := hcor 0 0 _ _ _ _ rfl rfl rfl el0_0
     have kl77 : fr2.eval (.tmp 77) = .tuple #[.slice (adr c9r0_g) y9.1.length c9r0_c, .bool y9.2] := hcor 1 0 _ _ _ _ rfl rfl rfl el1_0
     have kl66 : fr2.eval (.tmp 66) = .tuple #[.slice (adr c9r0_g) y9.1.length c9r0_c, .bool y9.2] := hE.move 11 rfl (Nat.le_of_ble_eq_true rfl) (by kernel_rfl) rfl (.inl rfl) kl77
     have kl78 : fr2.eval (.tmp 78) = .slice (adr c9r0_g) y9.1.length c9r0_c := hE.extract 12 rfl (Nat.le_of_ble_eq_true rfl) (by kernel_rfl) rfl rfl kl66 rfl
     have kl5 : fr2.eval (.tmp 5) = .slice (adr c9r0_g) y9.1.length c9r0_c := hE.move 14 rfl (Nat.le_of_ble_eq_true rfl) (by kernel_rfl) rfl (.inr rfl) kl78
     have hK2 := D.kn_endsM [(67, .slice (adr g5) s1.1.length g6), (68, .slice (adr (some b7)) (([(⟨(IntKind.u64.wrap x4.kind), 1⟩ : G.wire_Field), y6] : List G.wire_Field).length) 2), (69, .pointer (some ⟨b6, 2, none⟩)), (70, .int .i64 x4.from_), (71, .agg #[.int .u64 y7.value, .int .i64 y7.size]), (72, .pointer (some ⟨b6, 3, none⟩)), (73, .int .i64 x4.len), (74, .agg #[.int .u64 y8.value, .int .i64 y8.size]), (75, fr2.eval (.tmp 75)), (76, .slice (adr g7) x5.length cp3), (77, .tuple #[.slice (adr c9r0_g) y9.1.length c9r0_c, .bool y9.2]), (66, .tuple #[.slice (adr c9r0_g) y9.1.length c9r0_c, .bool y9.2]), (78, .slice (adr c9r0_g) y9.1.length c9r0_c), (79, .bool y9.2), (5, .slice (adr c9r0_g) y9.1.length c9r0_c)] hK hE rfl (by kernel_rfl) (.cons (hE.slots 67) (.cons (hE.slots 68) (.cons (hE.slots 69) (.cons (hE.slots 70) (.cons (hE.slots 71) (.cons (hE.slots 72) (.cons (hE.slots 73) (.cons (hE.slots 74) (.cons (rfl) (.cons (kl76) (.cons (kl77) (.cons (kl66) (.cons (kl78) (.cons (hE.slots 79) (.cons (kl5) (.nil _))))))))))))))))
     replace hK2 : Kn 100 fr2 [(67, .slice (adr g5) s1.1.length g6), (68, .slice (adr (some b7)) (([(⟨(IntKind.u64.wrap x4.kind), 1⟩ : G.wire_Field), y6] : List G.wire_Field).length) 2), (69, .pointer (some ⟨b6, 2, none⟩)), (70, .int .i64 x4.from_), (71, .agg #[.int .u64 y7.value, .int .i64 y7.size]), (72, .pointer (some ⟨b6, 3, none⟩)), (73, .int .i64 x4.len), (74, .agg #[.int .u64 y8.value, .int .i64 y8.size]), (76, .slice (adr g7) x5.length cp3), (77, .tuple #[.slice (adr c9r0_g) y9.1.length c9r0_c, .bool y9.2]), (66, .tuple #[.slice (adr c9r0_g) y9.1.length c9r0_c, .bool y9.2]), (78, .slice (adr c9r0_g) y9.1.length c9r0_c), (79, .bool y9.2), (5, .slice (adr c9r0_g) y9.1.length c9r0_c), (65, .bool true), (64, .int .i64 x4.kind), (63, .pointer (some ⟨b6, 0, none⟩)), (10, .slice (adr (some b7)) (([(⟨(IntKind.u64.wrap x4.kind), 1⟩ : G.wire_Field), y6] : List G.wire_Field).length) 2), (62, .slice (adr (some b7)) (([(⟨(IntKind.u64.wrap x4.kind), 1⟩ : G.wire_Field), y6] : List G.wire_Field).length) 2), (55, .pointer (some ⟨b6, 0, none⟩)), (56, .int .i64 x4.kind), (57, .int .u64 (IntKind.u64.wrap x4.kind)), (58, .agg #[.int .u64 (IntKind.u64.wrap x4.kind), .int .i64 1]), (59, .pointer (some ⟨b6, 1, none⟩)), (60, .int .i64 x4.to), (61, .agg #[.int .u64 y6.value, .int .i64 y6.size]), (9, .pointer (some ⟨b6, 0, none⟩)), (54, .agg #[.int .i64 x4.kind, .int .i64 x4.to, .int .i64 x4.from_, .int .i64 x4.len, .slice e1_data_a x4.data.length e1_data_c]), (53, .pointer (some ⟨b5, p1, none⟩)), (52, .bool true), (7, .bool y5.2), (49, .slice a0_commands_a a0.commands.length a0_commands_c), (50, .int .i64 (a0.commands.length : Int)), (51, .int .i64 s1.2)] := hK2.only [67, 68, 69, 70, 71, 72, 73, 74, 76, 77, 66, 78, 79, 5, 65, 64, 63, 10, 62, 55, 56, 57, 58, 59, 60, 61, 9, 54, 53, 52, 7, 49, 50, 51]
     clear hE hK hcor hlen kl76 kl77 kl66 kl78 kl5 h0 el0_0 h1 el1_0; revert hK2; clear hS; revert fr2; clear fr; intro fr hK; have hS := hS2; clear hS2 hCm hm0 hm1
     replace hS : St _ m m15 [rowOf 84 2 g7 cp3 x5, rowOf 5 1 c9r0_g c9r0_c y9.1, .box b6 #[.int .i64 x4.kind, .int .i64 x4.to, .int .i64 x4.from_, .int .i64 x4.len, .slice e1_data_a x4.data.length e1_data_c] 50, rowOf 5 1 g5 g6 s1.1] := hS
     refine wpList_nil (then_n ?_)
     refine wp_exit ?_
     refine then_x ?_
     refine blk_e ?_
     refine then_n ?_
     refine w_region ?_
     refine qp 96 (.int .i64 (IntKind.i64.wrap (s1.2 + 1))) hK fun fr hK => ?_
     refine qp 51 (.int .i64 (IntKind.i64.wrap (s1.2 + 1))) hK fun fr hK => ?_
     refine wpList_nil (then_n ?_)
     replace hS := hS.front 1 rfl
     replace hS := St.keep (L := [rowOf 5 1 c9r0_g c9r0_c y9.1]) (R := [rowOf 84 2 g7 cp3 x5, .box b6 #[.int .i64 x4.kind, .int .i64 x4.to, .int .i64 x4.from_, .int .i64 x4.len, .slice e1_data_a x4.data.length e1_data_c] 50, rowOf 5 1 g5 g6 s1.1]) hS
     replace h := Option.some.inj h; subst h
     obtain ⟨kq, hk1, hk2⟩ := hn1
     exact ⟨kq, hk1, _, hk2, c9r0_g, c9r0_c, m15, rfl, hK.only [5, 7, 49, 50, 51], l10.trans (l11.trans (l12.trans (l13.trans (l14.trans l15)))), hS, c9r0_f⟩
    ·
     replace hK := hK.more (t := 65) (v' := .bool false) rfl (by rw [hb4])
     replace h := ite_f (ne_of_beq_false hb4) h
     refine wp_skip ?_
     refine then_n ?_
     refine w_seq (w_region ?_)
     refine qp 81 (.slice (adr g5) s1.1.length g6) hK fun fr hK => ?_
     refine qp 82 (.slice (adr (some b7)) (([(⟨(IntKind.u64.wrap x4.kind), 1⟩ : G.wire_Field), y6] : List G.wire_Field).length) 2) hK fun fr hK => ?_
     refine qp 83 (.pointer (some ⟨b6, 4, none⟩)) hK fun fr hK => ?_
     refine qo 84 hK (s_load hK.at_ hS 1 rfl rfl rfl rfl (by kernel_rfl) ?_)
     clear hK fr; intro fr hK
     refine qp 85 (.int .i64 (x4.data.length : Int)) hK fun fr hK => ?_
     obtain ⟨y10, hy14, h⟩ := bind_some h
     refine qo 86 hK (s_call hK.at_ hS ent57_0 rfl rfl rfl rfl (G.format_length_spec hy14) (by kernel_rfl) ?_)
     clear hK fr hS; rintro _ m16 _ l16 hS ⟨rfl, rfl⟩ fr hK
     replace hS : St _ m m16 [rowOf 84 2 (some b7) 2 ([(⟨(IntKind.u64.wrap x4.kind), 1⟩ : G.wire_Field), y6] : List G.wire_Field), .box b6 #[.int .i64 x4.kind, .int .i64 x4.to, .int .i64 x4.from_, .int .i64 x4.len, .slice e1_data_a x4.data.length e1_data_c] 50, rowOf 5 1 g5 g6 s1.1] := hS
     refine qo 87 hK (s_buildSlice (elem := 84) #[.int .u64 y10.value, .int .i64 y10.size] hK.at_ hS rfl (by kernel_rfl) (by kernel_rfl) ?_)
     clear hK fr hS; intro m17 b9 b9z b9n l17 hS hA8 fr hK
     replace hS : St _ m m17 [rowOf 84 2 (some b7) 2 ([(⟨(IntKind.u64.wrap x4.kind), 1⟩ : G.wire_Field), y6] : List G.wire_Field), .box b6 #[.int .i64 x4.kind, .int .i64 x4.to, .int .i64 x4.from_, .int .i64 x4.len, .slice e1_data_a x4.data.length e1_data_c] 50, rowOf 5 1 g5 g6 s1.1] := hS
     have f14 : Els is_G_wire_Field m17 2 (some ⟨b9, 0, none⟩) 1 ([y10] : List G.wire_Field) := els_lit rep_G_wire_Field [[.int .u64 y10.value, .int .i64 y10.size]] hA8 (by simp) (by decide) (.cons rfl .nil)
     replace hK : Kn 100 fr [(87, .slice (some ⟨b9, 0, none⟩) (([y10] : List G.wire_Field).length) 1), (86, .agg #[.int .u64 y10.value, .int .i64 y10.size]), (85, .int .i64 (x4.data.length : Int)), (84, .slice e1_data_a x4.data.length e1_data_c), (83, .pointer (some ⟨b6, 4, none⟩)), (82, .slice (adr (some b7)) (([(⟨(IntKind.u64.wrap x4.kind), 1⟩ : G.wire_Field), y6] : List G.wire_Field).length) 2), (81, .slice (adr g5) s1.1.length g6), (65, .bool false), (64, .int .i64 x4.kind), (63, .pointer (some ⟨b6, 0, none⟩)), (10, .slice (adr (some b7)) (([(⟨(IntKind.u64.wrap x4.kind), 1⟩ : G.wire_Field), y6] : List G.wire_Field).length) 2), (62, .slice (adr (some b7)) (([(⟨(IntKind.u64.wrap x4.kind), 1⟩ : G.wire_Field), y6] : List G.wire_Field).length) 2), (55, .pointer (some ⟨b6, 0, none⟩)), (56, .int .i64 x4.kind), (57, .int .u64 (IntKind.u64.wrap x4.kind)), (58, .agg #[.int .u64 (IntKind.u64.wrap x4.kind), .int .i64 1]), (59, .pointer (some ⟨b6, 1, none⟩)), (60, .int .i64 x4.to), (61, .agg #[.int .u64 y6.value, .int .i64 y6.size]), (9, .pointer (some ⟨b6, 0, none⟩)), (54, .agg #[.int .i64 x4.kind, .int .i64 x4.to, .int .i64 x4.from_, .int .i64 x4.len, .slice e1_data_a x4.data.length e1_data_c]), (53, .pointer (some ⟨b5, p1, none⟩)), (52, .bool true), (5, .slice (adr g5) s1.1.length g6), (7, .bool y5.2), (49, .slice a0_commands_a a0.commands.length a0_commands_c), (50, .int .i64 (a0.commands.length : Int)), (51, .int .i64 s1.2)] := hK.only [87, 86, 85, 84, 83, 82, 81, 65, 64, 63, 10, 62, 55, 56, 57, 58, 59, 60, 61, 9, 54, 53, 52, 5, 7, 49, 50, 51]
     replace f11 := Els.mono rep_G_wire_Field f11 (l16.trans l17)
     obtain ⟨x6, hy15, h⟩ := bind_some h
     refine qo 88 hK (s_app elT86_0 rep_G_wire_Field hy15 hK.at_ 0 hS rfl f11 f14 rfl rfl rfl (by decide) ?_)
     clear hK fr hS; intro m18 g8 cp4 l18 hS f15 fr hK
     replace hS : St _ m m18 [rowOf 84 2 g8 cp4 x6, .box b6 #[.int .i64 x4.kind, .int .i64 x4.to, .int .i64 x4.from_, .int .i64 x4.len, .slice e1_data_a x4.data.length e1_data_c] 50, rowOf 5 1 g5 g6 s1.1] := hS
     replace f10 := Els.mono rep_U8 f10 (l13.trans (l14.trans (l16.trans (l17.trans l18))))
     obtain ⟨y11, hy16, h⟩ := bind_some h
     refine qo 89 hK (s_call hK.at_ hS ent56_0 rfl rfl rfl rfl (G.wire_Append_spec f10 f15 hy16) (by kernel_rfl) ?_)
     clear hK fr hS; rintro _ m19 _ l19 hS ⟨c11r0_g, c11r0_c, rfl, rfl, c11r0_f⟩ fr hK
     replace hS : St _ m m19 [rowOf 5 1 c11r0_g c11r0_c y11.1, rowOf 84 2 g8 cp4 x6, .box b6 #[.int .i64 x4.kind, .int .i64 x4.to, .int .i64 x4.from_, .int .i64 x4.len, .slice e1_data_a x4.data.length e1_data_c] 50, rowOf 5 1 g5 g6 s1.1] := hS
     refine qp 80 (.tuple #[.slice (adr c11r0_g) y11.1.length c11r0_c, .bool y11.2]) hK fun fr hK => ?_
     refine qp 90 (.slice (adr c11r0_g) y11.1.length c11r0_c) hK fun fr hK => ?_
     refine qp 91 (.bool y11.2) hK fun fr hK => ?_
     refine qp 5 (.slice (adr c11r0_g) y11.1.length c11r0_c) hK fun fr hK => ?_
     refine wpList_nil (then_n ?_)
     refine w_region ?_
     refine qp 92 (.slice (adr c11r0_g) y11.1.length c11r0_c) hK fun fr hK => ?_
     refine qp 93 (.pointer (some ⟨b6, 4, none⟩)) hK fun fr hK => ?_
     refine qo 94 hK (s_load hK.at_ hS 2 rfl rfl rfl rfl (by kernel_rfl) ?_)
     clear hK fr; intro fr hK
     replace e1_data_f := Els.mono rep_U8 e1_data_f (l13.trans (l14.trans (l16.trans (l17.trans (l18.trans l19)))))
     obtain ⟨x7, hy17, h⟩ := bind_some h
     refine qo 95 hK (s_app elT22_0 rep_U8 hy17 hK.at_ 0 hS rfl c11r0_f e1_data_f rfl rfl rfl (by decide) ?_)
     clear hK fr hS; intro m20 g9 cp5 l20 hS f16 fr hK
     replace hS : St _ m m20 [rowOf 5 1 g9 cp5 x7, rowOf 84 2 g8 cp4 x6, .box b6 #[.int .i64 x4.kind, .int .i64 x4.to, .int .i64 x4.from_, .int .i64 x4.len, .slice e1_data_a x4.data.length e1_data_c] 50, rowOf 5 1 g5 g6 s1.1] := hS
     refine qp 5 (.slice (adr g9) x7.length cp5) hK fun fr hK => ?_
     refine wpList_nil ?_
     refine blk_n ?_
     refine then_n ?_
     refine w_region ?_
     refine qp 96 (.int .i64 (IntKind.i64.wrap (s1.2 + 1))) hK fun fr hK => ?_
     refine qp 51 (.int .i64 (IntKind.i64.wrap (s1.2 + 1))) hK fun fr hK => ?_
     refine wpList_nil (then_n ?_)
     replace hS := St.keep (L := [rowOf 5 1 g9 cp5 x7]) (R := [rowOf 84 2 g8 cp4 x6, .box b6 #[.int .i64 x4.kind, .int .i64 x4.to, .int .i64 x4.from_, .int .i64 x4.len, .slice e1_data_a x4.data.length e1_data_c] 50, rowOf 5 1 g5 g6 s1.1]) hS
     replace h := Option.some.inj h; subst h
     obtain ⟨kq, hk1, hk2⟩ := hn1
     exact ⟨kq, hk1, _, hk2, g9, cp5, m20, rfl, hK.only [5, 7, 49, 50, 51], l10.trans (l11.trans (l12.trans (l13.trans (l14.trans (l16.trans (l17.trans (l18.trans (l19.trans l20)))))))), hS, f16⟩
   ·
    replace hK := hK.more (t := 52) (v' := .bool false) rfl (by rw [hb3])
    replace h := ite_f (of_decide_eq_false hb3) h
    refine wp_exit ?_
    refine then_x ?_
    refine then_x ?_
    refine blk_e ?_
    refine then_n ?_
    replace hS : St _ m m10 [rowOf 5 1 g5 g6 s1.1] := hS
    replace h := Option.some.inj h; subst h
    replace h := Option.some.inj (loop_out hn1); subst h
    exact ⟨g5, g6, m10, rfl, hK.only [5, 7], l10, hS, f10⟩
set_option maxRecDepth 100000 in
set_option maxHeartbeats 1000000 in
theorem G.wire_New_spec {m : Mem} {a0 : List UInt8} {a0_a : Option Addr} {a0_c : Nat} (a0_f : Els isU8 m 1 a0_a a0_c a0) {r : G.wire_Reader} (h : G.wire_New a0 = some r) :
  Spec Try.prog 37 #[.slice a0_a a0.length a0_c] m [] fun v m' L => ∃ (r0_b : Nat) (r0_position_b_a : Option Addr) (r0_position_b_c : Nat), L = [.box r0_b #[.slice r0_position_b_a r.position.b.length r0_position_b_c, .int .i64 r.position.at_, .int .i64 r.position.fault.code, .int .i64 r.position.fault.at_] 110] ∧ v = .pointer (some ⟨r0_b, 0, none⟩) ∧ Els isU8 m' 1 r0_position_b_a r0_position_b_c r.position.b := by
 unfold G.wire_New at h
 refine enter (args := [_]) 8 Try.func37 rfl rfl (by simp) fun fr hK => ?_
 have hS := St.refl (Ow.nil m)
 replace hK : Kn 8 fr [(0, .slice a0_a a0.length a0_c)] := hK
 refine w_seq (w_region ?_)
 refine qp 2 (.pointer none) hK fun fr hK => ?_
 refine wpList_nil (then_n ?_)
 refine w_seq (w_region ?_)
 refine qp 3 (.slice a0_a a0.length a0_c) hK fun fr hK => ?_
 obtain ⟨y1, hy1, h⟩ := bind_some h
 refine qo 4 hK (s_call hK.at_ hS ent75_0 rfl rfl rfl rfl (G.slices_Clone_byte_byte_spec a0_f hy1) (by kernel_rfl) ?_)
 clear hK fr hS; rintro _ m1 _ l1 hS ⟨c1r0_g, c1r0_c, rfl, rfl, c1r0_f⟩ fr hK
 refine qp 5 (.agg #[.slice (adr c1r0_g) y1.length c1r0_c, .int .i64 0, .int .i64 0, .int .i64 0]) hK fun fr hK => ?_
 refine qp 6 (.agg #[.slice (adr c1r0_g) y1.length c1r0_c, .int .i64 0, .int .i64 0, .int .i64 0]) hK fun fr hK => ?_
 refine qo 7 hK (s_box hK.at_ hS rfl rfl ?_)
 clear hK fr hS; intro m2 b1 b1z l2 hS fr hK
 replace hS : St _ m m2 [.box b1 #[.slice (adr c1r0_g) y1.length c1r0_c, .int .i64 0, .int .i64 0, .int .i64 0] 110, rowOf 5 1 c1r0_g c1r0_c y1] := hS
 refine qp 2 (.pointer (some ⟨b1, 0, none⟩)) hK fun fr hK => ?_
 refine wpList_nil (then_n ?_)
 refine wp_ret ?_
 replace c1r0_f := Els.mono rep_U8 c1r0_f l2
 replace h := Option.some.inj h; subst h
 replace hS : St _ m m2 [.box b1 #[.slice (adr c1r0_g) y1.length c1r0_c, .int .i64 0, .int .i64 0, .int .i64 0] 110, rowOf 5 1 c1r0_g c1r0_c y1] := hS
 refine ret_of [.tmp 2] [.pointer (some ⟨b1, 0, none⟩)] rfl hK (.tmp rfl .nil) (St.keep (L := [.box b1 #[.slice (adr c1r0_g) y1.length c1r0_c, .int .i64 0, .int .i64 0, .int .i64 0] 110]) (R := [rowOf 5 1 c1r0_g c1r0_c y1]) hS) ?_
 exact ⟨b1, (adr c1r0_g), c1r0_c, rfl, rfl, c1r0_f⟩
set_option maxRecDepth 100000 in
set_option maxHeartbeats 1000000 in
theorem G.bytes_Equal_spec {m : Mem} {a0 : List UInt8} {a0_a : Option Addr} {a0_c : Nat} {a1 : List UInt8} {a1_a : Option Addr} {a1_c : Nat} (a0_f : Els isU8 m 1 a0_a a0_c a0) (a1_f : Els isU8 m 1 a1_a a1_c a1) {r : Bool} (h : G.bytes_Equal a0 a1 = some r) :
  Spec Try.prog 99 #[.slice a0_a a0.length a0_c, .slice a1_a a1.length a1_c] m [] fun v m' L => L = [] ∧ v = .bool r := by
 unfold G.bytes_Equal at h
 refine enter (args := [_, _]) 10 Try.func99 rfl rfl (by simp) fun fr hK => ?_
 have hS := St.refl (Ow.nil m)
 replace hK : Kn 10 fr [(0, .slice a0_a a0.length a0_c), (1, .slice a1_a a1.length a1_c)] := hK
 refine w_seq (w_region ?_)
 refine qp 4 (.bool false) hK fun fr hK => ?_
 refine wpList_nil (then_n ?_)
 refine w_seq (w_region ?_)
 refine qp 5 (.slice a0_a a0.length a0_c) hK fun fr hK => ?_
 refine qr 6 (.string (str a0)) hK (by exact run_toStr rfl rfl Try.underlying22 Try.underlying5 Try.underlying9 a0_f) ?_
 clear hK fr; intro fr hK
 refine qp 7 (.slice a1_a a1.length a1_c) hK fun fr hK => ?_
 refine qr 8 (.string (str a1)) hK (by exact run_toStr rfl rfl Try.underlying22 Try.underlying5 Try.underlying9 a1_f) ?_
 clear hK fr; intro fr hK
 refine qe 9 (.bool (decide (a0 = a1))) (.bool ((str a0).toList == (str a1).toList)) hK (by exact v_bool (str_beq _ _)) ?_
 clear hK fr; intro fr hK
 refine qp 4 (.bool (decide (a0 = a1))) hK fun fr hK => ?_
 refine wpList_nil (then_n ?_)
 refine wp_ret ?_
 replace h := Option.some.inj h; subst h
 refine ret_of [.tmp 4] [.bool (decide (a0 = a1))] rfl hK (.tmp rfl .nil) hS.dropAll ?_
 exact ⟨rfl, rfl⟩
set_option maxRecDepth 100000 in
set_option maxHeartbeats 1000000 in
theorem G.bytes_HasPrefix_spec {m : Mem} {a0 : List UInt8} {a0_a : Option Addr} {a0_c : Nat} {a1 : List UInt8} {a1_a : Option Addr} {a1_c : Nat} (a0_f : Els isU8 m 1 a0_a a0_c a0) (a1_f : Els isU8 m 1 a1_a a1_c a1) {r : Bool} (h : G.bytes_HasPrefix a0 a1 = some r) :
  Spec Try.prog 76 #[.slice a0_a a0.length a0_c, .slice a1_a a1.length a1_c] m [] fun v m' L => L = [] ∧ v = .bool r := by
 unfold G.bytes_HasPrefix at h
 refine enter (args := [_, _]) 18 Try.func76 rfl rfl (by simp) fun fr hK => ?_
 have hS := St.refl (Ow.nil m)
 replace hK : Kn 18 fr [(0, .slice a0_a a0.length a0_c), (1, .slice a1_a a1.length a1_c)] := hK
 refine w_seq (w_region ?_)
 refine qp 4 (.bool false) hK fun fr hK => ?_
 refine wpList_nil (then_n ?_)
 refine w_seq (w_region ?_)
 refine qp 5 (.slice a0_a a0.length a0_c) hK fun fr hK => ?_
 refine qp 6 (.int .i64 (a0.length : Int)) hK fun fr hK => ?_
 refine qp 7 (.slice a1_a a1.length a1_c) hK fun fr hK => ?_
 refine qp 8 (.int .i64 (a1.length : Int)) hK fun fr hK => ?_
 refine qp 9 (.bool (decide ((a0.length : Int) ≥ (a1.length : Int)))) hK fun fr hK => ?_
 refine qp 10 (.bool (decide ((a0.length : Int) ≥ (a1.length : Int)))) hK fun fr hK => ?_
 refine split_b (x := decide ((a0.length : Int) ≥ (a1.length : Int))) (fun hb1 => ?_) (fun hb1 => ?_)
 ·
  replace hK := hK.more (t := 10) (v' := .bool true) rfl (by rw [hb1])
  replace hK := hK.more (t := 9) (v' := .bool true) rfl (by rw [hb1])
  replace h := ite_t (of_decide_eq_true hb1) h
  refine qp 11 (.slice a0_a a0.length a0_c) hK fun fr hK => ?_
  refine qp 12 (.slice a1_a a1.length a1_c) hK fun fr hK => ?_
  refine qp 13 (.int .i64 (a1.length : Int)) hK fun fr hK => ?_
  obtain ⟨x1, hy1, h⟩ := bind_some h
  refine qo 14 hK (s_slcTo elT22_0 a0_f hy1 hK.at_ rfl rfl rfl ?_)
  clear hK fr; intro ad1 cp1 f1 fr hK
  refine qp 15 (.slice a1_a a1.length a1_c) hK fun fr hK => ?_
  obtain ⟨y1, hy2, h⟩ := bind_some h
  refine qo 16 hK (s_call hK.at_ hS ent99_0 rfl rfl rfl rfl (G.bytes_Equal_spec f1 a1_f hy2) (by kernel_rfl) ?_)
  clear hK fr hS; rintro _ m1 _ l1 hS ⟨rfl, rfl⟩ fr hK
  replace hS : St _ m m1 [] := hS
  refine qp 17 (.bool y1) hK fun fr hK => ?_
  refine qp 4 (.bool y1) hK fun fr hK => ?_
  refine wpList_nil (then_n ?_)
  refine wp_ret ?_
  replace h := Option.some.inj h; subst h
  refine ret_of [.tmp 4] [.bool y1] rfl hK (.tmp rfl .nil) hS.dropAll ?_
  exact ⟨rfl, rfl⟩
 ·
  replace hK := hK.more (t := 10) (v' := .bool false) rfl (by rw [hb1])
  replace hK := hK.more (t := 9) (v' := .bool false) rfl (by rw [hb1])
  replace h := ite_f (of_decide_eq_false hb1) h
  refine qs 11 hK ?_
  clear hK fr; intro fr hK
  refine qs 12 hK ?_
  clear hK fr; intro fr hK
  refine qs 13 hK ?_
  clear hK fr; intro fr hK
  refine qs 14 hK ?_
  clear hK fr; intro fr hK
  refine qs 15 hK ?_
  clear hK fr; intro fr hK
  refine qs 16 hK ?_
  clear hK fr; intro fr hK
  refine qp 17 (.bool false) hK fun fr hK => ?_
  refine qp 4 (.bool false) hK fun fr hK => ?_
  refine wpList_nil (then_n ?_)
  refine wp_ret ?_
  replace h := Option.some.inj h; subst h
  refine ret_of [.tmp 4] [.bool false] rfl hK (.tmp rfl .nil) hS.dropAll ?_
  exact ⟨rfl, rfl⟩
set_option maxRecDepth 100000 in
set_option maxHeartbeats 1000000 in
theorem G.wire_position_fail_spec {m : Mem} {a0 : G.wire_position} {a0_b : Nat} {a0_b_a : Option Addr} {a0_b_c : Nat} {a0_T : TypeId} {a1 : Int} {a2 : Int} (a0_b_f : Els isU8 m 1 a0_b_a a0_b_c a0.b) {r : G.wire_position} (h : G.wire_position_fail a0 a1 a2 = some r) (hO : Ow m [.box a0_b #[.slice a0_b_a a0.b.length a0_b_c, .int .i64 a0.at_, .int .i64 a0.fault.code, .int .i64 a0.fault.at_] a0_T]) :
  Spec Try.prog 77 #[.pointer (some ⟨a0_b, 0, none⟩), .int .i64 a1, .int .i64 a2] m [.box a0_b #[.slice a0_b_a a0.b.length a0_b_c, .int .i64 a0.at_, .int .i64 a0.fault.code, .int .i64 a0.fault.at_] a0_T] fun v m' L => L = [.box a0_b #[.slice a0_b_a r.b.length a0_b_c, .int .i64 r.at_, .int .i64 r.fault.code, .int .i64 r.fault.at_] a0_T] ∧ v = .tuple #[] ∧ r.b = a0.b := by
 unfold G.wire_position_fail at h
 refine enter (args := [_, _, _]) 22 Try.func77 rfl rfl (by simp) fun fr hK => ?_
 have hS := St.refl (hO)
 replace hK : Kn 22 fr [(0, .pointer (some ⟨a0_b, 0, none⟩)), (1, .int .i64 a1), (2, .int .i64 a2)] := hK
 refine w_seq ?_
 obtain ⟨v1, hv1, h⟩ := bind_some h
 refine w_join (fun fr ww => ∃ m1 : Mem, m1.w = ww ∧ Kn 22 fr [(0, .pointer (some ⟨a0_b, 0, none⟩)), (1, .int .i64 a1), (2, .int .i64 a2), (15, .bool v1)] ∧ Le m m1 ∧ St (blocksOf [.box a0_b #[.slice a0_b_a a0.b.length a0_b_c, .int .i64 a0.at_, .int .i64 a0.fault.code, .int .i64 a0.fault.at_] a0_T]) m m1 [.box a0_b #[.slice a0_b_a a0.b.length a0_b_c, .int .i64 a0.at_, .int .i64 a0.fault.code, .int .i64 a0.fault.at_] a0_T]) ?_ ?_
 ·
  clear hK hS fr hv1
  rintro fr _ ⟨m1, rfl, hK, l1, hS⟩
  refine then_n ?_
  refine w_cond hK rfl (fun hb1 => ?_) (fun hb1 => ?_)
  ·
   replace hK := hK.more (t := 15) (v' := .bool true) rfl (by rw [hb1])
   replace h := ite_t (hb1) h
   refine w_region ?_
   refine qp 16 (.pointer (some ⟨a0_b, 0, none⟩)) hK fun fr hK => ?_
   refine qp 17 (.int .i64 a1) hK fun fr hK => ?_
   refine qp 18 (.int .i64 a2) hK fun fr hK => ?_
   refine qp 19 (.agg #[.int .i64 a1, .int .i64 a2]) hK fun fr hK => ?_
   refine qp 20 (.pointer (some ⟨a0_b, 0, none⟩)) hK fun fr hK => ?_
   refine qp 21 (.pointer (some ⟨a0_b, 2, none⟩)) hK fun fr hK => ?_
   refine qo0 hK (s_store hK.at_ 0 hS rfl rfl rfl rfl (by kernel_rfl) (by kernel_rfl) (by kernel_rfl) ?_)
   clear hK fr hS; intro m2 l2 hS fr hK
   replace hS : St _ m m2 [.box a0_b #[.slice a0_b_a a0.b.length a0_b_c, .int .i64 a0.at_, .int .i64 a1, .int .i64 a2] a0_T] := hS
   refine wpList_nil ?_
   replace a0_b_f := Els.mono rep_U8 a0_b_f (l1.trans l2)
   replace h := Option.some.inj h; subst h
   replace hS : St _ m m2 [.box a0_b #[.slice a0_b_a a0.b.length a0_b_c, .int .i64 a0.at_, .int .i64 a1, .int .i64 a2] a0_T] := hS
   refine end_of [] [] rfl hK .nil hS ?_
   exact ⟨rfl, rfl, rfl⟩
  ·
   replace hK := hK.more (t := 15) (v' := .bool false) rfl (by rw [hb1])
   replace h := ite_f (ne_true_of_eq_false hb1) h
   refine wp_skip ?_
   replace a0_b_f := Els.mono rep_U8 a0_b_f l1
   replace h := Option.some.inj h; subst h
   replace hS : St _ m m1 [.box a0_b #[.slice a0_b_a a0.b.length a0_b_c, .int .i64 a0.at_, .int .i64 a0.fault.code, .int .i64 a0.fault.at_] a0_T] := hS
   refine end_of [] [] rfl hK .nil hS ?_
   exact ⟨rfl, rfl, rfl⟩
 ·
  replace h := hv1; clear hv1
  refine w_region ?_
  refine qp 6 (.pointer (some ⟨a0_b, 0, none⟩)) hK fun fr hK => ?_
  refine qp 7 (.pointer (some ⟨a0_b, 0, none⟩)) hK fun fr hK => ?_
  refine qp 8 (.pointer (some ⟨a0_b, 2, none⟩)) hK fun fr hK => ?_
  refine qp 9 (.pointer (some ⟨a0_b, 2, none⟩)) hK fun fr hK => ?_
  refine qo 10 hK (s_load hK.at_ hS 0 rfl rfl rfl rfl (by kernel_rfl) ?_)
  clear hK fr; intro fr hK
  refine qp 11 (.bool (a0.fault.code == 0)) hK fun fr hK => ?_
  refine qp 12 (.bool (a0.fault.code == 0)) hK fun fr hK => ?_
  refine split_b (x := (a0.fault.code == 0)) (fun hb2 => ?_) (fun hb2 => ?_)
  ·
   replace hK := hK.more (t := 12) (v' := .bool true) rfl (by rw [hb2])
   replace hK := hK.more (t := 11) (v' := .bool true) rfl (by rw [hb2])
   replace h := ite_t (eq_of_beq hb2) h
   refine qp 13 (.int .i64 a1) hK fun fr hK => ?_
   refine qp 14 (.bool (a1 != 0)) hK fun fr hK => ?_
   refine qp 15 (.bool (a1 != 0)) hK fun fr hK => ?_
   refine wpList_nil (then_n ?_)
   replace hS : St _ m m [.box a0_b #[.slice a0_b_a a0.b.length a0_b_c, .int .i64 a0.at_, .int .i64 a0.fault.code, .int .i64 a0.fault.at_] a0_T] := hS
   replace h := Option.some.inj h; subst h
   exact ⟨m, rfl, hK.only [0, 1, 2, 15], Le.refl _, hS⟩
  ·
   replace hK := hK.more (t := 12) (v' := .bool false) rfl (by rw [hb2])
   replace hK := hK.more (t := 11) (v' := .bool false) rfl (by rw [hb2])
   replace h := ite_f (ne_of_beq_false hb2) h
   refine qs 13 hK ?_
   clear hK fr; intro fr hK
   refine qs 14 hK ?_
   clear hK fr; intro fr hK
   refine qp 15 (.bool false) hK fun fr hK => ?_
   refine wpList_nil (then_n ?_)
   replace hS : St _ m m [.box a0_b #[.slice a0_b_a a0.b.length a0_b_c, .int .i64 a0.at_, .int .i64 a0.fault.code, .int .i64 a0.fault.at_] a0_T] := hS
   replace h := Option.some.inj h; subst h
   exact ⟨m, rfl, hK.only [0, 1, 2, 15], Le.refl _, hS⟩
set_option maxRecDepth 100000 in
set_option maxHeartbeats 1000000 in
theorem G.wire_position_take_spec {m : Mem} {a0 : G.wire_position} {a0_b : Nat} {a0_b_a : Option Addr} {a0_b_c : Nat} {a0_T : TypeId} {a1 : Int} (a0_b_f : Els isU8 m 1 a0_b_a a0_b_c a0.b) {r : (List UInt8) × Bool × G.wire_position} (h : G.wire_position_take a0 a1 = some r) (hO : Ow m [.box a0_b #[.slice a0_b_a a0.b.length a0_b_c, .int .i64 a0.at_, .int .i64 a0.fault.code, .int .i64 a0.fault.at_] a0_T]) :
  Spec Try.prog 78 #[.pointer (some ⟨a0_b, 0, none⟩), .int .i64 a1] m [.box a0_b #[.slice a0_b_a a0.b.length a0_b_c, .int .i64 a0.at_, .int .i64 a0.fault.code, .int .i64 a0.fault.at_] a0_T] fun v m' L => ∃ (r0_a : Option Addr) (r0_c : Nat), L = [.box a0_b #[.slice a0_b_a r.2.2.b.length a0_b_c, .int .i64 r.2.2.at_, .int .i64 r.2.2.fault.code, .int .i64 r.2.2.fault.at_] a0_T] ∧ v = .tuple #[.slice r0_a r.1.length r0_c, .bool r.2.1] ∧ Els isU8 m' 1 r0_a r0_c r.1 ∧ r.2.2.b = a0.b := by
 unfold G.wire_position_take at h
 refine enter (args := [_, _]) 65 Try.func78 rfl rfl (by simp) fun fr hK => ?_
 have hS := St.refl (hO)
 replace hK : Kn 65 fr [(0, .pointer (some ⟨a0_b, 0, none⟩)), (1, .int .i64 a1)] := hK
 refine w_seq (w_region ?_)
 refine qp 4 (.slice none 0 0) hK fun fr hK => ?_
 refine qp 5 (.bool false) hK fun fr hK => ?_
 refine wpList_nil (then_n ?_)
 refine w_seq ?_
 refine wp_block ?_
 refine w_seq (w_region ?_)
 refine qp 7 (.pointer (some ⟨a0_b, 0, none⟩)) hK fun fr hK => ?_
 refine qp 8 (.pointer (some ⟨a0_b, 0, none⟩)) hK fun fr hK => ?_
 refine qp 9 (.pointer (some ⟨a0_b, 2, none⟩)) hK fun fr hK => ?_
 refine qp 10 (.pointer (some ⟨a0_b, 2, none⟩)) hK fun fr hK => ?_
 refine qo 11 hK (s_load hK.at_ hS 0 rfl rfl rfl rfl (by kernel_rfl) ?_)
 clear hK fr; intro fr hK
 refine qp 12 (.bool (a0.fault.code != 0)) hK fun fr hK => ?_
 refine qp 6 (.bool (a0.fault.code != 0)) hK fun fr hK => ?_
 refine wpList_nil (then_n ?_)
 refine w_cond hK rfl (fun hb1 => ?_) (fun hb1 => ?_)
 ·
  replace hK := hK.more (t := 6) (v' := .bool true) rfl (by rw [hb1])
  replace hK := hK.more (t := 12) (v' := .bool true) rfl (by rw [hb1])
  replace h := ite_t (ne_of_bne hb1) h
  refine w_seq (w_region ?_)
  refine qp 4 (.slice none 0 0) hK fun fr hK => ?_
  refine qp 5 (.bool false) hK fun fr hK => ?_
  refine wpList_nil (then_n ?_)
  refine wp_ret ?_
  refine blk_r ?_
  refine then_r ?_
  replace h := Option.some.inj h; subst h
  replace hS : St _ m m [.box a0_b #[.slice a0_b_a a0.b.length a0_b_c, .int .i64 a0.at_, .int .i64 a0.fault.code, .int .i64 a0.fault.at_] a0_T] := hS
  refine ret_of [.tmp 4, .tmp 5] [.slice none 0 0, .bool false] rfl hK (.tmp rfl (.tmp rfl .nil)) hS ?_
  exact ⟨none, 0, rfl, rfl, (Els.nil _ _), rfl⟩
 ·
  replace hK := hK.more (t := 6) (v' := .bool false) rfl (by rw [hb1])
  replace hK := hK.more (t := 12) (v' := .bool false) rfl (by rw [hb1])
  replace h := ite_f (not_not_intro (eq_of_bne hb1)) h
  refine w_seq (w_region ?_)
  refine qp 14 (.int .i64 a1) hK fun fr hK => ?_
  refine qp 15 (.bool (decide (a1 < 0))) hK fun fr hK => ?_
  refine qp 13 (.bool (decide (a1 < 0))) hK fun fr hK => ?_
  refine wpList_nil (then_n ?_)
  refine w_cond hK rfl (fun hb2 => ?_) (fun hb2 => ?_)
  ·
   replace hK := hK.more (t := 13) (v' := .bool true) rfl (by rw [hb2])
   replace hK := hK.more (t := 15) (v' := .bool true) rfl (by rw [hb2])
   replace h := ite_t (of_decide_eq_true hb2) h
   refine w_seq (w_region ?_)
   refine qp 16 (.pointer (some ⟨a0_b, 0, none⟩)) hK fun fr hK => ?_
   refine qp 17 (.pointer (some ⟨a0_b, 0, none⟩)) hK fun fr hK => ?_
   refine qp 18 (.pointer (some ⟨a0_b, 0, none⟩)) hK fun fr hK => ?_
   refine qp 19 (.pointer (some ⟨a0_b, 1, none⟩)) hK fun fr hK => ?_
   refine qo 20 hK (s_load hK.at_ hS 0 rfl rfl rfl rfl (by kernel_rfl) ?_)
   clear hK fr; intro fr hK
   obtain ⟨y1, hy1, h⟩ := bind_some h
   replace hS : St _ m m [.box a0_b #[.slice a0_b_a a0.b.length a0_b_c, .int .i64 a0.at_, .int .i64 a0.fault.code, .int .i64 a0.fault.at_] a0_T] := hS
   refine qo 21 hK (s_callM (R := [.box a0_b #[.slice a0_b_a a0.b.length a0_b_c, .int .i64 a0.at_, .int .i64 a0.fault.code, .int .i64 a0.fault.at_] a0_T]) (L := []) hK.at_ hS ent77_0 rfl rfl rfl rfl (G.wire_position_fail_spec a0_b_f hy1 (Ow.left (L := [.box a0_b #[.slice a0_b_a a0.b.length a0_b_c, .int .i64 a0.at_, .int .i64 a0.fault.code, .int .i64 a0.fault.at_] a0_T]) hS.ow)) (by kernel_rfl) ?_)
   clear hK fr hS; rintro _ m1 _ l1 hS ⟨rfl, rfl, c1re0⟩ fr hK
   replace hS : St _ m m1 [.box a0_b #[.slice a0_b_a y1.b.length a0_b_c, .int .i64 y1.at_, .int .i64 y1.fault.code, .int .i64 y1.fault.at_] a0_T] := hS
   refine wpList_nil (then_n ?_)
   refine w_seq (w_region ?_)
   refine qp 4 (.slice none 0 0) hK fun fr hK => ?_
   refine qp 5 (.bool false) hK fun fr hK => ?_
   refine wpList_nil (then_n ?_)
   refine wp_ret ?_
   refine blk_r ?_
   refine then_r ?_
   replace a0_b_f := Els.mono rep_U8 a0_b_f l1
   have f1 : Els isU8 m1 1 a0_b_a a0_b_c y1.b := Els.cast c1re0.symm a0_b_f
   replace h := Option.some.inj h; subst h
   replace hS : St _ m m1 [.box a0_b #[.slice a0_b_a y1.b.length a0_b_c, .int .i64 y1.at_, .int .i64 y1.fault.code, .int .i64 y1.fault.at_] a0_T] := hS
   refine ret_of [.tmp 4, .tmp 5] [.slice none 0 0, .bool false] rfl hK (.tmp rfl (.tmp rfl .nil)) hS ?_
   exact ⟨none, 0, rfl, rfl, (Els.nil _ _), c1re0⟩
  ·
   replace hK := hK.more (t := 13) (v' := .bool false) rfl (by rw [hb2])
   replace hK := hK.more (t := 15) (v' := .bool false) rfl (by rw [hb2])
   replace h := ite_f (of_decide_eq_false hb2) h
   refine w_seq ?_
   have hlt0 : ∀ bq ∈ blocksOf [.box a0_b #[.slice a0_b_a a0.b.length a0_b_c, .int .i64 a0.at_, .int .i64 a0.fault.code, .int .i64 a0.fault.at_] a0_T], bq < m.w.heap.size := fun bq hbq => hS.ow.lt hbq
   refine D.wp_draw (Gr := D.GO m none) (S := D.SO none (blocksOf [.box a0_b #[.slice a0_b_a a0.b.length a0_b_c, .int .i64 a0.at_, .int .i64 a0.fault.code, .int .i64 a0.fault.at_] a0_T]) m m (fun _ => [.box a0_b #[.slice a0_b_a a0.b.length a0_b_c, .int .i64 a0.at_, .int .i64 a0.fault.code, .int .i64 a0.fault.at_] a0_T]) (fun _ => True)) (N := 0) 11 [] [([(1, none)], 0, 0, false), ([(0, none)], 0, 0, false), ([(24, some 0)], 0, 0, false), ([(25, some 0)], 0, 0, false), ([(26, some 0)], 0, 0, false), ([(27, some 0)], 0, 0, false), ([(0, none)], 0, 0, false), ([(29, some 0)], 0, 0, false), ([(30, some 0)], 0, 0, false), ([(31, some 0)], 0, 0, false), ([(28, some 4), (32, some 0)], 0, 0, false)] hK.size (by kernel_rfl) (by kernel_rfl) (by kernel_rfl) rfl (D.startO hS trivial) ?_
   refine D.on_pure (D.GO_refl _ _) [(1, .int .i64 a1)] (.int .i64 a1) (fun ac ww hk => (.cons (hk.1.trans (hK.at_ 1 _ rfl)) (.nil _))) ?_
   refine D.on_pure (D.GO_refl _ _) [(0, .pointer (some ⟨a0_b, 0, none⟩))] (.pointer (some ⟨a0_b, 0, none⟩)) (fun ac ww hk => (.cons (hk.1.trans (hK.at_ 0 _ rfl)) (.nil _))) ?_
   refine D.on_pure (D.GO_refl _ _) [(24, .pointer (some ⟨a0_b, 0, none⟩))] (.pointer (some ⟨a0_b, 0, none⟩)) (fun ac ww hk => (.cons (hk.1) (.nil _))) ?_
   refine D.on_pure (D.GO_refl _ _) [(25, .pointer (some ⟨a0_b, 0, none⟩))] (.pointer (some ⟨a0_b, 0, none⟩)) (fun ac ww hk => (.cons (hk.1) (.nil _))) ?_
   refine D.on_det (D.GO_refl _ _) [(26, .pointer (some ⟨a0_b, 0, none⟩))] (.slice a0_b_a a0.b.length a0_b_c) (fun ac ww hk => (.cons (hk.1) (.nil _))) (fun ac ww kk hb hKe Post hp => (fun hS => s_load hKe hS 0 rfl rfl rfl rfl (by kernel_rfl) hp) hb.2.1) ?_
   refine D.on_pure (D.GO_refl _ _) [(27, .slice a0_b_a a0.b.length a0_b_c)] (.int .i64 (a0.b.length : Int)) (fun ac ww hk => (.cons (hk.1) (.nil _))) ?_
   refine D.on_pure (D.GO_refl _ _) [(0, .pointer (some ⟨a0_b, 0, none⟩))] (.pointer (some ⟨a0_b, 0, none⟩)) (fun ac ww hk => (.cons (hk.1.trans (hK.at_ 0 _ rfl)) (.nil _))) ?_
   refine D.on_pure (D.GO_refl _ _) [(29, .pointer (some ⟨a0_b, 0, none⟩))] (.pointer (some ⟨a0_b, 0, none⟩)) (fun ac ww hk => (.cons (hk.1) (.nil _))) ?_
   refine D.on_pure (D.GO_refl _ _) [(30, .pointer (some ⟨a0_b, 0, none⟩))] (.pointer (some ⟨a0_b, 1, none⟩)) (fun ac ww hk => (.cons (hk.1) (.nil _))) ?_
   refine D.on_det (D.GO_refl _ _) [(31, .pointer (some ⟨a0_b, 1, none⟩))] (.int .i64 a0.at_) (fun ac ww hk => (.cons (hk.1) (.nil _))) (fun ac ww kk hb hKe Post hp => (fun hS => s_load hKe hS 0 rfl rfl rfl rfl (by kernel_rfl) hp) hb.2.1) ?_
   refine D.on_pure (D.GO_refl _ _) [(28, .int .i64 (a0.b.length : Int)), (32, .int .i64 a0.at_)] (.int .i64 (IntKind.i64.wrap ((a0.b.length : Int) - a0.at_))) (fun ac ww hk => (.cons (hk.1) (.cons (hk.2.1) (.nil _)))) ?_
   refine D.finO ?_
   intro fr2 m2 hm1 l2 hS2 hF2 hE
   replace hS2 : St _ m m2 [.box a0_b #[.slice a0_b_a a0.b.length a0_b_c, .int .i64 a0.at_, .int .i64 a0.fault.code, .int .i64 a0.fault.at_] a0_T] := hS2
   have hK2 := D.kn_ends [(23, .int .i64 a1), (24, .pointer (some ⟨a0_b, 0, none⟩)), (25, .pointer (some ⟨a0_b, 0, none⟩)), (26, .pointer (some ⟨a0_b, 0, none⟩)), (27, .slice a0_b_a a0.b.length a0_b_c), (28, .int .i64 (a0.b.length : Int)), (29, .pointer (some ⟨a0_b, 0, none⟩)), (30, .pointer (some ⟨a0_b, 0, none⟩)), (31, .pointer (some ⟨a0_b, 1, none⟩)), (32, .int .i64 a0.at_), (33, .int .i64 (IntKind.i64.wrap ((a0.b.length : Int) - a0.at_)))] hK hE rfl (by kernel_rfl) (.cons (hE.slots 23) (.cons (hE.slots 24) (.cons (hE.slots 25) (.cons (hE.slots 26) (.cons (hE.slots 27) (.cons (hE.slots 28) (.cons (hE.slots 29) (.cons (hE.slots 30) (.cons (hE.slots 31) (.cons (hE.slots 32) (.cons (hE.slots 33) (.nil _))))))))))))
   replace hK2 : Kn 65 fr2 [(23, .int .i64 a1), (24, .pointer (some ⟨a0_b, 0, none⟩)), (25, .pointer (some ⟨a0_b, 0, none⟩)), (26, .pointer (some ⟨a0_b, 0, none⟩)), (27, .slice a0_b_a a0.b.length a0_b_c), (28, .int .i64 (a0.b.length : Int)), (29, .pointer (some ⟨a0_b, 0, none⟩)), (30, .pointer (some ⟨a0_b, 0, none⟩)), (31, .pointer (some ⟨a0_b, 1, none⟩)), (32, .int .i64 a0.at_), (33, .int .i64 (IntKind.i64.wrap ((a0.b.length : Int) - a0.at_))), (15, .bool false), (13, .bool false), (14, .int .i64 a1), (12, .bool false), (6, .bool false), (11, .int .i64 a0.fault.code), (10, .pointer (some ⟨a0_b, 2, none⟩)), (9, .pointer (some ⟨a0_b, 2, none⟩)), (8, .pointer (some ⟨a0_b, 0, none⟩)), (7, .pointer (some ⟨a0_b, 0, none⟩)), (5, .bool false), (4, .slice none 0 0), (0, .pointer (some ⟨a0_b, 0, none⟩)), (1, .int .i64 a1)] := hK2.only [23, 24, 25, 26, 27, 28, 29, 30, 31, 32, 33, 15, 13, 14, 12, 6, 11, 10, 9, 8, 7, 5, 4, 0, 1]
   clear hE hK; revert hK2; clear hm1 hS hlt0; revert fr2; clear fr; intro fr hK; have hS := hS2; clear hS2
   replace hS : St _ m m2 [.box a0_b #[.slice a0_b_a a0.b.length a0_b_c, .int .i64 a0.at_, .int .i64 a0.fault.code, .int .i64 a0.fault.at_] a0_T] := hS
   refine qp 34 (.bool (decide (a1 > (IntKind.i64.wrap ((a0.b.length : Int) - a0.at_))))) hK fun fr hK => ?_
   refine qp 22 (.bool (decide (a1 > (IntKind.i64.wrap ((a0.b.length : Int) - a0.at_))))) hK fun fr hK => ?_
   refine wpList_nil (then_n ?_)
   refine w_cond hK rfl (fun hb3 => ?_) (fun hb3 => ?_)
   ·
    replace hK := hK.more (t := 22) (v' := .bool true) rfl (by rw [hb3])
    replace hK := hK.more (t := 34) (v' := .bool true) rfl (by rw [hb3])
    replace h := ite_t (of_decide_eq_true hb3) h
    refine w_seq (w_region ?_)
    refine qp 35 (.pointer (some ⟨a0_b, 0, none⟩)) hK fun fr hK => ?_
    refine qp 36 (.pointer (some ⟨a0_b, 0, none⟩)) hK fun fr hK => ?_
    refine qp 37 (.pointer (some ⟨a0_b, 0, none⟩)) hK fun fr hK => ?_
    refine qp 38 (.pointer (some ⟨a0_b, 0, none⟩)) hK fun fr hK => ?_
    refine qo 39 hK (s_load hK.at_ hS 0 rfl rfl rfl rfl (by kernel_rfl) ?_)
    clear hK fr; intro fr hK
    refine qp 40 (.int .i64 (a0.b.length : Int)) hK fun fr hK => ?_
    replace a0_b_f := Els.mono rep_U8 a0_b_f l2
    obtain ⟨y2, hy2, h⟩ := bind_some h
    replace hS : St _ m m2 [.box a0_b #[.slice a0_b_a a0.b.length a0_b_c, .int .i64 a0.at_, .int .i64 a0.fault.code, .int .i64 a0.fault.at_] a0_T] := hS
    refine qo 41 hK (s_callM (R := [.box a0_b #[.slice a0_b_a a0.b.length a0_b_c, .int .i64 a0.at_, .int .i64 a0.fault.code, .int .i64 a0.fault.at_] a0_T]) (L := []) hK.at_ hS ent77_0 rfl rfl rfl rfl (G.wire_position_fail_spec a0_b_f hy2 (Ow.left (L := [.box a0_b #[.slice a0_b_a a0.b.length a0_b_c, .int .i64 a0.at_, .int .i64 a0.fault.code, .int .i64 a0.fault.at_] a0_T]) hS.ow)) (by kernel_rfl) ?_)
    clear hK fr hS; rintro _ m3 _ l3 hS ⟨rfl, rfl, c2re0⟩ fr hK
    replace hS : St _ m m3 [.box a0_b #[.slice a0_b_a y2.b.length a0_b_c, .int .i64 y2.at_, .int .i64 y2.fault.code, .int .i64 y2.fault.at_] a0_T] := hS
    refine wpList_nil (then_n ?_)
    refine w_seq (w_region ?_)
    refine qp 4 (.slice none 0 0) hK fun fr hK => ?_
    refine qp 5 (.bool false) hK fun fr hK => ?_
    refine wpList_nil (then_n ?_)
    refine wp_ret ?_
    refine blk_r ?_
    refine then_r ?_
    replace a0_b_f := Els.mono rep_U8 a0_b_f l3
    have f2 : Els isU8 m3 1 a0_b_a a0_b_c y2.b := Els.cast c2re0.symm a0_b_f
    replace h := Option.some.inj h; subst h
    replace hS : St _ m m3 [.box a0_b #[.slice a0_b_a y2.b.length a0_b_c, .int .i64 y2.at_, .int .i64 y2.fault.code, .int .i64 y2.fault.at_] a0_T] := hS
    refine ret_of [.tmp 4, .tmp 5] [.slice none 0 0, .bool false] rfl hK (.tmp rfl (.tmp rfl .nil)) hS ?_
    exact ⟨none, 0, rfl, rfl, (Els.nil _ _), c2re0⟩
   ·
    replace hK := hK.more (t := 22) (v' := .bool false) rfl (by rw [hb3])
    replace hK := hK.more (t := 34) (v' := .bool false) rfl (by rw [hb3])
    replace h := ite_f (of_decide_eq_false hb3) h
    refine wp_skip ?_
    refine blk_n ?_
    refine then_n ?_
    refine w_seq (w_region ?_)
    refine qp 42 (.pointer (some ⟨a0_b, 0, none⟩)) hK fun fr hK => ?_
    refine qp 43 (.pointer (some ⟨a0_b, 0, none⟩)) hK fun fr hK => ?_
    refine qp 44 (.pointer (some ⟨a0_b, 1, none⟩)) hK fun fr hK => ?_
    refine qo 45 hK (s_load hK.at_ hS 0 rfl rfl rfl rfl (by kernel_rfl) ?_)
    clear hK fr; intro fr hK
    refine qp 46 (.int .i64 a1) hK fun fr hK => ?_
    refine qp 47 (.int .i64 (IntKind.i64.wrap (a0.at_ + a1))) hK fun fr hK => ?_
    refine qp 48 (.pointer (some ⟨a0_b, 0, none⟩)) hK fun fr hK => ?_
    refine qp 49 (.pointer (some ⟨a0_b, 1, none⟩)) hK fun fr hK => ?_
    refine qo0 hK (s_store hK.at_ 0 hS rfl rfl rfl rfl (by kernel_rfl) (by kernel_rfl) (by kernel_rfl) ?_)
    clear hK fr hS; intro m4 l4 hS fr hK
    replace hS : St _ m m4 [.box a0_b #[.slice a0_b_a a0.b.length a0_b_c, .int .i64 (IntKind.i64.wrap (a0.at_ + a1)), .int .i64 a0.fault.code, .int .i64 a0.fault.at_] a0_T] := hS
    refine wpList_nil (then_n ?_)
    refine w_seq ?_
    replace a0_b_f := Els.mono rep_U8 a0_b_f (l2.trans l4)
    have hlt0 : ∀ bq ∈ blocksOf [.box a0_b #[.slice a0_b_a a0.b.length a0_b_c, .int .i64 (IntKind.i64.wrap (a0.at_ + a1)), .int .i64 a0.fault.code, .int .i64 a0.fault.at_] a0_T], bq < m4.w.heap.size := fun bq hbq => hS.ow.lt hbq
    refine D.wp_draw (Gr := D.GO m4 none) (S := D.SO none (blocksOf [.box a0_b #[.slice a0_b_a a0.b.length a0_b_c, .int .i64 a0.at_, .int .i64 a0.fault.code, .int .i64 a0.fault.at_] a0_T]) m m4 (fun _ => [.box a0_b #[.slice a0_b_a a0.b.length a0_b_c, .int .i64 (IntKind.i64.wrap (a0.at_ + a1)), .int .i64 a0.fault.code, .int .i64 a0.fault.at_] a0_T]) (fun _ => True)) (N := 0) 14 [] [([(0, none)], 0, 0, false), ([(50, some 0)], 0, 0, false), ([(51, some 0)], 0, 0, false), ([(52, some 0)], 0, 0, false), ([(0, none)], 0, 0, false), ([(54, some 0)], 0, 0, false), ([(55, some 0)], 0, 0, false), ([(56, some 0)], 0, 0, false), ([(1, none)], 0, 0, false), ([(57, some 1), (58, some 0)], 0, 0, false), ([(0, none)], 0, 0, false), ([(60, some 0)], 0, 0, false), ([(61, some 0)], 0, 0, false), ([(62, some 0)], 0, 0, false)] hK.size (by kernel_rfl) (by kernel_rfl) (by kernel_rfl) rfl (D.startO hS trivial) ?_
    refine D.on_pure (D.GO_refl _ _) [(0, .pointer (some ⟨a0_b, 0, none⟩))] (.pointer (some ⟨a0_b, 0, none⟩)) (fun ac ww hk => (.cons (hk.1.trans (hK.at_ 0 _ rfl)) (.nil _))) ?_
    refine D.on_pure (D.GO_refl _ _) [(50, .pointer (some ⟨a0_b, 0, none⟩))] (.pointer (some ⟨a0_b, 0, none⟩)) (fun ac ww hk => (.cons (hk.1) (.nil _))) ?_
    refine D.on_pure (D.GO_refl _ _) [(51, .pointer (some ⟨a0_b, 0, none⟩))] (.pointer (some ⟨a0_b, 0, none⟩)) (fun ac ww hk => (.cons (hk.1) (.nil _))) ?_
    refine D.on_det (D.GO_refl _ _) [(52, .pointer (some ⟨a0_b, 0, none⟩))] (.slice a0_b_a a0.b.length a0_b_c) (fun ac ww hk => (.cons (hk.1) (.nil _))) (fun ac ww kk hb hKe Post hp => (fun hS => s_load hKe hS 0 rfl rfl rfl rfl (by kernel_rfl) hp) hb.2.1) ?_
    refine D.on_pure (D.GO_refl _ _) [(0, .pointer (some ⟨a0_b, 0, none⟩))] (.pointer (some ⟨a0_b, 0, none⟩)) (fun ac ww hk => (.cons (hk.1.trans (hK.at_ 0 _ rfl)) (.nil _))) ?_
    refine D.on_pure (D.GO_refl _ _) [(54, .pointer (some ⟨a0_b, 0, none⟩))] (.pointer (some ⟨a0_b, 0, none⟩)) (fun ac ww hk => (.cons (hk.1) (.nil _))) ?_
    refine D.on_pure (D.GO_refl _ _) [(55, .pointer (some ⟨a0_b, 0, none⟩))] (.pointer (some ⟨a0_b, 1, none⟩)) (fun ac ww hk => (.cons (hk.1) (.nil _))) ?_
    refine D.on_det (D.GO_refl _ _) [(56, .pointer (some ⟨a0_b, 1, none⟩))] (.int .i64 (IntKind.i64.wrap (a0.at_ + a1))) (fun ac ww hk => (.cons (hk.1) (.nil _))) (fun ac ww kk hb hKe Post hp => (fun hS => s_load hKe hS 0 rfl rfl rfl rfl (by kernel_rfl) hp) hb.2.1) ?_
    refine D.on_pure (D.GO_refl _ _) [(1, .int .i64 a1)] (.int .i64 a1) (fun ac ww hk => (.cons (hk.1.trans (hK.at_ 1 _ rfl)) (.nil _))) ?_
    refine D.on_pure (D.GO_refl _ _) [(57, .int .i64 (IntKind.i64.wrap (a0.at_ + a1))), (58, .int .i64 a1)] (.int .i64 (IntKind.i64.wrap ((IntKind.i64.wrap (a0.at_ + a1)) - a1))) (fun ac ww hk => (.cons (hk.1) (.cons (hk.2.1) (.nil _)))) ?_
    refine D.on_pure (D.GO_refl _ _) [(0, .pointer (some ⟨a0_b, 0, none⟩))] (.pointer (some ⟨a0_b, 0, none⟩)) (fun ac ww hk => (.cons (hk.1.trans (hK.at_ 0 _ rfl)) (.nil _))) ?_
    refine D.on_pure (D.GO_refl _ _) [(60, .pointer (some ⟨a0_b, 0, none⟩))] (.pointer (some ⟨a0_b, 0, none⟩)) (fun ac ww hk => (.cons (hk.1) (.nil _))) ?_
    refine D.on_pure (D.GO_refl _ _) [(61, .pointer (some ⟨a0_b, 0, none⟩))] (.pointer (some ⟨a0_b, 1, none⟩)) (fun ac ww hk => (.cons (hk.1) (.nil _))) ?_
    refine D.on_det (D.GO_refl _ _) [(62, .pointer (some ⟨a0_b, 1, none⟩))] (.int .i64 (IntKind.i64.wrap (a0.at_ + a1))) (fun ac ww hk => (.cons (hk.1) (.nil _))) (fun ac ww kk hb hKe Post hp => (fun hS => s_load hKe hS 0 rfl rfl rfl rfl (by kernel_rfl) hp) hb.2.1) ?_
    refine D.finO ?_
    intro fr2 m5 hm1 l5 hS2 hF2 hE
    replace hS2 : St _ m m5 [.box a0_b #[.slice a0_b_a a0.b.length a0_b_c, .int .i64 (IntKind.i64.wrap (a0.at_ + a1)), .int .i64 a0.fault.code, .int .i64 a0.fault.at_] a0_T] := hS2
    have hK2 := D.kn_ends [(50, .pointer (some ⟨a0_b, 0, none⟩)), (51, .pointer (some ⟨a0_b, 0, none⟩)), (52, .pointer (some ⟨a0_b, 0, none⟩)), (53, .slice a0_b_a a0.b.length a0_b_c), (54, .pointer (some ⟨a0_b, 0, none⟩)), (55, .pointer (some ⟨a0_b, 0, none⟩)), (56, .pointer (some ⟨a0_b, 1, none⟩)), (57, .int .i64 (IntKind.i64.wrap (a0.at_ + a1))), (58, .int .i64 a1), (59, .int .i64 (IntKind.i64.wrap ((IntKind.i64.wrap (a0.at_ + a1)) - a1))), (60, .pointer (some ⟨a0_b, 0, none⟩)), (61, .pointer (some ⟨a0_b, 0, none⟩)), (62, .pointer (some ⟨a0_b, 1, none⟩)), (63, .int .i64 (IntKind.i64.wrap (a0.at_ + a1)))] hK hE rfl (by kernel_rfl) (.cons (hE.slots 50) (.cons (hE.slots 51) (.cons (hE.slots 52) (.cons (hE.slots 53) (.cons (hE.slots 54) (.cons (hE.slots 55) (.cons (hE.slots 56) (.cons (hE.slots 57) (.cons (hE.slots 58) (.cons (hE.slots 59) (.cons (hE.slots 60) (.cons (hE.slots 61) (.cons (hE.slots 62) (.cons (hE.slots 63) (.nil _)))))))))))))))
    replace hK2 : Kn 65 fr2 [(50, .pointer (some ⟨a0_b, 0, none⟩)), (51, .pointer (some ⟨a0_b, 0, none⟩)), (52, .pointer (some ⟨a0_b, 0, none⟩)), (53, .slice a0_b_a a0.b.length a0_b_c), (54, .pointer (some ⟨a0_b, 0, none⟩)), (55, .pointer (some ⟨a0_b, 0, none⟩)), (56, .pointer (some ⟨a0_b, 1, none⟩)), (57, .int .i64 (IntKind.i64.wrap (a0.at_ + a1))), (58, .int .i64 a1), (59, .int .i64 (IntKind.i64.wrap ((IntKind.i64.wrap (a0.at_ + a1)) - a1))), (60, .pointer (some ⟨a0_b, 0, none⟩)), (61, .pointer (some ⟨a0_b, 0, none⟩)), (62, .pointer (some ⟨a0_b, 1, none⟩)), (63, .int .i64 (IntKind.i64.wrap (a0.at_ + a1))), (49, .pointer (some ⟨a0_b, 1, none⟩)), (48, .pointer (some ⟨a0_b, 0, none⟩)), (47, .int .i64 (IntKind.i64.wrap (a0.at_ + a1))), (46, .int .i64 a1), (45, .int .i64 a0.at_), (44, .pointer (some ⟨a0_b, 1, none⟩)), (43, .pointer (some ⟨a0_b, 0, none⟩)), (42, .pointer (some ⟨a0_b, 0, none⟩)), (34, .bool false), (22, .bool false), (23, .int .i64 a1), (24, .pointer (some ⟨a0_b, 0, none⟩)), (25, .pointer (some ⟨a0_b, 0, none⟩)), (26, .pointer (some ⟨a0_b, 0, none⟩)), (27, .slice a0_b_a a0.b.length a0_b_c), (28, .int .i64 (a0.b.length : Int)), (29, .pointer (some ⟨a0_b, 0, none⟩)), (30, .pointer (some ⟨a0_b, 0, none⟩)), (31, .pointer (some ⟨a0_b, 1, none⟩)), (32, .int .i64 a0.at_), (33, .int .i64 (IntKind.i64.wrap ((a0.b.length : Int) - a0.at_))), (15, .bool false), (13, .bool false), (14, .int .i64 a1), (12, .bool false), (6, .bool false), (11, .int .i64 a0.fault.code), (10, .pointer (some ⟨a0_b, 2, none⟩)), (9, .pointer (some ⟨a0_b, 2, none⟩)), (8, .pointer (some ⟨a0_b, 0, none⟩)), (7, .pointer (some ⟨a0_b, 0, none⟩)), (5, .bool false), (4, .slice none 0 0), (0, .pointer (some ⟨a0_b, 0, none⟩)), (1, .int .i64 a1)] := hK2.only [50, 51, 52, 53, 54, 55, 56, 57, 58, 59, 60, 61, 62, 63, 49, 48, 47, 46, 45, 44, 43, 42, 34, 22, 23, 24, 25, 26, 27, 28, 29, 30, 31, 32, 33, 15, 13, 14, 12, 6, 11, 10, 9, 8, 7, 5, 4, 0, 1]
    clear hE hK; revert hK2; clear hm1 hS hlt0; revert fr2; clear fr; intro fr hK; have hS := hS2; clear hS2
    replace hS : St _ m m5 [.box a0_b #[.slice a0_b_a a0.b.length a0_b_c, .int .i64 (IntKind.i64.wrap (a0.at_ + a1)), .int .i64 a0.fault.code, .int .i64 a0.fault.at_] a0_T] := hS
    replace a0_b_f := Els.mono rep_U8 a0_b_f l5
    obtain ⟨x1, hy3, h⟩ := bind_some h
    refine qo 64 hK (s_slcMid elT22_0 a0_b_f hy3 hK.at_ rfl rfl rfl rfl ?_)
    clear hK fr; intro ad1 cp1 f3 fr hK
    refine qp 4 (.slice ad1 x1.length cp1) hK fun fr hK => ?_
    refine qp 5 (.bool true) hK fun fr hK => ?_
    refine wpList_nil (then_n ?_)
    refine wp_ret ?_
    replace h := Option.some.inj h; subst h
    replace hS : St _ m m5 [.box a0_b #[.slice a0_b_a a0.b.length a0_b_c, .int .i64 (IntKind.i64.wrap (a0.at_ + a1)), .int .i64 a0.fault.code, .int .i64 a0.fault.at_] a0_T] := hS
    refine ret_of [.tmp 4, .tmp 5] [.slice ad1 x1.length cp1, .bool true] rfl hK (.tmp rfl (.tmp rfl .nil)) hS ?_
    exact ⟨ad1, cp1, rfl, rfl, f3, rfl⟩
set_option maxRecDepth 100000 in
set_option maxHeartbeats 1000000 in
theorem G.wire_Reader_Expect_spec {m : Mem} {a0 : G.wire_Reader} {a0_b : Nat} {a0_position_b_a : Option Addr} {a0_position_b_c : Nat} {a0_T : TypeId} {a1 : List UInt8} {a1_a : Option Addr} {a1_c : Nat} {a2 : Int} (a0_position_b_f : Els isU8 m 1 a0_position_b_a a0_position_b_c a0.position.b) (a1_f : Els isU8 m 1 a1_a a1_c a1) {r : Bool × G.wire_Reader} (h : G.wire_Reader_Expect a0 a1 a2 = some r) (hO : Ow m [.box a0_b #[.slice a0_position_b_a a0.position.b.length a0_position_b_c, .int .i64 a0.position.at_, .int .i64 a0.position.fault.code, .int .i64 a0.position.fault.at_] a0_T]) :
  Spec Try.prog 38 #[.pointer (some ⟨a0_b, 0, none⟩), .slice a1_a a1.length a1_c, .int .i64 a2] m [.box a0_b #[.slice a0_position_b_a a0.position.b.length a0_position_b_c, .int .i64 a0.position.at_, .int .i64 a0.position.fault.code, .int .i64 a0.position.fault.at_] a0_T] fun v m' L => L = [.box a0_b #[.slice a0_position_b_a r.2.position.b.length a0_position_b_c, .int .i64 r.2.position.at_, .int .i64 r.2.position.fault.code, .int .i64 r.2.position.fault.at_] a0_T] ∧ v = .bool r.1 ∧ r.2.position.b = a0.position.b := by
 unfold G.wire_Reader_Expect at h
 refine enter (args := [_, _, _]) 62 Try.func38 rfl rfl (by simp) fun fr hK => ?_
 have hS := St.refl (hO)
 replace hK : Kn 62 fr [(0, .pointer (some ⟨a0_b, 0, none⟩)), (1, .slice a1_a a1.length a1_c), (2, .int .i64 a2)] := hK
 refine w_seq (w_region ?_)
 refine qp 6 (.bool false) hK fun fr hK => ?_
 refine wpList_nil (then_n ?_)
 refine w_seq ?_
 refine w_seq (w_region ?_)
 refine qp 10 (.pointer (some ⟨a0_b, 0, none⟩)) hK fun fr hK => ?_
 refine qp 11 (.bool false) hK fun fr hK => ?_
 refine qp 12 (.bool false) hK fun fr hK => ?_
 refine qp 13 (.pointer (some ⟨a0_b, 0, none⟩)) hK fun fr hK => ?_
 refine qp 14 (.pointer (some ⟨a0_b, 0, none⟩)) hK fun fr hK => ?_
 refine qp 15 (.pointer (some ⟨a0_b, 0, none⟩)) hK fun fr hK => ?_
 refine qp 16 (.pointer (some ⟨a0_b, 2, none⟩)) hK fun fr hK => ?_
 refine qp 17 (.pointer (some ⟨a0_b, 2, none⟩)) hK fun fr hK => ?_
 refine qo 18 hK (s_load hK.at_ hS 0 rfl rfl rfl rfl (by kernel_rfl) ?_)
 clear hK fr; intro fr hK
 refine qp 19 (.bool (a0.position.fault.code != 0)) hK fun fr hK => ?_
 refine qp 20 (.bool (a0.position.fault.code != 0)) hK fun fr hK => ?_
 refine wpList_nil (then_n ?_)
 refine w_cond hK rfl (fun hb1 => ?_) (fun hb1 => ?_)
 ·
  replace hK := hK.more (t := 20) (v' := .bool true) rfl (by rw [hb1])
  replace hK := hK.more (t := 19) (v' := .bool true) rfl (by rw [hb1])
  replace h := ite_t (ne_of_bne hb1) h
  refine w_seq (w_region ?_)
  refine qp 6 (.bool false) hK fun fr hK => ?_
  refine wpList_nil (then_n ?_)
  refine wp_ret ?_
  refine then_r ?_
  replace h := Option.some.inj h; subst h
  replace hS : St _ m m [.box a0_b #[.slice a0_position_b_a a0.position.b.length a0_position_b_c, .int .i64 a0.position.at_, .int .i64 a0.position.fault.code, .int .i64 a0.position.fault.at_] a0_T] := hS
  refine ret_of [.tmp 6] [.bool false] rfl hK (.tmp rfl .nil) hS ?_
  exact ⟨rfl, rfl, rfl⟩
 ·
  replace hK := hK.more (t := 20) (v' := .bool false) rfl (by rw [hb1])
  replace hK := hK.more (t := 19) (v' := .bool false) rfl (by rw [hb1])
  replace h := ite_f (not_not_intro (eq_of_bne hb1)) h
  refine wp_skip ?_
  refine then_n ?_
  refine w_seq ?_
  refine w_seq ?_
  have hlt0 : ∀ bq ∈ blocksOf [.box a0_b #[.slice a0_position_b_a a0.position.b.length a0_position_b_c, .int .i64 a0.position.at_, .int .i64 a0.position.fault.code, .int .i64 a0.position.fault.at_] a0_T], bq < m.w.heap.size := fun bq hbq => hS.ow.lt hbq
  refine D.wp_draw (Gr := D.GO m none) (S := D.SO none (blocksOf [.box a0_b #[.slice a0_position_b_a a0.position.b.length a0_position_b_c, .int .i64 a0.position.at_, .int .i64 a0.position.fault.code, .int .i64 a0.position.fault.at_] a0_T]) m m (fun _ => [.box a0_b #[.slice a0_position_b_a a0.position.b.length a0_position_b_c, .int .i64 a0.position.at_, .int .i64 a0.position.fault.code, .int .i64 a0.position.fault.at_] a0_T]) (fun _ => True)) (N := 0) 10 [] [([(0, none)], 0, 0, false), ([(21, some 0)], 0, 0, false), ([(22, some 0)], 0, 0, false), ([(23, some 0)], 0, 0, false), ([(24, some 0)], 0, 0, false), ([(0, none)], 0, 0, false), ([(26, some 0)], 0, 0, false), ([(27, some 0)], 0, 0, false), ([(28, some 0)], 0, 0, false), ([(29, some 0)], 0, 0, false)] hK.size (by kernel_rfl) (by kernel_rfl) (by kernel_rfl) rfl (D.startO hS trivial) ?_
  refine D.on_pure (D.GO_refl _ _) [(0, .pointer (some ⟨a0_b, 0, none⟩))] (.pointer (some ⟨a0_b, 0, none⟩)) (fun ac ww hk => (.cons (hk.1.trans (hK.at_ 0 _ rfl)) (.nil _))) ?_
  refine D.on_pure (D.GO_refl _ _) [(21, .pointer (some ⟨a0_b, 0, none⟩))] (.pointer (some ⟨a0_b, 0, none⟩)) (fun ac ww hk => (.cons (hk.1) (.nil _))) ?_
  refine D.on_pure (D.GO_refl _ _) [(22, .pointer (some ⟨a0_b, 0, none⟩))] (.pointer (some ⟨a0_b, 0, none⟩)) (fun ac ww hk => (.cons (hk.1) (.nil _))) ?_
  refine D.on_pure (D.GO_refl _ _) [(23, .pointer (some ⟨a0_b, 0, none⟩))] (.pointer (some ⟨a0_b, 0, none⟩)) (fun ac ww hk => (.cons (hk.1) (.nil _))) ?_
  refine D.on_det (D.GO_refl _ _) [(24, .pointer (some ⟨a0_b, 0, none⟩))] (.slice a0_position_b_a a0.position.b.length a0_position_b_c) (fun ac ww hk => (.cons (hk.1) (.nil _))) (fun ac ww kk hb hKe Post hp => (fun hS => s_load hKe hS 0 rfl rfl rfl rfl (by kernel_rfl) hp) hb.2.1) ?_
  refine D.on_pure (D.GO_refl _ _) [(0, .pointer (some ⟨a0_b, 0, none⟩))] (.pointer (some ⟨a0_b, 0, none⟩)) (fun ac ww hk => (.cons (hk.1.trans (hK.at_ 0 _ rfl)) (.nil _))) ?_
  refine D.on_pure (D.GO_refl _ _) [(26, .pointer (some ⟨a0_b, 0, none⟩))] (.pointer (some ⟨a0_b, 0, none⟩)) (fun ac ww hk => (.cons (hk.1) (.nil _))) ?_
  refine D.on_pure (D.GO_refl _ _) [(27, .pointer (some ⟨a0_b, 0, none⟩))] (.pointer (some ⟨a0_b, 0, none⟩)) (fun ac ww hk => (.cons (hk.1) (.nil _))) ?_
  refine D.on_pure (D.GO_refl _ _) [(28, .pointer (some ⟨a0_b, 0, none⟩))] (.pointer (some ⟨a0_b, 1, none⟩)) (fun ac ww hk => (.cons (hk.1) (.nil _))) ?_
  refine D.on_det (D.GO_refl _ _) [(29, .pointer (some ⟨a0_b, 1, none⟩))] (.int .i64 a0.position.at_) (fun ac ww hk => (.cons (hk.1) (.nil _))) (fun ac ww kk hb hKe Post hp => (fun hS => s_load hKe hS 0 rfl rfl rfl rfl (by kernel_rfl) hp) hb.2.1) ?_
  refine D.finO ?_
  intro fr2 m1 hm1 l1 hS2 hF2 hE
  replace hS2 : St _ m m1 [.box a0_b #[.slice a0_position_b_a a0.position.b.length a0_position_b_c, .int .i64 a0.position.at_, .int .i64 a0.position.fault.code, .int .i64 a0.position.fault.at_] a0_T] := hS2
  have hK2 := D.kn_ends [(21, .pointer (some ⟨a0_b, 0, none⟩)), (22, .pointer (some ⟨a0_b, 0, none⟩)), (23, .pointer (some ⟨a0_b, 0, none⟩)), (24, .pointer (some ⟨a0_b, 0, none⟩)), (25, .slice a0_position_b_a a0.position.b.length a0_position_b_c), (26, .pointer (some ⟨a0_b, 0, none⟩)), (27, .pointer (some ⟨a0_b, 0, none⟩)), (28, .pointer (some ⟨a0_b, 0, none⟩)), (29, .pointer (some ⟨a0_b, 1, none⟩)), (30, .int .i64 a0.position.at_)] hK hE rfl (by kernel_rfl) (.cons (hE.slots 21) (.cons (hE.slots 22) (.cons (hE.slots 23) (.cons (hE.slots 24) (.cons (hE.slots 25) (.cons (hE.slots 26) (.cons (hE.slots 27) (.cons (hE.slots 28) (.cons (hE.slots 29) (.cons (hE.slots 30) (.nil _)))))))))))
  replace hK2 : Kn 62 fr2 [(21, .pointer (some ⟨a0_b, 0, none⟩)), (22, .pointer (some ⟨a0_b, 0, none⟩)), (23, .pointer (some ⟨a0_b, 0, none⟩)), (24, .pointer (some ⟨a0_b, 0, none⟩)), (25, .slice a0_position_b_a a0.position.b.length a0_position_b_c), (26, .pointer (some ⟨a0_b, 0, none⟩)), (27, .pointer (some ⟨a0_b, 0, none⟩)), (28, .pointer (some ⟨a0_b, 0, none⟩)), (29, .pointer (some ⟨a0_b, 1, none⟩)), (30, .int .i64 a0.position.at_), (19, .bool false), (20, .bool false), (18, .int .i64 a0.position.fault.code), (17, .pointer (some ⟨a0_b, 2, none⟩)), (16, .pointer (some ⟨a0_b, 2, none⟩)), (15, .pointer (some ⟨a0_b, 0, none⟩)), (14, .pointer (some ⟨a0_b, 0, none⟩)), (13, .pointer (some ⟨a0_b, 0, none⟩)), (12, .bool false), (11, .bool false), (10, .pointer (some ⟨a0_b, 0, none⟩)), (6, .bool false), (0, .pointer (some ⟨a0_b, 0, none⟩)), (1, .slice a1_a a1.length a1_c), (2, .int .i64 a2)] := hK2.only [21, 22, 23, 24, 25, 26, 27, 28, 29, 30, 19, 20, 18, 17, 16, 15, 14, 13, 12, 11, 10, 6, 0, 1, 2]
  clear hE hK; revert hK2; clear hm1 hS hlt0; revert fr2; clear fr; intro fr hK; have hS := hS2; clear hS2
  replace hS : St _ m m1 [.box a0_b #[.slice a0_position_b_a a0.position.b.length a0_position_b_c, .int .i64 a0.position.at_, .int .i64 a0.position.fault.code, .int .i64 a0.position.fault.at_] a0_T] := hS
  replace a0_position_b_f := Els.mono rep_U8 a0_position_b_f l1
  obtain ⟨x1, hy1, h⟩ := bind_some h
  refine qo 31 hK (s_slcFrom elT22_0 a0_position_b_f hy1 hK.at_ rfl rfl rfl ?_)
  clear hK fr; intro ad1 cp1 f1 fr hK
  refine qp 7 (.slice ad1 x1.length cp1) hK fun fr hK => ?_
  refine wpList_nil (then_n ?_)
  refine w_seq (w_region ?_)
  refine qp 32 (.slice a1_a a1.length a1_c) hK fun fr hK => ?_
  refine qp 33 (.slice ad1 x1.length cp1) hK fun fr hK => ?_
  refine qp 34 (.slice a1_a a1.length a1_c) hK fun fr hK => ?_
  refine qp 35 (.int .i64 (a1.length : Int)) hK fun fr hK => ?_
  refine qp 36 (.slice ad1 x1.length cp1) hK fun fr hK => ?_
  refine qp 37 (.int .i64 (x1.length : Int)) hK fun fr hK => ?_
  refine qp 38 (.int .i64 (imin (a1.length : Int) (x1.length : Int))) hK fun fr hK => ?_
  obtain ⟨x2, hy2, h⟩ := bind_some h
  refine qo 39 hK (s_slcTo elT22_0 f1 hy2 hK.at_ rfl rfl rfl ?_)
  clear hK fr; intro ad2 cp2 f2 fr hK
  replace a1_f := Els.mono rep_U8 a1_f l1
  obtain ⟨y1, hy3, h⟩ := bind_some h
  refine qo 40 hK (s_call hK.at_ hS ent76_0 rfl rfl rfl rfl (G.bytes_HasPrefix_spec a1_f f2 hy3) (by kernel_rfl) ?_)
  clear hK fr hS; rintro _ m2 _ l2 hS ⟨rfl, rfl⟩ fr hK
  replace hS : St _ m m2 [.box a0_b #[.slice a0_position_b_a a0.position.b.length a0_position_b_c, .int .i64 a0.position.at_, .int .i64 a0.position.fault.code, .int .i64 a0.position.fault.at_] a0_T] := hS
  refine qp 41 (.bool (!y1)) hK fun fr hK => ?_
  refine wpList_nil (then_n ?_)
  refine w_cond hK rfl (fun hb2 => ?_) (fun hb2 => ?_)
  ·
   replace hK := hK.more (t := 41) (v' := .bool true) rfl (by rw [hb2])
   replace h := ite_t ((Bool.not_eq_true' _).mp hb2) h
   refine w_seq ?_
   replace a0_position_b_f := Els.mono rep_U8 a0_position_b_f l2
   replace a1_f := Els.mono rep_U8 a1_f l2
   replace f1 := Els.mono rep_U8 f1 l2
   replace f2 := Els.mono rep_U8 f2 l2
   have hlt0 : ∀ bq ∈ blocksOf [.box a0_b #[.slice a0_position_b_a a0.position.b.length a0_position_b_c, .int .i64 a0.position.at_, .int .i64 a0.position.fault.code, .int .i64 a0.position.fault.at_] a0_T], bq < m2.w.heap.size := fun bq hbq => hS.ow.lt hbq
   refine D.wp_draw (Gr := D.GO m2 none) (S := D.SO none (blocksOf [.box a0_b #[.slice a0_position_b_a a0.position.b.length a0_position_b_c, .int .i64 a0.position.at_, .int .i64 a0.position.fault.code, .int .i64 a0.position.fault.at_] a0_T]) m m2 (fun _ => [.box a0_b #[.slice a0_position_b_a a0.position.b.length a0_position_b_c, .int .i64 a0.position.at_, .int .i64 a0.position.fault.code, .int .i64 a0.position.fault.at_] a0_T]) (fun _ => True)) (N := 0) 9 [] [([(0, none)], 0, 0, false), ([(42, some 0)], 0, 0, false), ([(43, some 0)], 0, 0, false), ([(2, none)], 0, 0, false), ([(0, none)], 0, 0, false), ([(46, some 0)], 0, 0, false), ([(47, some 0)], 0, 0, false), ([(48, some 0)], 0, 0, false), ([(49, some 0)], 0, 0, false)] hK.size (by kernel_rfl) (by kernel_rfl) (by kernel_rfl) rfl (D.startO hS trivial) ?_
   refine D.on_pure (D.GO_refl _ _) [(0, .pointer (some ⟨a0_b, 0, none⟩))] (.pointer (some ⟨a0_b, 0, none⟩)) (fun ac ww hk => (.cons (hk.1.trans (hK.at_ 0 _ rfl)) (.nil _))) ?_
   refine D.on_pure (D.GO_refl _ _) [(42, .pointer (some ⟨a0_b, 0, none⟩))] (.pointer (some ⟨a0_b, 0, none⟩)) (fun ac ww hk => (.cons (hk.1) (.nil _))) ?_
   refine D.on_pure (D.GO_refl _ _) [(43, .pointer (some ⟨a0_b, 0, none⟩))] (.pointer (some ⟨a0_b, 0, none⟩)) (fun ac ww hk => (.cons (hk.1) (.nil _))) ?_
   refine D.on_pure (D.GO_refl _ _) [(2, .int .i64 a2)] (.int .i64 a2) (fun ac ww hk => (.cons (hk.1.trans (hK.at_ 2 _ rfl)) (.nil _))) ?_
   refine D.on_pure (D.GO_refl _ _) [(0, .pointer (some ⟨a0_b, 0, none⟩))] (.pointer (some ⟨a0_b, 0, none⟩)) (fun ac ww hk => (.cons (hk.1.trans (hK.at_ 0 _ rfl)) (.nil _))) ?_
   refine D.on_pure (D.GO_refl _ _) [(46, .pointer (some ⟨a0_b, 0, none⟩))] (.pointer (some ⟨a0_b, 0, none⟩)) (fun ac ww hk => (.cons (hk.1) (.nil _))) ?_
   refine D.on_pure (D.GO_refl _ _) [(47, .pointer (some ⟨a0_b, 0, none⟩))] (.pointer (some ⟨a0_b, 0, none⟩)) (fun ac ww hk => (.cons (hk.1) (.nil _))) ?_
   refine D.on_pure (D.GO_refl _ _) [(48, .pointer (some ⟨a0_b, 0, none⟩))] (.pointer (some ⟨a0_b, 1, none⟩)) (fun ac ww hk => (.cons (hk.1) (.nil _))) ?_
   refine D.on_det (D.GO_refl _ _) [(49, .pointer (some ⟨a0_b, 1, none⟩))] (.int .i64 a0.position.at_) (fun ac ww hk => (.cons (hk.1) (.nil _))) (fun ac ww kk hb hKe Post hp => (fun hS => s_load hKe hS 0 rfl rfl rfl rfl (by kernel_rfl) hp) hb.2.1) ?_
   refine D.finO ?_
   intro fr2 m3 hm1 l3 hS2 hF2 hE
   replace hS2 : St _ m m3 [.box a0_b #[.slice a0_position_b_a a0.position.b.length a0_position_b_c, .int .i64 a0.position.at_, .int .i64 a0.position.fault.code, .int .i64 a0.position.fault.at_] a0_T] := hS2
   have hK2 := D.kn_ends [(42, .pointer (some ⟨a0_b, 0, none⟩)), (43, .pointer (some ⟨a0_b, 0, none⟩)), (44, .pointer (some ⟨a0_b, 0, none⟩)), (45, .int .i64 a2), (46, .pointer (some ⟨a0_b, 0, none⟩)), (47, .pointer (some ⟨a0_b, 0, none⟩)), (48, .pointer (some ⟨a0_b, 0, none⟩)), (49, .pointer (some ⟨a0_b, 1, none⟩)), (50, .int .i64 a0.position.at_)] hK hE rfl (by kernel_rfl) (.cons (hE.slots 42) (.cons (hE.slots 43) (.cons (hE.slots 44) (.cons (hE.slots 45) (.cons (hE.slots 46) (.cons (hE.slots 47) (.cons (hE.slots 48) (.cons (hE.slots 49) (.cons (hE.slots 50) (.nil _))))))))))
   replace hK2 : Kn 62 fr2 [(42, .pointer (some ⟨a0_b, 0, none⟩)), (43, .pointer (some ⟨a0_b, 0, none⟩)), (44, .pointer (some ⟨a0_b, 0, none⟩)), (45, .int .i64 a2), (46, .pointer (some ⟨a0_b, 0, none⟩)), (47, .pointer (some ⟨a0_b, 0, none⟩)), (48, .pointer (some ⟨a0_b, 0, none⟩)), (49, .pointer (some ⟨a0_b, 1, none⟩)), (50, .int .i64 a0.position.at_), (41, .bool true), (40, .bool y1), (39, .slice ad2 x2.length cp2), (38, .int .i64 (imin (a1.length : Int) (x1.length : Int))), (37, .int .i64 (x1.length : Int)), (36, .slice ad1 x1.length cp1), (35, .int .i64 (a1.length : Int)), (34, .slice a1_a a1.length a1_c), (33, .slice ad1 x1.length cp1), (32, .slice a1_a a1.length a1_c), (7, .slice ad1 x1.length cp1), (31, .slice ad1 x1.length cp1), (21, .pointer (some ⟨a0_b, 0, none⟩)), (22, .pointer (some ⟨a0_b, 0, none⟩)), (23, .pointer (some ⟨a0_b, 0, none⟩)), (24, .pointer (some ⟨a0_b, 0, none⟩)), (25, .slice a0_position_b_a a0.position.b.length a0_position_b_c), (26, .pointer (some ⟨a0_b, 0, none⟩)), (27, .pointer (some ⟨a0_b, 0, none⟩)), (28, .pointer (some ⟨a0_b, 0, none⟩)), (29, .pointer (some ⟨a0_b, 1, none⟩)), (30, .int .i64 a0.position.at_), (19, .bool false), (20, .bool false), (18, .int .i64 a0.position.fault.code), (17, .pointer (some ⟨a0_b, 2, none⟩)), (16, .pointer (some ⟨a0_b, 2, none⟩)), (15, .pointer (some ⟨a0_b, 0, none⟩)), (14, .pointer (some ⟨a0_b, 0, none⟩)), (13, .pointer (some ⟨a0_b, 0, none⟩)), (12, .bool false), (11, .bool false), (10, .pointer (some ⟨a0_b, 0, none⟩)), (6, .bool false), (0, .pointer (some ⟨a0_b, 0, none⟩)), (1, .slice a1_a a1.length a1_c), (2, .int .i64 a2)] := hK2.only [42, 43, 44, 45, 46, 47, 48, 49, 50, 41, 40, 39, 38, 37, 36, 35, 34, 33, 32, 7, 31, 21, 22, 23, 24, 25, 26, 27, 28, 29, 30, 19, 20, 18, 17, 16, 15, 14, 13, 12, 11, 10, 6, 0, 1, 2]
   clear hE hK; revert hK2; clear hm1 hS hlt0; revert fr2; clear fr; intro fr hK; have hS := hS2; clear hS2
   replace hS : St _ m m3 [.box a0_b #[.slice a0_position_b_a a0.position.b.length a0_position_b_c, .int .i64 a0.position.at_, .int .i64 a0.position.fault.code, .int .i64 a0.position.fault.at_] a0_T] := hS
   replace a0_position_b_f := Els.mono rep_U8 a0_position_b_f l3
   obtain ⟨y2, hy4, h⟩ := bind_some h
   replace hS : St _ m m3 [.box a0_b #[.slice a0_position_b_a a0.position.b.length a0_position_b_c, .int .i64 a0.position.at_, .int .i64 a0.position.fault.code, .int .i64 a0.position.fault.at_] a0_T] := hS
   refine qo 51 hK (s_callM (R := [.box a0_b #[.slice a0_position_b_a a0.position.b.length a0_position_b_c, .int .i64 a0.position.at_, .int .i64 a0.position.fault.code, .int .i64 a0.position.fault.at_] a0_T]) (L := []) hK.at_ hS ent77_0 rfl rfl rfl rfl (G.wire_position_fail_spec a0_position_b_f hy4 (Ow.left (L := [.box a0_b #[.slice a0_position_b_a a0.position.b.length a0_position_b_c, .int .i64 a0.position.at_, .int .i64 a0.position.fault.code, .int .i64 a0.position.fault.at_] a0_T]) hS.ow)) (by kernel_rfl) ?_)
   clear hK fr hS; rintro _ m4 _ l4 hS ⟨rfl, rfl, c2re0⟩ fr hK
   replace hS : St _ m m4 [.box a0_b #[.slice a0_position_b_a y2.b.length a0_position_b_c, .int .i64 y2.at_, .int .i64 y2.fault.code, .int .i64 y2.fault.at_] a0_T] := hS
   refine wpList_nil (then_n ?_)
   refine w_seq (w_region ?_)
   refine qp 6 (.bool false) hK fun fr hK => ?_
   refine wpList_nil (then_n ?_)
   refine wp_ret ?_
   refine then_r ?_
   replace a0_position_b_f := Els.mono rep_U8 a0_position_b_f l4
   have f3 : Els isU8 m4 1 a0_position_b_a a0_position_b_c y2.b := Els.cast c2re0.symm a0_position_b_f
   replace h := Option.some.inj h; subst h
   replace hS : St _ m m4 [.box a0_b #[.slice a0_position_b_a y2.b.length a0_position_b_c, .int .i64 y2.at_, .int .i64 y2.fault.code, .int .i64 y2.fault.at_] a0_T] := hS
   refine ret_of [.tmp 6] [.bool false] rfl hK (.tmp rfl .nil) hS ?_
   exact ⟨rfl, rfl, c2re0⟩
  ·
   replace hK := hK.more (t := 41) (v' := .bool false) rfl (by rw [hb2])
   replace h := ite_f (not_false_of ((Bool.not_eq_false' _).mp hb2)) h
   refine wp_skip ?_
   refine then_n ?_
   refine w_seq (w_region ?_)
   refine qp 53 (.pointer (some ⟨a0_b, 0, none⟩)) hK fun fr hK => ?_
   refine qp 54 (.pointer (some ⟨a0_b, 0, none⟩)) hK fun fr hK => ?_
   refine qp 55 (.pointer (some ⟨a0_b, 0, none⟩)) hK fun fr hK => ?_
   refine qp 56 (.slice a1_a a1.length a1_c) hK fun fr hK => ?_
   refine qp 57 (.int .i64 (a1.length : Int)) hK fun fr hK => ?_
   replace a0_position_b_f := Els.mono rep_U8 a0_position_b_f l2
   obtain ⟨y3, hy5, h⟩ := bind_some h
   replace hS : St _ m m2 [.box a0_b #[.slice a0_position_b_a a0.position.b.length a0_position_b_c, .int .i64 a0.position.at_, .int .i64 a0.position.fault.code, .int .i64 a0.position.fault.at_] a0_T] := hS
   refine qo 58 hK (s_callM (R := [.box a0_b #[.slice a0_position_b_a a0.position.b.length a0_position_b_c, .int .i64 a0.position.at_, .int .i64 a0.position.fault.code, .int .i64 a0.position.fault.at_] a0_T]) (L := []) hK.at_ hS ent78_0 rfl rfl rfl rfl (G.wire_position_take_spec a0_position_b_f hy5 (Ow.left (L := [.box a0_b #[.slice a0_position_b_a a0.position.b.length a0_position_b_c, .int .i64 a0.position.at_, .int .i64 a0.position.fault.code, .int .i64 a0.position.fault.at_] a0_T]) hS.ow)) (by kernel_rfl) ?_)
   clear hK fr hS; rintro _ m5 _ l5 hS ⟨c3r0_a, c3r0_c, rfl, rfl, c3r0_f, c3re0⟩ fr hK
   replace hS : St _ m m5 [.box a0_b #[.slice a0_position_b_a y3.2.2.b.length a0_position_b_c, .int .i64 y3.2.2.at_, .int .i64 y3.2.2.fault.code, .int .i64 y3.2.2.fault.at_] a0_T] := hS
   refine qp 52 (.tuple #[.slice c3r0_a y3.1.length c3r0_c, .bool y3.2.1]) hK fun fr hK => ?_
   refine qp 59 (.slice c3r0_a y3.1.length c3r0_c) hK fun fr hK => ?_
   refine qp 60 (.bool y3.2.1) hK fun fr hK => ?_
   refine qp 8 (.slice c3r0_a y3.1.length c3r0_c) hK fun fr hK => ?_
   refine qp 9 (.bool y3.2.1) hK fun fr hK => ?_
   refine wpList_nil (then_n ?_)
   refine w_seq (w_region ?_)
   refine qp 61 (.bool y3.2.1) hK fun fr hK => ?_
   refine qp 6 (.bool y3.2.1) hK fun fr hK => ?_
   refine wpList_nil (then_n ?_)
   refine wp_ret ?_
   replace a0_position_b_f := Els.mono rep_U8 a0_position_b_f l5
   have f4 : Els isU8 m5 1 a0_position_b_a a0_position_b_c y3.2.2.b := Els.cast c3re0.symm a0_position_b_f
   replace h := Option.some.inj h; subst h
   replace hS : St _ m m5 [.box a0_b #[.slice a0_position_b_a y3.2.2.b.length a0_position_b_c, .int .i64 y3.2.2.at_, .int .i64 y3.2.2.fault.code, .int .i64 y3.2.2.fault.at_] a0_T] := hS
   refine ret_of [.tmp 6] [.bool y3.2.1] rfl hK (.tmp rfl .nil) hS ?_
   exact ⟨rfl, rfl, c3re0⟩
set_option maxRecDepth 100000 in
set_option maxHeartbeats 1000000 in
theorem G.wire_number_spec {m : Mem} {r : Int} (h : G.wire_number = some r) :
  Spec Try.prog 79 #[] m [] fun v m' L => ∃ (r0_0_b : Nat), L = [.box r0_0_b #[.int .u64 r] 63] ∧ v = .func (.func 100) #[] #[.pointer (some ⟨r0_0_b, 0, none⟩)] := by
 unfold G.wire_number at h
 refine enter (args := []) 3 Try.func79 rfl rfl (by simp) fun fr hK => ?_
 have hS := St.refl (Ow.nil m)
 replace hK : Kn 3 fr [] := hK
 refine w_seq (w_region ?_)
 refine qp 0 (.nilFunc) hK fun fr hK => ?_
 refine wpList_nil (then_n ?_)
 refine w_seq (w_region ?_)
 refine qo 1 hK (s_alloc (.int .u64 0) hK.at_ hS rfl (by kernel_rfl) ?_)
 clear hK fr hS; intro m1 b1 b1z l1 hS fr hK
 replace hS : St _ m m1 [.box b1 #[.int .u64 0] 63] := hS
 refine qo0 hK (s_store hK.at_ 0 hS rfl rfl rfl rfl (by kernel_rfl) (by kernel_rfl) (by kernel_rfl) ?_)
 clear hK fr hS; intro m2 l2 hS fr hK
 replace hS : St _ m m2 [.box b1 #[.int .u64 0] 63] := hS
 refine wpList_nil (then_n ?_)
 refine w_seq (w_region ?_)
 refine qp 2 (.func (.func 100) #[] #[.pointer (some ⟨b1, 0, none⟩)]) hK fun fr hK => ?_
 refine qp 0 (.func (.func 100) #[] #[.pointer (some ⟨b1, 0, none⟩)]) hK fun fr hK => ?_
 refine wpList_nil (then_n ?_)
 refine wp_ret ?_
 replace h := Option.some.inj h; subst h
 replace hS : St _ m m2 [.box b1 #[.int .u64 0] 63] := hS
 refine ret_of [.tmp 0] [.func (.func 100) #[] #[.pointer (some ⟨b1, 0, none⟩)]] rfl hK (.tmp rfl .nil) hS ?_
 exact ⟨b1, rfl, rfl⟩
set_option maxRecDepth 100000 in
set_option maxHeartbeats 1000000 in
theorem G.wire_number_1_spec {m : Mem} {a0 : UInt8} {a1 : Int} {a1_b : Nat} {a1_T : TypeId} {r : Int × Int} (h : G.wire_number_1 a0 a1 = some r) (hO : Ow m [.box a1_b #[.int .u64 a1] a1_T]) :
  Spec Try.prog 100 #[.int .u8 (a0.toNat : Int), .pointer (some ⟨a1_b, 0, none⟩)] m [.box a1_b #[.int .u64 a1] a1_T] fun v m' L => L = [.box a1_b #[.int .u64 r.2] a1_T] ∧ v = .int .u64 r.1 := by
 unfold G.wire_number_1 at h
 refine enter (args := [_, _]) 10 Try.func100 rfl rfl (by simp) fun fr hK => ?_
 have hS := St.refl (hO)
 replace hK : Kn 10 fr [(0, .int .u8 (a0.toNat : Int)), (1, .pointer (some ⟨a1_b, 0, none⟩))] := hK
 refine w_seq (w_region ?_)
 refine qp 3 (.int .u64 0) hK fun fr hK => ?_
 refine wpList_nil (then_n ?_)
 refine w_seq (w_region ?_)
 refine qo 4 hK (s_load hK.at_ hS 0 rfl rfl rfl rfl (by kernel_rfl) ?_)
 clear hK fr; intro fr hK
 refine qr 5 (.int .u64 (ishl .u64 a1 8)) hK (by exact run_shl (by decide) rfl rfl rfl) ?_
 clear hK fr; intro fr hK
 refine qp 6 (.int .u8 (a0.toNat : Int)) hK fun fr hK => ?_
 refine qe 7 (.int .u64 (a0.toNat : Int)) (.int .u64 (IntKind.u64.wrap (a0.toNat : Int))) hK (by exact v_int (conv8 rfl _)) ?_
 clear hK fr; intro fr hK
 refine qp 8 (.int .u64 (bor .u64 (ishl .u64 a1 8) (a0.toNat : Int))) hK fun fr hK => ?_
 refine qo0 hK (s_store hK.at_ 0 hS rfl rfl rfl rfl (by kernel_rfl) (by kernel_rfl) (by kernel_rfl) ?_)
 clear hK fr hS; intro m1 l1 hS fr hK
 replace hS : St _ m m1 [.box a1_b #[.int .u64 (bor .u64 (ishl .u64 a1 8) (a0.toNat : Int))] a1_T] := hS
 refine wpList_nil (then_n ?_)
 refine w_seq (w_region ?_)
 refine qo 9 hK (s_load hK.at_ hS 0 rfl rfl rfl rfl (by kernel_rfl) ?_)
 clear hK fr; intro fr hK
 refine qp 3 (.int .u64 (bor .u64 (ishl .u64 a1 8) (a0.toNat : Int))) hK fun fr hK => ?_
 refine wpList_nil (then_n ?_)
 refine wp_ret ?_
 replace h := Option.some.inj h; subst h
 replace hS : St _ m m1 [.box a1_b #[.int .u64 (bor .u64 (ishl .u64 a1 8) (a0.toNat : Int))] a1_T] := hS
 refine ret_of [.tmp 3] [.int .u64 (bor .u64 (ishl .u64 a1 8) (a0.toNat : Int))] rfl hK (.tmp rfl .nil) hS ?_
 exact ⟨rfl, rfl⟩
end Go.Proofs.Ytkalbidbhaalmaa
